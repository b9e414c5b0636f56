/-
  NARROWER THAN 'FOR EVERY INPUT', by the rows' own cells (each row's printed sentence says how): SpongePermutes: laid · SpongePlays: laid · SpongeSums: laid · SpongeFolds: laid · SpongeBack: laid · SpongeMany: laid · SpongeKnown: laid · SpongeCuts: laid.
  DERIVED. THE GIVEN ROWS OF THIS SEAT. 8 by the template 'for every input the law returns true; each argument reads behind the call as it read before'; 0 by the template 'total and deterministic' (their statements: YtfidjeoeaeghhaaDoorTotals.lean).
  GIVEN WITH THE SEED: the statements are not yours to turn. If you find one false, say at which input.
  Laid BY PROGRAM, IN A SANDBOX (cutbox-rows.mjs): the forced cells as the released guide's own fill.sh prints them over the translation dc3eb384b0224acf… (all of the seat's roots in one cut). By AI agents, Wed Nov 11 2026. No macro, syntax, notation, axiom, sorry.
-/
import Derived.Test.YtfidjeoeaeghhaaDoorChecked
import GoSem.Claim
import GoSem.ClaimJoined
import GoSem.ClaimMapViews
import Derived.JoinedTies
import Derived.KernelRfl
namespace Go.Proofs.YtfidjeoeaeghhaaDoor
/- THE CELL 'sum', in the pinned program and in every row, IS THE sha256 OF THE DUMP (.gsa) THAT YtfidjeoeaeghhaaDoorProg.lean LOADS. Nothing in Lean hashes anything: it is a label: what it is worth is what the hold of that sum in a sandbox is worth. -/
noncomputable def Tryd.pinned : Pinned := { name := "ytfidjeoeaeghhaadoor", sum := "dc3eb384b0224acf51f258ea26267a5279436cebfb262225d95f737d739d000a", checked := Tryd.checked }
namespace Rows
def none {H : Type} : Left H := { results := [], args := [] }

/- WHAT THE LISTED PACKAGE-LEVEL VARIABLES READ AS WHEN THE CALL BEGINS. Each datum BY PROGRAM (the guide's laid-datum.mjs) off the statement by which the dump's own 'gosem.cut.vars' lays the variable. In a bare row this is a premise. The card (YtfidjeoeaeghhaaDoorCards.lean) ties it to the program's text. -/
def laid_vouch_sponge_turns {H : Type} : DataW H := .agg [.lit (.int .i64 0), .lit (.int .i64 1), .lit (.int .i64 62), .lit (.int .i64 28), .lit (.int .i64 27), .lit (.int .i64 36), .lit (.int .i64 44), .lit (.int .i64 6), .lit (.int .i64 55), .lit (.int .i64 20), .lit (.int .i64 3), .lit (.int .i64 10), .lit (.int .i64 43), .lit (.int .i64 25), .lit (.int .i64 39), .lit (.int .i64 41), .lit (.int .i64 45), .lit (.int .i64 15), .lit (.int .i64 21), .lit (.int .i64 8), .lit (.int .i64 18), .lit (.int .i64 2), .lit (.int .i64 61), .lit (.int .i64 56), .lit (.int .i64 14)]
def laid_vouch_sponge_marks {H : Type} : DataW H := .agg [.lit (.int .u64 1), .lit (.int .u64 32898), .lit (.int .u64 9223372036854808714), .lit (.int .u64 9223372039002292224), .lit (.int .u64 32907), .lit (.int .u64 2147483649), .lit (.int .u64 9223372039002292353), .lit (.int .u64 9223372036854808585), .lit (.int .u64 138), .lit (.int .u64 136), .lit (.int .u64 2147516425), .lit (.int .u64 2147483658), .lit (.int .u64 2147516555), .lit (.int .u64 9223372036854775947), .lit (.int .u64 9223372036854808713), .lit (.int .u64 9223372036854808579), .lit (.int .u64 9223372036854808578), .lit (.int .u64 9223372036854775936), .lit (.int .u64 32778), .lit (.int .u64 9223372039002259466), .lit (.int .u64 9223372039002292353), .lit (.int .u64 9223372036854808704), .lit (.int .u64 2147483649), .lit (.int .u64 9223372039002292232)]

/-- 'vouchlaw2.SpongePermutes': WHATEVER THE INPUT: true; the input reads as it did. -/
def spongePermutesSpec : ChangeSpec := { name := "spongePermutes", fn := fun _ => fun
  | [d] => { results := [.lit (.bool true)], args := [d] }
  | _ => none }
def spongePermutesRow : OpenClaim := { program := "ytfidjeoeaeghhaadoor", sum := "dc3eb384b0224acf51f258ea26267a5279436cebfb262225d95f737d739d000a", func := "vouch/vouchlaw2.SpongePermutes", spec := "spongePermutes", named := ["vouch/sponge.marks", "vouch/sponge.turns"], apart := false, laid := [("vouch/sponge.turns", laid_vouch_sponge_turns), ("vouch/sponge.marks", laid_vouch_sponge_marks)] }
def SpongePermutesSaid : Prop := spongePermutesRow.holds Tryd.pinned (OpenSpec.ofChange spongePermutesSpec)

/-- ITS FALSE NEIGHBOUR: 'it returns false'. Refute it at one input. -/
def spongePermutesWrong : ChangeSpec := { name := "spongePermutes", fn := fun _ => fun
  | [d] => { results := [.lit (.bool false)], args := [d] }
  | _ => none }
def SpongePermutesWrongFalsely : Prop := spongePermutesRow.holds Tryd.pinned (OpenSpec.ofChange spongePermutesWrong)

/-- 'vouchlaw2.SpongePlays': WHATEVER THE INPUT: true; the input reads as it did. -/
def spongePlaysSpec : ChangeSpec := { name := "spongePlays", fn := fun _ => fun
  | [d] => { results := [.lit (.bool true)], args := [d] }
  | _ => none }
def spongePlaysRow : OpenClaim := { program := "ytfidjeoeaeghhaadoor", sum := "dc3eb384b0224acf51f258ea26267a5279436cebfb262225d95f737d739d000a", func := "vouch/vouchlaw2.SpongePlays", spec := "spongePlays", named := ["vouch/sponge.marks", "vouch/sponge.turns"], apart := false, laid := [("vouch/sponge.turns", laid_vouch_sponge_turns), ("vouch/sponge.marks", laid_vouch_sponge_marks)] }
def SpongePlaysSaid : Prop := spongePlaysRow.holds Tryd.pinned (OpenSpec.ofChange spongePlaysSpec)

/-- ITS FALSE NEIGHBOUR: 'it returns false'. Refute it at one input. -/
def spongePlaysWrong : ChangeSpec := { name := "spongePlays", fn := fun _ => fun
  | [d] => { results := [.lit (.bool false)], args := [d] }
  | _ => none }
def SpongePlaysWrongFalsely : Prop := spongePlaysRow.holds Tryd.pinned (OpenSpec.ofChange spongePlaysWrong)

/-- 'vouchlaw2.SpongeSums': WHATEVER THE INPUT: true; the input reads as it did. -/
def spongeSumsSpec : ChangeSpec := { name := "spongeSums", fn := fun _ => fun
  | [d] => { results := [.lit (.bool true)], args := [d] }
  | _ => none }
def spongeSumsRow : OpenClaim := { program := "ytfidjeoeaeghhaadoor", sum := "dc3eb384b0224acf51f258ea26267a5279436cebfb262225d95f737d739d000a", func := "vouch/vouchlaw2.SpongeSums", spec := "spongeSums", named := ["vouch/sponge.marks", "vouch/sponge.turns"], apart := false, laid := [("vouch/sponge.turns", laid_vouch_sponge_turns), ("vouch/sponge.marks", laid_vouch_sponge_marks)] }
def SpongeSumsSaid : Prop := spongeSumsRow.holds Tryd.pinned (OpenSpec.ofChange spongeSumsSpec)

/-- ITS FALSE NEIGHBOUR: 'it returns false'. Refute it at one input. -/
def spongeSumsWrong : ChangeSpec := { name := "spongeSums", fn := fun _ => fun
  | [d] => { results := [.lit (.bool false)], args := [d] }
  | _ => none }
def SpongeSumsWrongFalsely : Prop := spongeSumsRow.holds Tryd.pinned (OpenSpec.ofChange spongeSumsWrong)

/-- 'vouchlaw2.SpongeFolds': WHATEVER THE INPUT: true; the input reads as it did. -/
def spongeFoldsSpec : ChangeSpec := { name := "spongeFolds", fn := fun _ => fun
  | [d] => { results := [.lit (.bool true)], args := [d] }
  | _ => none }
def spongeFoldsRow : OpenClaim := { program := "ytfidjeoeaeghhaadoor", sum := "dc3eb384b0224acf51f258ea26267a5279436cebfb262225d95f737d739d000a", func := "vouch/vouchlaw2.SpongeFolds", spec := "spongeFolds", named := ["vouch/sponge.marks", "vouch/sponge.turns"], apart := false, laid := [("vouch/sponge.turns", laid_vouch_sponge_turns), ("vouch/sponge.marks", laid_vouch_sponge_marks)] }
def SpongeFoldsSaid : Prop := spongeFoldsRow.holds Tryd.pinned (OpenSpec.ofChange spongeFoldsSpec)

/-- ITS FALSE NEIGHBOUR: 'it returns false'. Refute it at one input. -/
def spongeFoldsWrong : ChangeSpec := { name := "spongeFolds", fn := fun _ => fun
  | [d] => { results := [.lit (.bool false)], args := [d] }
  | _ => none }
def SpongeFoldsWrongFalsely : Prop := spongeFoldsRow.holds Tryd.pinned (OpenSpec.ofChange spongeFoldsWrong)

/-- 'vouchlaw2.SpongeBack': WHATEVER THE INPUT: true; the input reads as it did. -/
def spongeBackSpec : ChangeSpec := { name := "spongeBack", fn := fun _ => fun
  | [d1, d2] => { results := [.lit (.bool true)], args := [d1, d2] }
  | _ => none }
def spongeBackRow : OpenClaim := { program := "ytfidjeoeaeghhaadoor", sum := "dc3eb384b0224acf51f258ea26267a5279436cebfb262225d95f737d739d000a", func := "vouch/vouchlaw2.SpongeBack", spec := "spongeBack", named := ["vouch/sponge.marks", "vouch/sponge.turns"], apart := false, laid := [("vouch/sponge.turns", laid_vouch_sponge_turns), ("vouch/sponge.marks", laid_vouch_sponge_marks)] }
def SpongeBackSaid : Prop := spongeBackRow.holds Tryd.pinned (OpenSpec.ofChange spongeBackSpec)

/-- ITS FALSE NEIGHBOUR: 'it returns false'. Refute it at one input. -/
def spongeBackWrong : ChangeSpec := { name := "spongeBack", fn := fun _ => fun
  | [d1, d2] => { results := [.lit (.bool false)], args := [d1, d2] }
  | _ => none }
def SpongeBackWrongFalsely : Prop := spongeBackRow.holds Tryd.pinned (OpenSpec.ofChange spongeBackWrong)

/-- 'vouchlaw2.SpongeMany': WHATEVER THE INPUT: true; the input reads as it did. -/
def spongeManySpec : ChangeSpec := { name := "spongeMany", fn := fun _ => fun
  | [d1, d2] => { results := [.lit (.bool true)], args := [d1, d2] }
  | _ => none }
def spongeManyRow : OpenClaim := { program := "ytfidjeoeaeghhaadoor", sum := "dc3eb384b0224acf51f258ea26267a5279436cebfb262225d95f737d739d000a", func := "vouch/vouchlaw2.SpongeMany", spec := "spongeMany", named := ["vouch/sponge.marks", "vouch/sponge.turns"], apart := false, laid := [("vouch/sponge.turns", laid_vouch_sponge_turns), ("vouch/sponge.marks", laid_vouch_sponge_marks)] }
def SpongeManySaid : Prop := spongeManyRow.holds Tryd.pinned (OpenSpec.ofChange spongeManySpec)

/-- ITS FALSE NEIGHBOUR: 'it returns false'. Refute it at one input. -/
def spongeManyWrong : ChangeSpec := { name := "spongeMany", fn := fun _ => fun
  | [d1, d2] => { results := [.lit (.bool false)], args := [d1, d2] }
  | _ => none }
def SpongeManyWrongFalsely : Prop := spongeManyRow.holds Tryd.pinned (OpenSpec.ofChange spongeManyWrong)

/-- 'vouchlaw2.SpongeKnown': WHATEVER THE INPUT: true; the input reads as it did. -/
def spongeKnownSpec : ChangeSpec := { name := "spongeKnown", fn := fun _ => fun
  | [] => { results := [.lit (.bool true)], args := [] }
  | _ => none }
def spongeKnownRow : OpenClaim := { program := "ytfidjeoeaeghhaadoor", sum := "dc3eb384b0224acf51f258ea26267a5279436cebfb262225d95f737d739d000a", func := "vouch/vouchlaw2.SpongeKnown", spec := "spongeKnown", named := ["vouch/sponge.marks", "vouch/sponge.turns"], apart := false, laid := [("vouch/sponge.turns", laid_vouch_sponge_turns), ("vouch/sponge.marks", laid_vouch_sponge_marks)] }
def SpongeKnownSaid : Prop := spongeKnownRow.holds Tryd.pinned (OpenSpec.ofChange spongeKnownSpec)

/-- ITS FALSE NEIGHBOUR: 'it returns false'. Refute it at one input. -/
def spongeKnownWrong : ChangeSpec := { name := "spongeKnown", fn := fun _ => fun
  | [] => { results := [.lit (.bool false)], args := [] }
  | _ => none }
def SpongeKnownWrongFalsely : Prop := spongeKnownRow.holds Tryd.pinned (OpenSpec.ofChange spongeKnownWrong)

/-- 'vouchlaw2.SpongeCuts': WHATEVER THE INPUT: true; the input reads as it did. -/
def spongeCutsSpec : ChangeSpec := { name := "spongeCuts", fn := fun _ => fun
  | [d1, d2, d3] => { results := [.lit (.bool true)], args := [d1, d2, d3] }
  | _ => none }
def spongeCutsRow : OpenClaim := { program := "ytfidjeoeaeghhaadoor", sum := "dc3eb384b0224acf51f258ea26267a5279436cebfb262225d95f737d739d000a", func := "vouch/vouchlaw2.SpongeCuts", spec := "spongeCuts", named := ["vouch/sponge.marks", "vouch/sponge.turns"], apart := false, laid := [("vouch/sponge.turns", laid_vouch_sponge_turns), ("vouch/sponge.marks", laid_vouch_sponge_marks)] }
def SpongeCutsSaid : Prop := spongeCutsRow.holds Tryd.pinned (OpenSpec.ofChange spongeCutsSpec)

/-- ITS FALSE NEIGHBOUR: 'it returns false'. Refute it at one input. -/
def spongeCutsWrong : ChangeSpec := { name := "spongeCuts", fn := fun _ => fun
  | [d1, d2, d3] => { results := [.lit (.bool false)], args := [d1, d2, d3] }
  | _ => none }
def SpongeCutsWrongFalsely : Prop := spongeCutsRow.holds Tryd.pinned (OpenSpec.ofChange spongeCutsWrong)

/- THE SECOND FORM. 'bulk': how many values and letters a reading holds, each counted each time it is reached (what is shared counts as often as it is met; a slice's spare places count too). A statement '..UptoSaid' is the law's where the arguments, and the package variables that the reading takes, are together of bulk at most 1048576: NARROWER than '..Said'. Prove '..Said' where nothing that the law and all that it calls make is longer than what came in: it says more and counts as full. Else prove '..UptoSaid'. A law counts once. -/
mutual
def uptoBulk {H : Type} : DataW H → Nat
  | .lit (.string bytes) => bytes.length + 1
  | .lit _ => 1
  | .nil => 1
  | .ptr d => uptoBulk d + 1
  | .slice elems spare => uptoBulkAll elems + uptoBulkAll spare + 1
  | .agg parts => uptoBulkAll parts + 1
  | .iface _ d => uptoBulk d + 1
  | .map entries => uptoBulkEntries entries + 1
  | .held _ => 1
def uptoBulkAll {H : Type} : List (DataW H) → Nat
  | [] => 0
  | d :: r => uptoBulk d + uptoBulkAll r
def uptoBulkEntries {H : Type} : List (Lit × DataW H) → Nat
  | [] => 0
  | x :: r => uptoBulkEntry x + uptoBulkEntries r
def uptoBulkEntry {H : Type} : Lit × DataW H → Nat
  | (.string bytes, d) => bytes.length + uptoBulk d + 1
  | (_, d) => uptoBulk d + 1
 end
def uptoSmall : (H : Type) → List (DataW H) → Bool := fun _ ds => decide (uptoBulkAll ds ≤ 1048576)
def OpenSpec.upto (s : _root_.Go.ChangeSpec) : _root_.Go.OpenSpec := { _root_.Go.OpenSpec.ofChange s with cond := some uptoSmall }

/-- 'vouchlaw2.SpongePermutes', WHERE WHAT IT READS IS OF BULK AT MOST 1048576: true; the input reads as it did. -/
def spongePermutesUptoRow : OpenClaim := { program := "ytfidjeoeaeghhaadoor", sum := "dc3eb384b0224acf51f258ea26267a5279436cebfb262225d95f737d739d000a", func := "vouch/vouchlaw2.SpongePermutes", spec := "spongePermutes", named := ["vouch/sponge.marks", "vouch/sponge.turns"], apart := false, laid := [("vouch/sponge.turns", laid_vouch_sponge_turns), ("vouch/sponge.marks", laid_vouch_sponge_marks)], narrowed := true }
def SpongePermutesUptoSaid : Prop := spongePermutesUptoRow.holds Tryd.pinned (OpenSpec.upto spongePermutesSpec)

/-- 'vouchlaw2.SpongePlays', WHERE WHAT IT READS IS OF BULK AT MOST 1048576: true; the input reads as it did. -/
def spongePlaysUptoRow : OpenClaim := { program := "ytfidjeoeaeghhaadoor", sum := "dc3eb384b0224acf51f258ea26267a5279436cebfb262225d95f737d739d000a", func := "vouch/vouchlaw2.SpongePlays", spec := "spongePlays", named := ["vouch/sponge.marks", "vouch/sponge.turns"], apart := false, laid := [("vouch/sponge.turns", laid_vouch_sponge_turns), ("vouch/sponge.marks", laid_vouch_sponge_marks)], narrowed := true }
def SpongePlaysUptoSaid : Prop := spongePlaysUptoRow.holds Tryd.pinned (OpenSpec.upto spongePlaysSpec)

/-- 'vouchlaw2.SpongeSums', WHERE WHAT IT READS IS OF BULK AT MOST 1048576: true; the input reads as it did. -/
def spongeSumsUptoRow : OpenClaim := { program := "ytfidjeoeaeghhaadoor", sum := "dc3eb384b0224acf51f258ea26267a5279436cebfb262225d95f737d739d000a", func := "vouch/vouchlaw2.SpongeSums", spec := "spongeSums", named := ["vouch/sponge.marks", "vouch/sponge.turns"], apart := false, laid := [("vouch/sponge.turns", laid_vouch_sponge_turns), ("vouch/sponge.marks", laid_vouch_sponge_marks)], narrowed := true }
def SpongeSumsUptoSaid : Prop := spongeSumsUptoRow.holds Tryd.pinned (OpenSpec.upto spongeSumsSpec)

/-- 'vouchlaw2.SpongeFolds', WHERE WHAT IT READS IS OF BULK AT MOST 1048576: true; the input reads as it did. -/
def spongeFoldsUptoRow : OpenClaim := { program := "ytfidjeoeaeghhaadoor", sum := "dc3eb384b0224acf51f258ea26267a5279436cebfb262225d95f737d739d000a", func := "vouch/vouchlaw2.SpongeFolds", spec := "spongeFolds", named := ["vouch/sponge.marks", "vouch/sponge.turns"], apart := false, laid := [("vouch/sponge.turns", laid_vouch_sponge_turns), ("vouch/sponge.marks", laid_vouch_sponge_marks)], narrowed := true }
def SpongeFoldsUptoSaid : Prop := spongeFoldsUptoRow.holds Tryd.pinned (OpenSpec.upto spongeFoldsSpec)

/-- 'vouchlaw2.SpongeBack', WHERE WHAT IT READS IS OF BULK AT MOST 1048576: true; the input reads as it did. -/
def spongeBackUptoRow : OpenClaim := { program := "ytfidjeoeaeghhaadoor", sum := "dc3eb384b0224acf51f258ea26267a5279436cebfb262225d95f737d739d000a", func := "vouch/vouchlaw2.SpongeBack", spec := "spongeBack", named := ["vouch/sponge.marks", "vouch/sponge.turns"], apart := false, laid := [("vouch/sponge.turns", laid_vouch_sponge_turns), ("vouch/sponge.marks", laid_vouch_sponge_marks)], narrowed := true }
def SpongeBackUptoSaid : Prop := spongeBackUptoRow.holds Tryd.pinned (OpenSpec.upto spongeBackSpec)

/-- 'vouchlaw2.SpongeMany', WHERE WHAT IT READS IS OF BULK AT MOST 1048576: true; the input reads as it did. -/
def spongeManyUptoRow : OpenClaim := { program := "ytfidjeoeaeghhaadoor", sum := "dc3eb384b0224acf51f258ea26267a5279436cebfb262225d95f737d739d000a", func := "vouch/vouchlaw2.SpongeMany", spec := "spongeMany", named := ["vouch/sponge.marks", "vouch/sponge.turns"], apart := false, laid := [("vouch/sponge.turns", laid_vouch_sponge_turns), ("vouch/sponge.marks", laid_vouch_sponge_marks)], narrowed := true }
def SpongeManyUptoSaid : Prop := spongeManyUptoRow.holds Tryd.pinned (OpenSpec.upto spongeManySpec)

/-- 'vouchlaw2.SpongeKnown', WHERE WHAT IT READS IS OF BULK AT MOST 1048576: true; the input reads as it did. -/
def spongeKnownUptoRow : OpenClaim := { program := "ytfidjeoeaeghhaadoor", sum := "dc3eb384b0224acf51f258ea26267a5279436cebfb262225d95f737d739d000a", func := "vouch/vouchlaw2.SpongeKnown", spec := "spongeKnown", named := ["vouch/sponge.marks", "vouch/sponge.turns"], apart := false, laid := [("vouch/sponge.turns", laid_vouch_sponge_turns), ("vouch/sponge.marks", laid_vouch_sponge_marks)], narrowed := true }
def SpongeKnownUptoSaid : Prop := spongeKnownUptoRow.holds Tryd.pinned (OpenSpec.upto spongeKnownSpec)

/-- 'vouchlaw2.SpongeCuts', WHERE WHAT IT READS IS OF BULK AT MOST 1048576: true; the input reads as it did. -/
def spongeCutsUptoRow : OpenClaim := { program := "ytfidjeoeaeghhaadoor", sum := "dc3eb384b0224acf51f258ea26267a5279436cebfb262225d95f737d739d000a", func := "vouch/vouchlaw2.SpongeCuts", spec := "spongeCuts", named := ["vouch/sponge.marks", "vouch/sponge.turns"], apart := false, laid := [("vouch/sponge.turns", laid_vouch_sponge_turns), ("vouch/sponge.marks", laid_vouch_sponge_marks)], narrowed := true }
def SpongeCutsUptoSaid : Prop := spongeCutsUptoRow.holds Tryd.pinned (OpenSpec.upto spongeCutsSpec)

end Rows
end Go.Proofs.YtfidjeoeaeghhaaDoor
