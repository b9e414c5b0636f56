/-
  NARROWER THAN 'FOR EVERY INPUT', by the rows' own cells (each row's printed sentence says how): TrieChecks: laid · TrieLinks: laid · TrieProves: laid · TrieSound: laid · TrieTurned: laid · TrieSame: laid · TrieHangs: laid · TrieKeeps: laid · TriePlays: laid · TrieOrder: laid · TrieFresh: laid · TrieOf: laid.
  DERIVED. THE GIVEN ROWS OF THIS SEAT. 12 by the template 'for every input the law returns true; each argument reads behind the call as it read before'; 0 by the template 'total and deterministic' (their statements: YtfhindffmghlaaaDoorTotals.lean).
  GIVEN WITH THE SEED: the statements are not yours to turn. If you find one false, say at which input.
  Laid BY PROGRAM, IN A SANDBOX (cutbox-rows.mjs): the forced cells as the released guide's own fill.sh prints them over the translation 314e36fda428af6b… (all of the seat's roots in one cut). By AI agents, Wed Nov 11 2026. No macro, syntax, notation, axiom, sorry.
-/
import Derived.Test.YtfhindffmghlaaaDoorChecked
import GoSem.Claim
import GoSem.ClaimJoined
import GoSem.ClaimMapViews
import Derived.JoinedTies
import Derived.KernelRfl
namespace Go.Proofs.YtfhindffmghlaaaDoor
/- THE CELL 'sum', in the pinned program and in every row, IS THE sha256 OF THE DUMP (.gsa) THAT YtfhindffmghlaaaDoorProg.lean LOADS. Nothing in Lean hashes anything: it is a label: what it is worth is what the hold of that sum in a sandbox is worth. -/
noncomputable def Tryd.pinned : Pinned := { name := "ytfhindffmghlaaadoor", sum := "314e36fda428af6b2eaf0905485046f57ab72cdc5d0f0a0abcd12a17959d1e66", checked := Tryd.checked }
namespace Rows
def none {H : Type} : Left H := { results := [], args := [] }

/- WHAT THE LISTED PACKAGE-LEVEL VARIABLES READ AS WHEN THE CALL BEGINS. Each datum BY PROGRAM (the guide's laid-datum.mjs) off the statement by which the dump's own 'gosem.cut.vars' lays the variable. In a bare row this is a premise. The card (YtfhindffmghlaaaDoorCards.lean) ties it to the program's text. -/
def laid_vouch_sponge_turns {H : Type} : DataW H := .agg [.lit (.int .i64 0), .lit (.int .i64 1), .lit (.int .i64 62), .lit (.int .i64 28), .lit (.int .i64 27), .lit (.int .i64 36), .lit (.int .i64 44), .lit (.int .i64 6), .lit (.int .i64 55), .lit (.int .i64 20), .lit (.int .i64 3), .lit (.int .i64 10), .lit (.int .i64 43), .lit (.int .i64 25), .lit (.int .i64 39), .lit (.int .i64 41), .lit (.int .i64 45), .lit (.int .i64 15), .lit (.int .i64 21), .lit (.int .i64 8), .lit (.int .i64 18), .lit (.int .i64 2), .lit (.int .i64 61), .lit (.int .i64 56), .lit (.int .i64 14)]
def laid_vouch_sponge_marks {H : Type} : DataW H := .agg [.lit (.int .u64 1), .lit (.int .u64 32898), .lit (.int .u64 9223372036854808714), .lit (.int .u64 9223372039002292224), .lit (.int .u64 32907), .lit (.int .u64 2147483649), .lit (.int .u64 9223372039002292353), .lit (.int .u64 9223372036854808585), .lit (.int .u64 138), .lit (.int .u64 136), .lit (.int .u64 2147516425), .lit (.int .u64 2147483658), .lit (.int .u64 2147516555), .lit (.int .u64 9223372036854775947), .lit (.int .u64 9223372036854808713), .lit (.int .u64 9223372036854808579), .lit (.int .u64 9223372036854808578), .lit (.int .u64 9223372036854775936), .lit (.int .u64 32778), .lit (.int .u64 9223372039002259466), .lit (.int .u64 9223372039002292353), .lit (.int .u64 9223372036854808704), .lit (.int .u64 2147483649), .lit (.int .u64 9223372039002292232)]
def laid_vouch_trie_errMissing {H : Type} : DataW H := .iface "*errors.errorString" (.ptr (.agg [.lit (.string [97, 32, 116, 101, 120, 116, 32, 105, 115, 32, 109, 105, 115, 115, 105, 110, 103, 44, 32, 111, 114, 32, 108, 101, 102, 116])]))
def laid_vouch_trie_errHash {H : Type} : DataW H := .iface "*errors.errorString" (.ptr (.agg [.lit (.string [97, 32, 116, 101, 120, 116, 32, 119, 105, 116, 104, 32, 97, 110, 111, 116, 104, 101, 114, 32, 104, 97, 115, 104])]))
def laid_vouch_trie_errShape {H : Type} : DataW H := .iface "*errors.errorString" (.ptr (.agg [.lit (.string [97, 32, 116, 101, 120, 116, 32, 116, 104, 97, 116, 32, 105, 115, 32, 110, 111, 32, 110, 111, 100, 101, 39, 115])]))

/-- 'vouchlaw26.TrieChecks': WHATEVER THE INPUT: true; the input reads as it did. -/
def trieChecksSpec : ChangeSpec := { name := "trieChecks", fn := fun _ => fun
  | [d1, d2, d3] => { results := [.lit (.bool true)], args := [d1, d2, d3] }
  | _ => none }
def trieChecksRow : OpenClaim := { program := "ytfhindffmghlaaadoor", sum := "314e36fda428af6b2eaf0905485046f57ab72cdc5d0f0a0abcd12a17959d1e66", func := "vouch/vouchlaw26.TrieChecks", spec := "trieChecks", unfollowed := true, recurses := true, named := ["vouch/sponge.marks", "vouch/sponge.turns", "vouch/trie.errMissing", "vouch/trie.errHash", "vouch/trie.errShape"], apart := false, laid := [("vouch/sponge.turns", laid_vouch_sponge_turns), ("vouch/sponge.marks", laid_vouch_sponge_marks), ("vouch/trie.errMissing", laid_vouch_trie_errMissing), ("vouch/trie.errHash", laid_vouch_trie_errHash), ("vouch/trie.errShape", laid_vouch_trie_errShape)] }
def TrieChecksSaid : Prop := trieChecksRow.holds Tryd.pinned (OpenSpec.ofChange trieChecksSpec)

/-- ITS FALSE NEIGHBOUR: 'it returns false'. Refute it at one input. -/
def trieChecksWrong : ChangeSpec := { name := "trieChecks", fn := fun _ => fun
  | [d1, d2, d3] => { results := [.lit (.bool false)], args := [d1, d2, d3] }
  | _ => none }
def TrieChecksWrongFalsely : Prop := trieChecksRow.holds Tryd.pinned (OpenSpec.ofChange trieChecksWrong)

/-- 'vouchlaw26.TrieLinks': WHATEVER THE INPUT: true; the input reads as it did. -/
def trieLinksSpec : ChangeSpec := { name := "trieLinks", fn := fun _ => fun
  | [d1, d2, d3] => { results := [.lit (.bool true)], args := [d1, d2, d3] }
  | _ => none }
def trieLinksRow : OpenClaim := { program := "ytfhindffmghlaaadoor", sum := "314e36fda428af6b2eaf0905485046f57ab72cdc5d0f0a0abcd12a17959d1e66", func := "vouch/vouchlaw26.TrieLinks", spec := "trieLinks", unfollowed := true, recurses := true, named := ["vouch/sponge.marks", "vouch/sponge.turns", "vouch/trie.errMissing", "vouch/trie.errHash", "vouch/trie.errShape"], apart := false, laid := [("vouch/sponge.turns", laid_vouch_sponge_turns), ("vouch/sponge.marks", laid_vouch_sponge_marks), ("vouch/trie.errMissing", laid_vouch_trie_errMissing), ("vouch/trie.errHash", laid_vouch_trie_errHash), ("vouch/trie.errShape", laid_vouch_trie_errShape)] }
def TrieLinksSaid : Prop := trieLinksRow.holds Tryd.pinned (OpenSpec.ofChange trieLinksSpec)

/-- ITS FALSE NEIGHBOUR: 'it returns false'. Refute it at one input. -/
def trieLinksWrong : ChangeSpec := { name := "trieLinks", fn := fun _ => fun
  | [d1, d2, d3] => { results := [.lit (.bool false)], args := [d1, d2, d3] }
  | _ => none }
def TrieLinksWrongFalsely : Prop := trieLinksRow.holds Tryd.pinned (OpenSpec.ofChange trieLinksWrong)

/-- 'vouchlaw26.TrieProves': WHATEVER THE INPUT: true; the input reads as it did. -/
def trieProvesSpec : ChangeSpec := { name := "trieProves", fn := fun _ => fun
  | [d1, d2] => { results := [.lit (.bool true)], args := [d1, d2] }
  | _ => none }
def trieProvesRow : OpenClaim := { program := "ytfhindffmghlaaadoor", sum := "314e36fda428af6b2eaf0905485046f57ab72cdc5d0f0a0abcd12a17959d1e66", func := "vouch/vouchlaw26.TrieProves", spec := "trieProves", unfollowed := true, recurses := true, named := ["vouch/sponge.marks", "vouch/sponge.turns", "vouch/trie.errMissing", "vouch/trie.errHash", "vouch/trie.errShape"], apart := false, laid := [("vouch/sponge.turns", laid_vouch_sponge_turns), ("vouch/sponge.marks", laid_vouch_sponge_marks), ("vouch/trie.errMissing", laid_vouch_trie_errMissing), ("vouch/trie.errHash", laid_vouch_trie_errHash), ("vouch/trie.errShape", laid_vouch_trie_errShape)] }
def TrieProvesSaid : Prop := trieProvesRow.holds Tryd.pinned (OpenSpec.ofChange trieProvesSpec)

/-- ITS FALSE NEIGHBOUR: 'it returns false'. Refute it at one input. -/
def trieProvesWrong : ChangeSpec := { name := "trieProves", fn := fun _ => fun
  | [d1, d2] => { results := [.lit (.bool false)], args := [d1, d2] }
  | _ => none }
def TrieProvesWrongFalsely : Prop := trieProvesRow.holds Tryd.pinned (OpenSpec.ofChange trieProvesWrong)

/-- 'vouchlaw26.TrieSound': WHATEVER THE INPUT: true; the input reads as it did. -/
def trieSoundSpec : ChangeSpec := { name := "trieSound", fn := fun _ => fun
  | [d1, d2, d3, d4] => { results := [.lit (.bool true)], args := [d1, d2, d3, d4] }
  | _ => none }
def trieSoundRow : OpenClaim := { program := "ytfhindffmghlaaadoor", sum := "314e36fda428af6b2eaf0905485046f57ab72cdc5d0f0a0abcd12a17959d1e66", func := "vouch/vouchlaw26.TrieSound", spec := "trieSound", unfollowed := true, recurses := true, named := ["vouch/sponge.marks", "vouch/sponge.turns", "vouch/trie.errMissing", "vouch/trie.errHash", "vouch/trie.errShape"], apart := false, laid := [("vouch/sponge.turns", laid_vouch_sponge_turns), ("vouch/sponge.marks", laid_vouch_sponge_marks), ("vouch/trie.errMissing", laid_vouch_trie_errMissing), ("vouch/trie.errHash", laid_vouch_trie_errHash), ("vouch/trie.errShape", laid_vouch_trie_errShape)] }
def TrieSoundSaid : Prop := trieSoundRow.holds Tryd.pinned (OpenSpec.ofChange trieSoundSpec)

/-- ITS FALSE NEIGHBOUR: 'it returns false'. Refute it at one input. -/
def trieSoundWrong : ChangeSpec := { name := "trieSound", fn := fun _ => fun
  | [d1, d2, d3, d4] => { results := [.lit (.bool false)], args := [d1, d2, d3, d4] }
  | _ => none }
def TrieSoundWrongFalsely : Prop := trieSoundRow.holds Tryd.pinned (OpenSpec.ofChange trieSoundWrong)

/-- 'vouchlaw26.TrieTurned': WHATEVER THE INPUT: true; the input reads as it did. -/
def trieTurnedSpec : ChangeSpec := { name := "trieTurned", fn := fun _ => fun
  | [d1, d2, d3, d4, d5] => { results := [.lit (.bool true)], args := [d1, d2, d3, d4, d5] }
  | _ => none }
def trieTurnedRow : OpenClaim := { program := "ytfhindffmghlaaadoor", sum := "314e36fda428af6b2eaf0905485046f57ab72cdc5d0f0a0abcd12a17959d1e66", func := "vouch/vouchlaw26.TrieTurned", spec := "trieTurned", unfollowed := true, recurses := true, named := ["vouch/sponge.marks", "vouch/sponge.turns", "vouch/trie.errMissing", "vouch/trie.errHash", "vouch/trie.errShape"], apart := false, laid := [("vouch/sponge.turns", laid_vouch_sponge_turns), ("vouch/sponge.marks", laid_vouch_sponge_marks), ("vouch/trie.errMissing", laid_vouch_trie_errMissing), ("vouch/trie.errHash", laid_vouch_trie_errHash), ("vouch/trie.errShape", laid_vouch_trie_errShape)] }
def TrieTurnedSaid : Prop := trieTurnedRow.holds Tryd.pinned (OpenSpec.ofChange trieTurnedSpec)

/-- ITS FALSE NEIGHBOUR: 'it returns false'. Refute it at one input. -/
def trieTurnedWrong : ChangeSpec := { name := "trieTurned", fn := fun _ => fun
  | [d1, d2, d3, d4, d5] => { results := [.lit (.bool false)], args := [d1, d2, d3, d4, d5] }
  | _ => none }
def TrieTurnedWrongFalsely : Prop := trieTurnedRow.holds Tryd.pinned (OpenSpec.ofChange trieTurnedWrong)

/-- 'vouchlaw26.TrieSame': WHATEVER THE INPUT: true; the input reads as it did. -/
def trieSameSpec : ChangeSpec := { name := "trieSame", fn := fun _ => fun
  | [d1, d2] => { results := [.lit (.bool true)], args := [d1, d2] }
  | _ => none }
def trieSameRow : OpenClaim := { program := "ytfhindffmghlaaadoor", sum := "314e36fda428af6b2eaf0905485046f57ab72cdc5d0f0a0abcd12a17959d1e66", func := "vouch/vouchlaw26.TrieSame", spec := "trieSame", unfollowed := true, recurses := true, named := ["vouch/sponge.marks", "vouch/sponge.turns", "vouch/trie.errMissing", "vouch/trie.errHash", "vouch/trie.errShape"], apart := false, laid := [("vouch/sponge.turns", laid_vouch_sponge_turns), ("vouch/sponge.marks", laid_vouch_sponge_marks), ("vouch/trie.errMissing", laid_vouch_trie_errMissing), ("vouch/trie.errHash", laid_vouch_trie_errHash), ("vouch/trie.errShape", laid_vouch_trie_errShape)] }
def TrieSameSaid : Prop := trieSameRow.holds Tryd.pinned (OpenSpec.ofChange trieSameSpec)

/-- ITS FALSE NEIGHBOUR: 'it returns false'. Refute it at one input. -/
def trieSameWrong : ChangeSpec := { name := "trieSame", fn := fun _ => fun
  | [d1, d2] => { results := [.lit (.bool false)], args := [d1, d2] }
  | _ => none }
def TrieSameWrongFalsely : Prop := trieSameRow.holds Tryd.pinned (OpenSpec.ofChange trieSameWrong)

/-- 'vouchlaw26.TrieHangs': WHATEVER THE INPUT: true; the input reads as it did. -/
def trieHangsSpec : ChangeSpec := { name := "trieHangs", fn := fun _ => fun
  | [d1, d2] => { results := [.lit (.bool true)], args := [d1, d2] }
  | _ => none }
def trieHangsRow : OpenClaim := { program := "ytfhindffmghlaaadoor", sum := "314e36fda428af6b2eaf0905485046f57ab72cdc5d0f0a0abcd12a17959d1e66", func := "vouch/vouchlaw26.TrieHangs", spec := "trieHangs", unfollowed := true, recurses := true, named := ["vouch/sponge.marks", "vouch/sponge.turns", "vouch/trie.errMissing", "vouch/trie.errHash", "vouch/trie.errShape"], apart := false, laid := [("vouch/sponge.turns", laid_vouch_sponge_turns), ("vouch/sponge.marks", laid_vouch_sponge_marks), ("vouch/trie.errMissing", laid_vouch_trie_errMissing), ("vouch/trie.errHash", laid_vouch_trie_errHash), ("vouch/trie.errShape", laid_vouch_trie_errShape)] }
def TrieHangsSaid : Prop := trieHangsRow.holds Tryd.pinned (OpenSpec.ofChange trieHangsSpec)

/-- ITS FALSE NEIGHBOUR: 'it returns false'. Refute it at one input. -/
def trieHangsWrong : ChangeSpec := { name := "trieHangs", fn := fun _ => fun
  | [d1, d2] => { results := [.lit (.bool false)], args := [d1, d2] }
  | _ => none }
def TrieHangsWrongFalsely : Prop := trieHangsRow.holds Tryd.pinned (OpenSpec.ofChange trieHangsWrong)

/-- 'vouchlaw26.TrieKeeps': WHATEVER THE INPUT: true; the input reads as it did. -/
def trieKeepsSpec : ChangeSpec := { name := "trieKeeps", fn := fun _ => fun
  | [d1, d2, d3] => { results := [.lit (.bool true)], args := [d1, d2, d3] }
  | _ => none }
def trieKeepsRow : OpenClaim := { program := "ytfhindffmghlaaadoor", sum := "314e36fda428af6b2eaf0905485046f57ab72cdc5d0f0a0abcd12a17959d1e66", func := "vouch/vouchlaw26.TrieKeeps", spec := "trieKeeps", unfollowed := true, recurses := true, named := ["vouch/sponge.marks", "vouch/sponge.turns", "vouch/trie.errMissing", "vouch/trie.errHash", "vouch/trie.errShape"], apart := false, laid := [("vouch/sponge.turns", laid_vouch_sponge_turns), ("vouch/sponge.marks", laid_vouch_sponge_marks), ("vouch/trie.errMissing", laid_vouch_trie_errMissing), ("vouch/trie.errHash", laid_vouch_trie_errHash), ("vouch/trie.errShape", laid_vouch_trie_errShape)] }
def TrieKeepsSaid : Prop := trieKeepsRow.holds Tryd.pinned (OpenSpec.ofChange trieKeepsSpec)

/-- ITS FALSE NEIGHBOUR: 'it returns false'. Refute it at one input. -/
def trieKeepsWrong : ChangeSpec := { name := "trieKeeps", fn := fun _ => fun
  | [d1, d2, d3] => { results := [.lit (.bool false)], args := [d1, d2, d3] }
  | _ => none }
def TrieKeepsWrongFalsely : Prop := trieKeepsRow.holds Tryd.pinned (OpenSpec.ofChange trieKeepsWrong)

/-- 'vouchlaw26.TriePlays': WHATEVER THE INPUT: true; the input reads as it did. -/
def triePlaysSpec : ChangeSpec := { name := "triePlays", fn := fun _ => fun
  | [d] => { results := [.lit (.bool true)], args := [d] }
  | _ => none }
def triePlaysRow : OpenClaim := { program := "ytfhindffmghlaaadoor", sum := "314e36fda428af6b2eaf0905485046f57ab72cdc5d0f0a0abcd12a17959d1e66", func := "vouch/vouchlaw26.TriePlays", spec := "triePlays", unfollowed := true, recurses := true, named := ["vouch/sponge.marks", "vouch/sponge.turns", "vouch/trie.errMissing", "vouch/trie.errHash", "vouch/trie.errShape"], apart := false, laid := [("vouch/sponge.turns", laid_vouch_sponge_turns), ("vouch/sponge.marks", laid_vouch_sponge_marks), ("vouch/trie.errMissing", laid_vouch_trie_errMissing), ("vouch/trie.errHash", laid_vouch_trie_errHash), ("vouch/trie.errShape", laid_vouch_trie_errShape)] }
def TriePlaysSaid : Prop := triePlaysRow.holds Tryd.pinned (OpenSpec.ofChange triePlaysSpec)

/-- ITS FALSE NEIGHBOUR: 'it returns false'. Refute it at one input. -/
def triePlaysWrong : ChangeSpec := { name := "triePlays", fn := fun _ => fun
  | [d] => { results := [.lit (.bool false)], args := [d] }
  | _ => none }
def TriePlaysWrongFalsely : Prop := triePlaysRow.holds Tryd.pinned (OpenSpec.ofChange triePlaysWrong)

/-- 'vouchlaw26.TrieOrder': WHATEVER THE INPUT: true; the input reads as it did. -/
def trieOrderSpec : ChangeSpec := { name := "trieOrder", fn := fun _ => fun
  | [d1, d2, d3, d4] => { results := [.lit (.bool true)], args := [d1, d2, d3, d4] }
  | _ => none }
def trieOrderRow : OpenClaim := { program := "ytfhindffmghlaaadoor", sum := "314e36fda428af6b2eaf0905485046f57ab72cdc5d0f0a0abcd12a17959d1e66", func := "vouch/vouchlaw26.TrieOrder", spec := "trieOrder", unfollowed := true, recurses := true, named := ["vouch/sponge.marks", "vouch/sponge.turns", "vouch/trie.errMissing", "vouch/trie.errHash", "vouch/trie.errShape"], apart := false, laid := [("vouch/sponge.turns", laid_vouch_sponge_turns), ("vouch/sponge.marks", laid_vouch_sponge_marks), ("vouch/trie.errMissing", laid_vouch_trie_errMissing), ("vouch/trie.errHash", laid_vouch_trie_errHash), ("vouch/trie.errShape", laid_vouch_trie_errShape)] }
def TrieOrderSaid : Prop := trieOrderRow.holds Tryd.pinned (OpenSpec.ofChange trieOrderSpec)

/-- ITS FALSE NEIGHBOUR: 'it returns false'. Refute it at one input. -/
def trieOrderWrong : ChangeSpec := { name := "trieOrder", fn := fun _ => fun
  | [d1, d2, d3, d4] => { results := [.lit (.bool false)], args := [d1, d2, d3, d4] }
  | _ => none }
def TrieOrderWrongFalsely : Prop := trieOrderRow.holds Tryd.pinned (OpenSpec.ofChange trieOrderWrong)

/-- 'vouchlaw26.TrieFresh': WHATEVER THE INPUT: true; the input reads as it did. -/
def trieFreshSpec : ChangeSpec := { name := "trieFresh", fn := fun _ => fun
  | [d1, d2] => { results := [.lit (.bool true)], args := [d1, d2] }
  | _ => none }
def trieFreshRow : OpenClaim := { program := "ytfhindffmghlaaadoor", sum := "314e36fda428af6b2eaf0905485046f57ab72cdc5d0f0a0abcd12a17959d1e66", func := "vouch/vouchlaw26.TrieFresh", spec := "trieFresh", unfollowed := true, recurses := true, named := ["vouch/sponge.marks", "vouch/sponge.turns", "vouch/trie.errMissing", "vouch/trie.errHash", "vouch/trie.errShape"], apart := false, laid := [("vouch/sponge.turns", laid_vouch_sponge_turns), ("vouch/sponge.marks", laid_vouch_sponge_marks), ("vouch/trie.errMissing", laid_vouch_trie_errMissing), ("vouch/trie.errHash", laid_vouch_trie_errHash), ("vouch/trie.errShape", laid_vouch_trie_errShape)] }
def TrieFreshSaid : Prop := trieFreshRow.holds Tryd.pinned (OpenSpec.ofChange trieFreshSpec)

/-- ITS FALSE NEIGHBOUR: 'it returns false'. Refute it at one input. -/
def trieFreshWrong : ChangeSpec := { name := "trieFresh", fn := fun _ => fun
  | [d1, d2] => { results := [.lit (.bool false)], args := [d1, d2] }
  | _ => none }
def TrieFreshWrongFalsely : Prop := trieFreshRow.holds Tryd.pinned (OpenSpec.ofChange trieFreshWrong)

/-- 'vouchlaw26.TrieOf': WHATEVER THE INPUT: true; the input reads as it did. -/
def trieOfSpec : ChangeSpec := { name := "trieOf", fn := fun _ => fun
  | [d1, d2] => { results := [.lit (.bool true)], args := [d1, d2] }
  | _ => none }
def trieOfRow : OpenClaim := { program := "ytfhindffmghlaaadoor", sum := "314e36fda428af6b2eaf0905485046f57ab72cdc5d0f0a0abcd12a17959d1e66", func := "vouch/vouchlaw26.TrieOf", spec := "trieOf", unfollowed := true, recurses := true, named := ["vouch/sponge.marks", "vouch/sponge.turns", "vouch/trie.errMissing", "vouch/trie.errHash", "vouch/trie.errShape"], apart := false, laid := [("vouch/sponge.turns", laid_vouch_sponge_turns), ("vouch/sponge.marks", laid_vouch_sponge_marks), ("vouch/trie.errMissing", laid_vouch_trie_errMissing), ("vouch/trie.errHash", laid_vouch_trie_errHash), ("vouch/trie.errShape", laid_vouch_trie_errShape)] }
def TrieOfSaid : Prop := trieOfRow.holds Tryd.pinned (OpenSpec.ofChange trieOfSpec)

/-- ITS FALSE NEIGHBOUR: 'it returns false'. Refute it at one input. -/
def trieOfWrong : ChangeSpec := { name := "trieOf", fn := fun _ => fun
  | [d1, d2] => { results := [.lit (.bool false)], args := [d1, d2] }
  | _ => none }
def TrieOfWrongFalsely : Prop := trieOfRow.holds Tryd.pinned (OpenSpec.ofChange trieOfWrong)

/- THE SECOND FORM. 'bulk': how many values and letters a reading holds, each counted each time it is reached (what is shared counts as often as it is met; a slice's spare places count too). A statement '..UptoSaid' is the law's where the arguments, and the package variables that the reading takes, are together of bulk at most 1048576: NARROWER than '..Said'. Prove '..Said' where nothing that the law and all that it calls make is longer than what came in: it says more and counts as full. Else prove '..UptoSaid'. A law counts once. -/
mutual
def uptoBulk {H : Type} : DataW H → Nat
  | .lit (.string bytes) => bytes.length + 1
  | .lit _ => 1
  | .nil => 1
  | .ptr d => uptoBulk d + 1
  | .slice elems spare => uptoBulkAll elems + uptoBulkAll spare + 1
  | .agg parts => uptoBulkAll parts + 1
  | .iface _ d => uptoBulk d + 1
  | .map entries => uptoBulkEntries entries + 1
  | .held _ => 1
def uptoBulkAll {H : Type} : List (DataW H) → Nat
  | [] => 0
  | d :: r => uptoBulk d + uptoBulkAll r
def uptoBulkEntries {H : Type} : List (Lit × DataW H) → Nat
  | [] => 0
  | x :: r => uptoBulkEntry x + uptoBulkEntries r
def uptoBulkEntry {H : Type} : Lit × DataW H → Nat
  | (.string bytes, d) => bytes.length + uptoBulk d + 1
  | (_, d) => uptoBulk d + 1
 end
def uptoSmall : (H : Type) → List (DataW H) → Bool := fun _ ds => decide (uptoBulkAll ds ≤ 1048576)
def OpenSpec.upto (s : _root_.Go.ChangeSpec) : _root_.Go.OpenSpec := { _root_.Go.OpenSpec.ofChange s with cond := some uptoSmall }

/-- 'vouchlaw26.TrieChecks', WHERE WHAT IT READS IS OF BULK AT MOST 1048576: true; the input reads as it did. -/
def trieChecksUptoRow : OpenClaim := { program := "ytfhindffmghlaaadoor", sum := "314e36fda428af6b2eaf0905485046f57ab72cdc5d0f0a0abcd12a17959d1e66", func := "vouch/vouchlaw26.TrieChecks", spec := "trieChecks", unfollowed := true, recurses := true, named := ["vouch/sponge.marks", "vouch/sponge.turns", "vouch/trie.errMissing", "vouch/trie.errHash", "vouch/trie.errShape"], apart := false, laid := [("vouch/sponge.turns", laid_vouch_sponge_turns), ("vouch/sponge.marks", laid_vouch_sponge_marks), ("vouch/trie.errMissing", laid_vouch_trie_errMissing), ("vouch/trie.errHash", laid_vouch_trie_errHash), ("vouch/trie.errShape", laid_vouch_trie_errShape)], narrowed := true }
def TrieChecksUptoSaid : Prop := trieChecksUptoRow.holds Tryd.pinned (OpenSpec.upto trieChecksSpec)

/-- 'vouchlaw26.TrieLinks', WHERE WHAT IT READS IS OF BULK AT MOST 1048576: true; the input reads as it did. -/
def trieLinksUptoRow : OpenClaim := { program := "ytfhindffmghlaaadoor", sum := "314e36fda428af6b2eaf0905485046f57ab72cdc5d0f0a0abcd12a17959d1e66", func := "vouch/vouchlaw26.TrieLinks", spec := "trieLinks", unfollowed := true, recurses := true, named := ["vouch/sponge.marks", "vouch/sponge.turns", "vouch/trie.errMissing", "vouch/trie.errHash", "vouch/trie.errShape"], apart := false, laid := [("vouch/sponge.turns", laid_vouch_sponge_turns), ("vouch/sponge.marks", laid_vouch_sponge_marks), ("vouch/trie.errMissing", laid_vouch_trie_errMissing), ("vouch/trie.errHash", laid_vouch_trie_errHash), ("vouch/trie.errShape", laid_vouch_trie_errShape)], narrowed := true }
def TrieLinksUptoSaid : Prop := trieLinksUptoRow.holds Tryd.pinned (OpenSpec.upto trieLinksSpec)

/-- 'vouchlaw26.TrieProves', WHERE WHAT IT READS IS OF BULK AT MOST 1048576: true; the input reads as it did. -/
def trieProvesUptoRow : OpenClaim := { program := "ytfhindffmghlaaadoor", sum := "314e36fda428af6b2eaf0905485046f57ab72cdc5d0f0a0abcd12a17959d1e66", func := "vouch/vouchlaw26.TrieProves", spec := "trieProves", unfollowed := true, recurses := true, named := ["vouch/sponge.marks", "vouch/sponge.turns", "vouch/trie.errMissing", "vouch/trie.errHash", "vouch/trie.errShape"], apart := false, laid := [("vouch/sponge.turns", laid_vouch_sponge_turns), ("vouch/sponge.marks", laid_vouch_sponge_marks), ("vouch/trie.errMissing", laid_vouch_trie_errMissing), ("vouch/trie.errHash", laid_vouch_trie_errHash), ("vouch/trie.errShape", laid_vouch_trie_errShape)], narrowed := true }
def TrieProvesUptoSaid : Prop := trieProvesUptoRow.holds Tryd.pinned (OpenSpec.upto trieProvesSpec)

/-- 'vouchlaw26.TrieSound', WHERE WHAT IT READS IS OF BULK AT MOST 1048576: true; the input reads as it did. -/
def trieSoundUptoRow : OpenClaim := { program := "ytfhindffmghlaaadoor", sum := "314e36fda428af6b2eaf0905485046f57ab72cdc5d0f0a0abcd12a17959d1e66", func := "vouch/vouchlaw26.TrieSound", spec := "trieSound", unfollowed := true, recurses := true, named := ["vouch/sponge.marks", "vouch/sponge.turns", "vouch/trie.errMissing", "vouch/trie.errHash", "vouch/trie.errShape"], apart := false, laid := [("vouch/sponge.turns", laid_vouch_sponge_turns), ("vouch/sponge.marks", laid_vouch_sponge_marks), ("vouch/trie.errMissing", laid_vouch_trie_errMissing), ("vouch/trie.errHash", laid_vouch_trie_errHash), ("vouch/trie.errShape", laid_vouch_trie_errShape)], narrowed := true }
def TrieSoundUptoSaid : Prop := trieSoundUptoRow.holds Tryd.pinned (OpenSpec.upto trieSoundSpec)

/-- 'vouchlaw26.TrieTurned', WHERE WHAT IT READS IS OF BULK AT MOST 1048576: true; the input reads as it did. -/
def trieTurnedUptoRow : OpenClaim := { program := "ytfhindffmghlaaadoor", sum := "314e36fda428af6b2eaf0905485046f57ab72cdc5d0f0a0abcd12a17959d1e66", func := "vouch/vouchlaw26.TrieTurned", spec := "trieTurned", unfollowed := true, recurses := true, named := ["vouch/sponge.marks", "vouch/sponge.turns", "vouch/trie.errMissing", "vouch/trie.errHash", "vouch/trie.errShape"], apart := false, laid := [("vouch/sponge.turns", laid_vouch_sponge_turns), ("vouch/sponge.marks", laid_vouch_sponge_marks), ("vouch/trie.errMissing", laid_vouch_trie_errMissing), ("vouch/trie.errHash", laid_vouch_trie_errHash), ("vouch/trie.errShape", laid_vouch_trie_errShape)], narrowed := true }
def TrieTurnedUptoSaid : Prop := trieTurnedUptoRow.holds Tryd.pinned (OpenSpec.upto trieTurnedSpec)

/-- 'vouchlaw26.TrieSame', WHERE WHAT IT READS IS OF BULK AT MOST 1048576: true; the input reads as it did. -/
def trieSameUptoRow : OpenClaim := { program := "ytfhindffmghlaaadoor", sum := "314e36fda428af6b2eaf0905485046f57ab72cdc5d0f0a0abcd12a17959d1e66", func := "vouch/vouchlaw26.TrieSame", spec := "trieSame", unfollowed := true, recurses := true, named := ["vouch/sponge.marks", "vouch/sponge.turns", "vouch/trie.errMissing", "vouch/trie.errHash", "vouch/trie.errShape"], apart := false, laid := [("vouch/sponge.turns", laid_vouch_sponge_turns), ("vouch/sponge.marks", laid_vouch_sponge_marks), ("vouch/trie.errMissing", laid_vouch_trie_errMissing), ("vouch/trie.errHash", laid_vouch_trie_errHash), ("vouch/trie.errShape", laid_vouch_trie_errShape)], narrowed := true }
def TrieSameUptoSaid : Prop := trieSameUptoRow.holds Tryd.pinned (OpenSpec.upto trieSameSpec)

/-- 'vouchlaw26.TrieHangs', WHERE WHAT IT READS IS OF BULK AT MOST 1048576: true; the input reads as it did. -/
def trieHangsUptoRow : OpenClaim := { program := "ytfhindffmghlaaadoor", sum := "314e36fda428af6b2eaf0905485046f57ab72cdc5d0f0a0abcd12a17959d1e66", func := "vouch/vouchlaw26.TrieHangs", spec := "trieHangs", unfollowed := true, recurses := true, named := ["vouch/sponge.marks", "vouch/sponge.turns", "vouch/trie.errMissing", "vouch/trie.errHash", "vouch/trie.errShape"], apart := false, laid := [("vouch/sponge.turns", laid_vouch_sponge_turns), ("vouch/sponge.marks", laid_vouch_sponge_marks), ("vouch/trie.errMissing", laid_vouch_trie_errMissing), ("vouch/trie.errHash", laid_vouch_trie_errHash), ("vouch/trie.errShape", laid_vouch_trie_errShape)], narrowed := true }
def TrieHangsUptoSaid : Prop := trieHangsUptoRow.holds Tryd.pinned (OpenSpec.upto trieHangsSpec)

/-- 'vouchlaw26.TrieKeeps', WHERE WHAT IT READS IS OF BULK AT MOST 1048576: true; the input reads as it did. -/
def trieKeepsUptoRow : OpenClaim := { program := "ytfhindffmghlaaadoor", sum := "314e36fda428af6b2eaf0905485046f57ab72cdc5d0f0a0abcd12a17959d1e66", func := "vouch/vouchlaw26.TrieKeeps", spec := "trieKeeps", unfollowed := true, recurses := true, named := ["vouch/sponge.marks", "vouch/sponge.turns", "vouch/trie.errMissing", "vouch/trie.errHash", "vouch/trie.errShape"], apart := false, laid := [("vouch/sponge.turns", laid_vouch_sponge_turns), ("vouch/sponge.marks", laid_vouch_sponge_marks), ("vouch/trie.errMissing", laid_vouch_trie_errMissing), ("vouch/trie.errHash", laid_vouch_trie_errHash), ("vouch/trie.errShape", laid_vouch_trie_errShape)], narrowed := true }
def TrieKeepsUptoSaid : Prop := trieKeepsUptoRow.holds Tryd.pinned (OpenSpec.upto trieKeepsSpec)

/-- 'vouchlaw26.TriePlays', WHERE WHAT IT READS IS OF BULK AT MOST 1048576: true; the input reads as it did. -/
def triePlaysUptoRow : OpenClaim := { program := "ytfhindffmghlaaadoor", sum := "314e36fda428af6b2eaf0905485046f57ab72cdc5d0f0a0abcd12a17959d1e66", func := "vouch/vouchlaw26.TriePlays", spec := "triePlays", unfollowed := true, recurses := true, named := ["vouch/sponge.marks", "vouch/sponge.turns", "vouch/trie.errMissing", "vouch/trie.errHash", "vouch/trie.errShape"], apart := false, laid := [("vouch/sponge.turns", laid_vouch_sponge_turns), ("vouch/sponge.marks", laid_vouch_sponge_marks), ("vouch/trie.errMissing", laid_vouch_trie_errMissing), ("vouch/trie.errHash", laid_vouch_trie_errHash), ("vouch/trie.errShape", laid_vouch_trie_errShape)], narrowed := true }
def TriePlaysUptoSaid : Prop := triePlaysUptoRow.holds Tryd.pinned (OpenSpec.upto triePlaysSpec)

/-- 'vouchlaw26.TrieOrder', WHERE WHAT IT READS IS OF BULK AT MOST 1048576: true; the input reads as it did. -/
def trieOrderUptoRow : OpenClaim := { program := "ytfhindffmghlaaadoor", sum := "314e36fda428af6b2eaf0905485046f57ab72cdc5d0f0a0abcd12a17959d1e66", func := "vouch/vouchlaw26.TrieOrder", spec := "trieOrder", unfollowed := true, recurses := true, named := ["vouch/sponge.marks", "vouch/sponge.turns", "vouch/trie.errMissing", "vouch/trie.errHash", "vouch/trie.errShape"], apart := false, laid := [("vouch/sponge.turns", laid_vouch_sponge_turns), ("vouch/sponge.marks", laid_vouch_sponge_marks), ("vouch/trie.errMissing", laid_vouch_trie_errMissing), ("vouch/trie.errHash", laid_vouch_trie_errHash), ("vouch/trie.errShape", laid_vouch_trie_errShape)], narrowed := true }
def TrieOrderUptoSaid : Prop := trieOrderUptoRow.holds Tryd.pinned (OpenSpec.upto trieOrderSpec)

/-- 'vouchlaw26.TrieFresh', WHERE WHAT IT READS IS OF BULK AT MOST 1048576: true; the input reads as it did. -/
def trieFreshUptoRow : OpenClaim := { program := "ytfhindffmghlaaadoor", sum := "314e36fda428af6b2eaf0905485046f57ab72cdc5d0f0a0abcd12a17959d1e66", func := "vouch/vouchlaw26.TrieFresh", spec := "trieFresh", unfollowed := true, recurses := true, named := ["vouch/sponge.marks", "vouch/sponge.turns", "vouch/trie.errMissing", "vouch/trie.errHash", "vouch/trie.errShape"], apart := false, laid := [("vouch/sponge.turns", laid_vouch_sponge_turns), ("vouch/sponge.marks", laid_vouch_sponge_marks), ("vouch/trie.errMissing", laid_vouch_trie_errMissing), ("vouch/trie.errHash", laid_vouch_trie_errHash), ("vouch/trie.errShape", laid_vouch_trie_errShape)], narrowed := true }
def TrieFreshUptoSaid : Prop := trieFreshUptoRow.holds Tryd.pinned (OpenSpec.upto trieFreshSpec)

/-- 'vouchlaw26.TrieOf', WHERE WHAT IT READS IS OF BULK AT MOST 1048576: true; the input reads as it did. -/
def trieOfUptoRow : OpenClaim := { program := "ytfhindffmghlaaadoor", sum := "314e36fda428af6b2eaf0905485046f57ab72cdc5d0f0a0abcd12a17959d1e66", func := "vouch/vouchlaw26.TrieOf", spec := "trieOf", unfollowed := true, recurses := true, named := ["vouch/sponge.marks", "vouch/sponge.turns", "vouch/trie.errMissing", "vouch/trie.errHash", "vouch/trie.errShape"], apart := false, laid := [("vouch/sponge.turns", laid_vouch_sponge_turns), ("vouch/sponge.marks", laid_vouch_sponge_marks), ("vouch/trie.errMissing", laid_vouch_trie_errMissing), ("vouch/trie.errHash", laid_vouch_trie_errHash), ("vouch/trie.errShape", laid_vouch_trie_errShape)], narrowed := true }
def TrieOfUptoSaid : Prop := trieOfUptoRow.holds Tryd.pinned (OpenSpec.upto trieOfSpec)

end Rows
end Go.Proofs.YtfhindffmghlaaaDoor
