/-
  DERIVED. GIVEN WITH THE SEED: THE CARDS: each row of YtfidjeoeaeghhaaDoorRows.lean that lists a variable, with what it lists TIED to the program's text (the seventh form; the later family's looks); each row that meets fmt, with fmt's text TOLD by the authors' own Lean function (tested against real Go, not proved from fmt's source: count such statements apart). THE CARD IS WHAT COUNTS. Prove the row's statement (the work); the ties are given (YtfidjeoeaeghhaaDoorTie.lean); close each card by the builder's one call (the guide's Derived/Test/ToyasCard.lean, 'card_holds'). Laid BY PROGRAM, IN A SANDBOX (cutbox-door.mjs). By AI agents, Wed Nov 11 2026. No macro, syntax, notation, axiom, sorry.
-/
import Derived.Test.YtfidjeoeaeghhaaDoorRows
import GoSem.ClaimSeven
namespace Go.Proofs.YtfidjeoeaeghhaaDoor
namespace Rows

/-- THE TIED CARD OF 'vouchlaw2.SpongePermutes'. -/
def spongePermutesCard : Claim7 := { stood := { row := spongePermutesRow, standIns := [], harness := (true, "61dec8a95d45e6b6868d957416c283ac2aac3f2f7edc31fb2634f663520bf00b"), looks := false }, kinds := [], alts := [], laidByText := true, laidKinds := [.data, .data], laidTests := true, laidLooks := .later }
def SpongePermutesCardSaid : Prop := Claim7.holds Tryd.pinned (.plain (OpenSpec.ofChange spongePermutesSpec)) spongePermutesCard

/-- THE TIED CARD OF 'vouchlaw2.SpongePlays'. -/
def spongePlaysCard : Claim7 := { stood := { row := spongePlaysRow, standIns := [], harness := (true, "61dec8a95d45e6b6868d957416c283ac2aac3f2f7edc31fb2634f663520bf00b"), looks := false }, kinds := [], alts := [], laidByText := true, laidKinds := [.data, .data], laidTests := true, laidLooks := .later }
def SpongePlaysCardSaid : Prop := Claim7.holds Tryd.pinned (.plain (OpenSpec.ofChange spongePlaysSpec)) spongePlaysCard

/-- THE TIED CARD OF 'vouchlaw2.SpongeSums'. -/
def spongeSumsCard : Claim7 := { stood := { row := spongeSumsRow, standIns := [], harness := (true, "61dec8a95d45e6b6868d957416c283ac2aac3f2f7edc31fb2634f663520bf00b"), looks := false }, kinds := [], alts := [], laidByText := true, laidKinds := [.data, .data], laidTests := true, laidLooks := .later }
def SpongeSumsCardSaid : Prop := Claim7.holds Tryd.pinned (.plain (OpenSpec.ofChange spongeSumsSpec)) spongeSumsCard

/-- THE TIED CARD OF 'vouchlaw2.SpongeFolds'. -/
def spongeFoldsCard : Claim7 := { stood := { row := spongeFoldsRow, standIns := [], harness := (true, "61dec8a95d45e6b6868d957416c283ac2aac3f2f7edc31fb2634f663520bf00b"), looks := false }, kinds := [], alts := [], laidByText := true, laidKinds := [.data, .data], laidTests := true, laidLooks := .later }
def SpongeFoldsCardSaid : Prop := Claim7.holds Tryd.pinned (.plain (OpenSpec.ofChange spongeFoldsSpec)) spongeFoldsCard

/-- THE TIED CARD OF 'vouchlaw2.SpongeBack'. -/
def spongeBackCard : Claim7 := { stood := { row := spongeBackRow, standIns := [], harness := (true, "61dec8a95d45e6b6868d957416c283ac2aac3f2f7edc31fb2634f663520bf00b"), looks := false }, kinds := [], alts := [], laidByText := true, laidKinds := [.data, .data], laidTests := true, laidLooks := .later }
def SpongeBackCardSaid : Prop := Claim7.holds Tryd.pinned (.plain (OpenSpec.ofChange spongeBackSpec)) spongeBackCard

/-- THE TIED CARD OF 'vouchlaw2.SpongeMany'. -/
def spongeManyCard : Claim7 := { stood := { row := spongeManyRow, standIns := [], harness := (true, "61dec8a95d45e6b6868d957416c283ac2aac3f2f7edc31fb2634f663520bf00b"), looks := false }, kinds := [], alts := [], laidByText := true, laidKinds := [.data, .data], laidTests := true, laidLooks := .later }
def SpongeManyCardSaid : Prop := Claim7.holds Tryd.pinned (.plain (OpenSpec.ofChange spongeManySpec)) spongeManyCard

/-- THE TIED CARD OF 'vouchlaw2.SpongeKnown'. -/
def spongeKnownCard : Claim7 := { stood := { row := spongeKnownRow, standIns := [], harness := (true, "61dec8a95d45e6b6868d957416c283ac2aac3f2f7edc31fb2634f663520bf00b"), looks := false }, kinds := [], alts := [], laidByText := true, laidKinds := [.data, .data], laidTests := true, laidLooks := .later }
def SpongeKnownCardSaid : Prop := Claim7.holds Tryd.pinned (.plain (OpenSpec.ofChange spongeKnownSpec)) spongeKnownCard

/-- THE TIED CARD OF 'vouchlaw2.SpongeCuts'. -/
def spongeCutsCard : Claim7 := { stood := { row := spongeCutsRow, standIns := [], harness := (true, "61dec8a95d45e6b6868d957416c283ac2aac3f2f7edc31fb2634f663520bf00b"), looks := false }, kinds := [], alts := [], laidByText := true, laidKinds := [.data, .data], laidTests := true, laidLooks := .later }
def SpongeCutsCardSaid : Prop := Claim7.holds Tryd.pinned (.plain (OpenSpec.ofChange spongeCutsSpec)) spongeCutsCard

/-- THE SECOND FORM's CARD OF 'vouchlaw2.SpongePermutes'. -/
def spongePermutesUptoCard : Claim7 := { stood := { row := spongePermutesUptoRow, standIns := [], harness := (true, "61dec8a95d45e6b6868d957416c283ac2aac3f2f7edc31fb2634f663520bf00b"), looks := false }, kinds := [], alts := [], laidByText := true, laidKinds := [.data, .data], laidTests := true, laidLooks := .later }
def SpongePermutesUptoCardSaid : Prop := Claim7.holds Tryd.pinned (.plain (OpenSpec.upto spongePermutesSpec)) spongePermutesUptoCard

/-- THE SECOND FORM's CARD OF 'vouchlaw2.SpongePlays'. -/
def spongePlaysUptoCard : Claim7 := { stood := { row := spongePlaysUptoRow, standIns := [], harness := (true, "61dec8a95d45e6b6868d957416c283ac2aac3f2f7edc31fb2634f663520bf00b"), looks := false }, kinds := [], alts := [], laidByText := true, laidKinds := [.data, .data], laidTests := true, laidLooks := .later }
def SpongePlaysUptoCardSaid : Prop := Claim7.holds Tryd.pinned (.plain (OpenSpec.upto spongePlaysSpec)) spongePlaysUptoCard

/-- THE SECOND FORM's CARD OF 'vouchlaw2.SpongeSums'. -/
def spongeSumsUptoCard : Claim7 := { stood := { row := spongeSumsUptoRow, standIns := [], harness := (true, "61dec8a95d45e6b6868d957416c283ac2aac3f2f7edc31fb2634f663520bf00b"), looks := false }, kinds := [], alts := [], laidByText := true, laidKinds := [.data, .data], laidTests := true, laidLooks := .later }
def SpongeSumsUptoCardSaid : Prop := Claim7.holds Tryd.pinned (.plain (OpenSpec.upto spongeSumsSpec)) spongeSumsUptoCard

/-- THE SECOND FORM's CARD OF 'vouchlaw2.SpongeFolds'. -/
def spongeFoldsUptoCard : Claim7 := { stood := { row := spongeFoldsUptoRow, standIns := [], harness := (true, "61dec8a95d45e6b6868d957416c283ac2aac3f2f7edc31fb2634f663520bf00b"), looks := false }, kinds := [], alts := [], laidByText := true, laidKinds := [.data, .data], laidTests := true, laidLooks := .later }
def SpongeFoldsUptoCardSaid : Prop := Claim7.holds Tryd.pinned (.plain (OpenSpec.upto spongeFoldsSpec)) spongeFoldsUptoCard

/-- THE SECOND FORM's CARD OF 'vouchlaw2.SpongeBack'. -/
def spongeBackUptoCard : Claim7 := { stood := { row := spongeBackUptoRow, standIns := [], harness := (true, "61dec8a95d45e6b6868d957416c283ac2aac3f2f7edc31fb2634f663520bf00b"), looks := false }, kinds := [], alts := [], laidByText := true, laidKinds := [.data, .data], laidTests := true, laidLooks := .later }
def SpongeBackUptoCardSaid : Prop := Claim7.holds Tryd.pinned (.plain (OpenSpec.upto spongeBackSpec)) spongeBackUptoCard

/-- THE SECOND FORM's CARD OF 'vouchlaw2.SpongeMany'. -/
def spongeManyUptoCard : Claim7 := { stood := { row := spongeManyUptoRow, standIns := [], harness := (true, "61dec8a95d45e6b6868d957416c283ac2aac3f2f7edc31fb2634f663520bf00b"), looks := false }, kinds := [], alts := [], laidByText := true, laidKinds := [.data, .data], laidTests := true, laidLooks := .later }
def SpongeManyUptoCardSaid : Prop := Claim7.holds Tryd.pinned (.plain (OpenSpec.upto spongeManySpec)) spongeManyUptoCard

/-- THE SECOND FORM's CARD OF 'vouchlaw2.SpongeKnown'. -/
def spongeKnownUptoCard : Claim7 := { stood := { row := spongeKnownUptoRow, standIns := [], harness := (true, "61dec8a95d45e6b6868d957416c283ac2aac3f2f7edc31fb2634f663520bf00b"), looks := false }, kinds := [], alts := [], laidByText := true, laidKinds := [.data, .data], laidTests := true, laidLooks := .later }
def SpongeKnownUptoCardSaid : Prop := Claim7.holds Tryd.pinned (.plain (OpenSpec.upto spongeKnownSpec)) spongeKnownUptoCard

/-- THE SECOND FORM's CARD OF 'vouchlaw2.SpongeCuts'. -/
def spongeCutsUptoCard : Claim7 := { stood := { row := spongeCutsUptoRow, standIns := [], harness := (true, "61dec8a95d45e6b6868d957416c283ac2aac3f2f7edc31fb2634f663520bf00b"), looks := false }, kinds := [], alts := [], laidByText := true, laidKinds := [.data, .data], laidTests := true, laidLooks := .later }
def SpongeCutsUptoCardSaid : Prop := Claim7.holds Tryd.pinned (.plain (OpenSpec.upto spongeCutsSpec)) spongeCutsUptoCard
end Rows
end Go.Proofs.YtfidjeoeaeghhaaDoor
