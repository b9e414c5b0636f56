/-
  DERIVED. GIVEN WITH THE SEED: THE CARDS: each row of YtnghneoggiolgaaDoorRows.lean that lists a variable, with what it lists TIED to the program's text (the seventh form; the later family's looks); each row that meets fmt, with fmt's text TOLD by the authors' own Lean function (tested against real Go, not proved from fmt's source: count such statements apart). THE CARD IS WHAT COUNTS. Prove the row's statement (the work); the ties are given (YtnghneoggiolgaaDoorTie.lean); close each card by the builder's one call (the guide's Derived/Test/ToyasCard.lean, 'card_holds'). Laid BY PROGRAM, IN A SANDBOX (cutbox-door.mjs). By AI agents, Wed Nov 11 2026. No macro, syntax, notation, axiom, sorry.
-/
import Derived.Test.YtnghneoggiolgaaDoorRows
import GoSem.ClaimSeven
namespace Go.Proofs.YtnghneoggiolgaaDoor
namespace Rows

/-- THE TIED CARD OF 'vouchlaw25.RlpNumbers'. -/
def rlpNumbersCard : Claim7 := { stood := { row := rlpNumbersRow, standIns := [], harness := (true, "0d5fcb2dacd2627385597f4f8682e01c213b76d9c41560d4420e62c2fd991688"), looks := false }, kinds := [], alts := [], laidByText := true, laidKinds := [.data, .pinned], laidTests := true, laidLooks := .later }
def RlpNumbersCardSaid : Prop := Claim7.holds Tryd.pinned (.plain (OpenSpec.ofChange rlpNumbersSpec)) rlpNumbersCard

/-- THE TIED CARD OF 'vouchlaw25.RlpParts'. -/
def rlpPartsCard : Claim7 := { stood := { row := rlpPartsRow, standIns := [], harness := (true, "0d5fcb2dacd2627385597f4f8682e01c213b76d9c41560d4420e62c2fd991688"), looks := false }, kinds := [], alts := [], laidByText := true, laidKinds := [.data, .pinned], laidTests := true, laidLooks := .later }
def RlpPartsCardSaid : Prop := Claim7.holds Tryd.pinned (.plain (OpenSpec.ofChange rlpPartsSpec)) rlpPartsCard

/-- THE TIED CARD OF 'vouchlaw25.RlpFresh'. -/
def rlpFreshCard : Claim7 := { stood := { row := rlpFreshRow, standIns := [], harness := (true, "0d5fcb2dacd2627385597f4f8682e01c213b76d9c41560d4420e62c2fd991688"), looks := false }, kinds := [], alts := [], laidByText := true, laidKinds := [.data, .pinned], laidTests := true, laidLooks := .later }
def RlpFreshCardSaid : Prop := Claim7.holds Tryd.pinned (.plain (OpenSpec.ofChange rlpFreshSpec)) rlpFreshCard

/-- THE SECOND FORM's CARD OF 'vouchlaw25.RlpNumbers'. -/
def rlpNumbersUptoCard : Claim7 := { stood := { row := rlpNumbersUptoRow, standIns := [], harness := (true, "0d5fcb2dacd2627385597f4f8682e01c213b76d9c41560d4420e62c2fd991688"), looks := false }, kinds := [], alts := [], laidByText := true, laidKinds := [.data, .pinned], laidTests := true, laidLooks := .later }
def RlpNumbersUptoCardSaid : Prop := Claim7.holds Tryd.pinned (.plain (OpenSpec.upto rlpNumbersSpec)) rlpNumbersUptoCard

/-- THE SECOND FORM's CARD OF 'vouchlaw25.RlpParts'. -/
def rlpPartsUptoCard : Claim7 := { stood := { row := rlpPartsUptoRow, standIns := [], harness := (true, "0d5fcb2dacd2627385597f4f8682e01c213b76d9c41560d4420e62c2fd991688"), looks := false }, kinds := [], alts := [], laidByText := true, laidKinds := [.data, .pinned], laidTests := true, laidLooks := .later }
def RlpPartsUptoCardSaid : Prop := Claim7.holds Tryd.pinned (.plain (OpenSpec.upto rlpPartsSpec)) rlpPartsUptoCard

/-- THE SECOND FORM's CARD OF 'vouchlaw25.RlpFresh'. -/
def rlpFreshUptoCard : Claim7 := { stood := { row := rlpFreshUptoRow, standIns := [], harness := (true, "0d5fcb2dacd2627385597f4f8682e01c213b76d9c41560d4420e62c2fd991688"), looks := false }, kinds := [], alts := [], laidByText := true, laidKinds := [.data, .pinned], laidTests := true, laidLooks := .later }
def RlpFreshUptoCardSaid : Prop := Claim7.holds Tryd.pinned (.plain (OpenSpec.upto rlpFreshSpec)) rlpFreshUptoCard
end Rows
end Go.Proofs.YtnghneoggiolgaaDoor
