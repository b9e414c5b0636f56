/-
  DERIVED. GIVEN WITH THE SEED: THE CARDS: each row of YtfhindffmghlaaaDoorRows.lean that lists a variable, with what it lists TIED to the program's text (the seventh form; the later family's looks); each row that meets fmt, with fmt's text TOLD by the authors' own Lean function (tested against real Go, not proved from fmt's source: count such statements apart). THE CARD IS WHAT COUNTS. Prove the row's statement (the work); the ties are given (YtfhindffmghlaaaDoorTie.lean); close each card by the builder's one call (the guide's Derived/Test/ToyasCard.lean, 'card_holds'). Laid BY PROGRAM, IN A SANDBOX (cutbox-door.mjs). By AI agents, Wed Nov 11 2026. No macro, syntax, notation, axiom, sorry.
-/
import Derived.Test.YtfhindffmghlaaaDoorRows
import GoSem.ClaimSeven
namespace Go.Proofs.YtfhindffmghlaaaDoor
namespace Rows

/-- THE TIED CARD OF 'vouchlaw26.TrieChecks'. -/
def trieChecksCard : Claim7 := { stood := { row := trieChecksRow, standIns := [], harness := (true, "ec30def8b2b8a437d7ef0fa14b81e6223ecfebe468af8085b9789efc9ac0fbf0"), looks := false }, kinds := [], alts := [], laidByText := true, laidKinds := [.data, .data, .sentinel, .sentinel, .sentinel], laidTests := true, laidLooks := .later }
def TrieChecksCardSaid : Prop := Claim7.holds Tryd.pinned (.plain (OpenSpec.ofChange trieChecksSpec)) trieChecksCard

/-- THE TIED CARD OF 'vouchlaw26.TrieLinks'. -/
def trieLinksCard : Claim7 := { stood := { row := trieLinksRow, standIns := [], harness := (true, "ec30def8b2b8a437d7ef0fa14b81e6223ecfebe468af8085b9789efc9ac0fbf0"), looks := false }, kinds := [], alts := [], laidByText := true, laidKinds := [.data, .data, .sentinel, .sentinel, .sentinel], laidTests := true, laidLooks := .later }
def TrieLinksCardSaid : Prop := Claim7.holds Tryd.pinned (.plain (OpenSpec.ofChange trieLinksSpec)) trieLinksCard

/-- THE TIED CARD OF 'vouchlaw26.TrieProves'. -/
def trieProvesCard : Claim7 := { stood := { row := trieProvesRow, standIns := [], harness := (true, "ec30def8b2b8a437d7ef0fa14b81e6223ecfebe468af8085b9789efc9ac0fbf0"), looks := false }, kinds := [], alts := [], laidByText := true, laidKinds := [.data, .data, .sentinel, .sentinel, .sentinel], laidTests := true, laidLooks := .later }
def TrieProvesCardSaid : Prop := Claim7.holds Tryd.pinned (.plain (OpenSpec.ofChange trieProvesSpec)) trieProvesCard

/-- THE TIED CARD OF 'vouchlaw26.TrieSound'. -/
def trieSoundCard : Claim7 := { stood := { row := trieSoundRow, standIns := [], harness := (true, "ec30def8b2b8a437d7ef0fa14b81e6223ecfebe468af8085b9789efc9ac0fbf0"), looks := false }, kinds := [], alts := [], laidByText := true, laidKinds := [.data, .data, .sentinel, .sentinel, .sentinel], laidTests := true, laidLooks := .later }
def TrieSoundCardSaid : Prop := Claim7.holds Tryd.pinned (.plain (OpenSpec.ofChange trieSoundSpec)) trieSoundCard

/-- THE TIED CARD OF 'vouchlaw26.TrieTurned'. -/
def trieTurnedCard : Claim7 := { stood := { row := trieTurnedRow, standIns := [], harness := (true, "ec30def8b2b8a437d7ef0fa14b81e6223ecfebe468af8085b9789efc9ac0fbf0"), looks := false }, kinds := [], alts := [], laidByText := true, laidKinds := [.data, .data, .sentinel, .sentinel, .sentinel], laidTests := true, laidLooks := .later }
def TrieTurnedCardSaid : Prop := Claim7.holds Tryd.pinned (.plain (OpenSpec.ofChange trieTurnedSpec)) trieTurnedCard

/-- THE TIED CARD OF 'vouchlaw26.TrieSame'. -/
def trieSameCard : Claim7 := { stood := { row := trieSameRow, standIns := [], harness := (true, "ec30def8b2b8a437d7ef0fa14b81e6223ecfebe468af8085b9789efc9ac0fbf0"), looks := false }, kinds := [], alts := [], laidByText := true, laidKinds := [.data, .data, .sentinel, .sentinel, .sentinel], laidTests := true, laidLooks := .later }
def TrieSameCardSaid : Prop := Claim7.holds Tryd.pinned (.plain (OpenSpec.ofChange trieSameSpec)) trieSameCard

/-- THE TIED CARD OF 'vouchlaw26.TrieHangs'. -/
def trieHangsCard : Claim7 := { stood := { row := trieHangsRow, standIns := [], harness := (true, "ec30def8b2b8a437d7ef0fa14b81e6223ecfebe468af8085b9789efc9ac0fbf0"), looks := false }, kinds := [], alts := [], laidByText := true, laidKinds := [.data, .data, .sentinel, .sentinel, .sentinel], laidTests := true, laidLooks := .later }
def TrieHangsCardSaid : Prop := Claim7.holds Tryd.pinned (.plain (OpenSpec.ofChange trieHangsSpec)) trieHangsCard

/-- THE TIED CARD OF 'vouchlaw26.TrieKeeps'. -/
def trieKeepsCard : Claim7 := { stood := { row := trieKeepsRow, standIns := [], harness := (true, "ec30def8b2b8a437d7ef0fa14b81e6223ecfebe468af8085b9789efc9ac0fbf0"), looks := false }, kinds := [], alts := [], laidByText := true, laidKinds := [.data, .data, .sentinel, .sentinel, .sentinel], laidTests := true, laidLooks := .later }
def TrieKeepsCardSaid : Prop := Claim7.holds Tryd.pinned (.plain (OpenSpec.ofChange trieKeepsSpec)) trieKeepsCard

/-- THE TIED CARD OF 'vouchlaw26.TriePlays'. -/
def triePlaysCard : Claim7 := { stood := { row := triePlaysRow, standIns := [], harness := (true, "ec30def8b2b8a437d7ef0fa14b81e6223ecfebe468af8085b9789efc9ac0fbf0"), looks := false }, kinds := [], alts := [], laidByText := true, laidKinds := [.data, .data, .sentinel, .sentinel, .sentinel], laidTests := true, laidLooks := .later }
def TriePlaysCardSaid : Prop := Claim7.holds Tryd.pinned (.plain (OpenSpec.ofChange triePlaysSpec)) triePlaysCard

/-- THE TIED CARD OF 'vouchlaw26.TrieOrder'. -/
def trieOrderCard : Claim7 := { stood := { row := trieOrderRow, standIns := [], harness := (true, "ec30def8b2b8a437d7ef0fa14b81e6223ecfebe468af8085b9789efc9ac0fbf0"), looks := false }, kinds := [], alts := [], laidByText := true, laidKinds := [.data, .data, .sentinel, .sentinel, .sentinel], laidTests := true, laidLooks := .later }
def TrieOrderCardSaid : Prop := Claim7.holds Tryd.pinned (.plain (OpenSpec.ofChange trieOrderSpec)) trieOrderCard

/-- THE TIED CARD OF 'vouchlaw26.TrieFresh'. -/
def trieFreshCard : Claim7 := { stood := { row := trieFreshRow, standIns := [], harness := (true, "ec30def8b2b8a437d7ef0fa14b81e6223ecfebe468af8085b9789efc9ac0fbf0"), looks := false }, kinds := [], alts := [], laidByText := true, laidKinds := [.data, .data, .sentinel, .sentinel, .sentinel], laidTests := true, laidLooks := .later }
def TrieFreshCardSaid : Prop := Claim7.holds Tryd.pinned (.plain (OpenSpec.ofChange trieFreshSpec)) trieFreshCard

/-- THE TIED CARD OF 'vouchlaw26.TrieOf'. -/
def trieOfCard : Claim7 := { stood := { row := trieOfRow, standIns := [], harness := (true, "ec30def8b2b8a437d7ef0fa14b81e6223ecfebe468af8085b9789efc9ac0fbf0"), looks := false }, kinds := [], alts := [], laidByText := true, laidKinds := [.data, .data, .sentinel, .sentinel, .sentinel], laidTests := true, laidLooks := .later }
def TrieOfCardSaid : Prop := Claim7.holds Tryd.pinned (.plain (OpenSpec.ofChange trieOfSpec)) trieOfCard

/-- THE SECOND FORM's CARD OF 'vouchlaw26.TrieChecks'. -/
def trieChecksUptoCard : Claim7 := { stood := { row := trieChecksUptoRow, standIns := [], harness := (true, "ec30def8b2b8a437d7ef0fa14b81e6223ecfebe468af8085b9789efc9ac0fbf0"), looks := false }, kinds := [], alts := [], laidByText := true, laidKinds := [.data, .data, .sentinel, .sentinel, .sentinel], laidTests := true, laidLooks := .later }
def TrieChecksUptoCardSaid : Prop := Claim7.holds Tryd.pinned (.plain (OpenSpec.upto trieChecksSpec)) trieChecksUptoCard

/-- THE SECOND FORM's CARD OF 'vouchlaw26.TrieLinks'. -/
def trieLinksUptoCard : Claim7 := { stood := { row := trieLinksUptoRow, standIns := [], harness := (true, "ec30def8b2b8a437d7ef0fa14b81e6223ecfebe468af8085b9789efc9ac0fbf0"), looks := false }, kinds := [], alts := [], laidByText := true, laidKinds := [.data, .data, .sentinel, .sentinel, .sentinel], laidTests := true, laidLooks := .later }
def TrieLinksUptoCardSaid : Prop := Claim7.holds Tryd.pinned (.plain (OpenSpec.upto trieLinksSpec)) trieLinksUptoCard

/-- THE SECOND FORM's CARD OF 'vouchlaw26.TrieProves'. -/
def trieProvesUptoCard : Claim7 := { stood := { row := trieProvesUptoRow, standIns := [], harness := (true, "ec30def8b2b8a437d7ef0fa14b81e6223ecfebe468af8085b9789efc9ac0fbf0"), looks := false }, kinds := [], alts := [], laidByText := true, laidKinds := [.data, .data, .sentinel, .sentinel, .sentinel], laidTests := true, laidLooks := .later }
def TrieProvesUptoCardSaid : Prop := Claim7.holds Tryd.pinned (.plain (OpenSpec.upto trieProvesSpec)) trieProvesUptoCard

/-- THE SECOND FORM's CARD OF 'vouchlaw26.TrieSound'. -/
def trieSoundUptoCard : Claim7 := { stood := { row := trieSoundUptoRow, standIns := [], harness := (true, "ec30def8b2b8a437d7ef0fa14b81e6223ecfebe468af8085b9789efc9ac0fbf0"), looks := false }, kinds := [], alts := [], laidByText := true, laidKinds := [.data, .data, .sentinel, .sentinel, .sentinel], laidTests := true, laidLooks := .later }
def TrieSoundUptoCardSaid : Prop := Claim7.holds Tryd.pinned (.plain (OpenSpec.upto trieSoundSpec)) trieSoundUptoCard

/-- THE SECOND FORM's CARD OF 'vouchlaw26.TrieTurned'. -/
def trieTurnedUptoCard : Claim7 := { stood := { row := trieTurnedUptoRow, standIns := [], harness := (true, "ec30def8b2b8a437d7ef0fa14b81e6223ecfebe468af8085b9789efc9ac0fbf0"), looks := false }, kinds := [], alts := [], laidByText := true, laidKinds := [.data, .data, .sentinel, .sentinel, .sentinel], laidTests := true, laidLooks := .later }
def TrieTurnedUptoCardSaid : Prop := Claim7.holds Tryd.pinned (.plain (OpenSpec.upto trieTurnedSpec)) trieTurnedUptoCard

/-- THE SECOND FORM's CARD OF 'vouchlaw26.TrieSame'. -/
def trieSameUptoCard : Claim7 := { stood := { row := trieSameUptoRow, standIns := [], harness := (true, "ec30def8b2b8a437d7ef0fa14b81e6223ecfebe468af8085b9789efc9ac0fbf0"), looks := false }, kinds := [], alts := [], laidByText := true, laidKinds := [.data, .data, .sentinel, .sentinel, .sentinel], laidTests := true, laidLooks := .later }
def TrieSameUptoCardSaid : Prop := Claim7.holds Tryd.pinned (.plain (OpenSpec.upto trieSameSpec)) trieSameUptoCard

/-- THE SECOND FORM's CARD OF 'vouchlaw26.TrieHangs'. -/
def trieHangsUptoCard : Claim7 := { stood := { row := trieHangsUptoRow, standIns := [], harness := (true, "ec30def8b2b8a437d7ef0fa14b81e6223ecfebe468af8085b9789efc9ac0fbf0"), looks := false }, kinds := [], alts := [], laidByText := true, laidKinds := [.data, .data, .sentinel, .sentinel, .sentinel], laidTests := true, laidLooks := .later }
def TrieHangsUptoCardSaid : Prop := Claim7.holds Tryd.pinned (.plain (OpenSpec.upto trieHangsSpec)) trieHangsUptoCard

/-- THE SECOND FORM's CARD OF 'vouchlaw26.TrieKeeps'. -/
def trieKeepsUptoCard : Claim7 := { stood := { row := trieKeepsUptoRow, standIns := [], harness := (true, "ec30def8b2b8a437d7ef0fa14b81e6223ecfebe468af8085b9789efc9ac0fbf0"), looks := false }, kinds := [], alts := [], laidByText := true, laidKinds := [.data, .data, .sentinel, .sentinel, .sentinel], laidTests := true, laidLooks := .later }
def TrieKeepsUptoCardSaid : Prop := Claim7.holds Tryd.pinned (.plain (OpenSpec.upto trieKeepsSpec)) trieKeepsUptoCard

/-- THE SECOND FORM's CARD OF 'vouchlaw26.TriePlays'. -/
def triePlaysUptoCard : Claim7 := { stood := { row := triePlaysUptoRow, standIns := [], harness := (true, "ec30def8b2b8a437d7ef0fa14b81e6223ecfebe468af8085b9789efc9ac0fbf0"), looks := false }, kinds := [], alts := [], laidByText := true, laidKinds := [.data, .data, .sentinel, .sentinel, .sentinel], laidTests := true, laidLooks := .later }
def TriePlaysUptoCardSaid : Prop := Claim7.holds Tryd.pinned (.plain (OpenSpec.upto triePlaysSpec)) triePlaysUptoCard

/-- THE SECOND FORM's CARD OF 'vouchlaw26.TrieOrder'. -/
def trieOrderUptoCard : Claim7 := { stood := { row := trieOrderUptoRow, standIns := [], harness := (true, "ec30def8b2b8a437d7ef0fa14b81e6223ecfebe468af8085b9789efc9ac0fbf0"), looks := false }, kinds := [], alts := [], laidByText := true, laidKinds := [.data, .data, .sentinel, .sentinel, .sentinel], laidTests := true, laidLooks := .later }
def TrieOrderUptoCardSaid : Prop := Claim7.holds Tryd.pinned (.plain (OpenSpec.upto trieOrderSpec)) trieOrderUptoCard

/-- THE SECOND FORM's CARD OF 'vouchlaw26.TrieFresh'. -/
def trieFreshUptoCard : Claim7 := { stood := { row := trieFreshUptoRow, standIns := [], harness := (true, "ec30def8b2b8a437d7ef0fa14b81e6223ecfebe468af8085b9789efc9ac0fbf0"), looks := false }, kinds := [], alts := [], laidByText := true, laidKinds := [.data, .data, .sentinel, .sentinel, .sentinel], laidTests := true, laidLooks := .later }
def TrieFreshUptoCardSaid : Prop := Claim7.holds Tryd.pinned (.plain (OpenSpec.upto trieFreshSpec)) trieFreshUptoCard

/-- THE SECOND FORM's CARD OF 'vouchlaw26.TrieOf'. -/
def trieOfUptoCard : Claim7 := { stood := { row := trieOfUptoRow, standIns := [], harness := (true, "ec30def8b2b8a437d7ef0fa14b81e6223ecfebe468af8085b9789efc9ac0fbf0"), looks := false }, kinds := [], alts := [], laidByText := true, laidKinds := [.data, .data, .sentinel, .sentinel, .sentinel], laidTests := true, laidLooks := .later }
def TrieOfUptoCardSaid : Prop := Claim7.holds Tryd.pinned (.plain (OpenSpec.upto trieOfSpec)) trieOfUptoCard
end Rows
end Go.Proofs.YtfhindffmghlaaaDoor
