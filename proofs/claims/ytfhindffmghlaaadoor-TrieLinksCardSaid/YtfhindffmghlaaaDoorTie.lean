/-
  DERIVED. GIVEN WITH THE SEED: THE PROGRAM's TIES (one call each: nine closed facts by the kernel) AND EACH ROW's TIE, after the 31st guide's Derived/Test/Toyas{Tie, Card}.lean. No idea stands in it: it is a product of the set-up. Laid BY PROGRAM, IN A SANDBOX (cutbox-door.mjs). By AI agents, Wed Nov 11 2026. No macro, syntax, notation, axiom, sorry.
-/
import Derived.Test.YtfhindffmghlaaaDoorRows
import Derived.LaidByTextLater
import Derived.SevenTiedAt
import Derived.LaidSub
import Derived.LaidOnce
namespace Go.Proofs.YtfhindffmghlaaaDoor
open Go
set_option maxRecDepth 100000
theorem seatTie1 : Tryd.prog.laidByTextLater [("vouch/sponge.turns", Rows.laid_vouch_sponge_turns), ("vouch/sponge.marks", Rows.laid_vouch_sponge_marks), ("vouch/trie.errMissing", Rows.laid_vouch_trie_errMissing), ("vouch/trie.errHash", Rows.laid_vouch_trie_errHash), ("vouch/trie.errShape", Rows.laid_vouch_trie_errShape)] [.data, .data, .sentinel, .sentinel, .sentinel] true :=
  Program.laidByTextLater_by_one 76 8 26 (by kernel_rfl) (by kernel_rfl) (by kernel_rfl) (by kernel_rfl) (by kernel_rfl) (by kernel_rfl) (fun _ _ => by kernel_rfl)
theorem noOwnUnsafe : Tryd.pinned.checked.prog.headLifts.contains "ownunsafe" = false := by kernel_rfl
theorem tie : Tryd.prog.laidByTextLater [("vouch/sponge.turns", Rows.laid_vouch_sponge_turns), ("vouch/sponge.marks", Rows.laid_vouch_sponge_marks), ("vouch/trie.errMissing", Rows.laid_vouch_trie_errMissing), ("vouch/trie.errHash", Rows.laid_vouch_trie_errHash), ("vouch/trie.errShape", Rows.laid_vouch_trie_errShape)] [.data, .data, .sentinel, .sentinel, .sentinel] true :=
  Program.laidByTextLater.sub seatTie1 ["vouch/sponge.turns", "vouch/sponge.marks", "vouch/trie.errMissing", "vouch/trie.errHash", "vouch/trie.errShape"] (by kernel_rfl) (by kernel_rfl)
theorem trieChecks_row_tie : Rows.trieChecksRow.laidByTextAt .later Tryd.pinned [.data, .data, .sentinel, .sentinel, .sentinel] true :=
  OpenClaim.laidByTextAt_later rfl rfl tie noOwnUnsafe
theorem trieLinks_row_tie : Rows.trieLinksRow.laidByTextAt .later Tryd.pinned [.data, .data, .sentinel, .sentinel, .sentinel] true :=
  OpenClaim.laidByTextAt_later rfl rfl tie noOwnUnsafe
theorem trieProves_row_tie : Rows.trieProvesRow.laidByTextAt .later Tryd.pinned [.data, .data, .sentinel, .sentinel, .sentinel] true :=
  OpenClaim.laidByTextAt_later rfl rfl tie noOwnUnsafe
theorem trieSound_row_tie : Rows.trieSoundRow.laidByTextAt .later Tryd.pinned [.data, .data, .sentinel, .sentinel, .sentinel] true :=
  OpenClaim.laidByTextAt_later rfl rfl tie noOwnUnsafe
theorem trieTurned_row_tie : Rows.trieTurnedRow.laidByTextAt .later Tryd.pinned [.data, .data, .sentinel, .sentinel, .sentinel] true :=
  OpenClaim.laidByTextAt_later rfl rfl tie noOwnUnsafe
theorem trieSame_row_tie : Rows.trieSameRow.laidByTextAt .later Tryd.pinned [.data, .data, .sentinel, .sentinel, .sentinel] true :=
  OpenClaim.laidByTextAt_later rfl rfl tie noOwnUnsafe
theorem trieHangs_row_tie : Rows.trieHangsRow.laidByTextAt .later Tryd.pinned [.data, .data, .sentinel, .sentinel, .sentinel] true :=
  OpenClaim.laidByTextAt_later rfl rfl tie noOwnUnsafe
theorem trieKeeps_row_tie : Rows.trieKeepsRow.laidByTextAt .later Tryd.pinned [.data, .data, .sentinel, .sentinel, .sentinel] true :=
  OpenClaim.laidByTextAt_later rfl rfl tie noOwnUnsafe
theorem triePlays_row_tie : Rows.triePlaysRow.laidByTextAt .later Tryd.pinned [.data, .data, .sentinel, .sentinel, .sentinel] true :=
  OpenClaim.laidByTextAt_later rfl rfl tie noOwnUnsafe
theorem trieOrder_row_tie : Rows.trieOrderRow.laidByTextAt .later Tryd.pinned [.data, .data, .sentinel, .sentinel, .sentinel] true :=
  OpenClaim.laidByTextAt_later rfl rfl tie noOwnUnsafe
theorem trieFresh_row_tie : Rows.trieFreshRow.laidByTextAt .later Tryd.pinned [.data, .data, .sentinel, .sentinel, .sentinel] true :=
  OpenClaim.laidByTextAt_later rfl rfl tie noOwnUnsafe
theorem trieOf_row_tie : Rows.trieOfRow.laidByTextAt .later Tryd.pinned [.data, .data, .sentinel, .sentinel, .sentinel] true :=
  OpenClaim.laidByTextAt_later rfl rfl tie noOwnUnsafe
theorem trieChecksUpto_row_tie : Rows.trieChecksUptoRow.laidByTextAt .later Tryd.pinned [.data, .data, .sentinel, .sentinel, .sentinel] true :=
  OpenClaim.laidByTextAt_later rfl rfl tie noOwnUnsafe
theorem trieLinksUpto_row_tie : Rows.trieLinksUptoRow.laidByTextAt .later Tryd.pinned [.data, .data, .sentinel, .sentinel, .sentinel] true :=
  OpenClaim.laidByTextAt_later rfl rfl tie noOwnUnsafe
theorem trieProvesUpto_row_tie : Rows.trieProvesUptoRow.laidByTextAt .later Tryd.pinned [.data, .data, .sentinel, .sentinel, .sentinel] true :=
  OpenClaim.laidByTextAt_later rfl rfl tie noOwnUnsafe
theorem trieSoundUpto_row_tie : Rows.trieSoundUptoRow.laidByTextAt .later Tryd.pinned [.data, .data, .sentinel, .sentinel, .sentinel] true :=
  OpenClaim.laidByTextAt_later rfl rfl tie noOwnUnsafe
theorem trieTurnedUpto_row_tie : Rows.trieTurnedUptoRow.laidByTextAt .later Tryd.pinned [.data, .data, .sentinel, .sentinel, .sentinel] true :=
  OpenClaim.laidByTextAt_later rfl rfl tie noOwnUnsafe
theorem trieSameUpto_row_tie : Rows.trieSameUptoRow.laidByTextAt .later Tryd.pinned [.data, .data, .sentinel, .sentinel, .sentinel] true :=
  OpenClaim.laidByTextAt_later rfl rfl tie noOwnUnsafe
theorem trieHangsUpto_row_tie : Rows.trieHangsUptoRow.laidByTextAt .later Tryd.pinned [.data, .data, .sentinel, .sentinel, .sentinel] true :=
  OpenClaim.laidByTextAt_later rfl rfl tie noOwnUnsafe
theorem trieKeepsUpto_row_tie : Rows.trieKeepsUptoRow.laidByTextAt .later Tryd.pinned [.data, .data, .sentinel, .sentinel, .sentinel] true :=
  OpenClaim.laidByTextAt_later rfl rfl tie noOwnUnsafe
theorem triePlaysUpto_row_tie : Rows.triePlaysUptoRow.laidByTextAt .later Tryd.pinned [.data, .data, .sentinel, .sentinel, .sentinel] true :=
  OpenClaim.laidByTextAt_later rfl rfl tie noOwnUnsafe
theorem trieOrderUpto_row_tie : Rows.trieOrderUptoRow.laidByTextAt .later Tryd.pinned [.data, .data, .sentinel, .sentinel, .sentinel] true :=
  OpenClaim.laidByTextAt_later rfl rfl tie noOwnUnsafe
theorem trieFreshUpto_row_tie : Rows.trieFreshUptoRow.laidByTextAt .later Tryd.pinned [.data, .data, .sentinel, .sentinel, .sentinel] true :=
  OpenClaim.laidByTextAt_later rfl rfl tie noOwnUnsafe
theorem trieOfUpto_row_tie : Rows.trieOfUptoRow.laidByTextAt .later Tryd.pinned [.data, .data, .sentinel, .sentinel, .sentinel] true :=
  OpenClaim.laidByTextAt_later rfl rfl tie noOwnUnsafe
end Go.Proofs.YtfhindffmghlaaaDoor
