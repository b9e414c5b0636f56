/- sponge.moved: what it answers: every lane turned and at its place. -/
import Derived.Test.YtfidjeoeaeghhaaDoorSpSpread
namespace Go.Proofs.YtfidjeoeaeghhaaDoor
open Go.RowKit
def turnsN : Nat → Nat := fun i => [0, 1, 62, 28, 27, 36, 44, 6, 55, 20, 3, 10, 43, 25, 39, 41, 45, 15, 21, 8, 18, 2, 61, 56, 14].getD i 0
def dest (i : Nat) : Nat := i / 5 + 5 * ((2 * (i % 5) + 3 * (i / 5)) % 5)
def src (j : Nat) : Nat := (3 * (j / 5) + j % 5) % 5 + 5 * (j % 5)
def movedS (A : Nat → BitVec 64) (j : Nat) : BitVec 64 := (A (src j)).rotateLeft (turnsN (src j))
theorem turnsN_lt (i : Nat) : turnsN i < 64 := by
  by_cases h : i < 25
  · have : ∀ i : Fin 25, turnsN i.val < 64 := by decide
    exact this ⟨i, h⟩
  · unfold turnsN
    simp [show ¬ i < 25 by omega, List.getD]
theorem dest_src (j : Nat) (h : j < 25) : dest (src j) = j ∧ src j < 25 := by
  have : ∀ j : Fin 25, dest (src j.val) = j.val ∧ src j.val < 25 := by decide
  exact this ⟨j, h⟩
theorem src_dest (j : Nat) (h : j < 25) : src (dest j) = j ∧ dest j < 25 := by
  have : ∀ j : Fin 25, src (dest j.val) = j.val ∧ dest j.val < 25 := by decide
  exact this ⟨j, h⟩
/-- The cells of a block, as far as they are read. -/
def Holds (w : World) (g n : Nat) (V : Nat → Value) : Prop := ∀ i, i < n → w.cell? ⟨g, i, none⟩ = some (V i)
theorem Holds.below {B : Nat} {w w' : World} {g n : Nat} {V : Nat → Value} (h : Holds w g n V) (hb : Below B w w') (hg : g < B) : Holds w' g n V :=
  fun i hi => (hb.cell (p := ⟨g, i, none⟩) hg).trans (h i hi)
def turnsV (i : Nat) : Value := .int .i64 (turnsN i : Int)
set_option maxHeartbeats 1000000 in
theorem moved_calls (A : Nat → BitVec 64) (w : World) (hT : Holds w 1 25 turnsV) (hg : 1 < w.heap.size) :
    Calls Tryd.prog 31 #[.agg (tab 25 (lanes A))] w fun e w' => e = .returned (.agg (tab 25 (lanes (movedS A)))) ∧ Below w.heap.size w w' := by
  have HT := Lib.hid hT
  clear hT
  go_enter Tryd.func31, Tryd.ntmps31
  go_wp2_with (first
     | (refine wpL_load rfl 23 (.tmp 1) rfl (n := 25) 0 rfl _ (((Blk.new w _ _).alloc _).alloc _) (by omega) Tryd.underlying23 rfl (by kernel_rfl) ?_))
  go_loopw [9] (fun i wr => ∃ k : Nat, k ≤ 25 ∧ i = .int .i64 k ∧ Blk wr (w.heap.size + 1 + 1) 23 (tab 25 (lanes fun j => if src j < k then movedS A j else 0)) ∧ Below w.heap.size w wr ∧ ∃ V, Blk wr (w.heap.size + 1) 23 (tab 25 V)) (fun i _ => 25 - (intOf i).toNat)
  case atStart =>
    refine ⟨0, by omega, rfl, ?_, ?_, ⟨fun _ => .int .u64 0, ?_⟩⟩
    · exact Blk.new' _ _ _ (by simp)
    · exact (((Below.refl _ _).alloc (Nat.le_refl _) _).alloc (by simp) _).alloc (by simp; omega) _
    · exact (Blk.new' _ _ _ (by simp)).alloc _
  case round =>
    obtain ⟨k, hk, rfl, hC, hB, V, hV⟩ := hrel
    by_cases hlt : k < 25
    · have hx : ∀ W : World, (Instr.index 23 (.agg (tab 25 fun j => lanes A j)) (.int .i64 (k : Int))).run Tryd.prog W = .ok (.int .u64 (u64 (A k))) W :=
        fun W => run_index_tab _ 22 _ Tryd.underlying23 Tryd.underlying22 rfl (by kernel_rfl) _ k hlt W
      have h0 : wr.cell? ⟨1, k, none⟩ = some (.int .i64 (turnsN k : Int)) := (HT.out.below hB hg) k hlt
      have h1 : wr.cell? ⟨w.heap.size + 1 + 1, k / 5 + 5 * ((2 * (k % 5) + 3 * (k / 5)) % 5), none⟩ = _ := hC.lane (dest k) (src_dest k hlt).2
      have h2 : wr.frozen? ⟨w.heap.size + 1 + 1, k / 5 + 5 * ((2 * (k % 5) + 3 * (k / 5)) % 5), none⟩ = _ := hC.frozen (dest k)
      have HC := Lib.hid hC
      have HV := Lib.hid hV
      have HB := Lib.hid hB
      clear hC hV hB
      go_wp2_with (go_at_call 37; refine (rot_calls _ _ (turnsN_lt _) _).mono ?_; rintro e w' ⟨rfl, rfl⟩)
      go_roundw
      case rel =>
        refine ⟨k + 1, by omega, by go_num, ?_, HB.out.setCell (by simp; omega) _, V, HV.out.far (by simp) _⟩
        refine (HC.out.putLane (dest k) _).same (tab_congr fun j hj => ?_)
        show lanes _ j = lanes _ j
        unfold lanes upd
        by_cases h : j = dest k
        · subst h
          simp [(src_dest k hlt).1, movedS]
        · have hne : src j ≠ k := fun e => h (by rw [← e, (dest_src j hj).1])
          by_cases h' : src j < k
          · simp [h, h', show src j < k + 1 by omega]
          · simp [h, h', show ¬ src j < k + 1 by omega]
      case measure => simp [intOf]; omega
    · have HA := Lib.hid (hC.same (tab_congr (T := lanes (movedS A)) fun i hi => by simp [lanes, show src i < k by have := (dest_src i hi).2; omega]))
      have HV := Lib.hid hV
      clear hC hV
      go_wp2_with (first
        | (refine wpL_load rfl 23 (.tmp 3) rfl (n := 25) 0 rfl _ HA.out (by omega) Tryd.underlying23 rfl (by kernel_rfl) ?_)
        | (refine wpL_store rfl 23 (.tmp 2) (.tmp 33) rfl 0 rfl rfl HV.out (by omega) (by kernel_rfl) (fun _ => rfl) ?_))
      refine ret_cell rfl rfl _ (HV.out.setRow.same ?_) Tryd.underlying23 rfl (by kernel_rfl) rfl ⟨rfl, below_setRow hB (by omega) _⟩
      rw [over_whole]
      exact tab_congr fun i _ => by simp
end Go.Proofs.YtfidjeoeaeghhaaDoor
