/- sponge.bent: what it answers: every lane with what its two neighbours in the row say laid on it. -/
import Derived.Test.YtfidjeoeaeghhaaDoorSpMoved
namespace Go.Proofs.YtfidjeoeaeghhaaDoor
open Go.RowKit
def bentS (A : Nat → BitVec 64) (i : Nat) : BitVec 64 := A i ^^^ (A (i - i % 5 + (i + 2) % 5) &&& ~~~ A (i - i % 5 + (i + 1) % 5))
theorem rowf (k c : Nat) (C : Int) (hC : C = c) (hk : k < 25) :
    IntKind.i64.wrap ((k : Int) - (k : Int) % 5 + ((k : Int) + C) % 5) = (k : Int) - (k : Int) % 5 + ((k : Int) + C) % 5 ∧ (0 : Int) ≤ (k : Int) - (k : Int) % 5 + ((k : Int) + C) % 5 ∧
    ((k : Int) - (k : Int) % 5 + ((k : Int) + C) % 5).toNat = k - k % 5 + (k + c) % 5 ∧ (k : Int) - (k : Int) % 5 + ((k : Int) + C) % 5 < 25 := by
  subst hC
  have h : (k : Int) - (k : Int) % 5 + ((k : Int) + c) % 5 = ((k - k % 5 + (k + c) % 5 : Nat) : Int) := by omega
  have h2 : k - k % 5 + (k + c) % 5 < 25 := by omega
  rw [h]
  exact ⟨IntWalk.i64_in _ (by omega), by omega, by omega, by omega⟩
set_option maxHeartbeats 1000000 in
theorem bent_calls (A : Nat → BitVec 64) (w : World) :
    Calls Tryd.prog 30 #[.agg (tab 25 (lanes A))] w fun e w' => e = .returned (.agg (tab 25 (lanes (bentS A)))) ∧ Below w.heap.size w w' := by
  have hT : Blk (((w.alloc (.cells (tab 25 (lanes A)) 23)).alloc (.cells (tab 25 fun _ => .int .u64 0) 23)).alloc (.cells (tab 25 fun _ => .int .u64 0) 23)) (w.heap.size + 1 + 1) 23 (tab 25 fun _ => .int .u64 0) := Blk.new' _ _ _ (by simp)
  have HT := Lib.hid hT
  clear hT
  go_enter Tryd.func30, Tryd.ntmps30
  go_wp2_with (first
     | (refine wpL_load rfl 23 (.tmp 1) rfl (n := 25) 0 rfl _ ((Blk.new w _ _).alloc _) (by omega) Tryd.underlying23 rfl (by kernel_rfl) ?_)
     | (refine wpL_store rfl 23 (.tmp 3) (.tmp 6) rfl 0 rfl rfl HT.out (by omega) (by kernel_rfl) (fun _ => rfl) ?_))
  go_loopw [7] (fun i wr => ∃ k : Nat, k ≤ 25 ∧ i = .int .i64 k ∧ Blk wr w.heap.size 23 (tab 25 (lanes A)) ∧ Blk wr (w.heap.size + 1 + 1) 23 (tab 25 (lanes fun j => if j < k then bentS A j else A j)) ∧ Below w.heap.size w wr ∧ ∃ V, Blk wr (w.heap.size + 1) 23 (tab 25 V)) (fun i _ => 25 - (intOf i).toNat)
  case atStart =>
    refine ⟨0, by omega, rfl, ?_, ?_, ?_, ⟨fun _ => .int .u64 0, ?_⟩⟩
    · exact (((Blk.new w _ _).alloc _).alloc _).setRow_far (by omega)
    · exact HT.out.setRow.same ((over_whole _ _ _).trans (tab_congr fun i _ => by simp [lanes]))
    · exact below_setRow ((((Below.refl _ _).alloc (Nat.le_refl _) _).alloc (by simp) _).alloc (by simp; omega) _) (by omega) _
    · exact ((Blk.new' _ _ _ (by simp)).alloc _).setRow_far (by omega)
  case round =>
    obtain ⟨k, hk, rfl, hA, hC, hB, V, hV⟩ := hrel
    by_cases hlt : k < 25
    · have h0 := hC.lane k (by omega)
      rw [if_neg (by omega)] at h0
      have h1 := hA.lane (k - k % 5 + (k + 2) % 5) (by omega)
      have h2 := hA.lane (k - k % 5 + (k + 1) % 5) (by omega)
      have h6 := hC.frozen k
      have b0 : (k : Int) < 25 := by omega
      obtain ⟨e1, n1, t1, l1⟩ := sumf k 2 30 2 30 rfl rfl (by omega) (by omega)
      obtain ⟨e2, n2, t2, l2⟩ := sumf k 1 30 1 30 rfl rfl (by omega) (by omega)
      obtain ⟨r1, n3, t3, l3⟩ := remf k 2 5 2 5 rfl rfl (by omega)
      obtain ⟨r2, n4, t4, l4⟩ := remf k 1 5 1 5 rfl rfl (by omega)
      obtain ⟨e5, n5, t5, l5⟩ := rowf k 2 2 rfl hlt
      obtain ⟨e6, n6, t6, l6⟩ := rowf k 1 1 rfl hlt
      have HA := Lib.hid hA
      have HC := Lib.hid hC
      have HV := Lib.hid hV
      have HB := Lib.hid hB
      clear hA hC hV hB
      go_wp2_with fail
      go_still_tail 20, (by kernel_rfl)
      change wpList _ _ _ _ _ wr.drew
      clear e1 n1 t1 l1 e2 n2 t2 l2 r1 n3 t3 l3 r2 n4 t4 l4 e5 n5 t5 l5 e6 n6 t6 l6 h1 h2
      go_wp2_with fail
      go_roundw
      case rel =>
        refine ⟨k + 1, by omega, by go_num, (HA.out.far (by simp; omega) _).drew, ?_, (HB.out.setCell (by simp; omega) _).drew, V, (HV.out.far (by simp) _).drew⟩
        refine (HC.out.putLane k _).drew.same (tab_congr fun i hi => ?_)
        show lanes _ i = lanes _ i
        unfold lanes upd bentS
        by_cases h : i = k
        · subst h; simp
        · by_cases h' : i < k
          · simp [h, h', show i < k + 1 by omega]
          · simp [h, h', show ¬ i < k + 1 by omega]
      case measure => simp [intOf]; omega
    · have HA := Lib.hid (hC.same (tab_congr (T := lanes (bentS A)) fun i hi => by simp [lanes, show i < k by omega]))
      have HV := Lib.hid hV
      clear hA hC hV
      go_wp2_with (first
        | (refine wpL_load rfl 23 (.tmp 3) rfl (n := 25) 0 rfl _ HA.out (by omega) Tryd.underlying23 rfl (by kernel_rfl) ?_)
        | (refine wpL_store rfl 23 (.tmp 2) (.tmp 35) rfl 0 rfl rfl HV.out (by omega) (by kernel_rfl) (fun _ => rfl) ?_))
      refine ret_cell rfl rfl _ (HV.out.setRow.same ?_) Tryd.underlying23 rfl (by kernel_rfl) rfl ⟨rfl, below_setRow hB (by omega) _⟩
      rw [over_whole]
      exact tab_congr fun i _ => by simp
end Go.Proofs.YtfidjeoeaeghhaaDoor
