/- The program's Bytes of a word. -/
import Derived.Test.YtnghneoggiolgaaDoorRWordP
namespace Go.Proofs.YtnghneoggiolgaaDoor
open Go.RowKit
set_option maxHeartbeats 1000000 in
theorem wordBytes_calls (S : Nat → BitVec 64) (w : World) : Calls Tryd.prog 23 #[.agg (tab 4 (lanes S))] w fun e w' => e = .returned (.agg (tab 32 (hashV (wordS S)))) ∧ Below w.heap.size w w' := by
  go_enter Tryd.func23, Tryd.ntmps23
  go_wp2_with (refine wpL_alloc rfl 50 rfl (tab 32 fun _ => .int .u8 0) (by kernel_rfl) ?_)
  go_loopw [6] (fun i wr => ∃ k : Nat, k ≤ 32 ∧ i = .int .i64 k ∧ Below w.heap.size w wr ∧ Blk wr w.heap.size 24 (tab 4 (lanes S)) ∧ Blk wr (w.heap.size + 1) 50 (tab 32 fun _ => .int .u8 0) ∧
      Blk wr (w.heap.size + 1 + 1) 50 (tab 32 (hashV fun j => if j < k then wordS S j else 0))) (fun i _ => 32 - (intOf i).toNat)
  case atStart => exact ⟨0, by omega, rfl, (((Below.refl w.heap.size w).alloc (Nat.le_refl _) _).alloc (by simp) _).alloc (by simp; omega) _, ((Blk.new w _ _).alloc _).alloc _, (Blk.new' _ _ _ (by simp)).alloc _, (Blk.new' _ _ _ (by simp)).same (tab_congr fun i _ => by simp [hashV, by8])⟩
  case round =>
    obtain ⟨k, hk, rfl, hB, hX, hR, hH⟩ := hrel
    have HB := Lib.hid hB
    have HX := Lib.hid hX
    have HR := Lib.hid hR
    have HH := Lib.hid hH
    clear hB hX hR hH
    by_cases hlt : k < 32
    · have dk : decide ((k : Int) < 32) = true := by simp; omega
      have lk : (k : Int) < 32 := by omega
      obtain ⟨q, hq⟩ : ∃ q : Nat, (31 : Int) - (k : Int) = (q : Int) := ⟨31 - k, by omega⟩
      have hq31 : q ≤ 31 := by omega
      have hqk : 31 - k = q := by omega
      have HQ := Lib.hid hqk
      clear hqk
      have c1 := HX.out.lane (q / 8) (by omega)
      have c2 := HH.out.at_ k hlt
      have f2 := HH.out.frozen k
      have n3 : (0 : Int) ≤ (q : Int) % 8 * 8 := by omega
      have l3 : (q : Int) % 8 * 8 ≤ 64 := by omega
      have t3 : ((q : Int) % 8 * 8).toNat = q % 8 * 8 := by omega
      go_wp2_with fail
      refine ⟨⟨k + 1, by omega, by go_num, HB.out.setCell (by simp; omega) _, HX.out.far (by simp; omega) _, HR.out.far (by simp) _, ?_⟩, by simp [intOf]; omega⟩
      refine (HH.out.put k _).same ?_
      rw [hashV_upd]
      refine tab_congr fun i _ => ?_
      unfold hashV upd
      by_cases h : i = k
      · subst h; simp [wordS, HQ.out]
      · by_cases h' : i < k
        · simp [h, h', show i < k + 1 by omega]
        · simp [h, h', show ¬ i < k + 1 by omega]
    · have dk : decide ((k : Int) < 32) = false := by simp; omega
      have HF := Lib.hid (HH.out.same (tab_congr (T := hashV (wordS S)) fun i hi => by simp [hashV, show i < k by omega]))
      go_wp2_with (first
        | (refine wpL_load rfl 50 (.tmp 3) rfl (n := 32) 0 rfl _ HF.out (by omega) Tryd.underlying50 rfl (by kernel_rfl) ?_)
        | (refine wpL_store rfl 50 (.tmp 2) (.tmp 23) rfl 0 rfl rfl HR.out (by omega) (by kernel_rfl) (fun _ => rfl) ?_))
      refine ret_cell rfl rfl _ (HR.out.setRow.same ?_) Tryd.underlying50 rfl (by kernel_rfl) rfl ⟨rfl, below_setRow HB.out (by omega) _⟩
      rw [over_whole]
      exact tab_congr fun i _ => by simp
end Go.Proofs.YtnghneoggiolgaaDoor
