/- The document's own sponge: all rounds are what the program's rounds are. -/
import Derived.Test.YtfidjeoeaeghhaaDoorSpRefF
namespace Go.Proofs.YtfidjeoeaeghhaaDoor
open Go.RowKit
set_option maxHeartbeats 1000000 in
set_option maxRecDepth 100000 in
theorem roundsR_calls (A : Nat → BitVec 64) (w : World) :
    Calls Tryd.prog 33 #[.agg (tab 1600 (bitsV A))] w fun e w' => e = .returned (.agg (tab 1600 (bitsV (permS A)))) ∧ Below w.heap.size w w' := by
  go_enter Tryd.func33, Tryd.ntmps33
  go_wp2_with (first
    | (refine wpL_alloc rfl 62 rfl (tab 1600 fun _ => .int .i64 0) (by kernel_rfl) ?_))
  refine (row_calls _).mono ?_
  rintro e w0 ⟨Ar, cr, rfl, hown, hB0⟩
  obtain ⟨g, rfl, hg1, hg2, _⟩ := own_form hown (by omega)
  simp only [size_alloc] at hg1
  have hrow : ∀ j, j < 168 → w0.cell? ⟨g, j, none⟩ = some (num (regF j 0)) := fun j hj => by
    rw [hown.cellAt j (by omega)]
    simp [rowL, hj]
  have hB0' : Below w.heap.size w w0 := (((Below.refl _ _).alloc (Nat.le_refl _) _).alloc (by simp) _).trans (hB0.mono (by simp; omega))
  have HA0 := Lib.hid (((Blk.new w 62 (tab 1600 (bitsV A))).alloc (.cells (tab 1600 fun _ => .int .i64 0) 62)).below hB0 (by simp; omega))
  have HV0 := Lib.hid ((Blk.new' (w.alloc (.cells (tab 1600 (bitsV A)) 62)) 62 (tab 1600 fun _ => .int .i64 0) (g := w.heap.size + 1) (by simp)).below hB0 (by simp))
  have HR := Lib.hid hrow
  have HB0 := Lib.hid hB0'
  have hs0 := hB0'.size
  clear hrow hB0 hB0' hown
  go_wp2_with fail
  go_loopw [4] (fun i wr => ∃ k : Nat, k ≤ 24 ∧ i = .int .i64 k ∧ Blk wr w.heap.size 62 (tab 1600 (bitsV (roundsS k A))) ∧ Below w.heap.size w wr ∧ g < wr.heap.size ∧ (∀ j, j < 168 → wr.cell? ⟨g, j, none⟩ = some (num (regF j 0))) ∧ ∃ V, Blk wr (w.heap.size + 1) 62 (tab 1600 V)) (fun i _ => 24 - (intOf i).toNat)
  case atStart => exact ⟨0, by omega, rfl, HA0.out, HB0.out, hg2, HR.out, _, HV0.out⟩
  case round =>
    clear HA0 HB0 HR HV0
    obtain ⟨k, hk, rfl, hA, hB, hg, hrow, V, hV⟩ := hrel
    have hs := hB.size
    by_cases hlt : k < 24
    · have dk : decide ((k : Int) < 24) = true := by simp; omega
      have HA := Lib.hid hA
      have HV := Lib.hid hV
      have HB := Lib.hid hB
      have HR := Lib.hid hrow
      have HL := hA.lt
      clear hA hV hB hrow
      go_wp2_with (first
        | (refine wpL_load rfl 62 (.tmp 1) rfl (n := 1600) 0 rfl _ HA.out (by omega) Tryd.underlying62 rfl (by kernel_rfl) ?_))
      refine (mixed_calls _ _).mono ?_
      rintro e w1 ⟨rfl, hb1⟩
      have Hb1 := Lib.hid hb1
      have hs1 := hb1.size
      clear hb1
      go_wp2_with (first
        | (refine wpL_alloc rfl 62 rfl (tab 1600 fun _ => .int .i64 0) (by kernel_rfl) ?_)
        | (refine wpL_storeA rfl 62 (.tmp 5) (.tmp 14) rfl 0 rfl rfl (Blk.new w1 _ _) (by omega) (by kernel_rfl) (fun _ => rfl) ?_; intro w2 ho2 hk2; have HO2 := Lib.hid ho2; have HK2 := Lib.hid (hk2.same (over_whole _ _ _)); clear ho2 hk2)
        | (refine wpL_load rfl 62 (.tmp 5) rfl (n := 1600) 0 rfl _ HK2.out (by omega) Tryd.underlying62 rfl (by kernel_rfl) ?_))
      have hs2 := HO2.out.size
      simp only [size_alloc] at hs2
      have HB2 := Lib.hid (HO2.out.below (Hb1.out.alloc hs1 _) hs1)
      refine (movedR_calls _ _).mono ?_
      rintro e w3 ⟨rfl, hb3⟩
      have HB3 := Lib.hid (HB2.out.trans (hb3.mono (by omega)))
      have hs3 := hb3.size
      clear hb3
      go_wp2_with (first
        | (refine wpL_alloc rfl 62 rfl (tab 1600 fun _ => .int .i64 0) (by kernel_rfl) ?_)
        | (refine wpL_storeA rfl 62 (.tmp 6) (.tmp 16) rfl 0 rfl rfl (Blk.new w3 _ _) (by omega) (by kernel_rfl) (fun _ => rfl) ?_; intro w4 ho4 hk4; have HO4 := Lib.hid ho4; have HK4 := Lib.hid (hk4.same (over_whole _ _ _)); clear ho4 hk4)
        | (refine wpL_load rfl 62 (.tmp 6) rfl (n := 1600) 0 rfl _ HK4.out (by omega) Tryd.underlying62 rfl (by kernel_rfl) ?_))
      have hs4 := HO4.out.size
      simp only [size_alloc] at hs4
      have HB4 := Lib.hid (HO4.out.below (HB3.out.alloc (by omega) _) (by omega))
      refine (bentR_calls _ _).mono ?_
      rintro e w5 ⟨rfl, hb5⟩
      have HB5 := Lib.hid (HB4.out.trans (hb5.mono (by omega)))
      have hs5 := hb5.size
      clear hb5
      go_wp2_with (first
        | (refine wpL_alloc rfl 62 rfl (tab 1600 fun _ => .int .i64 0) (by kernel_rfl) ?_)
        | (refine wpL_storeA rfl 62 (.tmp 7) (.tmp 18) rfl 0 rfl rfl (Blk.new w5 _ _) (by omega) (by kernel_rfl) (fun _ => rfl) ?_; intro w6 ho6 hk6; have HO6 := Lib.hid ho6; have HK6 := Lib.hid (hk6.same (over_whole _ _ _)); clear ho6 hk6)
        | (refine wpL_load rfl 62 (.tmp 7) rfl (n := 1600) 0 rfl _ HK6.out (by omega) Tryd.underlying62 rfl (by kernel_rfl) ?_))
      have hs6 := HO6.out.size
      simp only [size_alloc] at hs6
      have HB6 := Lib.hid (HO6.out.below (HB5.out.alloc (by omega) _) (by omega))
      have hr6 : ∀ j, j < 168 → w6.cell? ⟨g, j, none⟩ = some (num (regF j 0)) := fun j hj => (HB6.out.cell (p := ⟨g, j, none⟩) hg).trans (HR.out j hj)
      refine (marked_calls _ k g cr hlt _ (by omega) hr6).mono ?_
      rintro e w7 ⟨rfl, hb7⟩
      have HB7 := Lib.hid (HB6.out.trans (hb7.mono (by omega)))
      have hs7 := hb7.size
      clear hb7 hr6
      have HA7 := Lib.hid (HA.out.below HB7.out HL)
      go_wp2_with (first
        | (refine wpL_storeA rfl 62 (.tmp 1) (.tmp 22) rfl 0 rfl rfl HA7.out (by omega) (by kernel_rfl) (fun _ => rfl) ?_; intro w8 ho8 hk8; have HO8 := Lib.hid ho8; have HK8 := Lib.hid (hk8.same (over_whole _ _ _)); clear ho8 hk8))
      have hs8 := HO8.out.size
      refine ⟨⟨k + 1, by omega, by go_num, HK8.out, HO8.out.below (HB.out.trans (HB7.out.mono hs)) (Nat.le_refl _), by omega, fun j hj => ?_, V, HO8.out.blk (HV.out.below HB7.out HV.out.lt) (by omega)⟩, by simp [intOf]; omega⟩
      rw [HO8.out.cell (by simp; omega), HB7.out.cell hg]
      exact HR.out j hj
    · have dk : decide ((k : Int) < 24) = false := by simp; omega
      have HA := Lib.hid (hA.same (tab_congr (T := bitsV (permS A)) fun i _ => by rw [show k = 24 by omega]; rfl))
      have HV := Lib.hid hV
      clear hA hV hrow
      go_wp2_with (first
        | (refine wpL_load rfl 62 (.tmp 1) rfl (n := 1600) 0 rfl _ HA.out (by omega) Tryd.underlying62 rfl (by kernel_rfl) ?_)
        | (refine wpL_store rfl 62 (.tmp 2) (.tmp 23) rfl 0 rfl rfl HV.out (by omega) (by kernel_rfl) (fun _ => rfl) ?_))
      refine ret_cell rfl rfl _ (HV.out.setRow.same ?_) Tryd.underlying62 rfl (by kernel_rfl) rfl ⟨rfl, below_setRow hB (by omega) _⟩
      rw [over_whole]
      exact tab_congr fun i _ => by simp
end Go.Proofs.YtfidjeoeaeghhaaDoor
