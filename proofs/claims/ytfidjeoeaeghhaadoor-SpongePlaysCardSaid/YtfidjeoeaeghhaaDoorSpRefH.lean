/- The document's own Permute: it is the program's. -/
import Derived.Test.YtfidjeoeaeghhaaDoorSpRefG
namespace Go.Proofs.YtfidjeoeaeghhaaDoor
open Go.RowKit
theorem u64_low (x : BitVec 64) : u64 x % (2 : Int) = (((if x.getLsbD 0 then 1 else 0) : Nat) : Int) := by
  unfold u64
  have h : x.getLsbD 0 = decide (x.toNat % 2 = 1) := by
    rw [BitVec.getLsbD, Nat.testBit_zero]
  rw [h]
  by_cases e : x.toNat % 2 = 1
  · simp [e]; omega
  · simp [e]; omega
theorem u64_half (x : BitVec 64) : u64 x / (2 : Int) = u64 (x >>> 1) := by
  have := bv_shr x 1
  simpa using this
theorem low_bit (A : Nat → BitVec 64) (i z : Nat) (hz : z < 64) : u64 (A i >>> z) % 2 = (bitN A (64 * i + z) : Int) := by
  rw [u64_low, bitN_at A i z hz, BitVec.getLsbD_ushiftRight, Nat.add_zero]
theorem u64_join (x : BitVec 64) (q : Nat) : 2 * u64 (x >>> (q + 1)) + (((if x.getLsbD q then 1 else 0) : Nat) : Int) = u64 (x >>> q) := by
  have h1 := u64_low (x >>> q)
  have h2 := u64_half (x >>> q)
  rw [BitVec.getLsbD_ushiftRight, Nat.add_zero] at h1
  rw [← BitVec.shiftRight_add] at h2
  rw [← h2, ← h1]
  omega
theorem u64_shr_lt (x : BitVec 64) (q : Nat) : u64 (x >>> (q + 1)) < 9223372036854775808 := by
  have h2 := u64_half (x >>> q)
  rw [← BitVec.shiftRight_add] at h2
  have := u64_lt (x >>> q)
  omega
theorem shr64 (x : BitVec 64) : x >>> (64 - 0) = 0#64 := by
  apply BitVec.eq_of_toNat_eq
  rw [BitVec.toNat_ushiftRight, Nat.shiftRight_eq_div_pow]
  have := x.isLt
  simp
  omega
set_option maxHeartbeats 1000000 in
set_option maxRecDepth 100000 in
theorem permuteR_calls (A : Nat → BitVec 64) (w : World) :
    Calls Tryd.prog 12 #[.agg (tab 25 (lanes A))] w fun e w' => e = .returned (.agg (tab 25 (lanes (permS A)))) ∧ Below w.heap.size w w' := by
  go_enter Tryd.func12, Tryd.ntmps12
  go_wp2_with (first
    | (refine wpL_alloc rfl 62 rfl (tab 1600 fun _ => .int .i64 0) (by kernel_rfl) ?_)
    | (refine wpL_alloc rfl 23 rfl (tab 25 fun _ => .int .u64 0) (by kernel_rfl) ?_))
  go_loopw [4] (fun i wr => ∃ k : Nat, k ≤ 25 ∧ i = .int .i64 k ∧ Blk wr w.heap.size 23 (tab 25 (lanes A)) ∧ Below w.heap.size w wr ∧ (∃ V, Blk wr (w.heap.size + 1) 23 (tab 25 V)) ∧ Blk wr (w.heap.size + 1 + 1) 62 (tab 1600 (done (fun j => j / 64 < k) (bitsV A)))) (fun i _ => 25 - (intOf i).toNat)
  case atStart =>
    refine ⟨0, by omega, rfl, ((Blk.new w _ _).alloc _).alloc _, (((Below.refl _ _).alloc (Nat.le_refl _) _).alloc (by simp) _).alloc (by simp; omega) _, ⟨fun _ => .int .u64 0, (Blk.new' _ _ _ (by simp)).alloc _⟩, ?_⟩
    exact (Blk.new' _ _ _ (by simp)).same (done_none _ _ _ (by omega)).symm
  case round =>
    obtain ⟨k, hk, rfl, hA, hB, ⟨V, hV⟩, hC⟩ := hrel
    by_cases hlt : k < 25
    · have dk : decide ((k : Int) < 25) = true := by simp; omega
      have lk : (k : Int) < 25 := by omega
      have c0 := hA.lane k hlt
      have HA := Lib.hid hA
      have HV := Lib.hid hV
      have HB := Lib.hid hB
      have HC := Lib.hid hC
      clear hA hV hB hC
      go_wp2_with fail
      go_loopw [5, 6] (fun n i wr => ∃ z : Nat, z ≤ 64 ∧ i = .int .i64 z ∧ n = .int .u64 (u64 (A k >>> z)) ∧ Blk wr w.heap.size 23 (tab 25 (lanes A)) ∧ Below w.heap.size w wr ∧ (∃ V, Blk wr (w.heap.size + 1) 23 (tab 25 V)) ∧ Blk wr (w.heap.size + 1 + 1) 62 (tab 1600 (done (fun j => j / 64 < k ∨ (j / 64 = k ∧ j % 64 < z)) (bitsV A)))) (fun _ i _ => 64 - (intOf i).toNat)
      case atStart => exact ⟨0, by omega, rfl, by simp, HA.out, HB.out, ⟨V, HV.out⟩, HC.out.same (done_same _ _ _ _ (by omega))⟩
      case round =>
        clear HA HB HV HC
        obtain ⟨z, hz, rfl, rfl, hA, hB, ⟨V, hV⟩, hC⟩ := hrel
        by_cases hlz : z < 64
        · have dz : decide ((z : Int) < 64) = true := by simp; omega
          have h0 := u64_nonneg (A k >>> z)
          have c1 := hC.at_ (64 * k + z) (by omega)
          have f1 := hC.frozen (64 * k + z)
          rw [done_zero _ _ _ (by omega)] at c1
          have Hl := Lib.hid (low_bit A k z hlz)
          have hh : (u64 (A k >>> z)).tdiv 2 = u64 (A k >>> (z + 1)) := by rw [Int.tdiv_eq_ediv_of_nonneg h0, u64_half, ← BitVec.shiftRight_add]
          have HA := Lib.hid hA
          have HV := Lib.hid hV
          have HB := Lib.hid hB
          have HC := Lib.hid hC
          clear hA hV hB hC
          go_wp2_with fail
          refine ⟨⟨z + 1, by omega, by go_num, rfl, HA.out.far (by simp; omega) _, HB.out.setCell (by simp; omega) _, ⟨V, HV.out.far (by simp) _⟩, ?_⟩, by simp [intOf]; omega⟩
          rw [Hl.out]
          exact (HC.out.put (64 * k + z) _).same (done_upd _ (bitsV A) _ _ _ (by omega))
        · have dz : decide ((z : Int) < 64) = false := by simp; omega
          have HA := Lib.hid hA
          have HV := Lib.hid hV
          have HB := Lib.hid hB
          have HC := Lib.hid (hC.same (done_same _ (fun j => j / 64 < k + 1) (bitsV A) 1600 (by omega)))
          clear hA hV hB hC
          go_wp2_with fail
          exact ⟨⟨k + 1, by omega, by go_num, HA.out, HB.out, ⟨V, HV.out⟩, HC.out⟩, by simp [intOf]; omega⟩
    · have dk : decide ((k : Int) < 25) = false := by simp; omega
      have HA := Lib.hid hA
      have HV := Lib.hid hV
      have HB := Lib.hid hB
      have HC := Lib.hid (hC.same (done_all _ (bitsV A) 1600 (by omega)))
      have HL := hB.size
      have hlv := hV.lt
      clear hA hV hB hC
      go_wp2_with (first
        | (refine wpL_load rfl 62 (.tmp 3) rfl (n := 1600) 0 rfl _ HC.out (by omega) Tryd.underlying62 rfl (by kernel_rfl) ?_))
      refine (roundsR_calls _ _).mono ?_
      rintro e w1 ⟨rfl, hb1⟩
      have Hb1 := Lib.hid hb1
      have hs1 := hb1.size
      clear hb1
      have HV1 := Lib.hid (HV.out.below Hb1.out hlv)
      have HB1 := Lib.hid (HB.out.trans (Hb1.out.mono HL))
      go_wp2_with (first
        | (refine wpL_alloc rfl 62 rfl (tab 1600 fun _ => .int .i64 0) (by kernel_rfl) ?_)
        | (refine wpL_storeA rfl 62 (.tmp 7) (.tmp 35) rfl 0 rfl rfl (Blk.new w1 _ _) (by omega) (by kernel_rfl) (fun _ => rfl) ?_; intro w2 ho2 hk2; have HO2 := Lib.hid ho2; have HK2 := Lib.hid (hk2.same (over_whole _ _ _)); clear ho2 hk2)
        | (refine wpL_alloc rfl 23 rfl (tab 25 fun _ => .int .u64 0) (by kernel_rfl) ?_))
      have hs2 := HO2.out.size
      simp only [size_alloc] at hs2
      have hs2a := Nat.le_of_eq hs2
      have hs2b := Nat.le_of_eq hs2.symm
      clear hs2
      have HB2 := Lib.hid (HO2.out.below (HB1.out.alloc (by omega) _) (by omega))
      have HV2 := Lib.hid (HO2.out.blk (HV1.out.alloc _) (by omega))
      go_loopw [9] (fun i wr => ∃ k : Nat, k ≤ 25 ∧ i = .int .i64 k ∧ Blk wr w1.heap.size 62 (tab 1600 (bitsV (permS A))) ∧ Below w.heap.size w wr ∧ (∃ V, Blk wr (w.heap.size + 1) 23 (tab 25 V)) ∧ Blk wr w2.heap.size 23 (tab 25 (lanes fun j => if j < k then permS A j else 0))) (fun i _ => 25 - (intOf i).toNat)
      case atStart =>
        refine ⟨0, by omega, rfl, HK2.out.alloc _, HB2.out.alloc (by omega) _, ⟨V, HV2.out.alloc _⟩, (Blk.new _ _ _).same (tab_congr fun i _ => by simp [lanes, u64])⟩
      case round =>
        clear HK2 HB2 HV2
        obtain ⟨k, hk, rfl, hA, hB, ⟨V, hV⟩, hC⟩ := hrel
        have HA := Lib.hid hA
        have HV := Lib.hid hV
        have HB := Lib.hid hB
        have HC := Lib.hid hC
        clear hA hV hB hC
        by_cases hlt : k < 25
        · have dk : decide ((k : Int) < 25) = true := by simp; omega
          go_wp2_with fail
          go_loopw [10, 11] (fun n i wr => ∃ z : Nat, z ≤ 64 ∧ i = .int .i64 (63 - (z : Int)) ∧ n = .int .u64 (u64 (permS A k >>> (64 - z))) ∧ Blk wr w1.heap.size 62 (tab 1600 (bitsV (permS A))) ∧ Below w.heap.size w wr ∧ (∃ V, Blk wr (w.heap.size + 1) 23 (tab 25 V)) ∧ Blk wr w2.heap.size 23 (tab 25 (lanes fun j => if j < k then permS A j else 0))) (fun _ i _ => (intOf i + 1).toNat)
          case atStart => exact ⟨0, by omega, rfl, by rw [shr64]; rfl, HA.out, HB.out, ⟨V, HV.out⟩, HC.out⟩
          case round =>
            clear HA HB HV HC
            obtain ⟨z, hz, rfl, rfl, hA, hB, ⟨V, hV⟩, hC⟩ := hrel
            by_cases hlz : z < 64
            · have dz : decide ((0 : Int) ≤ 63 - (z : Int)) = true := by simp; omega
              have dz2 : decide (63 - (z : Int) ≥ (0 : Int)) = true := by simp; omega
              have c1 := hA.bit (64 * k + (63 - z)) (by omega)
              have b1 := bitN_le (permS A) (64 * k + (63 - z))
              have h0 := u64_nonneg (permS A k >>> (64 - z))
              have h1 : u64 (permS A k >>> (64 - z)) < 9223372036854775808 := by
                rw [show 64 - z = (63 - z) + 1 by omega]; exact u64_shr_lt _ _
              have hj : 2 * u64 (permS A k >>> (64 - z)) + (bitN (permS A) (64 * k + (63 - z)) : Int) = u64 (permS A k >>> (63 - z)) := by
                rw [show 64 - z = (63 - z) + 1 by omega, bitN_at _ _ _ (by omega)]; exact u64_join _ _
              have Hj := Lib.hid hj
              have e1 : IntKind.u64.wrap (2 * u64 (permS A k >>> (64 - z))) = 2 * u64 (permS A k >>> (64 - z)) := by rw [IntKind.wrap_u64]; omega
              have e2 : IntKind.u64.wrap (bitN (permS A) (64 * k + (63 - z)) : Int) = (bitN (permS A) (64 * k + (63 - z)) : Int) := by rw [IntKind.wrap_u64]; omega
              have e3 : IntKind.u64.wrap (2 * u64 (permS A k >>> (64 - z)) + (bitN (permS A) (64 * k + (63 - z)) : Int)) = u64 (permS A k >>> (63 - z)) := by rw [hj]; exact wrap_u64_u64 _
              have HA := Lib.hid hA
              have HV := Lib.hid hV
              have HB := Lib.hid hB
              have HC := Lib.hid hC
              clear hA hV hB hC hj h1
              go_wp2_with fail
              exact ⟨⟨z + 1, by omega, by go_num, by rw [show 63 - z = 64 - (z + 1) by omega], HA.out, HB.out, ⟨V, HV.out⟩, HC.out⟩, by simp [intOf]; omega⟩
            · have dz : decide ((0 : Int) ≤ 63 - (z : Int)) = false := by simp; omega
              have dz2 : decide (63 - (z : Int) ≥ (0 : Int)) = false := by simp; omega
              have Hz := Lib.hid (show z = 64 by omega)
              have c1 := hC.lane k hlt
              have f1 := hC.frozen k
              have HA := Lib.hid hA
              have HV := Lib.hid hV
              have HB := Lib.hid hB
              have HC := Lib.hid hC
              clear hA hV hB hC
              go_wp2_with fail
              refine ⟨⟨k + 1, by omega, by go_num, HA.out.far (by simp; omega) _, HB.out.setCell (by simp; omega) _, ⟨V, HV.out.far (by simp; omega) _⟩, ?_⟩, by simp [intOf]; omega⟩
              rw [Hz.out, Nat.sub_self, BitVec.ushiftRight_zero]
              refine (HC.out.putLane k _).same (tab_congr fun i _ => ?_)
              unfold lanes upd
              by_cases h : i = k
              · subst h; simp
              · by_cases h' : i < k
                · simp [h, h', show i < k + 1 by omega]
                · simp [h, h', show ¬ i < k + 1 by omega]
        · have dk : decide ((k : Int) < 25) = false := by simp; omega
          have HC2 := Lib.hid (HC.out.same (tab_congr (T := lanes (permS A)) fun i hi => by simp [lanes, show i < k by omega]))
          go_wp2_with (first
            | (refine wpL_load rfl 23 (.tmp 8) rfl (n := 25) 0 rfl _ HC2.out (by omega) Tryd.underlying23 rfl (by kernel_rfl) ?_)
            | (refine wpL_store rfl 23 (.tmp 2) (.tmp 58) rfl 0 rfl rfl HV.out (by omega) (by kernel_rfl) (fun _ => rfl) ?_))
          refine ret_cell rfl rfl _ (HV.out.setRow.same ?_) Tryd.underlying23 rfl (by kernel_rfl) rfl ⟨rfl, below_setRow HB.out (by omega) _⟩
          rw [over_whole]
          exact tab_congr fun i _ => by simp
end Go.Proofs.YtfidjeoeaeghhaaDoor
