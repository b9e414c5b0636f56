/- The document's own sponge: the second and the third thing of a round: they are what moved is. -/
import Derived.Test.YtfidjeoeaeghhaaDoorSpRefB
namespace Go.Proofs.YtfidjeoeaeghhaaDoor
open Go.RowKit
theorem atN_small (x y z : Nat) (hx : x < 5) (hy : y < 5) (hz : z < 64) : atN (x : Int) (y : Int) (z : Int) = 64 * (x + 5 * y) + z := by
  unfold atN
  have h1 : ((x : Int) + 5) % 5 = x := by omega
  have h2 : ((y : Int) + 5) % 5 = y := by omega
  have h3 : ((z : Int) + 64) % 64 = z := by omega
  rw [h1, h2, h3]
  omega
theorem atN_back (x y z r : Nat) (hx : x < 5) (hy : y < 5) (hz : z < 64) (hr : r < 64) : atN (x : Int) (y : Int) ((z : Int) - (r : Int)) = 64 * (x + 5 * y) + (z + 64 - r) % 64 := by
  unfold atN
  have h1 : ((x : Int) + 5) % 5 = x := by omega
  have h2 : ((y : Int) + 5) % 5 = y := by omega
  have h3 : ((z : Int) - (r : Int) + 64) % 64 = (((z + 64 - r) % 64 : Nat) : Int) := by omega
  rw [h1, h2, h3]
  omega
theorem atN_dest (x y z : Nat) (hx : x < 5) (hy : y < 5) (hz : z < 64) : atN (y : Int) ((2 * (x : Int) + 3 * (y : Int)) % 5) z = 64 * dest (x + 5 * y) + z := by
  have hm : (2 * (x : Int) + 3 * (y : Int)) % 5 = (((2 * x + 3 * y) % 5 : Nat) : Int) := by norm_cast
  have hm2 : (2 * x + 3 * y) % 5 < 5 := Nat.mod_lt _ (by omega)
  rw [hm, atN_small _ _ _ hy hm2 hz]
  unfold dest
  rw [show (x + 5 * y) / 5 = y by omega, show (x + 5 * y) % 5 = x by omega]
theorem movedS_dest (A : Nat → BitVec 64) (i : Nat) (hi : i < 25) : movedS A (dest i) = (A i).rotateLeft (turnsN i) := by
  unfold movedS
  rw [(src_dest i hi).1]
theorem moved_bit (A : Nat → BitVec 64) (i z : Nat) (hi : i < 25) (hz : z < 64) :
    bitN A (64 * i + (z + 64 - turnsN i) % 64) = bitN (movedS A) (64 * dest i + z) := by
  rw [bitN_at A _ _ (by omega), bitN_at _ _ z hz, movedS_dest A i hi, rot_bit _ _ _ (turnsN_lt i) hz]
theorem moved_next (x y z j : Nat) (hx : x < 5) (hy : y < 5) (hz : z < 64) (hj : j < 1600) :
    (src (j / 64) % 5 < x ∨ (src (j / 64) % 5 = x ∧ (src (j / 64) / 5 < y ∨ (src (j / 64) / 5 = y ∧ j % 64 < z + 1)))) ↔
      (src (j / 64) % 5 < x ∨ (src (j / 64) % 5 = x ∧ (src (j / 64) / 5 < y ∨ (src (j / 64) / 5 = y ∧ j % 64 < z)))) ∨ j = 64 * dest (x + 5 * y) + z := by
  have h1 := dest_src (j / 64) (by omega)
  have h2 := src_dest (x + 5 * y) (by omega)
  have h3 : j / 64 = dest (x + 5 * y) ↔ src (j / 64) = x + 5 * y := ⟨fun e => by rw [e, h2.1], fun e => by rw [← e, h1.1]⟩
  obtain ⟨_, h4⟩ := h1
  obtain ⟨_, h5⟩ := h2
  generalize src (j / 64) = s at *
  generalize dest (x + 5 * y) = d at *
  omega
theorem done_zero (p : Nat → Prop) [DecidablePred p] (V : Nat → Value) (j : Nat) (h : ¬ p j) : done p V j = .int .i64 0 := if_neg h
theorem moved_not (x y z : Nat) (hx : x < 5) (hy : y < 5) (hz : z < 64) :
    ¬ (src ((64 * dest (x + 5 * y) + z) / 64) % 5 < x ∨ (src ((64 * dest (x + 5 * y) + z) / 64) % 5 = x ∧ (src ((64 * dest (x + 5 * y) + z) / 64) / 5 < y ∨ (src ((64 * dest (x + 5 * y) + z) / 64) / 5 = y ∧ (64 * dest (x + 5 * y) + z) % 64 < z)))) := by
  rw [show (64 * dest (x + 5 * y) + z) / 64 = dest (x + 5 * y) by omega, (src_dest (x + 5 * y) (by omega)).1]
  omega
set_option maxHeartbeats 1000000 in
set_option maxRecDepth 100000 in
theorem movedR_calls (A : Nat → BitVec 64) (w : World) :
    Calls Tryd.prog 40 #[.agg (tab 1600 (bitsV A))] w fun e w' => e = .returned (.agg (tab 1600 (bitsV (movedS A)))) ∧ Below w.heap.size w w' := by
  go_enter Tryd.func40, Tryd.ntmps40
  go_wp2_with (first
    | (refine wpL_alloc rfl 62 rfl (tab 1600 fun _ => .int .i64 0) (by kernel_rfl) ?_))
  go_loopw [4] (fun i wr => ∃ x : Nat, x ≤ 5 ∧ i = .int .i64 x ∧ Blk wr w.heap.size 62 (tab 1600 (bitsV A)) ∧ Blk wr (w.heap.size + 1 + 1) 62 (tab 1600 (done (fun j => src (j / 64) % 5 < x) (bitsV (movedS A)))) ∧ Below w.heap.size w wr ∧ ∃ V, Blk wr (w.heap.size + 1) 62 (tab 1600 V)) (fun i _ => 5 - (intOf i).toNat)
  case atStart =>
    refine ⟨0, by omega, rfl, ((Blk.new w _ _).alloc _).alloc _, ?_, ?_, ⟨fun _ => .int .i64 0, ?_⟩⟩
    · exact (Blk.new' _ _ _ (by simp)).same (done_none _ _ _ (by omega)).symm
    · exact (((Below.refl _ _).alloc (Nat.le_refl _) _).alloc (by simp) _).alloc (by simp; omega) _
    · exact (Blk.new' _ _ _ (by simp)).alloc _
  case round =>
    obtain ⟨x, hx, rfl, hA, hC, hB, V, hV⟩ := hrel
    by_cases hlt : x < 5
    · have dx : decide ((x : Int) < 5) = true := by simp; omega
      have HC := Lib.hid hC
      have HA := Lib.hid hA
      have HV := Lib.hid hV
      have HB := Lib.hid hB
      clear hA hC hV hB
      go_wp2_with fail
      go_loopw [5] (fun i wr => ∃ y : Nat, y ≤ 5 ∧ i = .int .i64 y ∧ Blk wr w.heap.size 62 (tab 1600 (bitsV A)) ∧ Blk wr (w.heap.size + 1 + 1) 62 (tab 1600 (done (fun j => src (j / 64) % 5 < x ∨ (src (j / 64) % 5 = x ∧ src (j / 64) / 5 < y)) (bitsV (movedS A)))) ∧ Below w.heap.size w wr ∧ ∃ V, Blk wr (w.heap.size + 1) 62 (tab 1600 V)) (fun i _ => 5 - (intOf i).toNat)
      case atStart => exact ⟨0, by omega, rfl, HA.out, HC.out.same (done_same _ _ _ _ (by omega)), HB.out, V, HV.out⟩
      case round =>
        clear HC HA HV HB
        obtain ⟨y, hy, rfl, hA, hC, hB, V, hV⟩ := hrel
        have HC := Lib.hid hC
        have HA := Lib.hid hA
        have HV := Lib.hid hV
        have HB := Lib.hid hB
        clear hA hC hV hB
        by_cases hly : y < 5
        · have dy : decide ((y : Int) < 5) = true := by simp; omega
          go_wp2_with (go_at_call 44; refine (offset_calls x y hlt hly _).mono ?_; rintro e w' ⟨rfl, rfl⟩)
          rename_i wq
          go_loopw [7] (fun i wr => ∃ z : Nat, z ≤ 64 ∧ i = .int .i64 z ∧ Blk wr w.heap.size 62 (tab 1600 (bitsV A)) ∧ Blk wr (w.heap.size + 1 + 1) 62 (tab 1600 (done (fun j => src (j / 64) % 5 < x ∨ (src (j / 64) % 5 = x ∧ (src (j / 64) / 5 < y ∨ (src (j / 64) / 5 = y ∧ j % 64 < z)))) (bitsV (movedS A)))) ∧ Below w.heap.size w wr ∧ ∃ V, Blk wr (w.heap.size + 1) 62 (tab 1600 V)) (fun i _ => 64 - (intOf i).toNat)
          case atStart => exact ⟨0, by omega, rfl, HA.out, HC.out.same (done_same _ _ _ _ (by omega)), HB.out, V, HV.out⟩
          case round =>
            clear HC HA HV HB
            obtain ⟨z, hz, rfl, hA, hC, hB, V, hV⟩ := hrel
            by_cases hlz : z < 64
            · have dz : decide ((z : Int) < 64) = true := by simp; omega
              have ht := turnsN_lt (x + 5 * y)
              have hb := moved_bit A (x + 5 * y) z (by omega) hlz
              have i1 := atN_dest x y z hlt hly hlz
              have i2 := atN_back x y z _ hlt hly hlz ht
              have hdl := (src_dest (x + 5 * y) (by omega)).2
              have l1 := atN_lt (y : Int) ((2 * (x : Int) + 3 * (y : Int)) % 5) z
              have l2 := atN_lt (x : Int) (y : Int) ((z : Int) - (turnsN (x + 5 * y) : Int))
              have c1 := hA.bit (atN (x : Int) (y : Int) ((z : Int) - (turnsN (x + 5 * y) : Int))) (by omega)
              have c2 := hC.at_ (atN (y : Int) ((2 * (x : Int) + 3 * (y : Int)) % 5) z) (by omega)
              have h6 := hC.frozen (atN (y : Int) ((2 * (x : Int) + 3 * (y : Int)) % 5) z)
              have hd : (done (fun j => src (j / 64) % 5 < x ∨ (src (j / 64) % 5 = x ∧ (src (j / 64) / 5 < y ∨ (src (j / 64) / 5 = y ∧ j % 64 < z)))) (bitsV (movedS A))) (atN (y : Int) ((2 * (x : Int) + 3 * (y : Int)) % 5) z) = .int .i64 0 := by
                rw [i1]
                exact done_zero _ _ _ (moved_not x y z hlt hly hlz)
              rw [hd] at c2
              rw [i2, hb, ← i1, ← i2] at c1
              have HC := Lib.hid hC
              have HA := Lib.hid hA
              have HV := Lib.hid hV
              have HB := Lib.hid hB
              have I1 := Lib.hid i1
              have I2 := Lib.hid i2
              clear hA hC hV hB i1 hd hb i2
              go_wp2_with (go_at_call 43; refine (at_calls _ _ _ (by omega) (by omega) (by omega) _).mono ?_; rintro e w' ⟨rfl, rfl⟩)
              rename_i wz _
              go_roundw
              case rel =>
                refine ⟨z + 1, by omega, by go_num, HA.out.far (by simp; omega) _, ?_, HB.out.setCell (by simp; omega) _, V, HV.out.far (by simp) _⟩
                exact (HC.out.put _ _).same (done_upd _ (bitsV (movedS A)) _ _ _ (fun j hj => by rw [I1.out]; exact moved_next x y z j hlt hly hlz hj))
              case measure => simp [intOf]; omega
            · have HC := Lib.hid hC
              have HA := Lib.hid hA
              have HV := Lib.hid hV
              have HB := Lib.hid hB
              clear hA hC hV hB
              go_wp2_with fail
              go_roundw
              case rel =>
                exact ⟨y + 1, by omega, by go_num, HA.out, HC.out.same (done_same _ _ _ _ (by omega)), HB.out, V, HV.out⟩
              case measure => simp [intOf]; omega
        · go_wp2_with fail
          go_roundw
          case rel =>
            refine ⟨x + 1, by omega, by go_num, HA.out, HC.out.same (done_same _ _ _ _ fun j hj => ?_), HB.out, V, HV.out⟩
            have := (dest_src (j / 64) (by omega)).2
            omega
          case measure => simp [intOf]; omega
    · have HA := Lib.hid (hC.same (done_all _ _ _ (by omega)))
      have HV := Lib.hid hV
      clear hA hC hV
      go_wp2_with (first
        | (refine wpL_load rfl 62 (.tmp 3) rfl (n := 1600) 0 rfl _ HA.out (by omega) Tryd.underlying62 rfl (by kernel_rfl) ?_)
        | (refine wpL_store rfl 62 (.tmp 2) (.tmp 43) rfl 0 rfl rfl HV.out (by omega) (by kernel_rfl) (fun _ => rfl) ?_))
      refine ret_cell rfl rfl _ (HV.out.setRow.same ?_) Tryd.underlying62 rfl (by kernel_rfl) rfl ⟨rfl, below_setRow hB (by omega) _⟩
      rw [over_whole]
      exact tab_congr fun i _ => by simp
end Go.Proofs.YtfidjeoeaeghhaaDoor
