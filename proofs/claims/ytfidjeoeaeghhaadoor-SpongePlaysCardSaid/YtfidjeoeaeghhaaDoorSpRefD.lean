/- The document's own sponge: the fourth thing of a round: it is what bent is. -/
import Derived.Test.YtfidjeoeaeghhaaDoorSpRefC
import Derived.Test.YtfidjeoeaeghhaaDoorSpBent
namespace Go.Proofs.YtfidjeoeaeghhaaDoor
open Go.RowKit
theorem atN_side (x y z c : Nat) (C : Int) (hC : C = c) (hy : y < 5) (hz : z < 64) : atN ((x : Int) + C) (y : Int) (z : Int) = 64 * ((x + c) % 5 + 5 * y) + z := by
  subst hC
  unfold atN
  have h1 : ((x : Int) + (c : Int) + 5) % 5 = (((x + c) % 5 : Nat) : Int) := by omega
  have h2 : ((y : Int) + 5) % 5 = y := by omega
  have h3 : ((z : Int) + 64) % 64 = z := by omega
  rw [h1, h2, h3]
  omega
theorem bent_bools : ∀ a b c : Bool, (if a then 1 else 0) + (if b then 0 else if c then 1 else 0) ≤ 2 ∧ ((if a then 1 else 0) + (if b then 0 else if c then 1 else 0)) % 2 = if (a ^^ (c && !b)) then 1 else (0 : Nat) := by decide
theorem bent_bit (A : Nat → BitVec 64) (x y z : Nat) (hx : x < 5) (hz : z < 64) :
    (bitN A (64 * (x + 5 * y) + z) + (if bitN A (64 * ((x + 1) % 5 + 5 * y) + z) = 0 then bitN A (64 * ((x + 2) % 5 + 5 * y) + z) else 0)) % 2 = bitN (bentS A) (64 * (x + 5 * y) + z) := by
  rw [bitN_at A _ z hz, bitN_at A _ z hz, bitN_at A _ z hz, bitN_at (bentS A) _ z hz]
  have h := (bent_bools ((A (x + 5 * y)).getLsbD z) ((A ((x + 1) % 5 + 5 * y)).getLsbD z) ((A ((x + 2) % 5 + 5 * y)).getLsbD z)).2
  have e : (bentS A (x + 5 * y)).getLsbD z = ((A (x + 5 * y)).getLsbD z ^^ ((A ((x + 2) % 5 + 5 * y)).getLsbD z && !(A ((x + 1) % 5 + 5 * y)).getLsbD z)) := by
    unfold bentS
    rw [show x + 5 * y - (x + 5 * y) % 5 + (x + 5 * y + 2) % 5 = (x + 2) % 5 + 5 * y by omega, show x + 5 * y - (x + 5 * y) % 5 + (x + 5 * y + 1) % 5 = (x + 1) % 5 + 5 * y by omega]
    simp [hz]
  rw [e, ← h]
  cases (A ((x + 1) % 5 + 5 * y)).getLsbD z <;> simp
set_option maxHeartbeats 1000000 in
set_option maxRecDepth 100000 in
theorem bentR_calls (A : Nat → BitVec 64) (w : World) :
    Calls Tryd.prog 41 #[.agg (tab 1600 (bitsV A))] w fun e w' => e = .returned (.agg (tab 1600 (bitsV (bentS A)))) ∧ Below w.heap.size w w' := by
  go_enter Tryd.func41, Tryd.ntmps41
  go_wp2_with (first
    | (refine wpL_alloc rfl 62 rfl (tab 1600 fun _ => .int .i64 0) (by kernel_rfl) ?_))
  go_loopw [4] (fun i wr => ∃ x : Nat, x ≤ 5 ∧ i = .int .i64 x ∧ Blk wr w.heap.size 62 (tab 1600 (bitsV A)) ∧ Blk wr (w.heap.size + 1 + 1) 62 (tab 1600 (done (fun j => j / 64 % 5 < x) (bitsV (bentS A)))) ∧ Below w.heap.size w wr ∧ ∃ V, Blk wr (w.heap.size + 1) 62 (tab 1600 V)) (fun i _ => 5 - (intOf i).toNat)
  case atStart =>
    refine ⟨0, by omega, rfl, ((Blk.new w _ _).alloc _).alloc _, ?_, ?_, ⟨fun _ => .int .i64 0, ?_⟩⟩
    · exact (Blk.new' _ _ _ (by simp)).same (done_none _ _ _ (by omega)).symm
    · exact (((Below.refl _ _).alloc (Nat.le_refl _) _).alloc (by simp) _).alloc (by simp; omega) _
    · exact (Blk.new' _ _ _ (by simp)).alloc _
  case round =>
    obtain ⟨x, hx, rfl, hA, hC, hB, V, hV⟩ := hrel
    by_cases hlt : x < 5
    · have dx : decide ((x : Int) < 5) = true := by simp; omega
      have HC := Lib.hid hC
      have HA := Lib.hid hA
      have HV := Lib.hid hV
      have HB := Lib.hid hB
      clear hA hC hV hB
      go_wp2_with fail
      go_loopw [5] (fun i wr => ∃ y : Nat, y ≤ 5 ∧ i = .int .i64 y ∧ Blk wr w.heap.size 62 (tab 1600 (bitsV A)) ∧ Blk wr (w.heap.size + 1 + 1) 62 (tab 1600 (done (fun j => j / 64 % 5 < x ∨ (j / 64 % 5 = x ∧ j / 320 < y)) (bitsV (bentS A)))) ∧ Below w.heap.size w wr ∧ ∃ V, Blk wr (w.heap.size + 1) 62 (tab 1600 V)) (fun i _ => 5 - (intOf i).toNat)
      case atStart => exact ⟨0, by omega, rfl, HA.out, HC.out.same (done_same _ _ _ _ (by omega)), HB.out, V, HV.out⟩
      case round =>
        clear HC HA HV HB
        obtain ⟨y, hy, rfl, hA, hC, hB, V, hV⟩ := hrel
        have HC := Lib.hid hC
        have HA := Lib.hid hA
        have HV := Lib.hid hV
        have HB := Lib.hid hB
        clear hA hC hV hB
        by_cases hly : y < 5
        · have dy : decide ((y : Int) < 5) = true := by simp; omega
          go_wp2_with fail
          go_loopw [6] (fun i wr => ∃ z : Nat, z ≤ 64 ∧ i = .int .i64 z ∧ Blk wr w.heap.size 62 (tab 1600 (bitsV A)) ∧ Blk wr (w.heap.size + 1 + 1) 62 (tab 1600 (done (fun j => j / 64 % 5 < x ∨ (j / 64 % 5 = x ∧ (j / 320 < y ∨ (j / 320 = y ∧ j % 64 < z)))) (bitsV (bentS A)))) ∧ Below w.heap.size w wr ∧ ∃ V, Blk wr (w.heap.size + 1) 62 (tab 1600 V)) (fun i _ => 64 - (intOf i).toNat)
          case atStart => exact ⟨0, by omega, rfl, HA.out, HC.out.same (done_same _ _ _ _ (by omega)), HB.out, V, HV.out⟩
          case round =>
            clear HC HA HV HB
            obtain ⟨z, hz, rfl, hA, hC, hB, V, hV⟩ := hrel
            by_cases hlz : z < 64
            · have dz : decide ((z : Int) < 64) = true := by simp; omega
              have i0 := atN_small x y z hlt hly hlz
              have i1 := atN_side x y z 1 1 rfl hly hlz
              have i2 := atN_side x y z 2 2 rfl hly hlz
              have hb := bent_bit A x y z hlt hlz
              rw [← i0, ← i1, ← i2] at hb
              have l0 := atN_lt (x : Int) y z
              have l1 := atN_lt ((x : Int) + 1) y z
              have l2 := atN_lt ((x : Int) + 2) y z
              have b0 := bitN_le A (atN (x : Int) y z)
              have b2 := bitN_le A (atN ((x : Int) + 2) y z)
              have c0 := hA.bit (atN (x : Int) y z) (by omega)
              have c1 := hA.bit (atN ((x : Int) + 1) y z) (by omega)
              have c2 := hA.bit (atN ((x : Int) + 2) y z) (by omega)
              have c3 := hC.at_ (atN (x : Int) y z) (by omega)
              have h6 := hC.frozen (atN (x : Int) y z)
              have hd : (done (fun j => j / 64 % 5 < x ∨ (j / 64 % 5 = x ∧ (j / 320 < y ∨ (j / 320 = y ∧ j % 64 < z)))) (bitsV (bentS A))) (atN (x : Int) y z) = .int .i64 0 :=
                done_zero _ _ _ (by rw [i0]; omega)
              rw [hd] at c3
              have hp : ∀ u : Int, u = (bitN (bentS A) (atN (x : Int) y z) : Int) → ∀ wq : World, Blk wq (w.heap.size + 1 + 1) 62 (tab 1600 (done (fun j => j / 64 % 5 < x ∨ (j / 64 % 5 = x ∧ (j / 320 < y ∨ (j / 320 = y ∧ j % 64 < z)))) (bitsV (bentS A)))) →
                  Blk (wq.setCell ⟨w.heap.size + 1 + 1, atN (x : Int) y z, none⟩ (.int .i64 u)) (w.heap.size + 1 + 1) 62 (tab 1600 (done (fun j => j / 64 % 5 < x ∨ (j / 64 % 5 = x ∧ (j / 320 < y ∨ (j / 320 = y ∧ j % 64 < z + 1)))) (bitsV (bentS A)))) := by
                intro u hu wq hq
                subst hu
                exact (hq.put _ _).same (done_upd _ (bitsV (bentS A)) _ _ _ (by rw [i0]; omega))
              have HP := Lib.hid hp
              have HC := Lib.hid hC
              have HA := Lib.hid hA
              have HV := Lib.hid hV
              have HB := Lib.hid hB
              clear hA hC hV hB i0 hd i1 i2 hp
              by_cases hz1 : bitN A (atN ((x : Int) + 1) y z) = 0
              · rw [if_pos hz1] at hb
                have e1 : ((bitN A (atN ((x : Int) + 1) y z) : Int) == 0) = true := by simp [hz1]
                have Hb := Lib.hid hb
                clear hb hz1
                go_wp2_with (go_at_call 43; refine (at_calls _ _ _ (by omega) (by omega) (by omega) _).mono ?_; rintro e w' ⟨rfl, rfl⟩)
                go_roundw
                case rel =>
                  exact ⟨z + 1, by omega, by go_num, HA.out.far (by simp; omega) _, HP.out _ (by rw [← Hb.out]; norm_cast) _ HC.out, HB.out.setCell (by simp; omega) _, V, HV.out.far (by simp) _⟩
                case measure => simp [intOf]; omega
              · rw [if_neg hz1] at hb
                have e1 : ((bitN A (atN ((x : Int) + 1) y z) : Int) == 0) = false := by simp [hz1]
                have Hb := Lib.hid hb
                clear hb hz1
                go_wp2_with (go_at_call 43; refine (at_calls _ _ _ (by omega) (by omega) (by omega) _).mono ?_; rintro e w' ⟨rfl, rfl⟩)
                go_roundw
                case rel =>
                  exact ⟨z + 1, by omega, by go_num, HA.out.far (by simp; omega) _, HP.out _ (by rw [← Hb.out]; norm_cast) _ HC.out, HB.out.setCell (by simp; omega) _, V, HV.out.far (by simp) _⟩
                case measure => simp [intOf]; omega
            · have HC := Lib.hid hC
              have HA := Lib.hid hA
              have HV := Lib.hid hV
              have HB := Lib.hid hB
              clear hA hC hV hB
              go_wp2_with fail
              go_roundw
              case rel =>
                exact ⟨y + 1, by omega, by go_num, HA.out, HC.out.same (done_same _ _ _ _ (by omega)), HB.out, V, HV.out⟩
              case measure => simp [intOf]; omega
        · go_wp2_with fail
          go_roundw
          case rel => exact ⟨x + 1, by omega, by go_num, HA.out, HC.out.same (done_same _ _ _ _ (by omega)), HB.out, V, HV.out⟩
          case measure => simp [intOf]; omega
    · have HA := Lib.hid (hC.same (done_all _ _ _ (by omega)))
      have HV := Lib.hid hV
      clear hA hC hV
      go_wp2_with (first
        | (refine wpL_load rfl 62 (.tmp 3) rfl (n := 1600) 0 rfl _ HA.out (by omega) Tryd.underlying62 rfl (by kernel_rfl) ?_)
        | (refine wpL_store rfl 62 (.tmp 2) (.tmp 54) rfl 0 rfl rfl HV.out (by omega) (by kernel_rfl) (fun _ => rfl) ?_))
      refine ret_cell rfl rfl _ (HV.out.setRow.same ?_) Tryd.underlying62 rfl (by kernel_rfl) rfl ⟨rfl, below_setRow hB (by omega) _⟩
      rw [over_whole]
      exact tab_congr fun i _ => by simp
end Go.Proofs.YtfidjeoeaeghhaaDoor
