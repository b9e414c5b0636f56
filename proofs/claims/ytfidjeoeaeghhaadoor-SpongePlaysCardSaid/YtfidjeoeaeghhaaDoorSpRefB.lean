/- The document's own sponge: the first thing of a round: it is what spread is. -/
import Derived.Test.YtfidjeoeaeghhaaDoorSpRefA
namespace Go.Proofs.YtfidjeoeaeghhaaDoor
open Go.RowKit
/-- The bit number j of a state, as a number. -/
def bitN (A : Nat → BitVec 64) (j : Nat) : Nat := if (A (j / 64)).getLsbD (j % 64) then 1 else 0
theorem bitN_le (A : Nat → BitVec 64) (j : Nat) : (bitN A j : Int) ≤ 1 := by unfold bitN; split <;> omega
def bitsV (A : Nat → BitVec 64) (j : Nat) : Value := .int .i64 (bitN A j : Int)
theorem Blk.bit {w : World} {g t n : Nat} {A : Nat → BitVec 64} (h : Blk w g t (tab n (bitsV A))) (i : Nat) (hi : i < n) : w.cell? ⟨g, i, none⟩ = some (.int .i64 (bitN A i : Int)) := h.at_ i hi
theorem below_drewN {B : Nat} {a w : World} (h : Below B a w) (n : Nat) : Below B a (w.drewN n) := ⟨h.os, h.tape, h.output, h.size, h.block⟩
/-- What is done: V; what is not: 0. -/
def done (p : Nat → Prop) [DecidablePred p] (V : Nat → Value) (j : Nat) : Value := if p j then V j else .int .i64 0
theorem done_upd (p : Nat → Prop) [DecidablePred p] (V : Nat → Value) (j0 : Nat) (q : Nat → Prop) [DecidablePred q] (n : Nat) (h : ∀ j, j < n → (q j ↔ p j ∨ j = j0)) :
    tab n (upd (done p V) j0 (V j0)) = tab n (done q V) := by
  refine tab_congr fun j hj => ?_
  unfold upd done
  by_cases e : j = j0
  · subst e
    rw [if_pos rfl, if_pos ((h j hj).2 (.inr rfl))]
  · rw [if_neg e]
    by_cases hp : p j
    · rw [if_pos hp, if_pos ((h j hj).2 (.inl hp))]
    · rw [if_neg hp, if_neg (fun hq => ((h j hj).1 hq).elim hp e)]
theorem done_same (p q : Nat → Prop) [DecidablePred p] [DecidablePred q] (V : Nat → Value) (n : Nat) (h : ∀ j, j < n → (p j ↔ q j)) : tab n (done p V) = tab n (done q V) := by
  refine tab_congr fun j hj => ?_
  unfold done
  by_cases hp : p j
  · rw [if_pos hp, if_pos ((h j hj).1 hp)]
  · rw [if_neg hp, if_neg (fun hq => hp ((h j hj).2 hq))]
theorem done_none (p : Nat → Prop) [DecidablePred p] (V : Nat → Value) (n : Nat) (h : ∀ j, j < n → ¬ p j) : tab n (done p V) = tab n (fun _ => .int .i64 0) :=
  tab_congr fun j hj => by unfold done; rw [if_neg (h j hj)]
theorem done_all (p : Nat → Prop) [DecidablePred p] (V : Nat → Value) (n : Nat) (h : ∀ j, j < n → p j) : tab n (done p V) = tab n V :=
  tab_congr fun j hj => by unfold done; rw [if_pos (h j hj)]
/-- The bits of the columns beside the place (x, ., z), of the first k rows. -/
def sumc (A : Nat → BitVec 64) (x z : Nat) : Nat → Nat
  | 0 => 0
  | k + 1 => sumc A x z k + bitN A (atN ((x : Int) - 1) k z) + bitN A (atN ((x : Int) + 1) k ((z : Int) - 1))
theorem sumc_le (A : Nat → BitVec 64) (x z : Nat) (k : Nat) : sumc A x z k ≤ 2 * k := by
  induction k with
  | zero => simp [sumc]
  | succ k ih =>
    have h1 := bitN_le A (atN ((x : Int) - 1) k z)
    have h2 := bitN_le A (atN ((x : Int) + 1) k ((z : Int) - 1))
    unfold sumc
    omega
theorem bitN_at (A : Nat → BitVec 64) (i z : Nat) (hz : z < 64) : bitN A (64 * i + z) = if (A i).getLsbD z then 1 else 0 := by
  unfold bitN
  rw [show (64 * i + z) / 64 = i by omega, show (64 * i + z) % 64 = z by omega]
theorem rot_bit (a : BitVec 64) (r z : Nat) (hr : r < 64) (hz : z < 64) : (a.rotateLeft r).getLsbD z = a.getLsbD ((z + 64 - r) % 64) := by
  rw [BitVec.getLsbD_rotateLeft, Nat.mod_eq_of_lt hr]
  by_cases h : z < r
  · rw [decide_eq_true h, cond_true]
    congr 1
    omega
  · rw [decide_eq_false h, cond_false]
    simp only [hz, decide_true, Bool.true_and]
    congr 1
    omega
theorem rot1_bit (a : BitVec 64) (z : Nat) (hz : z < 64) : (a.rotateLeft 1).getLsbD z = a.getLsbD ((z + 63) % 64) := rot_bit a 1 z (by omega) hz
theorem parity11 : ∀ a b0 b1 b2 b3 b4 c0 c1 c2 c3 c4 : Bool,
    ((if a then 1 else 0) + (0 + (if b0 then 1 else 0) + (if c0 then 1 else 0) + (if b1 then 1 else 0) + (if c1 then 1 else 0) + (if b2 then 1 else 0) + (if c2 then 1 else 0) + (if b3 then 1 else 0) + (if c3 then 1 else 0) + (if b4 then 1 else 0) + (if c4 then 1 else 0))) % 2 =
      if (a ^^ ((b0 ^^ b1 ^^ b2 ^^ b3 ^^ b4) ^^ (c0 ^^ c1 ^^ c2 ^^ c3 ^^ c4))) then 1 else (0 : Nat) := by decide +kernel
theorem mixed_bit (A : Nat → BitVec 64) (x y z : Nat) (hz : z < 64) :
    (bitN A (64 * (x + 5 * y) + z) + sumc A x z 5) % 2 = bitN (spreadS A) (64 * (x + 5 * y) + z) := by
  have h1 : ∀ k : Nat, k < 5 → bitN A (atN ((x : Int) - 1) k z) = if (A ((x + 4) % 5 + 5 * k)).getLsbD z then 1 else 0 := fun k hk => by
    rw [show atN ((x : Int) - 1) k z = 64 * ((x + 4) % 5 + 5 * k) + z by unfold atN; omega, bitN_at A _ z hz]
  have h2 : ∀ k : Nat, k < 5 → bitN A (atN ((x : Int) + 1) k ((z : Int) - 1)) = if (A ((x + 1) % 5 + 5 * k)).getLsbD ((z + 63) % 64) then 1 else 0 := fun k hk => by
    rw [show atN ((x : Int) + 1) k ((z : Int) - 1) = 64 * ((x + 1) % 5 + 5 * k) + (z + 63) % 64 by unfold atN; omega, bitN_at A _ _ (by omega)]
  simp only [sumc]
  rw [h1 0 (by omega), h1 1 (by omega), h1 2 (by omega), h1 3 (by omega), h1 4 (by omega), h2 0 (by omega), h2 1 (by omega), h2 2 (by omega), h2 3 (by omega), h2 4 (by omega),
    bitN_at A _ z hz, bitN_at (spreadS A) _ z hz, parity11]
  congr 1
  simp only [spreadS, colX, BitVec.getLsbD_xor, rot1_bit _ z hz, show (x + 5 * y + 4) % 5 = (x + 4) % 5 by omega, show (x + 5 * y + 1) % 5 = (x + 1) % 5 by omega, Nat.reduceMul, Nat.add_zero]
set_option maxHeartbeats 1000000 in
set_option maxRecDepth 100000 in
theorem mixed_calls (A : Nat → BitVec 64) (w : World) :
    Calls Tryd.prog 39 #[.agg (tab 1600 (bitsV A))] w fun e w' => e = .returned (.agg (tab 1600 (bitsV (spreadS A)))) ∧ Below w.heap.size w w' := by
  go_enter Tryd.func39, Tryd.ntmps39
  go_wp2_with (first
    | (refine wpL_alloc rfl 62 rfl (tab 1600 fun _ => .int .i64 0) (by kernel_rfl) ?_))
  go_loopw [4] (fun i wr => ∃ x : Nat, x ≤ 5 ∧ i = .int .i64 x ∧ Blk wr w.heap.size 62 (tab 1600 (bitsV A)) ∧ Blk wr (w.heap.size + 1 + 1) 62 (tab 1600 (done (fun j => j / 64 % 5 < x) (bitsV (spreadS A)))) ∧ Below w.heap.size w wr ∧ ∃ V, Blk wr (w.heap.size + 1) 62 (tab 1600 V)) (fun i _ => 5 - (intOf i).toNat)
  case atStart =>
    refine ⟨0, by omega, rfl, ((Blk.new w _ _).alloc _).alloc _, ?_, ?_, ⟨fun _ => .int .i64 0, ?_⟩⟩
    · exact (Blk.new' _ _ _ (by simp)).same (done_none _ _ _ (by omega)).symm
    · exact (((Below.refl _ _).alloc (Nat.le_refl _) _).alloc (by simp) _).alloc (by simp; omega) _
    · exact (Blk.new' _ _ _ (by simp)).alloc _
  case round =>
    obtain ⟨x, hx, rfl, hA, hC, hB, V, hV⟩ := hrel
    by_cases hlt : x < 5
    · have dx : decide ((x : Int) < 5) = true := by simp; omega
      have HC := Lib.hid hC
      have HA := Lib.hid hA
      have HV := Lib.hid hV
      have HB := Lib.hid hB
      clear hA hC hV hB
      go_wp2_with fail
      go_loopw [5] (fun i wr => ∃ z : Nat, z ≤ 64 ∧ i = .int .i64 z ∧ Blk wr w.heap.size 62 (tab 1600 (bitsV A)) ∧ Blk wr (w.heap.size + 1 + 1) 62 (tab 1600 (done (fun j => j / 64 % 5 < x ∨ (j / 64 % 5 = x ∧ j % 64 < z)) (bitsV (spreadS A)))) ∧ Below w.heap.size w wr ∧ ∃ V, Blk wr (w.heap.size + 1) 62 (tab 1600 V)) (fun i _ => 64 - (intOf i).toNat)
      case atStart => exact ⟨0, by omega, rfl, HA.out, HC.out.same (done_same _ _ _ _ (by omega)), HB.out, V, HV.out⟩
      case round =>
        clear HC HA HV HB
        obtain ⟨z, hz, rfl, hA, hC, hB, V, hV⟩ := hrel
        have HC := Lib.hid hC
        have HA := Lib.hid hA
        have HV := Lib.hid hV
        have HB := Lib.hid hB
        clear hA hC hV hB
        by_cases hlz : z < 64
        · have dz : decide ((z : Int) < 64) = true := by simp; omega
          go_wp2_with fail
          go_loopw [6, 7] (fun n i wr => ∃ k : Nat, k ≤ 5 ∧ i = .int .i64 k ∧ n = .int .i64 (sumc A x z k : Int) ∧ Blk wr w.heap.size 62 (tab 1600 (bitsV A)) ∧ Blk wr (w.heap.size + 1 + 1) 62 (tab 1600 (done (fun j => j / 64 % 5 < x ∨ (j / 64 % 5 = x ∧ j % 64 < z)) (bitsV (spreadS A)))) ∧ Below w.heap.size w wr ∧ ∃ V, Blk wr (w.heap.size + 1) 62 (tab 1600 V)) (fun _ i _ => 5 - (intOf i).toNat)
          case atStart => exact ⟨0, by omega, rfl, rfl, HA.out, HC.out, HB.out, V, HV.out⟩
          case round =>
            clear HC HA HV HB
            obtain ⟨k, hk, rfl, rfl, hA, hC, hB, V, hV⟩ := hrel
            have hsl := sumc_le A x z k
            by_cases hlk : k < 5
            · have dk : decide ((k : Int) < 5) = true := by simp; omega
              have l1 := atN_lt ((x : Int) - 1) k z
              have l2 := atN_lt ((x : Int) + 1) k ((z : Int) - 1)
              have c1 := hA.bit (atN ((x : Int) - 1) k z) (by omega)
              have c2 := hA.bit (atN ((x : Int) + 1) k ((z : Int) - 1)) (by omega)
              have b1 := bitN_le A (atN ((x : Int) - 1) k z)
              have b2 := bitN_le A (atN ((x : Int) + 1) k ((z : Int) - 1))
              have e1 : IntKind.i64.wrap ((sumc A x z k : Int) + (bitN A (atN ((x : Int) - 1) k z) : Int)) = (sumc A x z k : Int) + (bitN A (atN ((x : Int) - 1) k z) : Int) := IntWalk.i64_in _ (by omega)
              have e2 : IntKind.i64.wrap ((sumc A x z k : Int) + (bitN A (atN ((x : Int) - 1) k z) : Int) + (bitN A (atN ((x : Int) + 1) k ((z : Int) - 1)) : Int)) = (sumc A x z k : Int) + (bitN A (atN ((x : Int) - 1) k z) : Int) + (bitN A (atN ((x : Int) + 1) k ((z : Int) - 1)) : Int) := IntWalk.i64_in _ (by omega)
              have HC := Lib.hid hC
              have HA := Lib.hid hA
              have HV := Lib.hid hV
              have HB := Lib.hid hB
              clear hA hC hV hB
              go_wp2_with fail
              go_quiet ((go_at_call 43; exact Calls.quiet_of_same (at_calls _ _ _ (by omega) (by omega) (by omega) _)))
              clear e1 e2 b1 b2 c1 c2 l1 l2
              go_wp2_with fail
              go_roundw
              case rel => exact ⟨k + 1, by omega, by go_num, by simp [sumc, Int.add_assoc], HA.out.drewN _, HC.out.drewN _, below_drewN HB.out _, V, HV.out.drewN _⟩
              case measure => simp [intOf]; omega
            · have dk : decide ((k : Int) < 5) = false := by simp; omega
              have H5 := Lib.hid (show k = 5 by omega)
              have HC := Lib.hid hC
              have HA := Lib.hid hA
              have HV := Lib.hid hV
              have HB := Lib.hid hB
              clear hA hC hV hB
              go_wp2_with fail
              go_loopw [8] (fun i wr => ∃ y : Nat, y ≤ 5 ∧ i = .int .i64 y ∧ Blk wr w.heap.size 62 (tab 1600 (bitsV A)) ∧ Blk wr (w.heap.size + 1 + 1) 62 (tab 1600 (done (fun j => j / 64 % 5 < x ∨ (j / 64 % 5 = x ∧ (j % 64 < z ∨ (j % 64 = z ∧ j / 320 < y)))) (bitsV (spreadS A)))) ∧ Below w.heap.size w wr ∧ ∃ V, Blk wr (w.heap.size + 1) 62 (tab 1600 V)) (fun i _ => 5 - (intOf i).toNat)
              case atStart => exact ⟨0, by omega, rfl, HA.out, HC.out.same (done_same _ _ _ _ (by omega)), HB.out, V, HV.out⟩
              case round =>
                clear HC HA HV HB
                obtain ⟨y, hy, rfl, hA, hC, hB, V, hV⟩ := hrel
                by_cases hly : y < 5
                · have dy : decide ((y : Int) < 5) = true := by simp; omega
                  have hidx : atN x y z = 64 * (x + 5 * y) + z := by unfold atN; omega
                  have hbit : (bitN A (64 * (x + 5 * y) + z) + sumc A x z k) % 2 = bitN (spreadS A) (64 * (x + 5 * y) + z) := by rw [H5.out]; exact mixed_bit A x y z hlz
                  have l1 := atN_lt (x : Int) y z
                  have c1 := hA.bit (atN (x : Int) y z) (by omega)
                  have c2 := hC.at_ (atN (x : Int) y z) (by omega)
                  have h6 := hC.frozen (atN (x : Int) y z)
                  have b1 := bitN_le A (atN (x : Int) y z)
                  have hd : (done (fun j => j / 64 % 5 < x ∨ (j / 64 % 5 = x ∧ (j % 64 < z ∨ (j % 64 = z ∧ j / 320 < y)))) (bitsV (spreadS A))) (atN (x : Int) y z) = .int .i64 0 := by
                    unfold done
                    rw [if_neg (by rw [hidx]; omega)]
                  rw [hd] at c2
                  have HC := Lib.hid hC
                  have HA := Lib.hid hA
                  have HV := Lib.hid hV
                  have HB := Lib.hid hB
                  have Hidx := Lib.hid hidx
                  have Hbit := Lib.hid hbit
                  clear hA hC hV hB hidx hbit hd
                  go_wp2_with (go_at_call 43; refine (at_calls _ _ _ (by omega) (by omega) (by omega) _).mono ?_; rintro e w' ⟨rfl, rfl⟩)
                  go_roundw
                  case rel =>
                    refine ⟨y + 1, by omega, by go_num, HA.out.far (by simp; omega) _, ?_, HB.out.setCell (by simp; omega) _, V, HV.out.far (by simp) _⟩
                    have hv : (Value.int IntKind.i64 (((bitN A (atN x y z) : Int) + (sumc A x z k : Int)) % 2)) = bitsV (spreadS A) (atN x y z) := by
                      unfold bitsV
                      rw [Hidx.out, ← Hbit.out]
                      norm_cast
                    rw [hv]
                    exact (HC.out.put _ _).same (done_upd _ _ _ _ _ (by rw [Hidx.out]; omega))
                  case measure => simp [intOf]; omega
                · have HC := Lib.hid hC
                  have HA := Lib.hid hA
                  have HV := Lib.hid hV
                  have HB := Lib.hid hB
                  clear hA hC hV hB
                  go_wp2_with fail
                  go_roundw
                  case rel =>
                    exact ⟨z + 1, by omega, by go_num, HA.out, HC.out.same (done_same _ _ _ _ (by omega)), HB.out, V, HV.out⟩
                  case measure => simp [intOf]; omega
        · go_wp2_with fail
          go_roundw
          case rel =>
            exact ⟨x + 1, by omega, by go_num, HA.out, HC.out.same (done_same _ _ _ _ (by omega)), HB.out, V, HV.out⟩
          case measure => simp [intOf]; omega
    · have HA := Lib.hid (hC.same (done_all _ _ _ (by omega)))
      have HV := Lib.hid hV
      clear hA hC hV
      go_wp2_with (first
        | (refine wpL_load rfl 62 (.tmp 3) rfl (n := 1600) 0 rfl _ HA.out (by omega) Tryd.underlying62 rfl (by kernel_rfl) ?_)
        | (refine wpL_store rfl 62 (.tmp 2) (.tmp 61) rfl 0 rfl rfl HV.out (by omega) (by kernel_rfl) (fun _ => rfl) ?_))
      refine ret_cell rfl rfl _ (HV.out.setRow.same ?_) Tryd.underlying62 rfl (by kernel_rfl) rfl ⟨rfl, below_setRow hB (by omega) _⟩
      rw [over_whole]
      exact tab_congr fun i _ => by simp
end Go.Proofs.YtfidjeoeaeghhaaDoor
