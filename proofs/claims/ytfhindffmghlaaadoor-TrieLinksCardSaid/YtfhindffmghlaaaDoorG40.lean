/- The document's own sponge, its two small functions: the place of a bit; by how much a lane is turned. -/
import Derived.Test.YtfhindffmghlaaaDoorG12
import Derived.Test.YtfhindffmghlaaaDoorG02
import Derived.Test.YtfhindffmghlaaaDoorG13
set_option linter.unusedVariables false
set_option linter.unusedSimpArgs false
namespace Go.Proofs.YtfhindffmghlaaaDoor
open Go.RowKit
def atZ (x y z : Int) : Nat := (64 * ((x + 5) % 5 + 5 * ((y + 5) % 5)) + (z + 64) % 64).toNat
theorem atZ_int (x y z : Int) : ((atZ x y z : Nat) : Int) = 64 * ((x + 5) % 5 + 5 * ((y + 5) % 5)) + (z + 64) % 64 := by unfold atZ; omega
theorem atZ_lt (x y z : Int) : (atZ x y z : Int) < 1600 := by rw [atZ_int]; omega
set_option maxRecDepth 20000 in
theorem atR_calls (x y z : Int) (hx : -5 ≤ x ∧ x ≤ 100) (hy : -5 ≤ y ∧ y ≤ 100) (hz : -64 ≤ z ∧ z ≤ 100) (w : World) :
    Calls Tryd.prog 119 #[.int .i64 x, .int .i64 y, .int .i64 z] w fun e w' => e = .returned (.int .i64 (atZ x y z : Int)) ∧ w' = w := by
  obtain ⟨hx1, hx2⟩ := hx
  obtain ⟨hy1, hy2⟩ := hy
  obtain ⟨hz1, hz2⟩ := hz
  go_enter Tryd.func119, Tryd.ntmps119
  go_wp2_with fail
  go_ret
  exact ⟨ret_int (by rw [atZ_int]; omega), rfl⟩
/-- The place behind so many moves from (1, 0). -/
def walkN : Nat → Nat × Nat
  | 0 => (1, 0)
  | t + 1 => ((walkN t).2, (2 * (walkN t).1 + 3 * (walkN t).2) % 5)
theorem walkN_lt (t : Nat) (h : t < 25) : (walkN t).1 < 5 ∧ (walkN t).2 < 5 := by
  have : ∀ t : Fin 25, (walkN t.val).1 < 5 ∧ (walkN t.val).2 < 5 := by decide
  exact this ⟨t, h⟩
theorem walk_turn (t : Nat) (h : t < 24) : turnsN ((walkN t).1 + 5 * (walkN t).2) = (t + 1) * (t + 2) / 2 % 64 := by
  have : ∀ t : Fin 24, turnsN ((walkN t.val).1 + 5 * (walkN t.val).2) = (t.val + 1) * (t.val + 2) / 2 % 64 := by decide
  exact this ⟨t, h⟩
theorem walk_all (x y : Nat) (hx : x < 5) (hy : y < 5) (h : ∀ t, t < 24 → ¬ ((walkN t).1 = x ∧ (walkN t).2 = y)) : turnsN (x + 5 * y) = 0 := by
  have : ∀ (x y : Fin 5), (∀ t : Fin 24, ¬ ((walkN t.val).1 = x.val ∧ (walkN t.val).2 = y.val)) → turnsN (x.val + 5 * y.val) = 0 := by decide
  exact this ⟨x, hx⟩ ⟨y, hy⟩ (fun t => h t.val t.isLt)
theorem offs_num (k : Nat) (h : k < 24) : (wrap64 ((wrap64 (((k : Int) + 1) * ((k : Int) + 2))).tdiv 2)).tmod 64 = (((k + 1) * (k + 2) / 2 % 64 : Nat) : Int) := by
  have : ∀ k : Fin 24, (wrap64 ((wrap64 (((k.val : Int) + 1) * ((k.val : Int) + 2))).tdiv 2)).tmod 64 = (((k.val + 1) * (k.val + 2) / 2 % 64 : Nat) : Int) := by decide +kernel
  exact this ⟨k, h⟩
set_option maxHeartbeats 1000000 in
set_option maxRecDepth 20000 in
theorem offset_calls (x y : Nat) (hx : x < 5) (hy : y < 5) (w : World) :
    Calls Tryd.prog 120 #[.int .i64 (x : Int), .int .i64 (y : Int)] w fun e w' => e = .returned (.int .i64 (turnsN (x + 5 * y) : Int)) ∧ w' = w := by
  go_enter Tryd.func120, Tryd.ntmps120
  go_wp2_with fail
  go_loop [5, 6, 7] (fun p q t => ∃ k : Nat, k ≤ 24 ∧ t = .int .i64 k ∧ p = .int .i64 ((walkN k).1 : Int) ∧ q = .int .i64 ((walkN k).2 : Int) ∧ ∀ j, j < k → ¬ ((walkN j).1 = x ∧ (walkN j).2 = y)) (fun _ _ t => 24 - (intOf t).toNat)
  case atStart => exact ⟨0, by omega, rfl, rfl, rfl, fun j hj => by omega⟩
  case round =>
    obtain ⟨k, hk, rfl, rfl, rfl, hall⟩ := hrel
    have Hall := Lib.hid hall
    clear hall
    by_cases hlt : k < 24
    · obtain ⟨h1, h2⟩ := walkN_lt k (by omega)
      have hp := Lib.hid (walk_turn k hlt)
      have hq := Lib.hid (show walkN (k + 1) = ((walkN k).2, (2 * (walkN k).1 + 3 * (walkN k).2) % 5) from rfl)
      generalize hw1 : (walkN k).1 = p at *
      generalize hw2 : (walkN k).2 = q at *
      have Hw1 := Lib.hid hw1
      have Hw2 := Lib.hid hw2
      clear hw1 hw2
      have hne : ∀ (_ : ¬ (p = x ∧ q = y)), ∀ j, j < k + 1 → ¬ ((walkN j).1 = x ∧ (walkN j).2 = y) := fun h j hj => by
        rcases Nat.lt_or_ge j k with hjk | hjk
        · exact Hall.out j hjk
        · obtain rfl : j = k := by omega
          rw [Hw1.out, Hw2.out]; exact h
      have Hne := Lib.hid hne
      have Hn := Lib.hid (offs_num k hlt)
      clear hne
      by_cases hpx : p = x
      · by_cases hqy : q = y
        · have e1 : ((p : Int) == (x : Int)) = true := by simp [hpx]
          have e2 : ((q : Int) == (y : Int)) = true := by simp [hqy]
          have Hp := Lib.hid hpx
          have Hq := Lib.hid hqy
          clear hpx hqy
          go_wp2_with fail
          go_ret
          exact ⟨ret_int (by rw [← Hp.out, ← Hq.out, hp.out]; exact Hn.out), rfl⟩
        · have e1 : ((p : Int) == (x : Int)) = true := by simp [hpx]
          have e2 : ((q : Int) == (y : Int)) = false := by simp; omega
          have Hp := Lib.hid (Hne.out (by omega))
          clear hpx hqy
          go_wp2_with fail
          go_round
          case rel => exact ⟨k + 1, by omega, by go_num, by rw [hq.out], by rw [hq.out]; go_num, Hp.out⟩
          case measure => simp [intOf]; omega
      · have e1 : ((p : Int) == (x : Int)) = false := by simp; omega
        have Hp := Lib.hid (Hne.out (by omega))
        clear hpx
        go_wp2_with fail
        go_round
        case rel => exact ⟨k + 1, by omega, by go_num, by rw [hq.out], by rw [hq.out]; go_num, Hp.out⟩
        case measure => simp [intOf]; omega
    · have hz := Lib.hid (walk_all x y hx hy (fun t ht => Hall.out t (by omega)))
      go_wp2_with fail
      go_ret
      exact ⟨ret_int (by rw [hz.out]; rfl), rfl⟩
end Go.Proofs.YtfhindffmghlaaaDoor
/- The document's own sponge: the first thing of a round: it is what spread is. -/
namespace Go.Proofs.YtfhindffmghlaaaDoor
open Go.RowKit
/-- The bit number j of a state, as a number. -/
def bitN (A : Nat → BitVec 64) (j : Nat) : Nat := if (A (j / 64)).getLsbD (j % 64) then 1 else 0
theorem bitN_le (A : Nat → BitVec 64) (j : Nat) : (bitN A j : Int) ≤ 1 := by unfold bitN; split <;> omega
def bitsV (A : Nat → BitVec 64) (j : Nat) : Value := .int .i64 (bitN A j : Int)
theorem Blk.bit {w : World} {g t n : Nat} {A : Nat → BitVec 64} (h : Blk w g t (tab n (bitsV A))) (i : Nat) (hi : i < n) : w.cell? ⟨g, i, none⟩ = some (.int .i64 (bitN A i : Int)) := h.at_ i hi
/-- What is done: V; what is not: 0. -/
def done (p : Nat → Prop) [DecidablePred p] (V : Nat → Value) (j : Nat) : Value := if p j then V j else .int .i64 0
theorem done_upd (p : Nat → Prop) [DecidablePred p] (V : Nat → Value) (j0 : Nat) (q : Nat → Prop) [DecidablePred q] (n : Nat) (h : ∀ j, j < n → (q j ↔ p j ∨ j = j0)) :
    tab n (upd (done p V) j0 (V j0)) = tab n (done q V) := by
  refine tab_congr fun j hj => ?_
  unfold upd done
  by_cases e : j = j0
  · subst e
    rw [if_pos rfl, if_pos ((h j hj).2 (.inr rfl))]
  · rw [if_neg e]
    by_cases hp : p j
    · rw [if_pos hp, if_pos ((h j hj).2 (.inl hp))]
    · rw [if_neg hp, if_neg (fun hq => ((h j hj).1 hq).elim hp e)]
theorem done_same (p q : Nat → Prop) [DecidablePred p] [DecidablePred q] (V : Nat → Value) (n : Nat) (h : ∀ j, j < n → (p j ↔ q j)) : tab n (done p V) = tab n (done q V) := by
  refine tab_congr fun j hj => ?_
  unfold done
  by_cases hp : p j
  · rw [if_pos hp, if_pos ((h j hj).1 hp)]
  · rw [if_neg hp, if_neg (fun hq => hp ((h j hj).2 hq))]
theorem done_none (p : Nat → Prop) [DecidablePred p] (V : Nat → Value) (n : Nat) (h : ∀ j, j < n → ¬ p j) : tab n (done p V) = tab n (fun _ => .int .i64 0) :=
  tab_congr fun j hj => by unfold done; rw [if_neg (h j hj)]
theorem done_all (p : Nat → Prop) [DecidablePred p] (V : Nat → Value) (n : Nat) (h : ∀ j, j < n → p j) : tab n (done p V) = tab n V :=
  tab_congr fun j hj => by unfold done; rw [if_pos (h j hj)]
/-- The bits of the columns beside the place (x, ., z), of the first k rows. -/
def sumc (A : Nat → BitVec 64) (x z : Nat) : Nat → Nat
  | 0 => 0
  | k + 1 => sumc A x z k + bitN A (atZ ((x : Int) - 1) k z) + bitN A (atZ ((x : Int) + 1) k ((z : Int) - 1))
theorem sumc_le (A : Nat → BitVec 64) (x z : Nat) (k : Nat) : sumc A x z k ≤ 2 * k := by
  induction k with
  | zero => simp [sumc]
  | succ k ih =>
    have h1 := bitN_le A (atZ ((x : Int) - 1) k z)
    have h2 := bitN_le A (atZ ((x : Int) + 1) k ((z : Int) - 1))
    unfold sumc
    omega
theorem bitN_at (A : Nat → BitVec 64) (i z : Nat) (hz : z < 64) : bitN A (64 * i + z) = if (A i).getLsbD z then 1 else 0 := by
  unfold bitN
  rw [show (64 * i + z) / 64 = i by omega, show (64 * i + z) % 64 = z by omega]
theorem rot_bit (a : BitVec 64) (r z : Nat) (hr : r < 64) (hz : z < 64) : (a.rotateLeft r).getLsbD z = a.getLsbD ((z + 64 - r) % 64) := by
  rw [BitVec.getLsbD_rotateLeft, Nat.mod_eq_of_lt hr]
  by_cases h : z < r
  · rw [decide_eq_true h, cond_true]
    congr 1
    omega
  · rw [decide_eq_false h, cond_false]
    simp only [hz, decide_true, Bool.true_and]
    congr 1
    omega
theorem rot1_bit (a : BitVec 64) (z : Nat) (hz : z < 64) : (a.rotateLeft 1).getLsbD z = a.getLsbD ((z + 63) % 64) := rot_bit a 1 z (by omega) hz
theorem parity11 : ∀ a b0 b1 b2 b3 b4 c0 c1 c2 c3 c4 : Bool,
    ((if a then 1 else 0) + (0 + (if b0 then 1 else 0) + (if c0 then 1 else 0) + (if b1 then 1 else 0) + (if c1 then 1 else 0) + (if b2 then 1 else 0) + (if c2 then 1 else 0) + (if b3 then 1 else 0) + (if c3 then 1 else 0) + (if b4 then 1 else 0) + (if c4 then 1 else 0))) % 2 =
      if (a ^^ ((b0 ^^ b1 ^^ b2 ^^ b3 ^^ b4) ^^ (c0 ^^ c1 ^^ c2 ^^ c3 ^^ c4))) then 1 else (0 : Nat) := by decide +kernel
theorem mixed_bit (A : Nat → BitVec 64) (x y z : Nat) (hz : z < 64) :
    (bitN A (64 * (x + 5 * y) + z) + sumc A x z 5) % 2 = bitN (spreadS A) (64 * (x + 5 * y) + z) := by
  have h1 : ∀ k : Nat, k < 5 → bitN A (atZ ((x : Int) - 1) k z) = if (A ((x + 4) % 5 + 5 * k)).getLsbD z then 1 else 0 := fun k hk => by
    rw [show atZ ((x : Int) - 1) k z = 64 * ((x + 4) % 5 + 5 * k) + z by unfold atZ; omega, bitN_at A _ z hz]
  have h2 : ∀ k : Nat, k < 5 → bitN A (atZ ((x : Int) + 1) k ((z : Int) - 1)) = if (A ((x + 1) % 5 + 5 * k)).getLsbD ((z + 63) % 64) then 1 else 0 := fun k hk => by
    rw [show atZ ((x : Int) + 1) k ((z : Int) - 1) = 64 * ((x + 1) % 5 + 5 * k) + (z + 63) % 64 by unfold atZ; omega, bitN_at A _ _ (by omega)]
  simp only [sumc]
  rw [h1 0 (by omega), h1 1 (by omega), h1 2 (by omega), h1 3 (by omega), h1 4 (by omega), h2 0 (by omega), h2 1 (by omega), h2 2 (by omega), h2 3 (by omega), h2 4 (by omega),
    bitN_at A _ z hz, bitN_at (spreadS A) _ z hz, parity11]
  congr 1
  simp only [spreadS, colX, BitVec.getLsbD_xor, rot1_bit _ z hz, show (x + 5 * y + 4) % 5 = (x + 4) % 5 by omega, show (x + 5 * y + 1) % 5 = (x + 1) % 5 by omega, Nat.reduceMul, Nat.add_zero]
set_option maxHeartbeats 1000000 in
set_option maxRecDepth 100000 in
theorem mixed_calls (A : Nat → BitVec 64) (w : World) :
    Calls Tryd.prog 112 #[.agg (tab 1600 (bitsV A))] w fun e w' => e = .returned (.agg (tab 1600 (bitsV (spreadS A)))) ∧ Below w.heap.size w w' := by
  go_enter Tryd.func112, Tryd.ntmps112
  go_wp2_with (first
    | (refine wpL_alloc rfl 136 rfl (tab 1600 fun _ => .int .i64 0) (by kernel_rfl) ?_))
  go_loopw [4] (fun i wr => ∃ x : Nat, x ≤ 5 ∧ i = .int .i64 x ∧ Blk wr w.heap.size 136 (tab 1600 (bitsV A)) ∧ Blk wr (w.heap.size + 1 + 1) 136 (tab 1600 (done (fun j => j / 64 % 5 < x) (bitsV (spreadS A)))) ∧ Below w.heap.size w wr ∧ ∃ V, Blk wr (w.heap.size + 1) 136 (tab 1600 V)) (fun i _ => 5 - (intOf i).toNat)
  case atStart =>
    refine ⟨0, by omega, rfl, ((Blk.new w _ _).alloc _).alloc _, ?_, ?_, ⟨fun _ => .int .i64 0, ?_⟩⟩
    · exact (Blk.new' _ _ _ (by simp)).same (done_none _ _ _ (by omega)).symm
    · exact (((Below.refl _ _).alloc (Nat.le_refl _) _).alloc (by simp) _).alloc (by simp; omega) _
    · exact (Blk.new' _ _ _ (by simp)).alloc _
  case round =>
    obtain ⟨x, hx, rfl, hA, hC, hB, V, hV⟩ := hrel
    by_cases hlt : x < 5
    · have dx : decide ((x : Int) < 5) = true := by simp; omega
      have HC := Lib.hid hC
      have HA := Lib.hid hA
      have HV := Lib.hid hV
      have HB := Lib.hid hB
      clear hA hC hV hB
      go_wp2_with fail
      go_loopw [5] (fun i wr => ∃ z : Nat, z ≤ 64 ∧ i = .int .i64 z ∧ Blk wr w.heap.size 136 (tab 1600 (bitsV A)) ∧ Blk wr (w.heap.size + 1 + 1) 136 (tab 1600 (done (fun j => j / 64 % 5 < x ∨ (j / 64 % 5 = x ∧ j % 64 < z)) (bitsV (spreadS A)))) ∧ Below w.heap.size w wr ∧ ∃ V, Blk wr (w.heap.size + 1) 136 (tab 1600 V)) (fun i _ => 64 - (intOf i).toNat)
      case atStart => exact ⟨0, by omega, rfl, HA.out, HC.out.same (done_same _ _ _ _ (by omega)), HB.out, V, HV.out⟩
      case round =>
        clear HC HA HV HB
        obtain ⟨z, hz, rfl, hA, hC, hB, V, hV⟩ := hrel
        have HC := Lib.hid hC
        have HA := Lib.hid hA
        have HV := Lib.hid hV
        have HB := Lib.hid hB
        clear hA hC hV hB
        by_cases hlz : z < 64
        · have dz : decide ((z : Int) < 64) = true := by simp; omega
          go_wp2_with fail
          go_loopw [6, 7] (fun n i wr => ∃ k : Nat, k ≤ 5 ∧ i = .int .i64 k ∧ n = .int .i64 (sumc A x z k : Int) ∧ Blk wr w.heap.size 136 (tab 1600 (bitsV A)) ∧ Blk wr (w.heap.size + 1 + 1) 136 (tab 1600 (done (fun j => j / 64 % 5 < x ∨ (j / 64 % 5 = x ∧ j % 64 < z)) (bitsV (spreadS A)))) ∧ Below w.heap.size w wr ∧ ∃ V, Blk wr (w.heap.size + 1) 136 (tab 1600 V)) (fun _ i _ => 5 - (intOf i).toNat)
          case atStart => exact ⟨0, by omega, rfl, rfl, HA.out, HC.out, HB.out, V, HV.out⟩
          case round =>
            clear HC HA HV HB
            obtain ⟨k, hk, rfl, rfl, hA, hC, hB, V, hV⟩ := hrel
            have hsl := sumc_le A x z k
            by_cases hlk : k < 5
            · have dk : decide ((k : Int) < 5) = true := by simp; omega
              have l1 := atZ_lt ((x : Int) - 1) k z
              have l2 := atZ_lt ((x : Int) + 1) k ((z : Int) - 1)
              have c1 := hA.bit (atZ ((x : Int) - 1) k z) (by omega)
              have c2 := hA.bit (atZ ((x : Int) + 1) k ((z : Int) - 1)) (by omega)
              have b1 := bitN_le A (atZ ((x : Int) - 1) k z)
              have b2 := bitN_le A (atZ ((x : Int) + 1) k ((z : Int) - 1))
              have e1 : IntKind.i64.wrap ((sumc A x z k : Int) + (bitN A (atZ ((x : Int) - 1) k z) : Int)) = (sumc A x z k : Int) + (bitN A (atZ ((x : Int) - 1) k z) : Int) := IntWalk.i64_in _ (by omega)
              have e2 : IntKind.i64.wrap ((sumc A x z k : Int) + (bitN A (atZ ((x : Int) - 1) k z) : Int) + (bitN A (atZ ((x : Int) + 1) k ((z : Int) - 1)) : Int)) = (sumc A x z k : Int) + (bitN A (atZ ((x : Int) - 1) k z) : Int) + (bitN A (atZ ((x : Int) + 1) k ((z : Int) - 1)) : Int) := IntWalk.i64_in _ (by omega)
              have HC := Lib.hid hC
              have HA := Lib.hid hA
              have HV := Lib.hid hV
              have HB := Lib.hid hB
              clear hA hC hV hB
              go_wp2_with fail
              go_quiet ((go_at_call 119; exact Calls.quiet_of_same (atR_calls _ _ _ (by omega) (by omega) (by omega) _)))
              clear e1 e2 b1 b2 c1 c2 l1 l2
              go_wp2_with fail
              go_roundw
              case rel => exact ⟨k + 1, by omega, by go_num, by simp [sumc, Int.add_assoc], HA.out.drewN _, HC.out.drewN _, below_drewN HB.out _, V, HV.out.drewN _⟩
              case measure => simp [intOf]; omega
            · have dk : decide ((k : Int) < 5) = false := by simp; omega
              have H5 := Lib.hid (show k = 5 by omega)
              have HC := Lib.hid hC
              have HA := Lib.hid hA
              have HV := Lib.hid hV
              have HB := Lib.hid hB
              clear hA hC hV hB
              go_wp2_with fail
              go_loopw [8] (fun i wr => ∃ y : Nat, y ≤ 5 ∧ i = .int .i64 y ∧ Blk wr w.heap.size 136 (tab 1600 (bitsV A)) ∧ Blk wr (w.heap.size + 1 + 1) 136 (tab 1600 (done (fun j => j / 64 % 5 < x ∨ (j / 64 % 5 = x ∧ (j % 64 < z ∨ (j % 64 = z ∧ j / 320 < y)))) (bitsV (spreadS A)))) ∧ Below w.heap.size w wr ∧ ∃ V, Blk wr (w.heap.size + 1) 136 (tab 1600 V)) (fun i _ => 5 - (intOf i).toNat)
              case atStart => exact ⟨0, by omega, rfl, HA.out, HC.out.same (done_same _ _ _ _ (by omega)), HB.out, V, HV.out⟩
              case round =>
                clear HC HA HV HB
                obtain ⟨y, hy, rfl, hA, hC, hB, V, hV⟩ := hrel
                by_cases hly : y < 5
                · have dy : decide ((y : Int) < 5) = true := by simp; omega
                  have hidx : atZ x y z = 64 * (x + 5 * y) + z := by unfold atZ; omega
                  have hbit : (bitN A (64 * (x + 5 * y) + z) + sumc A x z k) % 2 = bitN (spreadS A) (64 * (x + 5 * y) + z) := by rw [H5.out]; exact mixed_bit A x y z hlz
                  have l1 := atZ_lt (x : Int) y z
                  have c1 := hA.bit (atZ (x : Int) y z) (by omega)
                  have c2 := hC.at_ (atZ (x : Int) y z) (by omega)
                  have h6 := hC.frozen (atZ (x : Int) y z)
                  have b1 := bitN_le A (atZ (x : Int) y z)
                  have hd : (done (fun j => j / 64 % 5 < x ∨ (j / 64 % 5 = x ∧ (j % 64 < z ∨ (j % 64 = z ∧ j / 320 < y)))) (bitsV (spreadS A))) (atZ (x : Int) y z) = .int .i64 0 := by
                    unfold done
                    rw [if_neg (by rw [hidx]; omega)]
                  rw [hd] at c2
                  have HC := Lib.hid hC
                  have HA := Lib.hid hA
                  have HV := Lib.hid hV
                  have HB := Lib.hid hB
                  have Hidx := Lib.hid hidx
                  have Hbit := Lib.hid hbit
                  clear hA hC hV hB hidx hbit hd
                  go_wp2_with (go_at_call 119; refine (atR_calls _ _ _ (by omega) (by omega) (by omega) _).mono ?_; rintro e w' ⟨rfl, rfl⟩)
                  go_roundw
                  case rel =>
                    refine ⟨y + 1, by omega, by go_num, HA.out.far (by simp; omega) _, ?_, HB.out.setCell (by simp; omega) _, V, HV.out.far (by simp) _⟩
                    have hv : (Value.int IntKind.i64 (((bitN A (atZ x y z) : Int) + (sumc A x z k : Int)) % 2)) = bitsV (spreadS A) (atZ x y z) := by
                      unfold bitsV
                      rw [Hidx.out, ← Hbit.out]
                      norm_cast
                    rw [hv]
                    exact (HC.out.put _ _).same (done_upd _ _ _ _ _ (by rw [Hidx.out]; omega))
                  case measure => simp [intOf]; omega
                · have HC := Lib.hid hC
                  have HA := Lib.hid hA
                  have HV := Lib.hid hV
                  have HB := Lib.hid hB
                  clear hA hC hV hB
                  go_wp2_with fail
                  go_roundw
                  case rel =>
                    exact ⟨z + 1, by omega, by go_num, HA.out, HC.out.same (done_same _ _ _ _ (by omega)), HB.out, V, HV.out⟩
                  case measure => simp [intOf]; omega
        · go_wp2_with fail
          go_roundw
          case rel =>
            exact ⟨x + 1, by omega, by go_num, HA.out, HC.out.same (done_same _ _ _ _ (by omega)), HB.out, V, HV.out⟩
          case measure => simp [intOf]; omega
    · have HA := Lib.hid (hC.same (done_all _ _ _ (by omega)))
      have HV := Lib.hid hV
      clear hA hC hV
      go_wp2_with (first
        | (refine wpL_load rfl 136 (.tmp 3) rfl (n := 1600) 0 rfl _ HA.out (by omega) Tryd.underlying136 rfl (by kernel_rfl) ?_)
        | (refine wpL_store rfl 136 (.tmp 2) (.tmp 61) rfl 0 rfl rfl HV.out (by omega) (by kernel_rfl) (fun _ => rfl) ?_))
      refine ret_cell rfl rfl _ (HV.out.setRow.same ?_) Tryd.underlying136 rfl (by kernel_rfl) rfl ⟨rfl, below_setRow hB (by omega) _⟩
      rw [over_whole]
      exact tab_congr fun i _ => by simp
end Go.Proofs.YtfhindffmghlaaaDoor
/- The document's own sponge: the second and the third thing of a round: they are what moved is. -/
namespace Go.Proofs.YtfhindffmghlaaaDoor
open Go.RowKit
theorem atN_small (x y z : Nat) (hx : x < 5) (hy : y < 5) (hz : z < 64) : atZ (x : Int) (y : Int) (z : Int) = 64 * (x + 5 * y) + z := by
  unfold atZ
  have h1 : ((x : Int) + 5) % 5 = x := by omega
  have h2 : ((y : Int) + 5) % 5 = y := by omega
  have h3 : ((z : Int) + 64) % 64 = z := by omega
  rw [h1, h2, h3]
  omega
theorem atN_back (x y z r : Nat) (hx : x < 5) (hy : y < 5) (hz : z < 64) (hr : r < 64) : atZ (x : Int) (y : Int) ((z : Int) - (r : Int)) = 64 * (x + 5 * y) + (z + 64 - r) % 64 := by
  unfold atZ
  have h1 : ((x : Int) + 5) % 5 = x := by omega
  have h2 : ((y : Int) + 5) % 5 = y := by omega
  have h3 : ((z : Int) - (r : Int) + 64) % 64 = (((z + 64 - r) % 64 : Nat) : Int) := by omega
  rw [h1, h2, h3]
  omega
theorem atN_dest (x y z : Nat) (hx : x < 5) (hy : y < 5) (hz : z < 64) : atZ (y : Int) ((2 * (x : Int) + 3 * (y : Int)) % 5) z = 64 * dest (x + 5 * y) + z := by
  have hm : (2 * (x : Int) + 3 * (y : Int)) % 5 = (((2 * x + 3 * y) % 5 : Nat) : Int) := by norm_cast
  have hm2 : (2 * x + 3 * y) % 5 < 5 := Nat.mod_lt _ (by omega)
  rw [hm, atN_small _ _ _ hy hm2 hz]
  unfold dest
  rw [show (x + 5 * y) / 5 = y by omega, show (x + 5 * y) % 5 = x by omega]
theorem movedS_dest (A : Nat → BitVec 64) (i : Nat) (hi : i < 25) : movedS A (dest i) = (A i).rotateLeft (turnsN i) := by
  unfold movedS
  rw [(src_dest i hi).1]
theorem moved_bit (A : Nat → BitVec 64) (i z : Nat) (hi : i < 25) (hz : z < 64) :
    bitN A (64 * i + (z + 64 - turnsN i) % 64) = bitN (movedS A) (64 * dest i + z) := by
  rw [bitN_at A _ _ (by omega), bitN_at _ _ z hz, movedS_dest A i hi, rot_bit _ _ _ (turnsN_lt i) hz]
theorem moved_next (x y z j : Nat) (hx : x < 5) (hy : y < 5) (hz : z < 64) (hj : j < 1600) :
    (src (j / 64) % 5 < x ∨ (src (j / 64) % 5 = x ∧ (src (j / 64) / 5 < y ∨ (src (j / 64) / 5 = y ∧ j % 64 < z + 1)))) ↔
      (src (j / 64) % 5 < x ∨ (src (j / 64) % 5 = x ∧ (src (j / 64) / 5 < y ∨ (src (j / 64) / 5 = y ∧ j % 64 < z)))) ∨ j = 64 * dest (x + 5 * y) + z := by
  have h1 := dest_src (j / 64) (by omega)
  have h2 := src_dest (x + 5 * y) (by omega)
  have h3 : j / 64 = dest (x + 5 * y) ↔ src (j / 64) = x + 5 * y := ⟨fun e => by rw [e, h2.1], fun e => by rw [← e, h1.1]⟩
  obtain ⟨_, h4⟩ := h1
  obtain ⟨_, h5⟩ := h2
  generalize src (j / 64) = s at *
  generalize dest (x + 5 * y) = d at *
  omega
theorem done_zero (p : Nat → Prop) [DecidablePred p] (V : Nat → Value) (j : Nat) (h : ¬ p j) : done p V j = .int .i64 0 := if_neg h
theorem moved_not (x y z : Nat) (hx : x < 5) (hy : y < 5) (hz : z < 64) :
    ¬ (src ((64 * dest (x + 5 * y) + z) / 64) % 5 < x ∨ (src ((64 * dest (x + 5 * y) + z) / 64) % 5 = x ∧ (src ((64 * dest (x + 5 * y) + z) / 64) / 5 < y ∨ (src ((64 * dest (x + 5 * y) + z) / 64) / 5 = y ∧ (64 * dest (x + 5 * y) + z) % 64 < z)))) := by
  rw [show (64 * dest (x + 5 * y) + z) / 64 = dest (x + 5 * y) by omega, (src_dest (x + 5 * y) (by omega)).1]
  omega
set_option maxHeartbeats 1000000 in
set_option maxRecDepth 100000 in
theorem movedR_calls (A : Nat → BitVec 64) (w : World) :
    Calls Tryd.prog 113 #[.agg (tab 1600 (bitsV A))] w fun e w' => e = .returned (.agg (tab 1600 (bitsV (movedS A)))) ∧ Below w.heap.size w w' := by
  go_enter Tryd.func113, Tryd.ntmps113
  go_wp2_with (first
    | (refine wpL_alloc rfl 136 rfl (tab 1600 fun _ => .int .i64 0) (by kernel_rfl) ?_))
  go_loopw [4] (fun i wr => ∃ x : Nat, x ≤ 5 ∧ i = .int .i64 x ∧ Blk wr w.heap.size 136 (tab 1600 (bitsV A)) ∧ Blk wr (w.heap.size + 1 + 1) 136 (tab 1600 (done (fun j => src (j / 64) % 5 < x) (bitsV (movedS A)))) ∧ Below w.heap.size w wr ∧ ∃ V, Blk wr (w.heap.size + 1) 136 (tab 1600 V)) (fun i _ => 5 - (intOf i).toNat)
  case atStart =>
    refine ⟨0, by omega, rfl, ((Blk.new w _ _).alloc _).alloc _, ?_, ?_, ⟨fun _ => .int .i64 0, ?_⟩⟩
    · exact (Blk.new' _ _ _ (by simp)).same (done_none _ _ _ (by omega)).symm
    · exact (((Below.refl _ _).alloc (Nat.le_refl _) _).alloc (by simp) _).alloc (by simp; omega) _
    · exact (Blk.new' _ _ _ (by simp)).alloc _
  case round =>
    obtain ⟨x, hx, rfl, hA, hC, hB, V, hV⟩ := hrel
    by_cases hlt : x < 5
    · have dx : decide ((x : Int) < 5) = true := by simp; omega
      have HC := Lib.hid hC
      have HA := Lib.hid hA
      have HV := Lib.hid hV
      have HB := Lib.hid hB
      clear hA hC hV hB
      go_wp2_with fail
      go_loopw [5] (fun i wr => ∃ y : Nat, y ≤ 5 ∧ i = .int .i64 y ∧ Blk wr w.heap.size 136 (tab 1600 (bitsV A)) ∧ Blk wr (w.heap.size + 1 + 1) 136 (tab 1600 (done (fun j => src (j / 64) % 5 < x ∨ (src (j / 64) % 5 = x ∧ src (j / 64) / 5 < y)) (bitsV (movedS A)))) ∧ Below w.heap.size w wr ∧ ∃ V, Blk wr (w.heap.size + 1) 136 (tab 1600 V)) (fun i _ => 5 - (intOf i).toNat)
      case atStart => exact ⟨0, by omega, rfl, HA.out, HC.out.same (done_same _ _ _ _ (by omega)), HB.out, V, HV.out⟩
      case round =>
        clear HC HA HV HB
        obtain ⟨y, hy, rfl, hA, hC, hB, V, hV⟩ := hrel
        have HC := Lib.hid hC
        have HA := Lib.hid hA
        have HV := Lib.hid hV
        have HB := Lib.hid hB
        clear hA hC hV hB
        by_cases hly : y < 5
        · have dy : decide ((y : Int) < 5) = true := by simp; omega
          go_wp2_with (go_at_call 120; refine (offset_calls x y hlt hly _).mono ?_; rintro e w' ⟨rfl, rfl⟩)
          rename_i wq
          go_loopw [7] (fun i wr => ∃ z : Nat, z ≤ 64 ∧ i = .int .i64 z ∧ Blk wr w.heap.size 136 (tab 1600 (bitsV A)) ∧ Blk wr (w.heap.size + 1 + 1) 136 (tab 1600 (done (fun j => src (j / 64) % 5 < x ∨ (src (j / 64) % 5 = x ∧ (src (j / 64) / 5 < y ∨ (src (j / 64) / 5 = y ∧ j % 64 < z)))) (bitsV (movedS A)))) ∧ Below w.heap.size w wr ∧ ∃ V, Blk wr (w.heap.size + 1) 136 (tab 1600 V)) (fun i _ => 64 - (intOf i).toNat)
          case atStart => exact ⟨0, by omega, rfl, HA.out, HC.out.same (done_same _ _ _ _ (by omega)), HB.out, V, HV.out⟩
          case round =>
            clear HC HA HV HB
            obtain ⟨z, hz, rfl, hA, hC, hB, V, hV⟩ := hrel
            by_cases hlz : z < 64
            · have dz : decide ((z : Int) < 64) = true := by simp; omega
              have ht := turnsN_lt (x + 5 * y)
              have hb := moved_bit A (x + 5 * y) z (by omega) hlz
              have i1 := atN_dest x y z hlt hly hlz
              have i2 := atN_back x y z _ hlt hly hlz ht
              have hdl := (src_dest (x + 5 * y) (by omega)).2
              have l1 := atZ_lt (y : Int) ((2 * (x : Int) + 3 * (y : Int)) % 5) z
              have l2 := atZ_lt (x : Int) (y : Int) ((z : Int) - (turnsN (x + 5 * y) : Int))
              have c1 := hA.bit (atZ (x : Int) (y : Int) ((z : Int) - (turnsN (x + 5 * y) : Int))) (by omega)
              have c2 := hC.at_ (atZ (y : Int) ((2 * (x : Int) + 3 * (y : Int)) % 5) z) (by omega)
              have h6 := hC.frozen (atZ (y : Int) ((2 * (x : Int) + 3 * (y : Int)) % 5) z)
              have hd : (done (fun j => src (j / 64) % 5 < x ∨ (src (j / 64) % 5 = x ∧ (src (j / 64) / 5 < y ∨ (src (j / 64) / 5 = y ∧ j % 64 < z)))) (bitsV (movedS A))) (atZ (y : Int) ((2 * (x : Int) + 3 * (y : Int)) % 5) z) = .int .i64 0 := by
                rw [i1]
                exact done_zero _ _ _ (moved_not x y z hlt hly hlz)
              rw [hd] at c2
              rw [i2, hb, ← i1, ← i2] at c1
              have HC := Lib.hid hC
              have HA := Lib.hid hA
              have HV := Lib.hid hV
              have HB := Lib.hid hB
              have I1 := Lib.hid i1
              have I2 := Lib.hid i2
              clear hA hC hV hB i1 hd hb i2
              go_wp2_with (go_at_call 119; refine (atR_calls _ _ _ (by omega) (by omega) (by omega) _).mono ?_; rintro e w' ⟨rfl, rfl⟩)
              rename_i wz _
              go_roundw
              case rel =>
                refine ⟨z + 1, by omega, by go_num, HA.out.far (by simp; omega) _, ?_, HB.out.setCell (by simp; omega) _, V, HV.out.far (by simp) _⟩
                exact (HC.out.put _ _).same (done_upd _ (bitsV (movedS A)) _ _ _ (fun j hj => by rw [I1.out]; exact moved_next x y z j hlt hly hlz hj))
              case measure => simp [intOf]; omega
            · have HC := Lib.hid hC
              have HA := Lib.hid hA
              have HV := Lib.hid hV
              have HB := Lib.hid hB
              clear hA hC hV hB
              go_wp2_with fail
              go_roundw
              case rel =>
                exact ⟨y + 1, by omega, by go_num, HA.out, HC.out.same (done_same _ _ _ _ (by omega)), HB.out, V, HV.out⟩
              case measure => simp [intOf]; omega
        · go_wp2_with fail
          go_roundw
          case rel =>
            refine ⟨x + 1, by omega, by go_num, HA.out, HC.out.same (done_same _ _ _ _ fun j hj => ?_), HB.out, V, HV.out⟩
            have := (dest_src (j / 64) (by omega)).2
            omega
          case measure => simp [intOf]; omega
    · have HA := Lib.hid (hC.same (done_all _ _ _ (by omega)))
      have HV := Lib.hid hV
      clear hA hC hV
      go_wp2_with (first
        | (refine wpL_load rfl 136 (.tmp 3) rfl (n := 1600) 0 rfl _ HA.out (by omega) Tryd.underlying136 rfl (by kernel_rfl) ?_)
        | (refine wpL_store rfl 136 (.tmp 2) (.tmp 43) rfl 0 rfl rfl HV.out (by omega) (by kernel_rfl) (fun _ => rfl) ?_))
      refine ret_cell rfl rfl _ (HV.out.setRow.same ?_) Tryd.underlying136 rfl (by kernel_rfl) rfl ⟨rfl, below_setRow hB (by omega) _⟩
      rw [over_whole]
      exact tab_congr fun i _ => by simp
end Go.Proofs.YtfhindffmghlaaaDoor
/- The document's own sponge: the fourth thing of a round: it is what bent is. -/
namespace Go.Proofs.YtfhindffmghlaaaDoor
open Go.RowKit
theorem atN_side (x y z c : Nat) (C : Int) (hC : C = c) (hy : y < 5) (hz : z < 64) : atZ ((x : Int) + C) (y : Int) (z : Int) = 64 * ((x + c) % 5 + 5 * y) + z := by
  subst hC
  unfold atZ
  have h1 : ((x : Int) + (c : Int) + 5) % 5 = (((x + c) % 5 : Nat) : Int) := by omega
  have h2 : ((y : Int) + 5) % 5 = y := by omega
  have h3 : ((z : Int) + 64) % 64 = z := by omega
  rw [h1, h2, h3]
  omega
theorem bent_bools : ∀ a b c : Bool, (if a then 1 else 0) + (if b then 0 else if c then 1 else 0) ≤ 2 ∧ ((if a then 1 else 0) + (if b then 0 else if c then 1 else 0)) % 2 = if (a ^^ (c && !b)) then 1 else (0 : Nat) := by decide
theorem bent_bit (A : Nat → BitVec 64) (x y z : Nat) (hx : x < 5) (hz : z < 64) :
    (bitN A (64 * (x + 5 * y) + z) + (if bitN A (64 * ((x + 1) % 5 + 5 * y) + z) = 0 then bitN A (64 * ((x + 2) % 5 + 5 * y) + z) else 0)) % 2 = bitN (bentS A) (64 * (x + 5 * y) + z) := by
  rw [bitN_at A _ z hz, bitN_at A _ z hz, bitN_at A _ z hz, bitN_at (bentS A) _ z hz]
  have h := (bent_bools ((A (x + 5 * y)).getLsbD z) ((A ((x + 1) % 5 + 5 * y)).getLsbD z) ((A ((x + 2) % 5 + 5 * y)).getLsbD z)).2
  have e : (bentS A (x + 5 * y)).getLsbD z = ((A (x + 5 * y)).getLsbD z ^^ ((A ((x + 2) % 5 + 5 * y)).getLsbD z && !(A ((x + 1) % 5 + 5 * y)).getLsbD z)) := by
    unfold bentS
    rw [show x + 5 * y - (x + 5 * y) % 5 + (x + 5 * y + 2) % 5 = (x + 2) % 5 + 5 * y by omega, show x + 5 * y - (x + 5 * y) % 5 + (x + 5 * y + 1) % 5 = (x + 1) % 5 + 5 * y by omega]
    simp [hz]
  rw [e, ← h]
  cases (A ((x + 1) % 5 + 5 * y)).getLsbD z <;> simp
set_option maxHeartbeats 1000000 in
set_option maxRecDepth 100000 in
theorem bentR_calls (A : Nat → BitVec 64) (w : World) :
    Calls Tryd.prog 114 #[.agg (tab 1600 (bitsV A))] w fun e w' => e = .returned (.agg (tab 1600 (bitsV (bentS A)))) ∧ Below w.heap.size w w' := by
  go_enter Tryd.func114, Tryd.ntmps114
  go_wp2_with (first
    | (refine wpL_alloc rfl 136 rfl (tab 1600 fun _ => .int .i64 0) (by kernel_rfl) ?_))
  go_loopw [4] (fun i wr => ∃ x : Nat, x ≤ 5 ∧ i = .int .i64 x ∧ Blk wr w.heap.size 136 (tab 1600 (bitsV A)) ∧ Blk wr (w.heap.size + 1 + 1) 136 (tab 1600 (done (fun j => j / 64 % 5 < x) (bitsV (bentS A)))) ∧ Below w.heap.size w wr ∧ ∃ V, Blk wr (w.heap.size + 1) 136 (tab 1600 V)) (fun i _ => 5 - (intOf i).toNat)
  case atStart =>
    refine ⟨0, by omega, rfl, ((Blk.new w _ _).alloc _).alloc _, ?_, ?_, ⟨fun _ => .int .i64 0, ?_⟩⟩
    · exact (Blk.new' _ _ _ (by simp)).same (done_none _ _ _ (by omega)).symm
    · exact (((Below.refl _ _).alloc (Nat.le_refl _) _).alloc (by simp) _).alloc (by simp; omega) _
    · exact (Blk.new' _ _ _ (by simp)).alloc _
  case round =>
    obtain ⟨x, hx, rfl, hA, hC, hB, V, hV⟩ := hrel
    by_cases hlt : x < 5
    · have dx : decide ((x : Int) < 5) = true := by simp; omega
      have HC := Lib.hid hC
      have HA := Lib.hid hA
      have HV := Lib.hid hV
      have HB := Lib.hid hB
      clear hA hC hV hB
      go_wp2_with fail
      go_loopw [5] (fun i wr => ∃ y : Nat, y ≤ 5 ∧ i = .int .i64 y ∧ Blk wr w.heap.size 136 (tab 1600 (bitsV A)) ∧ Blk wr (w.heap.size + 1 + 1) 136 (tab 1600 (done (fun j => j / 64 % 5 < x ∨ (j / 64 % 5 = x ∧ j / 320 < y)) (bitsV (bentS A)))) ∧ Below w.heap.size w wr ∧ ∃ V, Blk wr (w.heap.size + 1) 136 (tab 1600 V)) (fun i _ => 5 - (intOf i).toNat)
      case atStart => exact ⟨0, by omega, rfl, HA.out, HC.out.same (done_same _ _ _ _ (by omega)), HB.out, V, HV.out⟩
      case round =>
        clear HC HA HV HB
        obtain ⟨y, hy, rfl, hA, hC, hB, V, hV⟩ := hrel
        have HC := Lib.hid hC
        have HA := Lib.hid hA
        have HV := Lib.hid hV
        have HB := Lib.hid hB
        clear hA hC hV hB
        by_cases hly : y < 5
        · have dy : decide ((y : Int) < 5) = true := by simp; omega
          go_wp2_with fail
          go_loopw [6] (fun i wr => ∃ z : Nat, z ≤ 64 ∧ i = .int .i64 z ∧ Blk wr w.heap.size 136 (tab 1600 (bitsV A)) ∧ Blk wr (w.heap.size + 1 + 1) 136 (tab 1600 (done (fun j => j / 64 % 5 < x ∨ (j / 64 % 5 = x ∧ (j / 320 < y ∨ (j / 320 = y ∧ j % 64 < z)))) (bitsV (bentS A)))) ∧ Below w.heap.size w wr ∧ ∃ V, Blk wr (w.heap.size + 1) 136 (tab 1600 V)) (fun i _ => 64 - (intOf i).toNat)
          case atStart => exact ⟨0, by omega, rfl, HA.out, HC.out.same (done_same _ _ _ _ (by omega)), HB.out, V, HV.out⟩
          case round =>
            clear HC HA HV HB
            obtain ⟨z, hz, rfl, hA, hC, hB, V, hV⟩ := hrel
            by_cases hlz : z < 64
            · have dz : decide ((z : Int) < 64) = true := by simp; omega
              have i0 := atN_small x y z hlt hly hlz
              have i1 := atN_side x y z 1 1 rfl hly hlz
              have i2 := atN_side x y z 2 2 rfl hly hlz
              have hb := bent_bit A x y z hlt hlz
              rw [← i0, ← i1, ← i2] at hb
              have l0 := atZ_lt (x : Int) y z
              have l1 := atZ_lt ((x : Int) + 1) y z
              have l2 := atZ_lt ((x : Int) + 2) y z
              have b0 := bitN_le A (atZ (x : Int) y z)
              have b2 := bitN_le A (atZ ((x : Int) + 2) y z)
              have c0 := hA.bit (atZ (x : Int) y z) (by omega)
              have c1 := hA.bit (atZ ((x : Int) + 1) y z) (by omega)
              have c2 := hA.bit (atZ ((x : Int) + 2) y z) (by omega)
              have c3 := hC.at_ (atZ (x : Int) y z) (by omega)
              have h6 := hC.frozen (atZ (x : Int) y z)
              have hd : (done (fun j => j / 64 % 5 < x ∨ (j / 64 % 5 = x ∧ (j / 320 < y ∨ (j / 320 = y ∧ j % 64 < z)))) (bitsV (bentS A))) (atZ (x : Int) y z) = .int .i64 0 :=
                done_zero _ _ _ (by rw [i0]; omega)
              rw [hd] at c3
              have hp : ∀ u : Int, u = (bitN (bentS A) (atZ (x : Int) y z) : Int) → ∀ wq : World, Blk wq (w.heap.size + 1 + 1) 136 (tab 1600 (done (fun j => j / 64 % 5 < x ∨ (j / 64 % 5 = x ∧ (j / 320 < y ∨ (j / 320 = y ∧ j % 64 < z)))) (bitsV (bentS A)))) →
                  Blk (wq.setCell ⟨w.heap.size + 1 + 1, atZ (x : Int) y z, none⟩ (.int .i64 u)) (w.heap.size + 1 + 1) 136 (tab 1600 (done (fun j => j / 64 % 5 < x ∨ (j / 64 % 5 = x ∧ (j / 320 < y ∨ (j / 320 = y ∧ j % 64 < z + 1)))) (bitsV (bentS A)))) := by
                intro u hu wq hq
                subst hu
                exact (hq.put _ _).same (done_upd _ (bitsV (bentS A)) _ _ _ (by rw [i0]; omega))
              have HP := Lib.hid hp
              have HC := Lib.hid hC
              have HA := Lib.hid hA
              have HV := Lib.hid hV
              have HB := Lib.hid hB
              clear hA hC hV hB i0 hd i1 i2 hp
              by_cases hz1 : bitN A (atZ ((x : Int) + 1) y z) = 0
              · rw [if_pos hz1] at hb
                have e1 : ((bitN A (atZ ((x : Int) + 1) y z) : Int) == 0) = true := by simp [hz1]
                have Hb := Lib.hid hb
                clear hb hz1
                go_wp2_with (go_at_call 119; refine (atR_calls _ _ _ (by omega) (by omega) (by omega) _).mono ?_; rintro e w' ⟨rfl, rfl⟩)
                go_roundw
                case rel =>
                  exact ⟨z + 1, by omega, by go_num, HA.out.far (by simp; omega) _, HP.out _ (by rw [← Hb.out]; norm_cast) _ HC.out, HB.out.setCell (by simp; omega) _, V, HV.out.far (by simp) _⟩
                case measure => simp [intOf]; omega
              · rw [if_neg hz1] at hb
                have e1 : ((bitN A (atZ ((x : Int) + 1) y z) : Int) == 0) = false := by simp [hz1]
                have Hb := Lib.hid hb
                clear hb hz1
                go_wp2_with (go_at_call 119; refine (atR_calls _ _ _ (by omega) (by omega) (by omega) _).mono ?_; rintro e w' ⟨rfl, rfl⟩)
                go_roundw
                case rel =>
                  exact ⟨z + 1, by omega, by go_num, HA.out.far (by simp; omega) _, HP.out _ (by rw [← Hb.out]; norm_cast) _ HC.out, HB.out.setCell (by simp; omega) _, V, HV.out.far (by simp) _⟩
                case measure => simp [intOf]; omega
            · have HC := Lib.hid hC
              have HA := Lib.hid hA
              have HV := Lib.hid hV
              have HB := Lib.hid hB
              clear hA hC hV hB
              go_wp2_with fail
              go_roundw
              case rel =>
                exact ⟨y + 1, by omega, by go_num, HA.out, HC.out.same (done_same _ _ _ _ (by omega)), HB.out, V, HV.out⟩
              case measure => simp [intOf]; omega
        · go_wp2_with fail
          go_roundw
          case rel => exact ⟨x + 1, by omega, by go_num, HA.out, HC.out.same (done_same _ _ _ _ (by omega)), HB.out, V, HV.out⟩
          case measure => simp [intOf]; omega
    · have HA := Lib.hid (hC.same (done_all _ _ _ (by omega)))
      have HV := Lib.hid hV
      clear hA hC hV
      go_wp2_with (first
        | (refine wpL_load rfl 136 (.tmp 3) rfl (n := 1600) 0 rfl _ HA.out (by omega) Tryd.underlying136 rfl (by kernel_rfl) ?_)
        | (refine wpL_store rfl 136 (.tmp 2) (.tmp 54) rfl 0 rfl rfl HV.out (by omega) (by kernel_rfl) (fun _ => rfl) ?_))
      refine ret_cell rfl rfl _ (HV.out.setRow.same ?_) Tryd.underlying136 rfl (by kernel_rfl) rfl ⟨rfl, below_setRow hB (by omega) _⟩
      rw [over_whole]
      exact tab_congr fun i _ => by simp
end Go.Proofs.YtfhindffmghlaaaDoor
/- The document's own sponge: the row of bits. -/
namespace Go.Proofs.YtfhindffmghlaaaDoor
open Go.RowKit
/-- The register behind i steps, bit by bit. -/
def regF : Nat → Nat → Nat
  | 0, j => if j = 0 then 1 else 0
  | i + 1, j => if regF i 7 = 1 then (if j = 0 then 1 else if j = 4 ∨ j = 5 ∨ j = 6 then 1 - regF i (j - 1) else regF i (j - 1)) else (if j = 0 then 0 else regF i (j - 1))
theorem regF_le (i : Nat) : ∀ j, regF i j ≤ 1 := by
  induction i with
  | zero => intro j; unfold regF; split <;> omega
  | succ i ih =>
    intro j
    have := ih (j - 1)
    unfold regF
    repeat' split
    all_goals omega
def num (n : Nat) : Value := .int .i64 (n : Int)
def rowL (n : Nat) : List Value := (List.range n).map fun i => num (regF i 0)
def nineL (i n : Nat) : List Value := num 0 :: (List.range n).map fun j => num (regF i j)
theorem rowL_succ (n : Nat) : rowL (n + 1) = rowL n ++ [num (regF n 0)] := by simp [rowL, List.range_succ]
theorem rowL_length (n : Nat) : (rowL n).length = n := by simp [rowL]
theorem nineL_succ (i n : Nat) : nineL i (n + 1) = nineL i n ++ [num (regF i n)] := by simp [nineL, List.range_succ]
theorem nineL_length (i n : Nat) : (nineL i n).length = n + 1 := by simp [nineL]
theorem nineL_get (i : Nat) (j : Nat) (h : j < 9) : (nineL i 8)[j]? = some (num (if j = 0 then 0 else regF i (j - 1))) := by
  unfold nineL
  cases j with
  | zero => rfl
  | succ j => simp [show j < 8 by omega]
theorem reg_turn {wr : World} {g k : Nat} (hc : ∀ j, j < 9 → wr.cell? ⟨g, j, none⟩ = some (num (if j = 0 then 0 else regF k (j - 1)))) (h7 : regF k 7 = 1) :
    ∀ j, j < 8 → ((((wr.setCell ⟨g, 0, none⟩ (.int .i64 1)).setCell ⟨g, 4, none⟩ (.int .i64 (1 - (regF k 3 : Int)))).setCell ⟨g, 5, none⟩ (.int .i64 (1 - (regF k 4 : Int)))).setCell ⟨g, 6, none⟩ (.int .i64 (1 - (regF k 5 : Int)))).cell? ⟨g, j, none⟩ = some (num (regF (k + 1) j)) := by
  intro j hj
  have b3 := regF_le k 3
  have b4 := regF_le k 4
  have b5 := regF_le k 5
  have n1 : ∀ m : Nat, m ≤ 1 → Value.int IntKind.i64 (1 - (m : Int)) = num (1 - m) := fun m hm => by unfold num; congr 1; omega
  rw [n1 _ b3, n1 _ b4, n1 _ b5]
  have hs : ∀ i, i < 9 → (wr.cell? ⟨g, i, none⟩).isSome = true := fun i hi => by rw [hc i hi]; rfl
  have hr : ∀ j, regF (k + 1) j = if j = 0 then 1 else if j = 4 ∨ j = 5 ∨ j = 6 then 1 - regF k (j - 1) else regF k (j - 1) := fun j => by
    show (if regF k 7 = 1 then _ else _) = _
    rw [if_pos h7]
  rw [hr]
  have hcj := hc j (by omega)
  by_cases h0 : j = 0
  · subst h0; simp [World.cell?_setCell_other, World.cell?_setCell_same', hs, num]
  · by_cases h4 : j = 4
    · subst h4; simp [World.cell?_setCell_other, World.cell?_setCell_same', hs]
    · by_cases h5 : j = 5
      · subst h5; simp [World.cell?_setCell_other, World.cell?_setCell_same', hs]
      · by_cases h6 : j = 6
        · subst h6; simp [World.cell?_setCell_other, World.cell?_setCell_same', hs]
        · rw [World.cell?_setCell_other _ _ _ _ (fun e => h6 (by injection e with _ e2 _; exact e2.symm)), World.cell?_setCell_other _ _ _ _ (fun e => h5 (by injection e with _ e2 _; exact e2.symm)), World.cell?_setCell_other _ _ _ _ (fun e => h4 (by injection e with _ e2 _; exact e2.symm)), World.cell?_setCell_other _ _ _ _ (fun e => h0 (by injection e with _ e2 _; exact e2.symm)), hcj]
          simp [h0, h4, h5, h6]
theorem reg_stay {wr : World} {g k : Nat} (hc : ∀ j, j < 9 → wr.cell? ⟨g, j, none⟩ = some (num (if j = 0 then 0 else regF k (j - 1)))) (h7 : ¬ regF k 7 = 1) :
    ∀ j, j < 8 → wr.cell? ⟨g, j, none⟩ = some (num (regF (k + 1) j)) := by
  intro j hj
  rw [hc j (by omega)]
  show _ = some (num (if regF k 7 = 1 then _ else _))
  rw [if_neg h7]
set_option maxHeartbeats 1000000 in
set_option maxRecDepth 100000 in
theorem row_calls (w : World) :
    Calls Tryd.prog 111 #[.int .i64 168] w fun e w' => ∃ A c, e = .returned (.slice A 168 c) ∧ w'.ownsRow w.heap.size 3 1 (.slice A 168 c) 168 (rowL 168) ∧ Below w.heap.size w w' := by
  go_enter Tryd.func111, Tryd.ntmps111
  go_wp2_with fail
  go_loopw [3, 4, 5] (fun l r i wr => ∃ (k : Nat) (Al : Option Addr) (cl gr cr : Nat), k ≤ 168 ∧ i = .int .i64 k ∧ l = .slice Al k cl ∧ wr.ownsRow w.heap.size 3 1 (.slice Al k cl) k (rowL k) ∧
      r = .slice (some ⟨gr, 0, none⟩) 8 cr ∧ 8 ≤ cr ∧ gr < wr.heap.size ∧ (Value.slice Al k cl).ownBlock ≠ some gr ∧ (∀ j, j < 8 → wr.cell? ⟨gr, j, none⟩ = some (num (regF k j))) ∧ Below w.heap.size w wr) (fun _ _ i _ => 168 - (intOf i).toNat)
  case atStart =>
    refine ⟨0, none, 0, w.heap.size, 8, by omega, rfl, rfl, World.ownsRow_nil _ _ _ _, rfl, by omega, by simp, by simp [Value.ownBlock], ?_, (Below.refl _ _).alloc (Nat.le_refl _) _⟩
    intro j hj
    rw [(Blk.new w 3 _).cell j]
    have : ∀ j : Fin 8, (#[Value.int .i64 1, .int .i64 0, .int .i64 0, .int .i64 0, .int .i64 0, .int .i64 0, .int .i64 0, .int .i64 0] : Array Value)[j.val]? = some (num (regF 0 j.val)) := by
      intro j
      match j with
      | 0 => rfl
      | 1 => rfl
      | 2 => rfl
      | 3 => rfl
      | 4 => rfl
      | 5 => rfl
      | 6 => rfl
      | 7 => rfl
    exact this ⟨j, hj⟩
  case round =>
    obtain ⟨k, Al, cl, gr, cr, hk, rfl, rfl, hown, rfl, hcr, hgr, hne, hcells, hB⟩ := hrel
    by_cases hlt : k < 168
    · have hd : decide ((k : Int) < 168) = true := by simp; omega
      have c0 : wr.cell? ⟨gr, 0, none⟩ = some (.int .i64 (regF k 0 : Int)) := hcells 0 (by omega)
      have HC := Lib.hid hcells
      have HB := Lib.hid hB
      have HN := Lib.hid hne
      have HO := Lib.hid hown
      have hsz := hB.size
      clear hcells hB hne hown
      go_wp2_with ((at_builtin; refine wpL_append rfl _ _ 31 rfl elInt rfl (HO.out.alloc _) rfl rfl (Seq.one_new _ _ _) (by simp [Value.oneCell']) (by unfold maxLen; omega) (by omega) (by simp; omega) ?_; intro Al2 cl2 w2 ho2 hg2 hb2))
      rw [show rowL k ++ [Value.int IntKind.i64 (regF k 0 : Int)] = rowL (k + 1) from (rowL_succ k).symm] at ho2
      have hs2 := hg2.size
      simp only [size_alloc] at hs2 hb2
      have hB2 : Below w.heap.size w w2 := (HB.out.alloc hsz _).grown hg2 (by simp; omega) (fun g hg => (HO.out.lt g hg).1)
      have hC2 : ∀ j, j < 8 → w2.cell? ⟨gr, j, none⟩ = some (num (regF k j)) := fun j hj =>
        ((World.cell?_of_block (w := wr.alloc _) (hg2.block gr (by simp; omega) (fun e => HN.out e.symm))).trans (World.cell?_alloc_lt _ _ _ hgr)).trans (HC.out j hj)
      have hn2 : (Value.slice Al2 (k + 1) cl2).ownBlock ≠ some gr := by
        rcases hb2 with h | h
        · rw [h]; exact HN.out
        · rw [h]; intro e; injection e with e; omega
      have HB2 := Lib.hid hB2
      have HC2 := Lib.hid hC2
      have HN2 := Lib.hid hn2
      have HO2 := Lib.hid ho2
      clear hB2 hC2 hn2 ho2 hg2 hb2 HB HC HN HO
      go_loopw [6, 7] (fun v i wn => ∃ (q : Nat) (A9 : Option Addr) (c9 : Nat), q ≤ 8 ∧ i = .int .i64 q ∧ v = .slice A9 (q + 1) c9 ∧ wn.ownsRow w2.heap.size 3 1 (.slice A9 (q + 1) c9) (q + 1) (nineL k q) ∧ Below w2.heap.size w2 wn) (fun _ i _ => 8 - (intOf i).toNat)
      case atStart =>
        exact ⟨0, some ⟨w2.heap.size, 0, none⟩, 1, by omega, rfl, rfl, World.ownsRow_lit w2 _ 1 (Nat.le_refl _) (by unfold maxLen; omega) rfl, (Below.refl _ _).alloc (Nat.le_refl _) _⟩
      case round =>
        obtain ⟨q, A9, c9, hq, rfl, rfl, hown, hB⟩ := hrel
        have HOn := Lib.hid hown
        have HBn := Lib.hid hB
        have hsn := hB.size
        by_cases hlq : q < 8
        · have dq : decide ((q : Int) < 8) = true := by simp; omega
          have lq : (q : Int) < 8 := by omega
          have cq : wr.cell? ⟨gr, q, none⟩ = some (.int .i64 (regF k q : Int)) := ((hB.cell (p := ⟨gr, q, none⟩) (by simp; omega)).trans (HC2.out q hlq))
          clear hown hB
          go_wp2_with ((at_builtin; refine wpL_append rfl _ _ 31 rfl elInt rfl (HOn.out.alloc _) rfl rfl (Seq.one_new _ _ _) (by simp [Value.oneCell']) (by unfold maxLen; omega) (by omega) (by simp; omega) ?_; intro A92 c92 w3 ho3 hg3 _))
          rw [show nineL k q ++ [Value.int IntKind.i64 (regF k q : Int)] = nineL k (q + 1) from (nineL_succ k q).symm] at ho3
          have hB3 : Below w2.heap.size w2 w3 := (HBn.out.alloc hsn _).grown hg3 (by simp; omega) (fun g hg => (HOn.out.lt g hg).1)
          have HO3 := Lib.hid ho3
          have HB3 := Lib.hid hB3
          clear ho3 hB3 hg3
          exact ⟨⟨q + 1, A92, c92, by omega, by go_num, rfl, HO3.out, HB3.out⟩, by simp [intOf]; omega⟩
        · have dq : decide ((q : Int) < 8) = false := by simp; omega
          obtain rfl : q = 8 := by omega
          obtain ⟨g9, rfl, hg1, hg2, hc9, hc9m⟩ := own_form hown (by omega)
          have hcell : ∀ j, j < 9 → wr.cell? ⟨g9, j, none⟩ = some (num (if j = 0 then 0 else regF k (j - 1))) := fun j hj => by
            rw [hown.cellAt j (by omega), nineL_get k j hj]
          have f0 := hown.frozenAt 0
          have f4 := hown.frozenAt 4
          have f5 := hown.frozenAt 5
          have f6 := hown.frozenAt 6
          have c0 : wr.cell? ⟨g9, 0, none⟩ = some (.int .i64 0) := hcell 0 (by omega)
          have c4 : wr.cell? ⟨g9, 4, none⟩ = some (.int .i64 (regF k 3 : Int)) := hcell 4 (by omega)
          have c5 : wr.cell? ⟨g9, 5, none⟩ = some (.int .i64 (regF k 4 : Int)) := hcell 5 (by omega)
          have c6 : wr.cell? ⟨g9, 6, none⟩ = some (.int .i64 (regF k 5 : Int)) := hcell 6 (by omega)
          have c8 : wr.cell? ⟨g9, 8, none⟩ = some (.int .i64 (regF k 7 : Int)) := hcell 8 (by omega)
          have b3 := regF_le k 3
          have b4 := regF_le k 4
          have b5 := regF_le k 5
          have hcc : (8 : Int) ≤ (c9 : Int) := by omega
          have HCell := Lib.hid hcell
          clear hown hB hcell
          by_cases h7 : regF k 7 = 1
          · have e7 : ((regF k 7 : Int) == 1) = true := by simp [h7]
            have H7 := Lib.hid h7
            clear h7
            go_wp2_with fail
            refine ⟨⟨k + 1, Al2, cl2, g9, c9, by omega, by go_num, rfl, ?_, rfl, by omega, by simpa using hg2, ?_, reg_turn HCell.out H7.out, ?_⟩, by simp [intOf]; omega⟩
            · refine own_only (g := g9) (own_below' HO2.out HBn.out) ?_ ?_
              · exact (((Only.setCell wr ⟨g9, 0, none⟩ _).trans (Only.setCell _ ⟨g9, 4, none⟩ _)).trans (Only.setCell _ ⟨g9, 5, none⟩ _)).trans (Only.setCell _ ⟨g9, 6, none⟩ _)
              · intro e
                have := (HO2.out.lt _ e).2
                omega
            · intro e
              have := (HO2.out.lt _ e).2
              omega
            · exact ((((HB2.out.trans (HBn.out.mono (by omega))).setCell (by simp; omega) _).setCell (by simp; omega) _).setCell (by simp; omega) _).setCell (by simp; omega) _
          · have e7 : ((regF k 7 : Int) == 1) = false := by simp; omega
            have H7 := Lib.hid h7
            clear h7
            go_wp2_with fail
            refine ⟨⟨k + 1, Al2, cl2, g9, c9, by omega, by go_num, rfl, own_below' HO2.out HBn.out, rfl, by omega, hg2, ?_, reg_stay HCell.out H7.out, HB2.out.trans (HBn.out.mono (by omega))⟩, by simp [intOf]; omega⟩
            intro e
            have := (HO2.out.lt _ e).2
            omega
    · have hd : decide ((k : Int) < 168) = false := by simp; omega
      obtain rfl : k = 168 := by omega
      have HO := Lib.hid hown
      have HB := Lib.hid hB
      clear hown hB hcells
      go_wp2_with fail
      go_ret
      exact ⟨Al, cl, rfl, HO.out, HB.out⟩
end Go.Proofs.YtfhindffmghlaaaDoor
/- The document's own sponge: the fifth thing of a round, and all rounds: they are what the program's rounds are. -/
namespace Go.Proofs.YtfhindffmghlaaaDoor
open Go.RowKit
/-- The register as a number: its bit j is the register's bit j. -/
def stepM (m : Nat) : Nat := if m / 128 % 2 = 1 then (2 * m ^^^ 0x71) % 256 else 2 * m % 256
def regM : Nat → Nat
  | 0 => 1
  | i + 1 => stepM (regM i)
theorem stepM_bits : ∀ (m : Fin 256) (j : Fin 8), stepM m.val / 2 ^ j.val % 2 =
    if m.val / 2 ^ 7 % 2 = 1 then (if j.val = 0 then 1 else if j.val = 4 ∨ j.val = 5 ∨ j.val = 6 then 1 - m.val / 2 ^ (j.val - 1) % 2 else m.val / 2 ^ (j.val - 1) % 2) else (if j.val = 0 then 0 else m.val / 2 ^ (j.val - 1) % 2) := by decide +kernel
theorem regM_lt (i : Nat) : regM i < 256 := by
  cases i with
  | zero => decide
  | succ i => unfold regM stepM; split <;> omega
theorem regF_eq (i : Nat) : ∀ j, j < 8 → regF i j = regM i / 2 ^ j % 2 := by
  induction i with
  | zero =>
    intro j hj
    have : ∀ j : Fin 8, regF 0 j.val = regM 0 / 2 ^ j.val % 2 := by decide
    exact this ⟨j, hj⟩
  | succ i ih =>
    intro j hj
    have h := stepM_bits ⟨regM i, regM_lt i⟩ ⟨j, hj⟩
    simp only at h
    show _ = stepM (regM i) / 2 ^ j % 2
    rw [h]
    show (if regF i 7 = 1 then _ else _) = _
    rw [ih 7 (by omega), ih (j - 1) (by omega)]
/-- The round's constant, as far as its first j bits are laid. -/
def mk (k : Nat) : Nat → BitVec 64
  | 0 => 0
  | j + 1 => mk k j ^^^ (if regM (j + 7 * k) % 2 = 1 then 1#64 <<< (2 ^ j - 1) else 0)
theorem mk_all (k : Nat) (hk : k < 24) : mk k 7 = marksN k := by
  have : ∀ k : Fin 24, mk k.val 7 = marksN k.val := by decide +kernel
  exact this ⟨k, hk⟩
theorem mk_bools : ∀ a b : Bool, ((if a then 1 else 0) + (if b then 1 else 0)) % 2 = if (a ^^ b) then 1 else (0 : Nat) := by decide
def withMark (A : Nat → BitVec 64) (k j : Nat) : Nat → BitVec 64 := upd A 0 (A 0 ^^^ mk k j)
theorem one_shift (p i : Nat) (hp : p < 64) (hi : i < 64) : (1#64 <<< p).getLsbD i = decide (i = p) := by
  rw [BitVec.getLsbD_shiftLeft]
  by_cases h : i = p
  · subst h; simp [hi]
  · rcases Nat.lt_or_ge i p with h2 | h2
    · simp [h, h2]
    · have : i - p ≠ 0 := by omega
      simp [h, show ¬ i < p by omega, BitVec.getLsbD_one, this]
theorem withMark_step (A : Nat → BitVec 64) (k j : Nat) (hj : j < 7) :
    tab 1600 (upd (bitsV (withMark A k j)) (2 ^ j - 1) (.int .i64 (((bitN (withMark A k j) (2 ^ j - 1) + regF (j + 7 * k) 0) % 2 : Nat) : Int))) = tab 1600 (bitsV (withMark A k (j + 1))) := by
  have hp : 2 ^ j - 1 < 64 := by
    have : ∀ j : Fin 7, 2 ^ j.val - 1 < 64 := by decide
    exact this ⟨j, hj⟩
  rw [regF_eq _ 0 (by omega), Nat.pow_zero, Nat.div_one]
  refine tab_congr fun i hi => ?_
  have hb : bitN (withMark A k (j + 1)) i = if i = 2 ^ j - 1 then (bitN (withMark A k j) (2 ^ j - 1) + regM (j + 7 * k) % 2) % 2 else bitN (withMark A k j) i := by
    by_cases h0 : i / 64 = 0
    · have hi64 : i < 64 := by omega
      have e0 : ∀ q, bitN (withMark A k q) i = if (A 0 ^^^ mk k q).getLsbD i then 1 else 0 := fun q => by
        unfold bitN withMark upd
        rw [h0, if_pos rfl, Nat.mod_eq_of_lt hi64]
      rw [e0]
      have e1 : (A 0 ^^^ mk k (j + 1)).getLsbD i = ((A 0 ^^^ mk k j).getLsbD i ^^ (decide (i = 2 ^ j - 1) && decide (regM (j + 7 * k) % 2 = 1))) := by
        show (A 0 ^^^ (mk k j ^^^ _)).getLsbD i = _
        rw [← BitVec.xor_assoc, BitVec.getLsbD_xor]
        congr 1
        split
        · rename_i h; rw [one_shift _ _ hp hi64]; simp [h]
        · rename_i h; simp [h]
      rw [e1]
      by_cases hij : i = 2 ^ j - 1
      · rw [if_pos hij]
        have e2 := e0 j
        rw [hij] at e2 ⊢
        rw [e2]
        have hr : regM (j + 7 * k) % 2 = if decide (regM (j + 7 * k) % 2 = 1) then 1 else 0 := by
          split
          · rename_i h; simpa using h
          · rename_i h; simp at h; omega
        rw [decide_eq_true rfl, Bool.true_and]
        generalize decide (regM (j + 7 * k) % 2 = 1) = b at *
        rw [hr]
        exact (mk_bools _ b).symm
      · rw [if_neg hij, decide_eq_false hij, Bool.false_and, Bool.xor_false, e0]
    · rw [if_neg (by omega)]
      unfold bitN withMark upd
      rw [if_neg h0, if_neg h0]
  unfold upd bitsV
  rw [hb]
  split <;> rfl
set_option maxHeartbeats 1000000 in
set_option maxRecDepth 100000 in
theorem marked_calls (A : Nat → BitVec 64) (k g c : Nat) (hk : k < 24) (w : World) (hg : g < w.heap.size) (hrow : ∀ j, j < 168 → w.cell? ⟨g, j, none⟩ = some (num (regF j 0))) :
    Calls Tryd.prog 115 #[.agg (tab 1600 (bitsV A)), .int .i64 (k : Int), .slice (some ⟨g, 0, none⟩) 168 c] w fun e w' => e = .returned (.agg (tab 1600 (bitsV (upd A 0 (A 0 ^^^ marksN k))))) ∧ Below w.heap.size w w' := by
  have HR := Lib.hid hrow
  clear hrow
  go_enter Tryd.func115, Tryd.ntmps115
  go_wp2_with (first
    | (refine wpL_alloc rfl 136 rfl (tab 1600 fun _ => .int .i64 0) (by kernel_rfl) ?_))
  go_loopw [7, 8] (fun z i wr => ∃ j : Nat, j ≤ 7 ∧ i = .int .i64 j ∧ z = .int .i64 ((2 ^ j : Nat) : Int) ∧ Blk wr w.heap.size 136 (tab 1600 (bitsV (withMark A k j))) ∧ Below w.heap.size w wr ∧ ∃ V, Blk wr (w.heap.size + 1) 136 (tab 1600 V)) (fun _ i _ => 7 - (intOf i).toNat)
  case atStart =>
    refine ⟨0, by omega, rfl, rfl, ((Blk.new w _ _).alloc _).same (tab_congr fun i _ => ?_), ((Below.refl _ _).alloc (Nat.le_refl _) _).alloc (by simp) _, ⟨fun _ => .int .i64 0, Blk.new' _ _ _ (by simp)⟩⟩
    unfold bitsV bitN withMark upd
    by_cases h : i / 64 = 0
    · simp [h, mk]
    · simp [h]
  case round =>
    obtain ⟨j, hj, rfl, rfl, hA, hB, V, hV⟩ := hrel
    by_cases hlt : j < 7
    · have dj : decide ((j : Int) < 7) = true := by simp; omega
      have hp : 2 ^ j ≤ 64 ∧ 1 ≤ 2 ^ j := by
        have : ∀ j : Fin 7, 2 ^ j.val ≤ 64 ∧ 1 ≤ 2 ^ j.val := by decide
        exact this ⟨j, hlt⟩
      have Hs := Lib.hid (withMark_step A k j hlt)
      have Hp := Lib.hid (show 2 * 2 ^ j = 2 ^ (j + 1) by rw [Nat.pow_succ]; omega)
      generalize 2 ^ j = p at *
      obtain ⟨hp1, hp2⟩ := hp
      have c0 := hA.bit (p - 1) (by omega)
      have f0 := hA.frozen (p - 1)
      have c1 : wr.cell? ⟨g, j + 7 * k, none⟩ = some (.int .i64 (regF (j + 7 * k) 0 : Int)) := (hB.cell (p := ⟨g, _, none⟩) hg).trans (HR.out _ (by omega))
      have b0 := bitN_le (withMark A k j) (p - 1)
      have b1 : (regF (j + 7 * k) 0 : Int) ≤ 1 := by have := regF_le (j + 7 * k) 0; omega
      have e1 : IntKind.i64.wrap ((p : Int) - 1) = (p : Int) - 1 := IntWalk.i64_in _ (by omega)
      have n1 : (0 : Int) ≤ (p : Int) - 1 := by omega
      have n2 : (1 : Int) ≤ (p : Int) := by omega
      have t1 : ((p : Int) - 1).toNat = p - 1 := by omega
      have l1 : (p : Int) - 1 < 1600 := by omega
      have e2 : IntKind.i64.wrap (7 * (k : Int)) = 7 * (k : Int) := IntWalk.i64_in _ (by omega)
      have e3 : IntKind.i64.wrap ((j : Int) + 7 * (k : Int)) = (j : Int) + 7 * (k : Int) := IntWalk.i64_in _ (by omega)
      have n3 : (0 : Int) ≤ (j : Int) + 7 * (k : Int) := by omega
      have t3 : ((j : Int) + 7 * (k : Int)).toNat = j + 7 * k := by omega
      have l3 : (j : Int) + 7 * (k : Int) < 168 := by omega
      have e4 : IntKind.i64.wrap ((bitN (withMark A k j) (p - 1) : Int) + (regF (j + 7 * k) 0 : Int)) = (bitN (withMark A k j) (p - 1) : Int) + (regF (j + 7 * k) 0 : Int) := IntWalk.i64_in _ (by omega)
      have r4 : ((bitN (withMark A k j) (p - 1) : Int) + (regF (j + 7 * k) 0 : Int)).tmod 2 = (((bitN (withMark A k j) (p - 1) + regF (j + 7 * k) 0) % 2 : Nat) : Int) := by
        rw [Int.tmod_eq_emod_of_nonneg (by omega)]; norm_cast
      have HA := Lib.hid hA
      have HV := Lib.hid hV
      have HB := Lib.hid hB
      clear hA hV hB
      go_wp2_with fail
      go_still_tail 18, (by kernel_rfl)
      change wpList _ _ _ _ _ wr.drew
      clear e1 n1 n2 t1 l1 e2 e3 n3 t3 l3 e4 r4 c1 b0 b1
      go_wp2_with fail
      refine ⟨⟨j + 1, by omega, by go_num, ?_, ?_, (HB.out.setCell (by simp) _).drew, V, (HV.out.far (by simp) _).drew⟩, by simp [intOf]; omega⟩
      · rw [← Hp.out]; go_num
      · have e : (((bitN (withMark A k j) (p - 1) : Int) + (regF (j + 7 * k) 0 : Int)) % 2) = (((bitN (withMark A k j) (p - 1) + regF (j + 7 * k) 0) % 2 : Nat) : Int) := by norm_cast
        rw [e]
        exact ((HA.out.put _ _).same Hs.out).drew
    · have dj : decide ((j : Int) < 7) = false := by simp; omega
      have HA := Lib.hid (hA.same (tab_congr (T := bitsV (upd A 0 (A 0 ^^^ marksN k))) fun i _ => by rw [← mk_all k hk, show j = 7 by omega]; rfl))
      have HV := Lib.hid hV
      clear hA hV
      go_wp2_with (first
        | (refine wpL_load rfl 136 (.tmp 3) rfl (n := 1600) 0 rfl _ HA.out (by omega) Tryd.underlying136 rfl (by kernel_rfl) ?_)
        | (refine wpL_store rfl 136 (.tmp 6) (.tmp 33) rfl 0 rfl rfl HV.out (by omega) (by kernel_rfl) (fun _ => rfl) ?_))
      refine ret_cell rfl rfl _ (HV.out.setRow.same ?_) Tryd.underlying136 rfl (by kernel_rfl) rfl ⟨rfl, below_setRow hB (by omega) _⟩
      rw [over_whole]
      exact tab_congr fun i _ => by simp
end Go.Proofs.YtfhindffmghlaaaDoor
/- The document's own sponge: all rounds are what the program's rounds are. -/
namespace Go.Proofs.YtfhindffmghlaaaDoor
open Go.RowKit
set_option maxHeartbeats 1000000 in
set_option maxRecDepth 100000 in
theorem roundsR_calls (A : Nat → BitVec 64) (w : World) :
    Calls Tryd.prog 94 #[.agg (tab 1600 (bitsV A))] w fun e w' => e = .returned (.agg (tab 1600 (bitsV (permS A)))) ∧ Below w.heap.size w w' := by
  go_enter Tryd.func94, Tryd.ntmps94
  go_wp2_with (first
    | (refine wpL_alloc rfl 136 rfl (tab 1600 fun _ => .int .i64 0) (by kernel_rfl) ?_))
  refine (row_calls _).mono ?_
  rintro e w0 ⟨Ar, cr, rfl, hown, hB0⟩
  obtain ⟨g, rfl, hg1, hg2, _⟩ := own_form hown (by omega)
  simp only [size_alloc] at hg1
  have hrow : ∀ j, j < 168 → w0.cell? ⟨g, j, none⟩ = some (num (regF j 0)) := fun j hj => by
    rw [hown.cellAt j (by omega)]
    simp [rowL, hj]
  have hB0' : Below w.heap.size w w0 := (((Below.refl _ _).alloc (Nat.le_refl _) _).alloc (by simp) _).trans (hB0.mono (by simp; omega))
  have HA0 := Lib.hid (((Blk.new w 136 (tab 1600 (bitsV A))).alloc (.cells (tab 1600 fun _ => .int .i64 0) 136)).below hB0 (by simp; omega))
  have HV0 := Lib.hid ((Blk.new' (w.alloc (.cells (tab 1600 (bitsV A)) 136)) 136 (tab 1600 fun _ => .int .i64 0) (g := w.heap.size + 1) (by simp)).below hB0 (by simp))
  have HR := Lib.hid hrow
  have HB0 := Lib.hid hB0'
  have hs0 := hB0'.size
  clear hrow hB0 hB0' hown
  go_wp2_with fail
  go_loopw [4] (fun i wr => ∃ k : Nat, k ≤ 24 ∧ i = .int .i64 k ∧ Blk wr w.heap.size 136 (tab 1600 (bitsV (roundsS k A))) ∧ Below w.heap.size w wr ∧ g < wr.heap.size ∧ (∀ j, j < 168 → wr.cell? ⟨g, j, none⟩ = some (num (regF j 0))) ∧ ∃ V, Blk wr (w.heap.size + 1) 136 (tab 1600 V)) (fun i _ => 24 - (intOf i).toNat)
  case atStart => exact ⟨0, by omega, rfl, HA0.out, HB0.out, hg2, HR.out, _, HV0.out⟩
  case round =>
    clear HA0 HB0 HR HV0
    obtain ⟨k, hk, rfl, hA, hB, hg, hrow, V, hV⟩ := hrel
    have hs := hB.size
    by_cases hlt : k < 24
    · have dk : decide ((k : Int) < 24) = true := by simp; omega
      have HA := Lib.hid hA
      have HV := Lib.hid hV
      have HB := Lib.hid hB
      have HR := Lib.hid hrow
      have HL := hA.lt
      clear hA hV hB hrow
      go_wp2_with (first
        | (refine wpL_load rfl 136 (.tmp 1) rfl (n := 1600) 0 rfl _ HA.out (by omega) Tryd.underlying136 rfl (by kernel_rfl) ?_))
      refine (mixed_calls _ _).mono ?_
      rintro e w1 ⟨rfl, hb1⟩
      have Hb1 := Lib.hid hb1
      have hs1 := hb1.size
      clear hb1
      go_wp2_with (first
        | (refine wpL_alloc rfl 136 rfl (tab 1600 fun _ => .int .i64 0) (by kernel_rfl) ?_)
        | (refine wpL_storeA rfl 136 (.tmp 5) (.tmp 14) rfl 0 rfl rfl (Blk.new w1 _ _) (by omega) (by kernel_rfl) (fun _ => rfl) ?_; intro w2 ho2 hk2; have HO2 := Lib.hid ho2; have HK2 := Lib.hid (hk2.same (over_whole _ _ _)); clear ho2 hk2)
        | (refine wpL_load rfl 136 (.tmp 5) rfl (n := 1600) 0 rfl _ HK2.out (by omega) Tryd.underlying136 rfl (by kernel_rfl) ?_))
      have hs2 := HO2.out.size
      simp only [size_alloc] at hs2
      have HB2 := Lib.hid (HO2.out.below (Hb1.out.alloc hs1 _) hs1)
      refine (movedR_calls _ _).mono ?_
      rintro e w3 ⟨rfl, hb3⟩
      have HB3 := Lib.hid (HB2.out.trans (hb3.mono (by omega)))
      have hs3 := hb3.size
      clear hb3
      go_wp2_with (first
        | (refine wpL_alloc rfl 136 rfl (tab 1600 fun _ => .int .i64 0) (by kernel_rfl) ?_)
        | (refine wpL_storeA rfl 136 (.tmp 6) (.tmp 16) rfl 0 rfl rfl (Blk.new w3 _ _) (by omega) (by kernel_rfl) (fun _ => rfl) ?_; intro w4 ho4 hk4; have HO4 := Lib.hid ho4; have HK4 := Lib.hid (hk4.same (over_whole _ _ _)); clear ho4 hk4)
        | (refine wpL_load rfl 136 (.tmp 6) rfl (n := 1600) 0 rfl _ HK4.out (by omega) Tryd.underlying136 rfl (by kernel_rfl) ?_))
      have hs4 := HO4.out.size
      simp only [size_alloc] at hs4
      have HB4 := Lib.hid (HO4.out.below (HB3.out.alloc (by omega) _) (by omega))
      refine (bentR_calls _ _).mono ?_
      rintro e w5 ⟨rfl, hb5⟩
      have HB5 := Lib.hid (HB4.out.trans (hb5.mono (by omega)))
      have hs5 := hb5.size
      clear hb5
      go_wp2_with (first
        | (refine wpL_alloc rfl 136 rfl (tab 1600 fun _ => .int .i64 0) (by kernel_rfl) ?_)
        | (refine wpL_storeA rfl 136 (.tmp 7) (.tmp 18) rfl 0 rfl rfl (Blk.new w5 _ _) (by omega) (by kernel_rfl) (fun _ => rfl) ?_; intro w6 ho6 hk6; have HO6 := Lib.hid ho6; have HK6 := Lib.hid (hk6.same (over_whole _ _ _)); clear ho6 hk6)
        | (refine wpL_load rfl 136 (.tmp 7) rfl (n := 1600) 0 rfl _ HK6.out (by omega) Tryd.underlying136 rfl (by kernel_rfl) ?_))
      have hs6 := HO6.out.size
      simp only [size_alloc] at hs6
      have HB6 := Lib.hid (HO6.out.below (HB5.out.alloc (by omega) _) (by omega))
      have hr6 : ∀ j, j < 168 → w6.cell? ⟨g, j, none⟩ = some (num (regF j 0)) := fun j hj => (HB6.out.cell (p := ⟨g, j, none⟩) hg).trans (HR.out j hj)
      refine (marked_calls _ k g cr hlt _ (by omega) hr6).mono ?_
      rintro e w7 ⟨rfl, hb7⟩
      have HB7 := Lib.hid (HB6.out.trans (hb7.mono (by omega)))
      have hs7 := hb7.size
      clear hb7 hr6
      have HA7 := Lib.hid (HA.out.below HB7.out HL)
      go_wp2_with (first
        | (refine wpL_storeA rfl 136 (.tmp 1) (.tmp 22) rfl 0 rfl rfl HA7.out (by omega) (by kernel_rfl) (fun _ => rfl) ?_; intro w8 ho8 hk8; have HO8 := Lib.hid ho8; have HK8 := Lib.hid (hk8.same (over_whole _ _ _)); clear ho8 hk8))
      have hs8 := HO8.out.size
      refine ⟨⟨k + 1, by omega, by go_num, HK8.out, HO8.out.below (HB.out.trans (HB7.out.mono hs)) (Nat.le_refl _), by omega, fun j hj => ?_, V, HO8.out.blk (HV.out.below HB7.out HV.out.lt) (by omega)⟩, by simp [intOf]; omega⟩
      rw [HO8.out.cell (by simp; omega), HB7.out.cell hg]
      exact HR.out j hj
    · have dk : decide ((k : Int) < 24) = false := by simp; omega
      have HA := Lib.hid (hA.same (tab_congr (T := bitsV (permS A)) fun i _ => by rw [show k = 24 by omega]; rfl))
      have HV := Lib.hid hV
      clear hA hV hrow
      go_wp2_with (first
        | (refine wpL_load rfl 136 (.tmp 1) rfl (n := 1600) 0 rfl _ HA.out (by omega) Tryd.underlying136 rfl (by kernel_rfl) ?_)
        | (refine wpL_store rfl 136 (.tmp 2) (.tmp 23) rfl 0 rfl rfl HV.out (by omega) (by kernel_rfl) (fun _ => rfl) ?_))
      refine ret_cell rfl rfl _ (HV.out.setRow.same ?_) Tryd.underlying136 rfl (by kernel_rfl) rfl ⟨rfl, below_setRow hB (by omega) _⟩
      rw [over_whole]
      exact tab_congr fun i _ => by simp
end Go.Proofs.YtfhindffmghlaaaDoor
/- The document's own Permute: it is the program's. -/
namespace Go.Proofs.YtfhindffmghlaaaDoor
open Go.RowKit
theorem u64_low (x : BitVec 64) : u64 x % (2 : Int) = (((if x.getLsbD 0 then 1 else 0) : Nat) : Int) := by
  unfold u64
  have h : x.getLsbD 0 = decide (x.toNat % 2 = 1) := by
    rw [BitVec.getLsbD, Nat.testBit_zero]
  rw [h]
  by_cases e : x.toNat % 2 = 1
  · simp [e]; omega
  · simp [e]; omega
theorem u64_half (x : BitVec 64) : u64 x / (2 : Int) = u64 (x >>> 1) := by
  have := bv_shr x 1
  simpa using this
theorem low_bit (A : Nat → BitVec 64) (i z : Nat) (hz : z < 64) : u64 (A i >>> z) % 2 = (bitN A (64 * i + z) : Int) := by
  rw [u64_low, bitN_at A i z hz, BitVec.getLsbD_ushiftRight, Nat.add_zero]
theorem u64_join (x : BitVec 64) (q : Nat) : 2 * u64 (x >>> (q + 1)) + (((if x.getLsbD q then 1 else 0) : Nat) : Int) = u64 (x >>> q) := by
  have h1 := u64_low (x >>> q)
  have h2 := u64_half (x >>> q)
  rw [BitVec.getLsbD_ushiftRight, Nat.add_zero] at h1
  rw [← BitVec.shiftRight_add] at h2
  rw [← h2, ← h1]
  omega
theorem u64_shr_lt (x : BitVec 64) (q : Nat) : u64 (x >>> (q + 1)) < 9223372036854775808 := by
  have h2 := u64_half (x >>> q)
  rw [← BitVec.shiftRight_add] at h2
  have := u64_lt (x >>> q)
  omega
theorem shr64 (x : BitVec 64) : x >>> (64 - 0) = 0#64 := by
  apply BitVec.eq_of_toNat_eq
  rw [BitVec.toNat_ushiftRight, Nat.shiftRight_eq_div_pow]
  have := x.isLt
  simp
  omega
end Go.Proofs.YtfhindffmghlaaaDoor
/- The document's own sponge: the padded bytes. -/
namespace Go.Proofs.YtfhindffmghlaaaDoor
open Go.RowKit
def zerosN (n : Nat) : Nat := (136 - (n + 1) % 136) % 136
def padTail (n : Nat) : List UInt8 := if zerosN n = 0 then [129] else 1 :: (List.replicate (zerosN n - 1) 0 ++ [128])
def padL (l : List UInt8) : List UInt8 := l ++ padTail l.length
theorem pad_set (l : List UInt8) (z : Nat) (hz : z = zerosN l.length) :
    (bytes (l ++ (1 :: List.replicate z 0))).set (l.length + 1 + z - 1) (.int .u8 (by8 (if z = 0 then 129 else 128))) = bytes (padL l) := by
  subst hz
  unfold padL padTail
  rw [bytes_append, List.set_append_right _ _ (by rw [bytes_length]; omega), bytes_length, bytes_append]
  congr 1
  generalize zerosN l.length = z
  by_cases h : z = 0
  · subst h; simp [bytes, byt]
  · obtain ⟨y, rfl⟩ : ∃ y, z = y + 1 := ⟨z - 1, by omega⟩
    rw [if_neg h, if_neg h, show l.length + 1 + (y + 1) - 1 - l.length = y + 1 by omega]
    simp only [bytes, List.map_cons, List.set_cons_succ, Nat.add_sub_cancel, List.map_append, List.map_replicate, List.map_nil]
    congr 1
    rw [List.replicate_succ', List.set_append_right _ _ (by simp)]
    simp [byt]
theorem pad_last (l : List UInt8) (z : Nat) : (l ++ (1 :: List.replicate z 0))[l.length + 1 + z - 1]? = some (if z = 0 then 1 else (0 : UInt8)) := by
  rw [List.getElem?_append_right (by omega)]
  by_cases h : z = 0
  · subst h; simp
  · obtain ⟨y, rfl⟩ : ∃ y, z = y + 1 := ⟨z - 1, by omega⟩
    rw [if_neg h, show l.length + 1 + (y + 1) - 1 - l.length = y + 1 by omega]
    simp
set_option maxHeartbeats 1000000 in
set_option maxRecDepth 20000 in
theorem padded_calls (A : Option Addr) (c B : Nat) (l : List UInt8) (w : World) (hl : l.length ≤ 1099511627776) (hs : Seq w B A (bytes l)) :
    Calls Tryd.prog 93 #[.slice A l.length c] w fun e w' => ∃ A' c', e = .returned (.slice A' (padL l).length c') ∧ w'.ownsRow w.heap.size 5 1 (.slice A' (padL l).length c') (padL l).length (bytes (padL l)) ∧ Below w.heap.size w w' := by
  have HS := Lib.hid hs
  clear hs
  go_enter Tryd.func93, Tryd.ntmps93
  go_wp2_with (first
    | (at_builtin; refine wpL_append rfl (.tmp 4) (.tmp 5) 24 rfl elByte rfl (World.ownsRow_nil w w.heap.size 5 1) rfl (by rw [bytes_length]; simp) HS.out (bytes_one l) (by unfold maxLen; omega) (by omega) (Nat.le_refl _) ?_; intro A1 c1 w1 ho1 hg1 _; simp only [Nat.zero_add, List.nil_append] at ho1; have HO1 := Lib.hid ho1; have HG1 := Lib.hid hg1; have hs1 := hg1.size; clear ho1 hg1)
    | (at_builtin; refine wpL_append rfl (.tmp 7) (.tmp 8) 24 rfl elByte rfl (HO1.out.alloc _) rfl rfl (Seq.one_new _ _ _) (by simp [Value.oneCell']) (by unfold maxLen; omega) (by omega) (by simp; omega) ?_; intro A2 c2 w2 ho2 hg2 _; have HO2 := Lib.hid ho2; have HG2 := Lib.hid hg2; clear ho2 hg2))
  have hB1 : Below w.heap.size w w1 := (Below.refl _ _).grown HG1.out (Nat.le_refl _) (fun g hg => by simp [Value.ownBlock] at hg)
  have hB2 : Below w.heap.size w w2 := (hB1.alloc hs1 _).grown HG2.out (by simp; omega) (fun g hg => (HO1.out.lt g hg).1)
  have HB2 := Lib.hid hB2
  have ho2 := HO2.out
  rw [show bytes l ++ [Value.int IntKind.u8 1] = bytes (l ++ (1 :: List.replicate 0 0)) from bytes_snoc l 1] at ho2
  have HO := Lib.hid ho2
  clear hB1 hB2 HG1 HG2 HO1 HO2 ho2 hs1
  have hzn : zerosN l.length < 136 := by unfold zerosN; omega
  go_loopw [3] (fun v wr => ∃ (z : Nat) (A3 : Option Addr) (c3 : Nat), z ≤ zerosN l.length ∧ v = .slice A3 (l.length + 1 + z) c3 ∧ wr.ownsRow w.heap.size 5 1 (.slice A3 (l.length + 1 + z) c3) (l.length + 1 + z) (bytes (l ++ (1 :: List.replicate z 0))) ∧ Below w.heap.size w wr) (fun v _ => l.length + 1 + zerosN l.length - lenV v)
  case atStart => exact ⟨0, A2, c2, by omega, rfl, HO.out, HB2.out⟩
  case round =>
    clear HO HB2
    obtain ⟨z, A3, c3, hz, rfl, hown, hBl⟩ := hrel
    have HO := Lib.hid hown
    have HB := Lib.hid hBl
    have hsz := hBl.size
    have hll : ((l.length + 1 + z : Nat) : Int) ≤ 1099511627776 + 137 := by omega
    by_cases hlt : z < zerosN l.length
    · have hm : (l.length + 1 + z) % 136 ≠ 0 := by unfold zerosN at hlt; omega
      have e1 : ((((l.length + 1 + z : Nat) : Int) % 136) != 0) = true := by rw [bne_iff_ne]; omega
      clear hown hBl hm
      have hlen := hll
      generalize hq : l.length + 1 + z = q at *
      have Hq := Lib.hid hq
      clear hq
      go_wp2_with (first
        | (at_builtin; refine wpL_append rfl (.tmp 14) (.tmp 15) 24 rfl elByte rfl (HO.out.alloc _) rfl rfl (Seq.one_new _ _ _) (by simp [Value.oneCell']) (by unfold maxLen; omega) (by omega) (by simp; omega) ?_; intro A4 c4 w4 ho4 hg4 _; have HO4 := Lib.hid ho4; have HG4 := Lib.hid hg4; clear ho4 hg4))
      have eq1 : q + 1 = l.length + 1 + (z + 1) := by have := Hq.out; omega
      have eq2 : bytes (l ++ (1 :: List.replicate z 0)) ++ [Value.int IntKind.u8 0] = bytes (l ++ (1 :: List.replicate (z + 1) 0)) := by
        rw [show ([Value.int IntKind.u8 0] : List Value) = [.int .u8 (by8 0)] from rfl, bytes_snoc, List.replicate_succ']
        simp
      have ho4 := HO4.out
      rw [eq2, eq1] at ho4
      refine ⟨⟨z + 1, A4, c4, by omega, by rw [eq1], ho4, (HB.out.alloc hsz _).grown HG4.out (by simp; omega) (fun g hg => (HO.out.lt g hg).1)⟩, ?_⟩
      have := Hq.out
      simp only [lenV]
      omega
    · have hzz : z = zerosN l.length := by omega
      have hm : (l.length + 1 + z) % 136 = 0 := by rw [hzz]; unfold zerosN; omega
      have e1 : ((((l.length + 1 + z : Nat) : Int) % 136) != 0) = false := by rw [bne_eq_false_iff_eq]; omega
      obtain ⟨g, rfl, hg1, hg2, hgc, _⟩ := own_form hown (by omega)
      have hc := hown.cellAt (l.length + 1 + z - 1) (by omega)
      have hf := hown.frozenAt (l.length + 1 + z - 1)
      have hst := (hown.stored (l.length + 1 + z - 1) (.int .u8 (by8 (if z = 0 then 129 else 128)))).1
      rw [pad_set l z hzz] at hst
      have hb : (bytes (l ++ (1 :: List.replicate z 0)))[l.length + 1 + z - 1]? = some (.int .u8 (by8 (if z = 0 then 1 else 0))) := by
        unfold bytes
        rw [List.getElem?_map, pad_last]
        rfl
      rw [hb] at hc
      have hlen : (padL l).length = l.length + 1 + z := by
        unfold padL padTail
        rw [← hzz]
        by_cases h : z = 0 <;> simp [h] <;> omega
      have HST := Lib.hid hst
      have Hz0 := Lib.hid hzz
      have Hlen := Lib.hid hlen
      clear hown hBl hm hb hst hzz hlen
      have hv : (Value.int IntKind.u8 (by8 (if z = 0 then 1 else 0)) = .int .u8 1 ∧ z = 0) ∨ (Value.int IntKind.u8 (by8 (if z = 0 then 1 else 0)) = .int .u8 0 ∧ z ≠ 0) := by
        by_cases h : z = 0
        · exact .inl ⟨by rw [if_pos h]; rfl, h⟩
        · exact .inr ⟨by rw [if_neg h]; rfl, h⟩
      have n1 : (1 : Int) ≤ ((l.length + 1 + z : Nat) : Int) := by omega
      have t1 : (((l.length + 1 + z : Nat) : Int) - 1).toNat = l.length + 1 + z - 1 := by omega
      have l1 : ((l.length + 1 + z : Nat) : Int) - 1 < ((l.length + 1 + z : Nat) : Int) := by omega
      generalize hq : l.length + 1 + z = q at *
      have Hq := Lib.hid hq
      clear hq
      rcases hv with ⟨hv, h0⟩ | ⟨hv, h0⟩
      · rw [hv] at hc
        have hst := HST.out
        rw [if_pos h0] at hst
        have HST2 := Lib.hid hst
        clear hv hst HST
        go_wp2_with fail
        go_ret
        refine ⟨some ⟨g, 0, none⟩, c3, by rw [Hlen.out]; rfl, ?_, HB.out.setCell (by simpa using hg1) _⟩
        rw [Hlen.out]
        exact HST2.out
      · rw [hv] at hc
        have hst := HST.out
        rw [if_neg h0] at hst
        have HST2 := Lib.hid hst
        clear hv hst HST
        go_wp2_with fail
        go_ret
        refine ⟨some ⟨g, 0, none⟩, c3, by rw [Hlen.out]; rfl, ?_, HB.out.setCell (by simpa using hg1) _⟩
        rw [Hlen.out]
        exact HST2.out
end Go.Proofs.YtfhindffmghlaaaDoor
/- Plain laws: a byte laid down bit by bit; a byte read bit by bit; the padded bytes are what the program's Sum lays down. -/
namespace Go.Proofs.YtfhindffmghlaaaDoor
open Go.RowKit
/-- The lowest j bits of a byte. -/
def pb (x : UInt8) (j : Nat) : BitVec 64 := BitVec.ofNat 64 (x.toNat % 2 ^ j)
def layP (S : Nat → BitVec 64) (a : Nat) (x : UInt8) (j : Nat) : Nat → BitVec 64 := upd S (a / 8) (S (a / 8) ^^^ pb x j <<< (a % 8 * 8))
theorem layP_zero (S : Nat → BitVec 64) (a : Nat) (x : UInt8) : layP S a x 0 = S := by
  funext i
  unfold layP upd pb
  split
  · rename_i h; subst h; simp [Nat.mod_one]
  · rfl
theorem layP_all (S : Nat → BitVec 64) (a : Nat) (x : UInt8) : layP S a x 8 = layS S a x := by
  unfold layP layS pb ext
  rw [show (2 : Nat) ^ 8 = 256 from rfl, Nat.mod_eq_of_lt x.toNat_lt]
theorem pb_bit (x : UInt8) (j z : Nat) (hz : z < 64) : (pb x j).getLsbD z = (decide (z < j) && x.toNat.testBit z) := by
  unfold pb
  rw [BitVec.getLsbD_ofNat, Nat.testBit_mod_two_pow]
  simp [hz]
theorem testBit_num (n j : Nat) : n.testBit j = decide (n / 2 ^ j % 2 = 1) := by
  rw [Nat.testBit_eq_decide_div_mod_eq]
theorem bools2 : ∀ a b : Bool, ((if a then 1 else 0) + (if b then 1 else 0)) % 2 = if (a ^^ b) then 1 else (0 : Nat) := by decide
theorem layP_step (S : Nat → BitVec 64) (a : Nat) (x : UInt8) (j : Nat) (hj : j < 8) :
    tab 1600 (upd (bitsV (layP S a x j)) (8 * a + j) (.int .i64 (((bitN (layP S a x j) (8 * a + j) + x.toNat / 2 ^ j % 2) % 2 : Nat) : Int))) = tab 1600 (bitsV (layP S a x (j + 1))) := by
  refine tab_congr fun i hi => ?_
  have e0 : ∀ q, i / 64 = a / 8 → bitN (layP S a x q) i = if ((S (a / 8)).getLsbD (i % 64) ^^ (decide (a % 8 * 8 ≤ i % 64) && (decide (i % 64 - a % 8 * 8 < q) && x.toNat.testBit (i % 64 - a % 8 * 8)))) then 1 else 0 := by
    intro q h
    unfold bitN layP upd
    rw [h, if_pos rfl, BitVec.getLsbD_xor, BitVec.getLsbD_shiftLeft, pb_bit _ _ _ (by omega)]
    simp only [show i % 64 < 64 by omega, decide_true, Bool.true_and]
    by_cases h2 : i % 64 < a % 8 * 8
    · simp [h2, show ¬ a % 8 * 8 ≤ i % 64 by omega]
    · simp [h2, show a % 8 * 8 ≤ i % 64 by omega]
  have hb : bitN (layP S a x (j + 1)) i = if i = 8 * a + j then (bitN (layP S a x j) (8 * a + j) + x.toNat / 2 ^ j % 2) % 2 else bitN (layP S a x j) i := by
    by_cases hl : i / 64 = a / 8
    · by_cases hij : i = 8 * a + j
      · rw [if_pos hij, ← hij, e0 _ hl, e0 _ hl]
        have hz : i % 64 - a % 8 * 8 = j := by omega
        have hle : a % 8 * 8 ≤ i % 64 := by omega
        have hr : x.toNat / 2 ^ j % 2 = if x.toNat.testBit j then 1 else 0 := by
          rw [testBit_num]
          by_cases h : x.toNat / 2 ^ j % 2 = 1
          · simp [h]
          · simp [h]; omega
        rw [hz, hr, bools2]
        simp [hle]
      · rw [if_neg hij, e0 _ hl, e0 _ hl]
        have : (decide (a % 8 * 8 ≤ i % 64) && (decide (i % 64 - a % 8 * 8 < j + 1) && x.toNat.testBit (i % 64 - a % 8 * 8))) = (decide (a % 8 * 8 ≤ i % 64) && (decide (i % 64 - a % 8 * 8 < j) && x.toNat.testBit (i % 64 - a % 8 * 8))) := by
          by_cases h1 : a % 8 * 8 ≤ i % 64
          · have : decide (i % 64 - a % 8 * 8 < j + 1) = decide (i % 64 - a % 8 * 8 < j) := by
              rw [decide_eq_decide]; omega
            rw [this]
          · simp [h1]
        rw [this]
    · rw [if_neg (by omega)]
      unfold bitN layP upd
      rw [if_neg hl, if_neg hl]
  unfold upd bitsV
  rw [hb]
  split <;> rfl
theorem lowR_toNat (x : BitVec 64) : (low x).toNat = x.toNat % 256 := by
  unfold low
  rw [UInt8.toNat_ofNat']
theorem byte_bit (P : Nat → BitVec 64) (i j : Nat) (hj : j < 8) : bitN P (8 * i + j) = (byteOf P i).toNat / 2 ^ j % 2 := by
  unfold byteOf bitN
  rw [lowR_toNat, show (8 * i + j) / 64 = i / 8 by omega, show (8 * i + j) % 64 = i % 8 * 8 + j by omega]
  have h1 : (P (i / 8)).getLsbD (i % 8 * 8 + j) = (P (i / 8) >>> (i % 8 * 8)).toNat.testBit j := by
    rw [← BitVec.getLsbD_ushiftRight]; rfl
  rw [h1]
  generalize (P (i / 8) >>> (i % 8 * 8)).toNat = m
  have h2 : (m % 256).testBit j = m.testBit j := by
    rw [show (256 : Nat) = 2 ^ 8 from rfl, Nat.testBit_mod_two_pow]; simp [hj]
  rw [← h2, testBit_num]
  by_cases h : m % 256 / 2 ^ j % 2 = 1
  · simp [h]
  · simp [h]; omega
theorem stepS_snd (s : (Nat → BitVec 64) × Nat) (b : UInt8) (h : s.2 < 136) : (stepS s b).2 = (s.2 + 1) % 136 := by
  unfold stepS
  by_cases e : s.2 + 1 = 136
  · rw [if_pos e, e]
  · rw [if_neg e]; simp only; omega
theorem writeS_snd (l : List UInt8) : ∀ s : (Nat → BitVec 64) × Nat, s.2 < 136 → (writeS s l).2 = (s.2 + l.length) % 136 := by
  induction l with
  | nil => intro s hs; simp only [writeS, List.foldl_nil, List.length_nil, Nat.add_zero]; omega
  | cons b l ih =>
    intro s hs
    show (writeS (stepS s b) l).2 = _
    rw [ih _ (stepS_lt hs b), stepS_snd s b hs, List.length_cons]
    omega
theorem layS_zero (S : Nat → BitVec 64) (a : Nat) : layS S a 0 = S := by
  rw [← layP_all]
  have : layP S a 0 8 = layP S a 0 0 := by unfold layP pb; simp
  rw [this, layP_zero]
theorem writeS_zeros (S : Nat → BitVec 64) (z : Nat) : ∀ n, n + z < 136 → writeS (S, n) (List.replicate z 0) = (S, n + z) := by
  induction z with
  | zero => intro n _; rfl
  | succ z ih =>
    intro n hn
    show writeS (stepS (S, n) 0) (List.replicate z 0) = _
    have : stepS (S, n) 0 = (S, n + 1) := by unfold stepS; rw [if_neg (by simp; omega)]; simp [layS_zero]
    rw [this, ih (n + 1) (by omega)]
    congr 1
    omega
theorem layS_129 (S : Nat → BitVec 64) : layS S 135 129 = layS (layS S 135 1) 135 128 := by
  funext i
  unfold layS upd
  by_cases h : i = 135 / 8
  · simp only [if_pos h, if_pos trivial]
    rw [BitVec.xor_assoc]
    rfl
  · simp only [if_neg h]
/-- What is laid down with the padding is what Sum permutes last. -/
theorem writeS_pad (l : List UInt8) : writeS (zeroS, 0) (padL l) = (permS (layS (layS (writeS (zeroS, 0) l).1 (writeS (zeroS, 0) l).2 1) 135 128), 0) := by
  unfold padL
  rw [writeS_append]
  have hn := writeS_snd l (zeroS, 0) (by simp)
  simp only [Nat.zero_add] at hn
  generalize writeS (zeroS, 0) l = T at *
  obtain ⟨S, n⟩ := T
  simp only at hn
  unfold padTail
  by_cases hz : zerosN l.length = 0
  · rw [if_pos hz]
    have hn2 : n = 135 := by unfold zerosN at hz; omega
    subst hn2
    show stepS (S, 135) 129 = _
    unfold stepS
    rw [if_pos rfl, layS_129]
  · rw [if_neg hz]
    have hn3 : n + zerosN l.length = 135 := by unfold zerosN at hz ⊢; omega
    show writeS (stepS (S, n) 1) _ = _
    have h1 : stepS (S, n) 1 = (layS S n 1, n + 1) := by unfold stepS; rw [if_neg (by simp; omega)]
    rw [h1, writeS_append, writeS_zeros _ _ _ (by omega)]
    show stepS (_, n + 1 + (zerosN l.length - 1)) 128 = _
    rw [show n + 1 + (zerosN l.length - 1) = 135 by omega]
    unfold stepS
    rw [if_pos rfl]
theorem hash_pad (l : List UInt8) (i : Nat) : byteOf (writeS (zeroS, 0) (padL l)).1 i = hashS l i := by rw [writeS_pad]; rfl
end Go.Proofs.YtfhindffmghlaaaDoor
/- The document's own Sum: it is the program's. -/
namespace Go.Proofs.YtfhindffmghlaaaDoor
open Go.RowKit
theorem padL_length (l : List UInt8) : (padL l).length ≤ l.length + 137 ∧ (padL l).length % 136 = 0 := by
  unfold padL padTail
  rw [List.length_append]
  by_cases h : zerosN l.length = 0
  · rw [if_pos h]
    unfold zerosN at h
    simp only [List.length_singleton]
    omega
  · rw [if_neg h]
    simp only [List.length_cons, List.length_append, List.length_replicate, List.length_nil]
    unfold zerosN at h ⊢
    omega
set_option maxHeartbeats 2000000 in
set_option maxRecDepth 100000 in
theorem sumR_calls (A : Option Addr) (c B : Nat) (ps : List Piece) (w : World) (hl : ps.length ≤ 1099511627776) (hj : (joinP ps).length ≤ 1099511627776) (hs : Seq w B A (pcs ps)) (hB : B ≤ w.heap.size)
    (hp : ∀ p ∈ ps, Seq w B p.1 (bytes p.2.2)) :
    Calls Tryd.prog 68 #[.slice A ps.length c] w fun e w' => e = .returned (.agg (tab 32 (hashV (hashS (joinP ps))))) ∧ Below w.heap.size w w' := by
  have HS := Lib.hid hs
  have HP := Lib.hid hp
  clear hs hp
  go_enter Tryd.func68, Tryd.ntmps68
  go_wp2_with (first
    | (refine wpL_alloc rfl 23 rfl (tab 32 fun _ => .int .u8 0) (by kernel_rfl) ?_))
  go_loopw [3, 4] (fun v i wr => ∃ (k : Nat) (A1 : Option Addr) (c1 : Nat), k ≤ ps.length ∧ i = .int .i64 k ∧ v = .slice A1 (joinP (ps.take k)).length c1 ∧ wr.ownsRow (w.heap.size + 1) 5 1 (.slice A1 (joinP (ps.take k)).length c1) (joinP (ps.take k)).length (bytes (joinP (ps.take k))) ∧
      Below (w.heap.size + 1) (w.alloc (.cells (tab 32 fun _ => .int .u8 0) 23)) wr) (fun _ i _ => ps.length - (intOf i).toNat)
  case atStart => exact ⟨0, none, 0, by omega, rfl, rfl, World.ownsRow_nil _ _ _ _, Below.refl _ _⟩
  case round =>
    obtain ⟨k, A1, c1, hk, rfl, rfl, hown, hBl⟩ := hrel
    have hs1 := hBl.size
    simp only [size_alloc] at hs1
    have hjk := joinP_le ps k
    have HB0 := Lib.hid (((Below.refl w.heap.size w).alloc (Nat.le_refl _) _).trans (hBl.mono (Nat.le_succ _)))
    by_cases hlt : k < ps.length
    · have dk : decide ((k : Int) < (ps.length : Int)) = true := by simp; omega
      have lk : (k : Int) < (ps.length : Int) := by omega
      obtain ⟨ad, rfl, hadb, hcell⟩ := (HS.out.below HB0.out hB).at_ (k := k) (by simpa [pcs] using hlt)
      have hpb := HP.out _ (List.getElem_mem hlt)
      have hstep := joinP_take ps k hlt
      have hjk2 := joinP_le ps (k + 1)
      have he : (pcs ps)[k]'(by simpa [pcs] using hlt) = .slice ps[k].1 ps[k].2.2.length ps[k].2.1 := by simp [pcs, pcV]
      rw [he] at hcell
      have hpr := hpb.below HB0.out hB
      have hll : (joinP (ps.take (k + 1))).length = (joinP (ps.take k)).length + ps[k].2.2.length := by rw [hstep, List.length_append]
      generalize ps[k] = pk at *
      obtain ⟨Ak, ck, lk'⟩ := pk
      simp only at hpr hcell hstep hll
      generalize hJ : joinP (ps.take k) = J at *
      have HJ := Lib.hid hJ
      have HO := Lib.hid hown
      have HB := Lib.hid hBl
      have Hstep := Lib.hid hstep
      have HPr := Lib.hid hpr
      have hll2 := Nat.le_of_eq hll.symm
      have Hll := Lib.hid hll
      clear hown hBl hstep hpr hpb he hJ hll
      go_wp2_with ((at_builtin; refine wpL_append rfl (.tmp 21) (.tmp 25) 24 rfl elByte rfl HO.out rfl (by rw [bytes_length]; simp) HPr.out (bytes_one _) (by unfold maxLen; omega) (by omega) (by omega) ?_; intro A2 c2 w2 ho2 hg2 _; have HO2 := Lib.hid ho2; have HG2 := Lib.hid hg2; clear ho2 hg2))
      refine ⟨⟨k + 1, A2, c2, by omega, by go_num, by rw [Hstep.out, List.length_append], ?_, HB.out.grown HG2.out (by omega) (fun g hg => (HO.out.lt g hg).1)⟩, by simp [intOf]; omega⟩
      rw [Hstep.out, List.length_append, bytes_append]
      exact HO2.out
    · have dk : decide ((k : Int) < (ps.length : Int)) = false := by simp; omega
      have hkl : k = ps.length := by omega
      have hown' := hown
      rw [hkl, List.take_length] at hown'
      have HO := Lib.hid hown'
      have HB := Lib.hid hBl
      have Hk := Lib.hid hkl
      have hlk : (joinP (ps.take k)).length = (joinP ps).length := by rw [hkl, List.take_length]
      rw [hlk]
      clear hown hown' hBl hkl
      go_wp2_with fail
      refine (padded_calls A1 c1 wr.heap.size (joinP ps) wr hj (Seq.of_own HO.out)).mono ?_
      rintro e w1 ⟨A2, c2, rfl, ho1, hb1⟩
      have hpl := (padL_length (joinP ps)).1
      have hpm := (padL_length (joinP ps)).2
      have HHash := Lib.hid (hash_pad (joinP ps))
      generalize padL (joinP ps) = Pd at *
      have HB1 := Lib.hid (HB0.out.trans (hb1.mono (by omega)))
      have HR1 := Lib.hid (((Blk.new w 23 (tab 32 fun _ => .int .u8 0)).below HB.out (Nat.lt_succ_self _)).below hb1 (by omega))
      have HSP := Lib.hid (Seq.of_own ho1)
      have hs2 := hb1.size
      clear ho1 hb1 HB0 HB HO
      go_wp2_with (first
        | (refine wpL_alloc rfl 136 rfl (tab 1600 fun _ => .int .i64 0) (by kernel_rfl) ?_))
      go_loopw [7] (fun i wr => ∃ (k : Nat), k ≤ Pd.length ∧ i = .int .i64 k ∧ Blk wr w1.heap.size 136 (tab 1600 (bitsV (writeS (zeroS, 0) (Pd.take k)).1)) ∧ Seq wr w1.heap.size A2 (bytes Pd) ∧
        Below w.heap.size w wr ∧ ∃ V, Blk wr w.heap.size 23 (tab 32 V)) (fun i _ => Pd.length - (intOf i).toNat)
      case atStart =>
        refine ⟨0, by omega, rfl, (Blk.new _ _ _).same (tab_congr fun i _ => ?_), HSP.out.alloc (Nat.le_refl _) _, HB1.out.alloc (by omega) _, _, HR1.out.alloc _⟩
        unfold bitsV bitN
        simp [writeS, zeroS]
      case round =>
        clear HSP HB1 HR1
        obtain ⟨i, hi, rfl, hA, hSP, hBl, V, hV⟩ := hrel
        have hs3 := hBl.size
        have hgl := hA.lt
        by_cases hlt : i < Pd.length
        · have di : decide ((i : Int) < (Pd.length : Int)) = true := by simp; omega
          have li : (i : Int) < (Pd.length : Int) := by omega
          obtain ⟨ad, rfl, hadb, hcell⟩ := hSP.at_ (k := i) (by rw [bytes_length]; exact hlt)
          rw [bytes_get] at hcell
          have hx1 := by8_nonneg Pd[i]
          have hx2 := by8_lt Pd[i]
          have hsn := writeS_snd (Pd.take i) (zeroS, 0) (by simp)
          rw [List.length_take, Nat.min_eq_left hi, Nat.zero_add] at hsn
          have hstep := writeS_take (zeroS, 0) Pd i hlt
          generalize writeS (zeroS, 0) (Pd.take i) = T at *
          obtain ⟨T, m⟩ := T
          simp only at hsn hA
          have e0 : by8 Pd[i] = ((Pd[i].toNat / 2 ^ 0 : Nat) : Int) := by simp [by8]
          generalize Pd[i] = x at *
          have Hsn := Lib.hid hsn
          have Hstep := Lib.hid hstep
          have HA := Lib.hid hA
          have HSP := Lib.hid hSP
          have HB := Lib.hid hBl
          have HV := Lib.hid hV
          have E0 := Lib.hid e0
          clear hsn hstep hA hSP hBl hV e0
          go_wp2_with fail
          go_loopw [8, 9] (fun n j wr => ∃ (q : Nat), q ≤ 8 ∧ j = .int .i64 q ∧ n = .int .i64 ((x.toNat / 2 ^ q : Nat) : Int) ∧ Blk wr w1.heap.size 136 (tab 1600 (bitsV (layP T m x q))) ∧ Seq wr w1.heap.size (some ad) (bytes Pd) ∧
            Below w.heap.size w wr ∧ ∃ V, Blk wr w.heap.size 23 (tab 32 V)) (fun _ j _ => 8 - (intOf j).toNat)
          case atStart => exact ⟨0, by omega, rfl, by rw [← E0.out], by rw [layP_zero]; exact HA.out, HSP.out, HB.out, V, HV.out⟩
          case round =>
            clear HA HSP HB HV
            obtain ⟨q, hq, rfl, rfl, hA, hSP, hBl, V, hV⟩ := hrel
            by_cases hlq : q < 8
            · have dq : decide ((q : Int) < 8) = true := by simp; omega
              have hm8 : 8 * (i % 136) + q < 1600 := by omega
              have c1 := hA.bit (8 * (i % 136) + q) hm8
              have f1 := hA.frozen (8 * (i % 136) + q)
              have b1 := bitN_le (layP T m x q) (8 * (i % 136) + q)
              have hst := layP_step T m x q hlq
              have hdiv : x.toNat / 2 ^ q / 2 = x.toNat / 2 ^ (q + 1) := by rw [Nat.div_div_eq_div_mul, ← Nat.pow_succ]
              have hxl : x.toNat / 2 ^ q < 256 := Nat.lt_of_le_of_lt (Nat.div_le_self _ _) x.toNat_lt
              rw [show 8 * m + q = 8 * (i % 136) + q by rw [Hsn.out]] at hst
              generalize x.toNat / 2 ^ q = n at *
              have HA := Lib.hid hA
              have HSP := Lib.hid hSP
              have HB := Lib.hid hBl
              have HV := Lib.hid hV
              have Hst := Lib.hid hst
              have Hdiv := Lib.hid hdiv
              clear hA hSP hBl hV hst hdiv
              go_wp2_with fail
              have hsm : tab 1600 (upd (bitsV (layP T m x q)) (8 * (i % 136) + q) (.int .i64 ((((bitN (layP T m x q) (8 * (i % 136) + q) : Nat) : Int) + (n : Int)) % 2))) = tab 1600 (bitsV (layP T m x (q + 1))) := by
                rw [← Hst.out]
                refine tab_congr fun z _ => ?_
                unfold upd
                split
                · congr 1; omega
                · rfl
              refine ⟨⟨q + 1, by omega, by go_num, by rw [← Hdiv.out]; go_num, ?_, Seq.setCell (p := ⟨w1.heap.size, 8 * (i % 136) + q, none⟩) HSP.out (Nat.le_refl _) _, HB.out.setCell (by simp; omega) _, _, HV.out.far (by simp; omega) _⟩, by simp [intOf]; omega⟩
              exact (HA.out.put _ _).same hsm
            · have dq : decide ((q : Int) < 8) = false := by simp; omega
              have hq8 : q = 8 := by omega
              rw [hq8, layP_all] at hA
              have Hq := Lib.hid hq8
              have HA := Lib.hid hA
              have HSP := Lib.hid hSP
              have HB := Lib.hid hBl
              have HV := Lib.hid hV
              clear hA hSP hBl hV hq8
              have hb3 := HB.out.size
              have hg3 := HA.out.lt
              by_cases ht : i % 136 = 135
              · have t1 : (((i : Int) % 136 : Int) == 135) = true := by simp; omega
                have st : stepS (T, m) x = (permS (layS T m x), 0) := by unfold stepS; rw [if_pos (by have := Hsn.out; simp only; omega)]
                have HST := Lib.hid (Hstep.out.trans st)
                clear st
                go_wp2_with (first
                  | (refine wpL_load rfl 136 (.tmp 6) rfl (n := 1600) 0 rfl _ HA.out (by omega) Tryd.underlying136 rfl (by kernel_rfl) ?_))
                refine (roundsR_calls (layS T m x) wr).mono ?_
                rintro e w2 ⟨rfl, hb2⟩
                have HA2 := Lib.hid (HA.out.below hb2 hg3)
                have HSP2 := Lib.hid (HSP.out.below hb2 (by omega))
                have HB2 := Lib.hid (HB.out.trans (hb2.mono hb3))
                have HV2 := Lib.hid (HV.out.below hb2 (by omega))
                have hs4 := hb2.size
                clear hb2
                go_wp2_with (first
                  | (refine wpL_storeA (n := 1600) (N := 1600) (V := bitsV (layS T m x)) (f := bitsV (permS (layS T m x))) rfl 136 (.tmp 6) (.tmp 66) rfl 0 rfl rfl HA2.out (by omega) (by kernel_rfl) (fun _ => rfl) ?_; intro w3 ho3 hk3; have HO3 := Lib.hid ho3; have HK3 := Lib.hid (hk3.same (over_whole _ _ _)); clear ho3 hk3))
                refine ⟨⟨i + 1, by omega, by go_num, ?_, HSP2.out.only HO3.out (Nat.le_refl _), HO3.out.below HB2.out (by omega), _, HO3.out.blk HV2.out (by omega)⟩, by simp [intOf]; omega⟩
                rw [HST.out]
                exact HK3.out
              · have t1 : (((i : Int) % 136 : Int) == 135) = false := by simp; omega
                have st : stepS (T, m) x = (layS T m x, m + 1) := by unfold stepS; rw [if_neg (by have := Hsn.out; simp only; omega)]
                have HST := Lib.hid (Hstep.out.trans st)
                clear st
                go_wp2_with fail
                refine ⟨⟨i + 1, by omega, by go_num, ?_, HSP.out, HB.out, _, HV.out⟩, by simp [intOf]; omega⟩
                rw [HST.out]
                exact HA.out
        · have di : decide ((i : Int) < (Pd.length : Int)) = false := by simp; omega
          have hil : i = Pd.length := by omega
          rw [hil, List.take_length] at hA
          have Hi := Lib.hid hil
          generalize (writeS (zeroS, 0) Pd).1 = P at *
          have HA := Lib.hid (hA.alloc (.cells (tab 32 fun _ => .int .u8 0) 23))
          have HB := Lib.hid (hBl.alloc hs3 (.cells (tab 32 fun _ => .int .u8 0) 23))
          have HV := Lib.hid (hV.alloc (.cells (tab 32 fun _ => .int .u8 0) 23))
          clear hA hSP hBl hV hil
          go_wp2_with (first
            | (refine wpL_alloc rfl 23 rfl (tab 32 fun _ => .int .u8 0) (by kernel_rfl) ?_))
          have HN := Lib.hid (Blk.new wr 23 (tab 32 fun _ => .int .u8 0))
          generalize hG : wr.heap.size = G at *
          have HG := Lib.hid hG
          clear hG
          go_loopw [12] (fun j w4 => ∃ (k : Nat), k ≤ 32 ∧ j = .int .i64 k ∧ Blk w4 w1.heap.size 136 (tab 1600 (bitsV P)) ∧ Below w.heap.size w w4 ∧ (∃ V, Blk w4 w.heap.size 23 (tab 32 V)) ∧
            ∃ R : Nat → UInt8, (∀ z, z < k → R z = byteOf P z) ∧ Blk w4 G 23 (tab 32 (hashV R))) (fun j _ => 32 - (intOf j).toNat)
          case atStart => exact ⟨0, by omega, rfl, HA.out, HB.out, ⟨V, HV.out⟩, fun _ => 0, fun _ h => absurd h (by omega), HN.out⟩
          case round =>
            clear HA HB HV HN
            obtain ⟨j, hj2, rfl, hA, hBl, ⟨V, hV⟩, R, hR, hN⟩ := hrel
            by_cases hlj : j < 32
            · have dj : decide ((j : Int) < 32) = true := by simp; omega
              have lj : (j : Int) < 32 := by omega
              have hNx := (byteOf P j).toNat_lt
              have hby : ((byteOf P j).toNat : Int) = by8 (byteOf P j) := rfl
              have hlow := fun q h => byte_bit P j q h
              have HBy := Lib.hid hby
              have HLow := Lib.hid hlow
              generalize hNe : (byteOf P j).toNat = N at *
              have HNe := Lib.hid hNe
              have HA := Lib.hid hA
              have HB := Lib.hid hBl
              have HV := Lib.hid hV
              have HR := Lib.hid hR
              have HN := Lib.hid hN
              clear hA hBl hV hR hN hby hlow hNe
              go_wp2_with fail
              go_loopw [13, 14] (fun n z w5 => ∃ (q : Nat), q ≤ 8 ∧ z = .int .i64 ((q : Int) - 1) ∧ n = .int .i64 ((N / 2 ^ q : Nat) : Int) ∧ Blk w5 w1.heap.size 136 (tab 1600 (bitsV P)) ∧ Below w.heap.size w w5 ∧ (∃ V, Blk w5 w.heap.size 23 (tab 32 V)) ∧
                Blk w5 G 23 (tab 32 (hashV R))) (fun _ z _ => (intOf z + 1).toNat)
              case atStart => exact ⟨8, by omega, rfl, by rw [Nat.div_eq_of_lt (by omega)]; rfl, HA.out, HB.out, ⟨V, HV.out⟩, HN.out⟩
              case round =>
                clear HA HB HV HN
                obtain ⟨q, hq, rfl, rfl, hA, hBl, ⟨V, hV⟩, hN⟩ := hrel
                have hqN := Nat.div_le_self N (2 ^ q)
                by_cases hlq : 1 ≤ q
                · obtain ⟨p, rfl⟩ : ∃ p, q = p + 1 := ⟨q - 1, by omega⟩
                  have hp8 : 8 * j + p < 1600 := by omega
                  have c1 := hA.bit (8 * j + p) hp8
                  have f1 := hA.frozen (8 * j + p)
                  rw [HLow.out p (by omega)] at c1
                  have hjoin : 2 * (N / 2 ^ (p + 1)) + N / 2 ^ p % 2 = N / 2 ^ p := by rw [Nat.pow_succ, ← Nat.div_div_eq_div_mul]; omega
                  have hqp := Nat.div_le_self N (2 ^ p)
                  generalize N / 2 ^ (p + 1) = n1 at *
                  generalize hm1 : N / 2 ^ p = m1 at *
                  have Hm := Lib.hid hm1
                  have HJ := Lib.hid hjoin
                  have HA := Lib.hid hA
                  have HB := Lib.hid hBl
                  have HV := Lib.hid hV
                  have HN := Lib.hid hN
                  clear hA hBl hV hN hjoin hm1
                  have dz : decide ((((p + 1 : Nat) : Int) - 1) ≥ 0) = true := by simp
                  have dp : decide ((p : Int) ≥ 0) = true := by simp
                  rw [show (((p + 1 : Nat) : Int) - 1) = (p : Int) by omega]
                  go_wp2_with fail
                  refine ⟨⟨p, by omega, by go_num, by rw [Hm.out]; have := HJ.out; congr 1; omega, HA.out, HB.out, ⟨V, HV.out⟩, HN.out⟩, by simp [intOf]⟩
                · have hq0 : q = 0 := by omega
                  subst hq0
                  have hfR := hN.frozen j
                  have hV2 := hN.at_ j (by omega)
                  have HA := Lib.hid hA
                  have HB := Lib.hid hBl
                  have HV := Lib.hid hV
                  have HN := Lib.hid hN
                  clear hA hBl hV hN
                  rw [show N / 2 ^ 0 = N by simp]
                  rw [show (((0 : Nat) : Int) - 1) = -1 by rfl]
                  have hwN : IntKind.u8.wrap (N : Int) = by8 (byteOf P j) := by rw [IntKind.wrap_u8', ← HBy.out]; omega
                  go_wp2_with fail
                  refine ⟨⟨j + 1, by omega, by go_num, (HA.out.far (by simp; omega) _), HB.out.setCell (by simp; omega) _, ⟨V, HV.out.far (by simp; omega) _⟩, upd R j (byteOf P j), fun z hz => ?_, ?_⟩, by simp [intOf]; omega⟩
                  · unfold upd
                    split
                    · rename_i h; rw [h]
                    · exact HR.out z (by omega)
                  · exact (HN.out.put _ _).same (by rw [hashV_upd])
            · have dj : decide ((j : Int) < 32) = false := by simp; omega
              have e1 : tab 32 (hashV R) = tab 32 (hashV (hashS (joinP ps))) := tab_congr fun z hz => by unfold hashV; rw [hR z (by omega), HHash.out]
              have HB := Lib.hid hBl
              have HV := Lib.hid hV
              have HN := Lib.hid (hN.same e1)
              have hsw := hBl.size
              clear hA hBl hV hN e1 hR
              go_wp2_with (first
                | (refine wpL_load rfl 23 (.tmp 11) rfl (n := 32) 0 rfl _ HN.out (by omega) Tryd.underlying23 rfl (by kernel_rfl) ?_)
                | (refine wpL_store rfl 23 (.tmp 2) (.tmp 89) rfl 0 rfl rfl HV.out (by omega) (by kernel_rfl) (fun _ => rfl) ?_))
              exact ret_cell rfl rfl _ (HV.out.setRow.same (over_whole _ _ _)) Tryd.underlying23 rfl (by kernel_rfl) rfl ⟨rfl, below_setRow HB.out (by omega) _⟩
end Go.Proofs.YtfhindffmghlaaaDoor
