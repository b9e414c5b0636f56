/- sponge.spread: what it answers: every lane with what the columns beside it come to laid on it. -/
import Derived.Test.YtfidjeoeaeghhaaDoorSpRot
namespace Go.Proofs.YtfidjeoeaeghhaaDoor
open Go.RowKit
def colX (A : Nat → BitVec 64) (x : Nat) : BitVec 64 := A x ^^^ A (x + 5) ^^^ A (x + 10) ^^^ A (x + 15) ^^^ A (x + 20)
def spreadS (A : Nat → BitVec 64) (i : Nat) : BitVec 64 := A i ^^^ (colX A ((i + 4) % 5) ^^^ (colX A ((i + 1) % 5)).rotateLeft 1)
theorem sumf (k c n : Nat) (C N : Int) (hC : C = c) (hN : N = n) (h : k + c < n) (hn : n ≤ 4611686018427387904) :
    IntKind.i64.wrap ((k : Int) + C) = (k : Int) + C ∧ (0 : Int) ≤ (k : Int) + C ∧ ((k : Int) + C).toNat = k + c ∧ (k : Int) + C < N :=
  ⟨IntWalk.i64_in _ (by omega), by omega, by omega, by omega⟩
theorem rot1_calls (x : BitVec 64) (w : World) :
    Calls Tryd.prog 37 #[.int .u64 (u64 x), .int .i64 1] w fun e w' => e = .returned (.int .u64 (u64 (x.rotateLeft 1))) ∧ w' = w := rot_calls x 1 (by omega) w
theorem remf (k c m : Nat) (C M : Int) (hC : C = c) (hM : M = m) (hm : 0 < m) :
    ((k : Int) + C).tmod M = ((k : Int) + C) % M ∧ (0 : Int) ≤ ((k : Int) + C) % M ∧ (((k : Int) + C) % M).toNat = (k + c) % m ∧ ((k : Int) + C) % M < M := by
  subst hC hM
  have h : ((k : Int) + c) % m = (((k + c) % m : Nat) : Int) := by norm_cast
  have := Nat.mod_lt (k + c) hm
  refine ⟨Int.tmod_eq_emod_of_nonneg (by omega), ?_, ?_, ?_⟩ <;> rw [h] <;> omega
set_option maxHeartbeats 1000000 in
theorem spread_calls (A : Nat → BitVec 64) (w : World) :
    Calls Tryd.prog 32 #[.agg (tab 25 (lanes A))] w fun e w' => e = .returned (.agg (tab 25 (lanes (spreadS A)))) ∧ Below w.heap.size w w' := by
  go_enter Tryd.func32, Tryd.ntmps32
  go_wp2_with fail
  go_loopw [6] (fun i wr => ∃ k : Nat, k ≤ 5 ∧ i = .int .i64 k ∧ Blk wr w.heap.size 23 (tab 25 (lanes A)) ∧ Blk wr (w.heap.size + 1 + 1) 72 (tab 5 (lanes fun x => if x < k then colX A x else 0)) ∧ Below w.heap.size w wr ∧ ∃ V, Blk wr (w.heap.size + 1) 23 (tab 25 V)) (fun i _ => 5 - (intOf i).toNat)
  case atStart =>
    refine ⟨0, by omega, rfl, ((Blk.new w _ _).alloc _).alloc _, ?_, ?_, ⟨fun _ => .int .u64 0, ?_⟩⟩
    · exact Blk.new' _ _ _ (by simp)
    · exact (((Below.refl _ _).alloc (Nat.le_refl _) _).alloc (by simp) _).alloc (by simp; omega) _
    · exact (Blk.new' _ _ _ (by simp)).alloc _
  case round =>
    obtain ⟨k, hk, rfl, hA, hC, hB, V, hV⟩ := hrel
    by_cases hlt : k < 5
    · have h0 := hA.lane k (by omega)
      have h1 := hA.lane (k+5) (by omega)
      have h2 := hA.lane (k+10) (by omega)
      have h3 := hA.lane (k+15) (by omega)
      have h4 := hA.lane (k+20) (by omega)
      have h5 := hC.lane k (by omega)
      have h6 := hC.frozen k
      have b0 : (k : Int) < 25 := by omega
      have b5 : (k : Int) < 5 := by omega
      obtain ⟨e1, n1, t1, l1⟩ := sumf k 5 25 5 25 rfl rfl (by omega) (by omega)
      obtain ⟨e2, n2, t2, l2⟩ := sumf k 10 25 10 25 rfl rfl (by omega) (by omega)
      obtain ⟨e3, n3, t3, l3⟩ := sumf k 15 25 15 25 rfl rfl (by omega) (by omega)
      obtain ⟨e4, n4, t4, l4⟩ := sumf k 20 25 20 25 rfl rfl (by omega) (by omega)
      have HA := Lib.hid hA
      have HC := Lib.hid hC
      clear hA hC
      go_wp2_with fail
      go_still_tail 25, (by kernel_rfl)
      change wpList _ _ _ _ _ wr.drew
      go_wp2_with fail
      go_roundw
      case rel =>
        refine ⟨k + 1, by omega, by go_num, ?_, ?_, ?_, V, (hV.far (by simp) _).drew⟩
        · exact (HA.out.far (by simp; omega) _).drew
        · refine (HC.out.putLane k _).drew.same (tab_congr fun i hi => ?_)
          show lanes _ i = lanes _ i
          unfold lanes upd colX
          by_cases h : i = k
          · subst h; simp
          · by_cases h' : i < k
            · simp [h, h', show i < k + 1 by omega]
            · simp [h, h', show ¬ i < k + 1 by omega]
        · exact (hB.setCell (by simp; omega) _).drew
      case measure => simp [intOf]; omega
    · have hC := hC.same (tab_congr (T := lanes fun x => if x < 5 then colX A x else 0) fun i hi => by simp [lanes, hi, show i < k by omega])
      have HA := Lib.hid hA
      have HC := Lib.hid hC
      have HV := Lib.hid hV
      clear hA hC hV
      go_wp2_with fail
      have hA := HA.out
      have hC := HC.out
      have hV := HV.out
      clear HA HC HV
      go_loopw [35] (fun i wr => ∃ k : Nat, k ≤ 25 ∧ i = .int .i64 k ∧ Blk wr w.heap.size 23 (tab 25 (lanes fun i => if i < k then spreadS A i else A i)) ∧ Blk wr (w.heap.size + 1 + 1) 72 (tab 5 (lanes fun x => if x < 5 then colX A x else 0)) ∧ Below w.heap.size w wr ∧ ∃ V, Blk wr (w.heap.size + 1) 23 (tab 25 V)) (fun i _ => 25 - (intOf i).toNat)
      case atStart =>
        refine ⟨0, by omega, rfl, hA.same (tab_congr fun i hi => by simp [lanes]), hC, hB, V, hV⟩
      case round =>
        obtain ⟨k, hk, rfl, hA, hC, hB, V, hV⟩ := hrel
        by_cases hlt : k < 25
        · have h0 := hA.lane k (by omega)
          rw [if_neg (by omega)] at h0
          have h1 := hC.lane ((k+4)%5) (by omega)
          have h2 := hC.lane ((k+1)%5) (by omega)
          rw [if_pos (by omega)] at h1 h2
          have h6 := hA.frozen k
          have b0 : (k : Int) < 25 := by omega
          obtain ⟨e1, n1, t1, l1⟩ := sumf k 4 30 4 30 rfl rfl (by omega) (by omega)
          obtain ⟨e2, n2, t2, l2⟩ := sumf k 1 30 1 30 rfl rfl (by omega) (by omega)
          obtain ⟨r1, n3, t3, l3⟩ := remf k 4 5 4 5 rfl rfl (by omega)
          obtain ⟨r2, n4, t4, l4⟩ := remf k 1 5 1 5 rfl rfl (by omega)
          have HA := Lib.hid hA
          have HC := Lib.hid hC
          clear hA hC
          go_wp2_with fail
          go_still_tail 17, (by kernel_rfl)
          still_call (rot1_calls _ _)
          repeat still_step
          refine wpStill_nil ?_
          change wpList _ _ _ _ _ wr.drew
          clear e1 n1 t1 l1 e2 n2 t2 l2 r1 n3 t3 l3 r2 n4 t4 l4 h1 h2
          go_wp2_with fail
          go_roundw
          case rel =>
            refine ⟨k + 1, by omega, by go_num, ?_, ?_, ?_, ?_⟩
            · refine (HA.out.putLane k _).drew.same (tab_congr fun i hi => ?_)
              show lanes _ i = lanes _ i
              unfold lanes upd spreadS
              by_cases h : i = k
              · subst h; simp
              · by_cases h' : i < k
                · simp [h, h', show i < k + 1 by omega]
                · simp [h, h', show ¬ i < k + 1 by omega]
            · exact (HC.out.far (by simp; omega) _).drew
            · exact (hB.setCell (by simp) _).drew
            · exact ⟨V, (hV.far (by simp) _).drew⟩
          case measure => simp [intOf]; omega
        · have hA' : Blk wr w.heap.size 23 (tab 25 (lanes (spreadS A))) := hA.same (tab_congr fun i hi => by simp [lanes, show i < k by omega])
          have HA := Lib.hid hA'
          have HV := Lib.hid hV
          clear hC hA hA' hV
          go_wp2_with (first
            | (refine wpL_load rfl 23 (.tmp 1) rfl (n := 25) 0 rfl _ HA.out (by omega) Tryd.underlying23 rfl (by kernel_rfl) ?_)
            | (refine wpL_store rfl 23 (.tmp 2) (.tmp 56) rfl 0 rfl rfl HV.out (by omega) (by kernel_rfl) (fun _ => rfl) ?_))
          refine ret_cell rfl rfl _ (HV.out.setRow.same ?_) Tryd.underlying23 rfl (by kernel_rfl) rfl ⟨rfl, below_setRow hB (by omega) _⟩
          rw [over_whole]
          exact tab_congr fun i _ => by simp
end Go.Proofs.YtfidjeoeaeghhaaDoor
