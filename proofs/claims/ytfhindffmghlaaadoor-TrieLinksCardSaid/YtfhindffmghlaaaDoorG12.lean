/- Words as bytes; arrays of bytes. No walk. -/
import Derived.Test.YtfhindffmghlaaaDoorG01
import Derived.Test.YtfhindffmghlaaaDoorChecked
import Derived.Test.YtfhindffmghlaaaDoorG02
set_option linter.unusedVariables false
set_option linter.unusedSimpArgs false
namespace Go.Proofs.YtfhindffmghlaaaDoor
open Go.RowKit
def low (x : BitVec 64) : UInt8 := UInt8.ofNat x.toNat
@[go_sem] theorem wrap_u8_u64 (x : BitVec 64) : IntKind.u8.wrap (u64 x) = by8 (low x) := by
  rw [IntKind.wrap_u8']
  unfold u64 by8 low
  rw [UInt8.toNat_ofNat']
  omega
def hashV (h : Nat → UInt8) (j : Nat) : Value := .int .u8 (by8 (h j))
theorem hashV_upd (h : Nat → UInt8) (i : Nat) (v : UInt8) : upd (hashV h) i (.int .u8 (by8 v)) = hashV (upd h i v) := upd_comp (fun b => Value.int .u8 (by8 b)) h i v
/-- An array's bytes as a list. -/
def listOf (h : Nat → UInt8) (n : Nat) : List UInt8 := (List.range n).map h
theorem listOf_length (h : Nat → UInt8) (n : Nat) : (listOf h n).length = n := by simp [listOf]
theorem tab_listOf (h : Nat → UInt8) (n : Nat) : tab n (hashV h) = (bytes (listOf h n)).toArray := by simp [tab, bytes, listOf, hashV, byt, Function.comp_def]
theorem Seq.of_array {w : World} {g t n B : Nat} {h : Nat → UInt8} (hb : Blk w g t (tab n (hashV h))) (hg : g < B) : Seq w B (some ⟨g, 0, none⟩) (bytes (listOf h n)) :=
  Seq.of_blk (hb.same (tab_listOf h n)) hg
theorem Blk.grownRow {w w' : World} {g : Nat} {t : TypeId} {cs : Array Value} {row : Option Nat} (h : Blk w g t cs) (hg : w.grownBy w' row) (hne : row ≠ some g) : Blk w' g t cs :=
  (hg.block g h.lt (fun e => hne e.symm)).trans h
/-- A word's bytes, the highest first. -/
def wordS (S : Nat → BitVec 64) (i : Nat) : UInt8 := low (S ((31 - i) / 8) >>> ((31 - i) % 8 * 8))
end Go.Proofs.YtfhindffmghlaaaDoor
/- bits.RotateLeft64: what it answers. -/
namespace Go.Proofs.YtfhindffmghlaaaDoor
open Go.RowKit
set_option maxHeartbeats 400000 in
set_option maxRecDepth 20000 in
theorem rot_calls (x : BitVec 64) (k : Nat) (hk : k < 64) (w : World) :
    Calls Tryd.prog 117 #[.int .u64 (u64 x), .int .i64 k] w fun e w' => e = .returned (.int .u64 (u64 (x.rotateLeft k))) ∧ w' = w := by
  have h1 := u64_and63 k hk
  have hx0 := u64_nonneg x
  have hx1 := u64_lt x
  have hk0 : (0 : Int) ≤ k := by omega
  go_enter Tryd.func117, Tryd.ntmps117
  go_wp2
  go_ret
  refine ⟨ret_int ?_, rfl⟩
  rw [← rotv x k hk]

end Go.Proofs.YtfhindffmghlaaaDoor
/- sponge.spread: what it answers: every lane with what the columns beside it come to laid on it. -/
namespace Go.Proofs.YtfhindffmghlaaaDoor
open Go.RowKit
def colX (A : Nat → BitVec 64) (x : Nat) : BitVec 64 := A x ^^^ A (x + 5) ^^^ A (x + 10) ^^^ A (x + 15) ^^^ A (x + 20)
def spreadS (A : Nat → BitVec 64) (i : Nat) : BitVec 64 := A i ^^^ (colX A ((i + 4) % 5) ^^^ (colX A ((i + 1) % 5)).rotateLeft 1)
theorem sumf (k c n : Nat) (C N : Int) (hC : C = c) (hN : N = n) (h : k + c < n) (hn : n ≤ 4611686018427387904) :
    IntKind.i64.wrap ((k : Int) + C) = (k : Int) + C ∧ (0 : Int) ≤ (k : Int) + C ∧ ((k : Int) + C).toNat = k + c ∧ (k : Int) + C < N :=
  ⟨IntWalk.i64_in _ (by omega), by omega, by omega, by omega⟩
set_option maxRecDepth 20000 in
theorem rot1_calls (x : BitVec 64) (w : World) :
    Calls Tryd.prog 117 #[.int .u64 (u64 x), .int .i64 1] w fun e w' => e = .returned (.int .u64 (u64 (x.rotateLeft 1))) ∧ w' = w := rot_calls x 1 (by omega) w
theorem remf (k c m : Nat) (C M : Int) (hC : C = c) (hM : M = m) (hm : 0 < m) :
    ((k : Int) + C).tmod M = ((k : Int) + C) % M ∧ (0 : Int) ≤ ((k : Int) + C) % M ∧ (((k : Int) + C) % M).toNat = (k + c) % m ∧ ((k : Int) + C) % M < M := by
  subst hC hM
  have h : ((k : Int) + c) % m = (((k + c) % m : Nat) : Int) := by norm_cast
  have := Nat.mod_lt (k + c) hm
  refine ⟨Int.tmod_eq_emod_of_nonneg (by omega), ?_, ?_, ?_⟩ <;> rw [h] <;> omega
set_option maxHeartbeats 1000000 in
set_option maxRecDepth 20000 in
theorem spread_calls (A : Nat → BitVec 64) (w : World) :
    Calls Tryd.prog 101 #[.agg (tab 25 (lanes A))] w fun e w' => e = .returned (.agg (tab 25 (lanes (spreadS A)))) ∧ Below w.heap.size w w' := by
  go_enter Tryd.func101, Tryd.ntmps101
  go_wp2_with fail
  go_loopw [6] (fun i wr => ∃ k : Nat, k ≤ 5 ∧ i = .int .i64 k ∧ Blk wr w.heap.size 119 (tab 25 (lanes A)) ∧ Blk wr (w.heap.size + 1 + 1) 160 (tab 5 (lanes fun x => if x < k then colX A x else 0)) ∧ Below w.heap.size w wr ∧ ∃ V, Blk wr (w.heap.size + 1) 119 (tab 25 V)) (fun i _ => 5 - (intOf i).toNat)
  case atStart =>
    refine ⟨0, by omega, rfl, ((Blk.new w _ _).alloc _).alloc _, ?_, ?_, ⟨fun _ => .int .u64 0, ?_⟩⟩
    · exact Blk.new' _ _ _ (by simp)
    · exact (((Below.refl _ _).alloc (Nat.le_refl _) _).alloc (by simp) _).alloc (by simp; omega) _
    · exact (Blk.new' _ _ _ (by simp)).alloc _
  case round =>
    obtain ⟨k, hk, rfl, hA, hC, hB, V, hV⟩ := hrel
    by_cases hlt : k < 5
    · have h0 := hA.lane k (by omega)
      have h1 := hA.lane (k+5) (by omega)
      have h2 := hA.lane (k+10) (by omega)
      have h3 := hA.lane (k+15) (by omega)
      have h4 := hA.lane (k+20) (by omega)
      have h5 := hC.lane k (by omega)
      have h6 := hC.frozen k
      have b0 : (k : Int) < 25 := by omega
      have b5 : (k : Int) < 5 := by omega
      obtain ⟨e1, n1, t1, l1⟩ := sumf k 5 25 5 25 rfl rfl (by omega) (by omega)
      obtain ⟨e2, n2, t2, l2⟩ := sumf k 10 25 10 25 rfl rfl (by omega) (by omega)
      obtain ⟨e3, n3, t3, l3⟩ := sumf k 15 25 15 25 rfl rfl (by omega) (by omega)
      obtain ⟨e4, n4, t4, l4⟩ := sumf k 20 25 20 25 rfl rfl (by omega) (by omega)
      have HA := Lib.hid hA
      have HC := Lib.hid hC
      clear hA hC
      go_wp2_with fail
      go_still_tail 25, (by kernel_rfl)
      change wpList _ _ _ _ _ wr.drew
      go_wp2_with fail
      go_roundw
      case rel =>
        refine ⟨k + 1, by omega, by go_num, ?_, ?_, ?_, V, (hV.far (by simp) _).drew⟩
        · exact (HA.out.far (by simp; omega) _).drew
        · refine (HC.out.putLane k _).drew.same (tab_congr fun i hi => ?_)
          show lanes _ i = lanes _ i
          unfold lanes upd colX
          by_cases h : i = k
          · subst h; simp
          · by_cases h' : i < k
            · simp [h, h', show i < k + 1 by omega]
            · simp [h, h', show ¬ i < k + 1 by omega]
        · exact (hB.setCell (by simp; omega) _).drew
      case measure => simp [intOf]; omega
    · have hC := hC.same (tab_congr (T := lanes fun x => if x < 5 then colX A x else 0) fun i hi => by simp [lanes, hi, show i < k by omega])
      have HA := Lib.hid hA
      have HC := Lib.hid hC
      have HV := Lib.hid hV
      clear hA hC hV
      go_wp2_with fail
      have hA := HA.out
      have hC := HC.out
      have hV := HV.out
      clear HA HC HV
      go_loopw [35] (fun i wr => ∃ k : Nat, k ≤ 25 ∧ i = .int .i64 k ∧ Blk wr w.heap.size 119 (tab 25 (lanes fun i => if i < k then spreadS A i else A i)) ∧ Blk wr (w.heap.size + 1 + 1) 160 (tab 5 (lanes fun x => if x < 5 then colX A x else 0)) ∧ Below w.heap.size w wr ∧ ∃ V, Blk wr (w.heap.size + 1) 119 (tab 25 V)) (fun i _ => 25 - (intOf i).toNat)
      case atStart =>
        refine ⟨0, by omega, rfl, hA.same (tab_congr fun i hi => by simp [lanes]), hC, hB, V, hV⟩
      case round =>
        obtain ⟨k, hk, rfl, hA, hC, hB, V, hV⟩ := hrel
        by_cases hlt : k < 25
        · have h0 := hA.lane k (by omega)
          rw [if_neg (by omega)] at h0
          have h1 := hC.lane ((k+4)%5) (by omega)
          have h2 := hC.lane ((k+1)%5) (by omega)
          rw [if_pos (by omega)] at h1 h2
          have h6 := hA.frozen k
          have b0 : (k : Int) < 25 := by omega
          obtain ⟨e1, n1, t1, l1⟩ := sumf k 4 30 4 30 rfl rfl (by omega) (by omega)
          obtain ⟨e2, n2, t2, l2⟩ := sumf k 1 30 1 30 rfl rfl (by omega) (by omega)
          obtain ⟨r1, n3, t3, l3⟩ := remf k 4 5 4 5 rfl rfl (by omega)
          obtain ⟨r2, n4, t4, l4⟩ := remf k 1 5 1 5 rfl rfl (by omega)
          have HA := Lib.hid hA
          have HC := Lib.hid hC
          clear hA hC
          go_wp2_with fail
          go_still_tail 17, (by kernel_rfl)
          still_call (rot1_calls _ _)
          repeat still_step
          refine wpStill_nil ?_
          change wpList _ _ _ _ _ wr.drew
          clear e1 n1 t1 l1 e2 n2 t2 l2 r1 n3 t3 l3 r2 n4 t4 l4 h1 h2
          go_wp2_with fail
          go_roundw
          case rel =>
            refine ⟨k + 1, by omega, by go_num, ?_, ?_, ?_, ?_⟩
            · refine (HA.out.putLane k _).drew.same (tab_congr fun i hi => ?_)
              show lanes _ i = lanes _ i
              unfold lanes upd spreadS
              by_cases h : i = k
              · subst h; simp
              · by_cases h' : i < k
                · simp [h, h', show i < k + 1 by omega]
                · simp [h, h', show ¬ i < k + 1 by omega]
            · exact (HC.out.far (by simp; omega) _).drew
            · exact (hB.setCell (by simp) _).drew
            · exact ⟨V, (hV.far (by simp) _).drew⟩
          case measure => simp [intOf]; omega
        · have hA' : Blk wr w.heap.size 119 (tab 25 (lanes (spreadS A))) := hA.same (tab_congr fun i hi => by simp [lanes, show i < k by omega])
          have HA := Lib.hid hA'
          have HV := Lib.hid hV
          clear hC hA hA' hV
          go_wp2_with (first
            | (refine wpL_load rfl 119 (.tmp 1) rfl (n := 25) 0 rfl _ HA.out (by omega) Tryd.underlying119 rfl (by kernel_rfl) ?_)
            | (refine wpL_store rfl 119 (.tmp 2) (.tmp 56) rfl 0 rfl rfl HV.out (by omega) (by kernel_rfl) (fun _ => rfl) ?_))
          refine ret_cell rfl rfl _ (HV.out.setRow.same ?_) Tryd.underlying119 rfl (by kernel_rfl) rfl ⟨rfl, below_setRow hB (by omega) _⟩
          rw [over_whole]
          exact tab_congr fun i _ => by simp
end Go.Proofs.YtfhindffmghlaaaDoor
/- sponge.moved: what it answers: every lane turned and at its place. -/
namespace Go.Proofs.YtfhindffmghlaaaDoor
open Go.RowKit
def turnsN : Nat → Nat := fun i => [0, 1, 62, 28, 27, 36, 44, 6, 55, 20, 3, 10, 43, 25, 39, 41, 45, 15, 21, 8, 18, 2, 61, 56, 14].getD i 0
def dest (i : Nat) : Nat := i / 5 + 5 * ((2 * (i % 5) + 3 * (i / 5)) % 5)
def src (j : Nat) : Nat := (3 * (j / 5) + j % 5) % 5 + 5 * (j % 5)
def movedS (A : Nat → BitVec 64) (j : Nat) : BitVec 64 := (A (src j)).rotateLeft (turnsN (src j))
theorem turnsN_lt (i : Nat) : turnsN i < 64 := by
  by_cases h : i < 25
  · have : ∀ i : Fin 25, turnsN i.val < 64 := by decide
    exact this ⟨i, h⟩
  · unfold turnsN
    simp [show ¬ i < 25 by omega, List.getD]
theorem dest_src (j : Nat) (h : j < 25) : dest (src j) = j ∧ src j < 25 := by
  have : ∀ j : Fin 25, dest (src j.val) = j.val ∧ src j.val < 25 := by decide
  exact this ⟨j, h⟩
theorem src_dest (j : Nat) (h : j < 25) : src (dest j) = j ∧ dest j < 25 := by
  have : ∀ j : Fin 25, src (dest j.val) = j.val ∧ dest j.val < 25 := by decide
  exact this ⟨j, h⟩
/-- The cells of a block, as far as they are read. -/
def Holds (w : World) (g n : Nat) (V : Nat → Value) : Prop := ∀ i, i < n → w.cell? ⟨g, i, none⟩ = some (V i)
theorem Holds.below {B : Nat} {w w' : World} {g n : Nat} {V : Nat → Value} (h : Holds w g n V) (hb : Below B w w') (hg : g < B) : Holds w' g n V :=
  fun i hi => (hb.cell (p := ⟨g, i, none⟩) hg).trans (h i hi)
def turnsV (i : Nat) : Value := .int .i64 (turnsN i : Int)
set_option maxHeartbeats 1000000 in
set_option maxRecDepth 20000 in
theorem moved_calls (A : Nat → BitVec 64) (w : World) (hT : Holds w 4 25 turnsV) (hg : 4 < w.heap.size) :
    Calls Tryd.prog 100 #[.agg (tab 25 (lanes A))] w fun e w' => e = .returned (.agg (tab 25 (lanes (movedS A)))) ∧ Below w.heap.size w w' := by
  have HT := Lib.hid hT
  clear hT
  go_enter Tryd.func100, Tryd.ntmps100
  go_wp2_with (first
     | (refine wpL_load rfl 119 (.tmp 1) rfl (n := 25) 0 rfl _ (((Blk.new w _ _).alloc _).alloc _) (by omega) Tryd.underlying119 rfl (by kernel_rfl) ?_))
  go_loopw [9] (fun i wr => ∃ k : Nat, k ≤ 25 ∧ i = .int .i64 k ∧ Blk wr (w.heap.size + 1 + 1) 119 (tab 25 (lanes fun j => if src j < k then movedS A j else 0)) ∧ Below w.heap.size w wr ∧ ∃ V, Blk wr (w.heap.size + 1) 119 (tab 25 V)) (fun i _ => 25 - (intOf i).toNat)
  case atStart =>
    refine ⟨0, by omega, rfl, ?_, ?_, ⟨fun _ => .int .u64 0, ?_⟩⟩
    · exact Blk.new' _ _ _ (by simp)
    · exact (((Below.refl _ _).alloc (Nat.le_refl _) _).alloc (by simp) _).alloc (by simp; omega) _
    · exact (Blk.new' _ _ _ (by simp)).alloc _
  case round =>
    obtain ⟨k, hk, rfl, hC, hB, V, hV⟩ := hrel
    by_cases hlt : k < 25
    · have hx : ∀ W : World, (Instr.index 119 (.agg (tab 25 fun j => lanes A j)) (.int .i64 (k : Int))).run Tryd.prog W = .ok (.int .u64 (u64 (A k))) W :=
        fun W => run_index_tab _ 118 _ Tryd.underlying119 Tryd.underlying118 rfl (by kernel_rfl) _ k hlt W
      have h0 : wr.cell? ⟨4, k, none⟩ = some (.int .i64 (turnsN k : Int)) := (HT.out.below hB hg) k hlt
      have h1 : wr.cell? ⟨w.heap.size + 1 + 1, k / 5 + 5 * ((2 * (k % 5) + 3 * (k / 5)) % 5), none⟩ = _ := hC.lane (dest k) (src_dest k hlt).2
      have h2 : wr.frozen? ⟨w.heap.size + 1 + 1, k / 5 + 5 * ((2 * (k % 5) + 3 * (k / 5)) % 5), none⟩ = _ := hC.frozen (dest k)
      have HC := Lib.hid hC
      have HV := Lib.hid hV
      have HB := Lib.hid hB
      clear hC hV hB
      go_wp2_with (go_at_call 117; refine (rot_calls _ _ (turnsN_lt _) _).mono ?_; rintro e w' ⟨rfl, rfl⟩)
      go_roundw
      case rel =>
        refine ⟨k + 1, by omega, by go_num, ?_, HB.out.setCell (by simp; omega) _, V, HV.out.far (by simp) _⟩
        refine (HC.out.putLane (dest k) _).same (tab_congr fun j hj => ?_)
        show lanes _ j = lanes _ j
        unfold lanes upd
        by_cases h : j = dest k
        · subst h
          simp [(src_dest k hlt).1, movedS]
        · have hne : src j ≠ k := fun e => h (by rw [← e, (dest_src j hj).1])
          by_cases h' : src j < k
          · simp [h, h', show src j < k + 1 by omega]
          · simp [h, h', show ¬ src j < k + 1 by omega]
      case measure => simp [intOf]; omega
    · have HA := Lib.hid (hC.same (tab_congr (T := lanes (movedS A)) fun i hi => by simp [lanes, show src i < k by have := (dest_src i hi).2; omega]))
      have HV := Lib.hid hV
      clear hC hV
      go_wp2_with (first
        | (refine wpL_load rfl 119 (.tmp 3) rfl (n := 25) 0 rfl _ HA.out (by omega) Tryd.underlying119 rfl (by kernel_rfl) ?_)
        | (refine wpL_store rfl 119 (.tmp 2) (.tmp 33) rfl 0 rfl rfl HV.out (by omega) (by kernel_rfl) (fun _ => rfl) ?_))
      refine ret_cell rfl rfl _ (HV.out.setRow.same ?_) Tryd.underlying119 rfl (by kernel_rfl) rfl ⟨rfl, below_setRow hB (by omega) _⟩
      rw [over_whole]
      exact tab_congr fun i _ => by simp
end Go.Proofs.YtfhindffmghlaaaDoor
/- sponge.bent: what it answers: every lane with what its two neighbours in the row say laid on it. -/
namespace Go.Proofs.YtfhindffmghlaaaDoor
open Go.RowKit
def bentS (A : Nat → BitVec 64) (i : Nat) : BitVec 64 := A i ^^^ (A (i - i % 5 + (i + 2) % 5) &&& ~~~ A (i - i % 5 + (i + 1) % 5))
theorem rowf (k c : Nat) (C : Int) (hC : C = c) (hk : k < 25) :
    IntKind.i64.wrap ((k : Int) - (k : Int) % 5 + ((k : Int) + C) % 5) = (k : Int) - (k : Int) % 5 + ((k : Int) + C) % 5 ∧ (0 : Int) ≤ (k : Int) - (k : Int) % 5 + ((k : Int) + C) % 5 ∧
    ((k : Int) - (k : Int) % 5 + ((k : Int) + C) % 5).toNat = k - k % 5 + (k + c) % 5 ∧ (k : Int) - (k : Int) % 5 + ((k : Int) + C) % 5 < 25 := by
  subst hC
  have h : (k : Int) - (k : Int) % 5 + ((k : Int) + c) % 5 = ((k - k % 5 + (k + c) % 5 : Nat) : Int) := by omega
  have h2 : k - k % 5 + (k + c) % 5 < 25 := by omega
  rw [h]
  exact ⟨IntWalk.i64_in _ (by omega), by omega, by omega, by omega⟩
set_option maxHeartbeats 1000000 in
set_option maxRecDepth 20000 in
theorem bent_calls (A : Nat → BitVec 64) (w : World) :
    Calls Tryd.prog 99 #[.agg (tab 25 (lanes A))] w fun e w' => e = .returned (.agg (tab 25 (lanes (bentS A)))) ∧ Below w.heap.size w w' := by
  have hT : Blk (((w.alloc (.cells (tab 25 (lanes A)) 119)).alloc (.cells (tab 25 fun _ => .int .u64 0) 119)).alloc (.cells (tab 25 fun _ => .int .u64 0) 119)) (w.heap.size + 1 + 1) 119 (tab 25 fun _ => .int .u64 0) := Blk.new' _ _ _ (by simp)
  have HT := Lib.hid hT
  clear hT
  go_enter Tryd.func99, Tryd.ntmps99
  go_wp2_with (first
     | (refine wpL_load rfl 119 (.tmp 1) rfl (n := 25) 0 rfl _ ((Blk.new w _ _).alloc _) (by omega) Tryd.underlying119 rfl (by kernel_rfl) ?_)
     | (refine wpL_store rfl 119 (.tmp 3) (.tmp 6) rfl 0 rfl rfl HT.out (by omega) (by kernel_rfl) (fun _ => rfl) ?_))
  go_loopw [7] (fun i wr => ∃ k : Nat, k ≤ 25 ∧ i = .int .i64 k ∧ Blk wr w.heap.size 119 (tab 25 (lanes A)) ∧ Blk wr (w.heap.size + 1 + 1) 119 (tab 25 (lanes fun j => if j < k then bentS A j else A j)) ∧ Below w.heap.size w wr ∧ ∃ V, Blk wr (w.heap.size + 1) 119 (tab 25 V)) (fun i _ => 25 - (intOf i).toNat)
  case atStart =>
    refine ⟨0, by omega, rfl, ?_, ?_, ?_, ⟨fun _ => .int .u64 0, ?_⟩⟩
    · exact (((Blk.new w _ _).alloc _).alloc _).setRow_far (by omega)
    · exact HT.out.setRow.same ((over_whole _ _ _).trans (tab_congr fun i _ => by simp [lanes]))
    · exact below_setRow ((((Below.refl _ _).alloc (Nat.le_refl _) _).alloc (by simp) _).alloc (by simp; omega) _) (by omega) _
    · exact ((Blk.new' _ _ _ (by simp)).alloc _).setRow_far (by omega)
  case round =>
    obtain ⟨k, hk, rfl, hA, hC, hB, V, hV⟩ := hrel
    by_cases hlt : k < 25
    · have h0 := hC.lane k (by omega)
      rw [if_neg (by omega)] at h0
      have h1 := hA.lane (k - k % 5 + (k + 2) % 5) (by omega)
      have h2 := hA.lane (k - k % 5 + (k + 1) % 5) (by omega)
      have h6 := hC.frozen k
      have b0 : (k : Int) < 25 := by omega
      obtain ⟨e1, n1, t1, l1⟩ := sumf k 2 30 2 30 rfl rfl (by omega) (by omega)
      obtain ⟨e2, n2, t2, l2⟩ := sumf k 1 30 1 30 rfl rfl (by omega) (by omega)
      obtain ⟨r1, n3, t3, l3⟩ := remf k 2 5 2 5 rfl rfl (by omega)
      obtain ⟨r2, n4, t4, l4⟩ := remf k 1 5 1 5 rfl rfl (by omega)
      obtain ⟨e5, n5, t5, l5⟩ := rowf k 2 2 rfl hlt
      obtain ⟨e6, n6, t6, l6⟩ := rowf k 1 1 rfl hlt
      have HA := Lib.hid hA
      have HC := Lib.hid hC
      have HV := Lib.hid hV
      have HB := Lib.hid hB
      clear hA hC hV hB
      go_wp2_with fail
      go_still_tail 20, (by kernel_rfl)
      change wpList _ _ _ _ _ wr.drew
      clear e1 n1 t1 l1 e2 n2 t2 l2 r1 n3 t3 l3 r2 n4 t4 l4 e5 n5 t5 l5 e6 n6 t6 l6 h1 h2
      go_wp2_with fail
      go_roundw
      case rel =>
        refine ⟨k + 1, by omega, by go_num, (HA.out.far (by simp; omega) _).drew, ?_, (HB.out.setCell (by simp; omega) _).drew, V, (HV.out.far (by simp) _).drew⟩
        refine (HC.out.putLane k _).drew.same (tab_congr fun i hi => ?_)
        show lanes _ i = lanes _ i
        unfold lanes upd bentS
        by_cases h : i = k
        · subst h; simp
        · by_cases h' : i < k
          · simp [h, h', show i < k + 1 by omega]
          · simp [h, h', show ¬ i < k + 1 by omega]
      case measure => simp [intOf]; omega
    · have HA := Lib.hid (hC.same (tab_congr (T := lanes (bentS A)) fun i hi => by simp [lanes, show i < k by omega]))
      have HV := Lib.hid hV
      clear hA hC hV
      go_wp2_with (first
        | (refine wpL_load rfl 119 (.tmp 3) rfl (n := 25) 0 rfl _ HA.out (by omega) Tryd.underlying119 rfl (by kernel_rfl) ?_)
        | (refine wpL_store rfl 119 (.tmp 2) (.tmp 35) rfl 0 rfl rfl HV.out (by omega) (by kernel_rfl) (fun _ => rfl) ?_))
      refine ret_cell rfl rfl _ (HV.out.setRow.same ?_) Tryd.underlying119 rfl (by kernel_rfl) rfl ⟨rfl, below_setRow hB (by omega) _⟩
      rw [over_whole]
      exact tab_congr fun i _ => by simp
end Go.Proofs.YtfhindffmghlaaaDoor
/- sponge.Permute: what it answers: the lanes behind all rounds. -/
namespace Go.Proofs.YtfhindffmghlaaaDoor
open Go.RowKit
def marksN : Nat → BitVec 64 := fun i => BitVec.ofNat 64 ([0x0000000000000001, 0x0000000000008082, 0x800000000000808a, 0x8000000080008000,
  0x000000000000808b, 0x0000000080000001, 0x8000000080008081, 0x8000000000008009,
  0x000000000000008a, 0x0000000000000088, 0x0000000080008009, 0x000000008000000a,
  0x000000008000808b, 0x800000000000008b, 0x8000000000008089, 0x8000000000008003,
  0x8000000000008002, 0x8000000000000080, 0x000000000000800a, 0x800000008000000a,
  0x8000000080008081, 0x8000000000008080, 0x0000000080000001, 0x8000000080008008].getD i 0)
def thirdS (A : Nat → BitVec 64) : Nat → BitVec 64 := bentS (movedS (spreadS A))
def roundS (k : Nat) (A : Nat → BitVec 64) : Nat → BitVec 64 := upd (thirdS A) 0 (thirdS A 0 ^^^ marksN k)
def roundsS : Nat → (Nat → BitVec 64) → (Nat → BitVec 64)
  | 0, A => A
  | k + 1, A => roundS k (roundsS k A)
def permS (A : Nat → BitVec 64) : Nat → BitVec 64 := roundsS 24 A
/-- The two tables of package sponge, as they are laid. -/
structure Tables (w : World) : Prop where
  turns : Holds w 4 25 turnsV
  marks : Holds w 3 24 (lanes marksN)
  size : 4 < w.heap.size ∧ 3 < w.heap.size
theorem Tables.below {B : Nat} {w w' : World} (h : Tables w) (hb : Below B w w') (hB : 4 < B ∧ 3 < B) : Tables w' :=
  ⟨h.turns.below hb (by omega), h.marks.below hb (by omega), by have := hb.size; have := h.size; omega⟩
theorem Tables.drew {w : World} (h : Tables w) : Tables w.drew := ⟨h.turns, h.marks, h.size⟩
set_option maxHeartbeats 1000000 in
set_option maxRecDepth 20000 in
theorem permute_calls (A : Nat → BitVec 64) (w : World) (hT : Tables w) :
    Calls Tryd.prog 77 #[.agg (tab 25 (lanes A))] w fun e w' => e = .returned (.agg (tab 25 (lanes (permS A)))) ∧ Below w.heap.size w w' := by
  have HT := Lib.hid hT
  clear hT
  go_enter Tryd.func77, Tryd.ntmps77
  go_wp2_with fail
  go_loopw [4] (fun i wr => ∃ k : Nat, k ≤ 24 ∧ i = .int .i64 k ∧ Blk wr w.heap.size 119 (tab 25 (lanes (roundsS k A))) ∧ Below w.heap.size w wr ∧ ∃ V, Blk wr (w.heap.size + 1) 119 (tab 25 V)) (fun i _ => 24 - (intOf i).toNat)
  case atStart =>
    refine ⟨0, by omega, rfl, ?_, ?_, ⟨fun _ => .int .u64 0, ?_⟩⟩
    · exact ((Blk.new w _ _).alloc _)
    · exact (((Below.refl _ _).alloc (Nat.le_refl _) _).alloc (by simp) _)
    · exact (Blk.new' _ _ _ (by simp))
  case round =>
    obtain ⟨k, hk, rfl, hA, hB, V, hV⟩ := hrel
    have hT := HT.out.below hB HT.out.size
    have hs := hB.size
    by_cases hlt : k < 24
    · have HA := Lib.hid hA
      have HV := Lib.hid hV
      have HB := Lib.hid hB
      have HTr := Lib.hid hT
      clear hA hV hB hT
      have hgd : 4 < wr.heap.size := by have := HTr.out.size; omega
      have h2 : 4 < wr.heap.size ∧ 3 < wr.heap.size := HTr.out.size
      have HL := HA.out.lt
      go_wp2_with (first
        | (refine wpL_load rfl 119 (.tmp 1) rfl (n := 25) 0 rfl _ HA.out (by omega) Tryd.underlying119 rfl (by kernel_rfl) ?_))
      refine (spread_calls _ _).mono ?_
      rintro e w1 ⟨rfl, hb1⟩
      have Hb1 := Lib.hid hb1
      clear hb1
      go_wp2_with fail
      have hs1 := Hb1.out.size
      refine (moved_calls _ _ (HTr.out.below Hb1.out h2).turns (by omega)).mono ?_
      rintro e w2 ⟨rfl, hb2⟩
      have Hb2 := Lib.hid hb2
      clear hb2
      have hs2 := Hb2.out.size
      go_wp2_with fail
      refine (bent_calls _ _).mono ?_
      rintro e w3 ⟨rfl, hb3⟩
      have hb2 := Hb1.out.trans (Hb2.out.mono hs1)
      have hb4 := hb2.trans (hb3.mono (by omega))
      have HA3 := Lib.hid (HA.out.below hb4 (by omega))
      have HV3 := Lib.hid (HV.out.below hb4 HV.out.lt)
      have HB3 := Lib.hid (HB.out.trans (hb4.mono hs))
      have hs3 := hb3.size
      have HT3 := Lib.hid (HTr.out.below hb4 h2)
      clear hb2 hb3 hb4
      go_wp2_with (first
        | (refine wpL_storeA rfl 119 (.tmp 1) (.tmp 10) rfl 0 rfl rfl HA3.out (by omega) (by kernel_rfl) (fun _ => rfl) ?_; intro w4 hO hA4))
      have HO := Lib.hid hO
      replace hA4 : Blk w4 w.heap.size 119 (tab 25 (lanes (thirdS (roundsS k A)))) := hA4.same (over_whole _ _ _)
      have HA4 := Lib.hid hA4
      have hl := hA4.lane 0 (by omega)
      have hf := hA4.frozen 0
      have hm : w4.cell? ⟨3, k, none⟩ = some (.int .u64 (u64 (marksN k))) :=
        (hO.cell (by have := HT.out.size; simp; omega)).trans (HT3.out.marks k hlt)
      clear hA4 hO
      have b0 : (k : Int) < 24 := by omega
      go_wp2_with fail
      go_still_tail 7, (by kernel_rfl)
      change wpList _ _ _ _ _ w4.drew
      go_wp2_with fail
      go_roundw
      case rel =>
        exact ⟨k + 1, by omega, by go_num, (HA4.out.putLane 0 _).drew, ((HO.out.below HB3.out (by omega)).setCell (by simp) _).drew, V, ((HO.out.blk HV3.out (by omega)).far (by simp) _).drew⟩
      case measure => simp [intOf]; omega
    · have HA := Lib.hid (hA.same (tab_congr (T := lanes (permS A)) fun i hi => by simp [lanes, permS, show k = 24 by omega]))
      have HV := Lib.hid hV
      clear hA hV
      go_wp2_with (first
        | (refine wpL_load rfl 119 (.tmp 1) rfl (n := 25) 0 rfl _ HA.out (by omega) Tryd.underlying119 rfl (by kernel_rfl) ?_)
        | (refine wpL_store rfl 119 (.tmp 2) (.tmp 19) rfl 0 rfl rfl HV.out (by omega) (by kernel_rfl) (fun _ => rfl) ?_))
      refine ret_cell rfl rfl _ (HV.out.setRow.same ?_) Tryd.underlying119 rfl (by kernel_rfl) rfl ⟨rfl, below_setRow hB (by omega) _⟩
      rw [over_whole]
      exact tab_congr fun i _ => by simp
end Go.Proofs.YtfhindffmghlaaaDoor
/- The program's sponge: a byte laid down; what a sponge is in memory. -/
namespace Go.Proofs.YtfhindffmghlaaaDoor
open Go.RowKit
/-- A sponge: its lanes, and how many bytes were laid down since the last permutation. -/
def spV (S : Nat → BitVec 64) (n : Nat) (j : Nat) : Value := if j < 25 then lanes S j else .int .i64 (n : Int)
def SpAt (w : World) (g : Nat) (S : Nat → BitVec 64) (n : Nat) : Prop := Blk w g 121 (tab 26 (spV S n))
def layS (S : Nat → BitVec 64) (at_ : Nat) (b : UInt8) : Nat → BitVec 64 := upd S (at_ / 8) (S (at_ / 8) ^^^ ext b <<< (at_ % 8 * 8))
theorem SpAt.lane {w : World} {g n : Nat} {S : Nat → BitVec 64} (h : SpAt w g S n) (i : Nat) (hi : i < 25) : w.cell? ⟨g, i, none⟩ = some (.int .u64 (u64 (S i))) := by
  have := Blk.at_ h i (by omega)
  unfold spV at this
  rw [if_pos hi] at this
  exact this
theorem SpAt.n {w : World} {g n : Nat} {S : Nat → BitVec 64} (h : SpAt w g S n) : w.cell? ⟨g, 25, none⟩ = some (.int .i64 (n : Int)) := Blk.at_ h 25 (by omega)
theorem SpAt.putLane {w : World} {g n : Nat} {S : Nat → BitVec 64} (h : SpAt w g S n) (i : Nat) (hi : i < 25) (v : BitVec 64) : SpAt (w.setCell ⟨g, i, none⟩ (.int .u64 (u64 v))) g (upd S i v) n := by
  refine (Blk.put h i _).same (tab_congr fun j _ => ?_)
  unfold upd spV lanes
  by_cases h1 : j = i
  · subst h1; simp [hi]
  · simp [h1]
theorem SpAt.putN {w : World} {g n : Nat} {S : Nat → BitVec 64} (h : SpAt w g S n) (m : Nat) (z : Int) (hz : z = (m : Int)) : SpAt (w.setCell ⟨g, 25, none⟩ (.int .i64 z)) g S m := by
  subst hz
  refine (Blk.put h 25 _).same (tab_congr fun j _ => ?_)
  unfold upd spV
  by_cases h1 : j = 25
  · subst h1; rw [if_pos rfl, if_neg (by omega)]
  · rw [if_neg h1]
    split
    · rfl
    · omega
set_option maxHeartbeats 1000000 in
set_option maxRecDepth 20000 in
theorem lay_calls (g n a : Nat) (S : Nat → BitVec 64) (b : UInt8) (ha : a < 200) (w : World) (h : SpAt w g S n) :
    Calls Tryd.prog 76 #[.pointer (some ⟨g, 0, none⟩), .int .i64 (a : Int), .int .u8 (by8 b)] w fun e w' => e = .returned (.tuple #[]) ∧ Only g w w' ∧ SpAt w' g (layS S a b) n := by
  have c0 := h.lane (a / 8) (by omega)
  have f0 := Blk.frozen h (a / 8)
  have e0 : (a : Int).tdiv 8 = (a : Int) / 8 := Int.tdiv_eq_ediv_of_nonneg (by omega)
  have e1 : IntKind.i64.wrap ((a : Int) / 8) = (a : Int) / 8 := IntWalk.i64_in _ (by omega)
  have n1 : (0 : Int) ≤ (a : Int) / 8 := by omega
  have l1 : (a : Int) / 8 < 25 := by omega
  have t1 : ((a : Int) / 8).toNat = a / 8 := by omega
  have e2 : (a : Int).tmod 8 = (a : Int) % 8 := Int.tmod_eq_emod_of_nonneg (by omega)
  have e3 : IntKind.i64.wrap ((a : Int) % 8 * 8) = (a : Int) % 8 * 8 := IntWalk.i64_in _ (by omega)
  have n3 : (0 : Int) ≤ (a : Int) % 8 * 8 := by omega
  have l3 : (a : Int) % 8 * 8 ≤ 64 := by omega
  have t3 : ((a : Int) % 8 * 8).toNat = a % 8 * 8 := by omega
  have n4 : (0 : Int) ≤ (a : Int) % 8 := by omega
  have H := Lib.hid h
  clear h
  go_enter Tryd.func76, Tryd.ntmps76
  go_wp2_with fail
  go_still_tail 17, (by kernel_rfl)
  change wpList _ _ _ _ _ w.drew
  clear e0 e1 n1 l1 t1 e2 e3 n3 l3 t3 n4
  go_wp2_with fail
  go_end0
  exact ⟨rfl, (Only.setCell w ⟨g, a / 8, none⟩ _).drew, Blk.drew (H.out.putLane (a / 8) (by omega) _)⟩
def stepS (s : (Nat → BitVec 64) × Nat) (b : UInt8) : (Nat → BitVec 64) × Nat :=
  if s.2 + 1 = 136 then (permS (layS s.1 s.2 b), 0) else (layS s.1 s.2 b, s.2 + 1)
def writeS (s : (Nat → BitVec 64) × Nat) (l : List UInt8) : (Nat → BitVec 64) × Nat := l.foldl stepS s
theorem stepS_lt {s : (Nat → BitVec 64) × Nat} (h : s.2 < 136) (b : UInt8) : (stepS s b).2 < 136 := by
  unfold stepS
  split
  · simp
  · simp; omega
theorem writeS_lt {s : (Nat → BitVec 64) × Nat} (h : s.2 < 136) (l : List UInt8) : (writeS s l).2 < 136 := by
  unfold writeS
  induction l generalizing s with
  | nil => exact h
  | cons b l ih => exact ih (stepS_lt h b)
theorem writeS_append (s : (Nat → BitVec 64) × Nat) (a b : List UInt8) : writeS s (a ++ b) = writeS (writeS s a) b := by unfold writeS; exact List.foldl_append ..
theorem writeS_take (s : (Nat → BitVec 64) × Nat) (l : List UInt8) (k : Nat) (h : k < l.length) : writeS s (l.take (k + 1)) = stepS (writeS s (l.take k)) l[k] := by
  rw [List.take_succ_eq_append_getElem h, writeS_append]
  rfl
theorem Seq.grownNe {w w' : World} {B : Nat} {A : Option Addr} {xs : List Value} {row : Option Nat} (h : Seq w B A xs) (hB : B ≤ w.heap.size) (hg : w.grownBy w' row) (hne : 0 < xs.length → ∀ ad, A = some ad → some ad.block ≠ row) : Seq w' B A xs := fun hn => by
  obtain ⟨ad, rfl, hb, hc⟩ := h hn
  refine ⟨ad, rfl, hb, fun j hj => ?_⟩
  rw [← hc j hj]
  exact World.cell?_of_block (w := w) (by rw [block_add]; exact hg.block _ (by omega) (hne hn ad rfl))
theorem Tables.grown {w w' : World} {g : Nat} (h : Tables w) (hg : w.grownBy w' (some g)) (h2 : 4 < g ∧ 3 < g) : Tables w' := by
  have hs := h.size
  refine ⟨fun i hi => ?_, fun i hi => ?_, by have := hg.size; omega⟩
  · rw [← h.turns i hi]
    exact World.cell?_of_block (w := w) (hg.block _ (by simp; omega) (by simp; omega))
  · rw [← h.marks i hi]
    exact World.cell?_of_block (w := w) (hg.block _ (by simp; omega) (by simp; omega))
set_option maxHeartbeats 1000000 in
set_option maxRecDepth 20000 in
theorem write_calls (g n : Nat) (S : Nat → BitVec 64) (A : Option Addr) (c B : Nat) (l : List UInt8) (hn : n < 136) (hl : l.length ≤ 4611686018427387904) (h2 : 4 < g ∧ 3 < g) (w : World) (h : SpAt w g S n) (hT : Tables w)
    (hs : Seq w B A (bytes l)) (hB : B ≤ w.heap.size) (hne : 0 < l.length → ∀ ad, A = some ad → ad.block ≠ g) :
    Calls Tryd.prog 49 #[.pointer (some ⟨g, 0, none⟩), .slice A l.length c] w fun e w' => e = .returned (.tuple #[]) ∧ w.grownBy w' (some g) ∧ SpAt w' g (writeS (S, n) l).1 (writeS (S, n) l).2 := by
  have H := Lib.hid h
  have HT := Lib.hid hT
  have HS := Lib.hid hs
  have HN := Lib.hid hne
  clear h hT hs hne
  go_enter Tryd.func49, Tryd.ntmps49
  go_wp2_with fail
  go_loopw [8] (fun i wr => ∃ k : Nat, k ≤ l.length ∧ i = .int .i64 k ∧ SpAt wr g (writeS (S, n) (l.take k)).1 (writeS (S, n) (l.take k)).2 ∧ w.grownBy wr (some g)) (fun i _ => l.length - (intOf i).toNat)
  case atStart => exact ⟨0, by omega, rfl, H.out, grown_refl _ _⟩
  case round =>
    obtain ⟨k, hk, rfl, hA, hG⟩ := hrel
    by_cases hlt : k < l.length
    · have hd : decide ((k : Int) < (l.length : Int)) = true := by simp; omega
      have hlk : (k : Int) < (l.length : Int) := by omega
      obtain ⟨ad, rfl, hadb, hcell⟩ := (HS.out.grownNe hB hG (fun _ ad e => by intro e2; injection e2 with e2; exact HN.out (by omega) ad e e2)).at_ (k := k) (by rw [bytes_length]; exact hlt)
      rw [bytes_get] at hcell
      have hstep := writeS_take (S, n) l k hlt
      have hm := writeS_lt (s := (S, n)) hn (l.take k)
      have HTr := Lib.hid (HT.out.grown hG h2)
      generalize writeS (S, n) (l.take k) = T at *
      obtain ⟨T, m⟩ := T
      simp only at hA hm
      have hgl := Blk.lt hA
      have cn := hA.n
      have Hstep := Lib.hid hstep
      have HG := Lib.hid hG
      have HA := Lib.hid hA
      clear hstep hG hA
      go_wp2_with fail
      refine (lay_calls g m m T _ (by omega) wr HA.out).mono ?_
      rintro e w1 ⟨rfl, ho1, ha1⟩
      have cn1 := ha1.n
      have f1 := Blk.frozen ha1 25
      have HG1 := Lib.hid (grown_only HG.out ho1)
      have HT1 := Lib.hid (HTr.out.grown (grown_only (grown_refl wr (some g)) ho1) h2)
      have HA1 := Lib.hid ha1
      have hs1 := ho1.size
      clear ho1 ha1 cn
      have hgl1 : g < w1.heap.size := by omega
      have hs1a := Nat.le_of_eq hs1
      clear hs1
      by_cases h136 : m + 1 = 136
      · have e136 : ((m : Int) + 1 == 136) = true := by simp; omega
        have H136 := Lib.hid h136
        have HA2 := Lib.hid (HA1.out.putN (m + 1) ((m : Int) + 1) (by omega))
        have hl25 : tab 25 (fun j => spV (layS T m l[k]) (m + 1) (0 + j)) = tab 25 (lanes (layS T m l[k])) := tab_congr fun j hj => by simp [spV, hj]
        clear h136
        go_wp2_with (first
          | (refine wpL_load rfl 119 (.tmp 35) rfl (n := 25) 0 rfl _ HA2.out (by omega) Tryd.underlying119 rfl (by kernel_rfl) ?_; rw [hl25]; clear hl25))
        refine (permute_calls _ _ (HT1.out.grown (grown_only (grown_refl w1 (some g)) (Only.setCell w1 ⟨g, 25, none⟩ _)) h2)).mono ?_
        rintro e w3 ⟨rfl, hb3⟩
        have HA3 := Lib.hid (Blk.below HA2.out hb3 (by simp; omega))
        have HG3 := Lib.hid (grown_below (grown_only HG1.out (Only.setCell w1 ⟨g, 25, none⟩ _)) hb3)
        clear hb3
        have hz : ∀ W, Blk W g 121 (tab 26 (over (spV (layS T m l[k]) (m + 1)) 0 25 (lanes (permS (layS T m l[k]))))) → SpAt W g (permS (layS T m l[k])) (m + 1) := fun W hW =>
          hW.same (tab_congr fun j _ => by unfold over spV; by_cases h : j < 25 <;> simp [h])
        have HZ := Lib.hid hz
        clear hz
        go_wp2_with (first
          | (refine wpL_storeA rfl 119 (.tmp 39) (.tmp 37) rfl 0 rfl rfl HA3.out (by omega) (by kernel_rfl) (fun _ => rfl) ?_; intro w4 ho4 hk4; have HO4 := Lib.hid ho4; have HK4 := Lib.hid (HZ.out _ hk4); have f4 := Blk.frozen hk4 25; have c4 := (HZ.out _ hk4).n; clear ho4 hk4))
        refine ⟨⟨k + 1, by omega, by go_num, ?_, grown_only (grown_only HG3.out HO4.out) (Only.setCell w4 ⟨g, 25, none⟩ _)⟩, by simp [intOf]; omega⟩
        rw [Hstep.out]
        unfold stepS
        rw [if_pos H136.out]
        exact HK4.out.putN 0 0 rfl
      · have e136 : ((m : Int) + 1 == 136) = false := by simp; omega
        have H136 := Lib.hid h136
        clear h136
        go_wp2_with fail
        refine ⟨⟨k + 1, by omega, by go_num, ?_, grown_only HG1.out (Only.setCell w1 ⟨g, 25, none⟩ _)⟩, by simp [intOf]; omega⟩
        rw [Hstep.out]
        unfold stepS
        rw [if_neg H136.out]
        exact HA1.out.putN (m + 1) _ (by omega)
    · have hd : decide ((k : Int) < (l.length : Int)) = false := by simp; omega
      have HA := Lib.hid hA
      have HG := Lib.hid hG
      have He := Lib.hid (show k = l.length by omega)
      clear hA hG
      go_wp2_with fail
      go_end0
      refine ⟨rfl, HG.out, ?_⟩
      have := HA.out
      rw [He.out, List.take_length] at this
      exact this
end Go.Proofs.YtfhindffmghlaaaDoor
