/- slices.Backward over items: its contract. -/
import Derived.Test.YtnghneoggiolgaaDoorRItems
import Derived.Test.YtnghneoggiolgaaDoorRRound
import Derived.Shelf.Abstract
namespace Go.Proofs.YtnghneoggiolgaaDoor
open Go.RowKit Go.Shelf
attribute [local go_sem] Oper.semAt_some
def encI (its : List ItemL) (x : Fin its.length) : Array Value := #[.int .i64 (x.val : Int), .agg #[.bool its[x.val].1, .int .i64 its[x.val].2.1, .slice its[x.val].2.2.1 its[x.val].2.2.2.2.length its[x.val].2.2.2.1]]
def down (N : Nat) : List (Fin N) := (List.finRange N).reverse
theorem down_length (N : Nat) : (down N).length = N := by simp [down]
theorem down_take (N k : Nat) (m : Nat) (h : N = k + (m + 1)) : (down N).take (k + 1) = (down N).take k ++ [⟨m, by omega⟩] := by
  rw [List.take_succ_eq_append_getElem (by rw [down_length]; omega)]
  congr 2
  unfold down
  rw [List.getElem_reverse]
  simp only [List.length_finRange, List.getElem_finRange]
  apply Fin.ext
  simp
  omega
theorem back_calls (A : Option Addr) (n c : Nat) (w : World) : Calls Tryd.prog 32 #[.slice A n c] w fun e w' =>
    e = .returned (.func (.func 39) #[] #[.pointer (some ⟨w.heap.size, 0, none⟩)]) ∧ w' = w.alloc (.cells #[.slice A n c] 28) := by
  go_enter Tryd.func32, Tryd.ntmps32
  go_wp2_with fail
  go_ret
  exact ⟨rfl, rfl⟩
/-- What a round keeps: what lay below n₀, and the box of the slice. -/
def KpB (n₀ Bs : Nat) (W W' : World) : Prop := Below n₀ W W' ∧ ∀ v, W.cell? ⟨Bs, 0, none⟩ = some v → W'.cell? ⟨Bs, 0, none⟩ = some v
theorem KpB.refl (n₀ Bs : Nat) (W : World) : KpB n₀ Bs W W := ⟨Below.refl _ _, fun _ h => h⟩
theorem KpB.trans {n₀ Bs : Nat} {X Y Z : World} (h : KpB n₀ Bs X Y) (k : KpB n₀ Bs Y Z) : KpB n₀ Bs X Z := ⟨h.1.trans k.1, fun v hv => k.2 v (h.2 v hv)⟩
theorem kpB_b {n₀ Bs : Nat} {w : World} (hn : n₀ ≤ w.heap.size) (W : World) (l : Nat) (o o' : Obj) (hl : w.heap.size ≤ l) (h : W.heap[l]? = some o) (h1 : o.isCells = false) (h2 : o.isWalk = false) : KpB n₀ Bs W (W.putObj l o') :=
  ⟨belowK_b hn W l o o' hl h h1 h2, fun v hv => cell_kept hv (grownBy_putObj' W l o') (fun r e => by cases e; exact ⟨o, h, h1⟩)⟩
set_option maxRecDepth 100000 in
set_option maxHeartbeats 2000000 in
theorem back1_in (n l Bs n₀ : Nat) (hn : 1 ≤ n) (A : Option Addr) (c : Nat) (its : List ItemL) (hl : its.length ≤ 1099511627776) (J Jx : List (Fin its.length) → World → Prop)
    (hY : ∀ pre x W, J pre W → pre.length < its.length → YieldAt Fence.wide (n - 1) Tryd.prog l (encI its x) W fun e W' =>
      (e = .returned (.bool true) ∧ J (pre ++ [x]) W' ∧ KpB n₀ Bs W W') ∨ (e = .returned (.bool false) ∧ Jx (pre ++ [x]) W'))
    (W : World) (hBs : W.cell? ⟨Bs, 0, none⟩ = some (.slice A its.length c)) (hc : ItemsAt W n₀ A its) (h0 : J [] W) :
    CallsIn Fence.wide n Tryd.prog 39 #[.func (.yield l) #[] #[], .pointer (some ⟨Bs, 0, none⟩)] W fun e W' => (∃ v, e = .returned v) ∧
      ((∃ ys, ys = down its.length ∧ J ys W') ∨ (∃ pre, (∃ k, pre = (down its.length).take k) ∧ Jx pre W')) := by
  refine callsIn_of_wp Tryd.func39 rfl trivial ?_ rfl
  simp only [Tryd.ntmps39, List.size_toArray, List.length_cons, List.length_nil, Nat.reduceAdd, Nat.reduceSub, Array.replicate_succ, Array.replicate_zero, List.push_toArray, List.append_toArray, List.nil_append, List.cons_append]
  gi_wp2
  gi_loopw [3] (fun i wr => ∃ k m : Nat, its.length = k + m ∧ i = .int .i64 ((m : Int) - 1) ∧ J ((down its.length).take k) wr ∧ KpB n₀ Bs W wr)
    (fun i _ => (intOf i + 1).toNat)
  case atStart => exact ⟨0, its.length, by omega, by rfl, h0, KpB.refl _ _ _⟩
  case round =>
    obtain ⟨k, m, hkm, rfl, hJs, hnx⟩ := hrel
    have hBs' := hnx.2 _ hBs
    have hkm1 := Nat.le_of_eq hkm
    have hkm2 := Nat.le_of_eq hkm.symm
    have HKM := Lib.hid hkm
    clear hkm
    cases m with
    | zero =>
      have hJ' : J (down its.length) wr := by rw [List.take_of_length_le (by rw [down_length]; omega)] at hJs; exact hJs
      gi_wp2
      go_end0
      exact ⟨⟨_, rfl⟩, .inl ⟨_, rfl, hJ'⟩⟩
    | succ i =>
      rw [show (((i + 1 : Nat) : Int) - 1) = (i : Int) by omega]
      obtain ⟨fn, tmps, assign, body, hy, hR⟩ := hY _ ⟨i, by omega⟩ wr hJs (by rw [List.length_take, down_length]; omega)
      dsimp only [encI] at hy
      obtain ⟨ad, rfl, hadb, hc0, hc1, hc2⟩ := (hc.below hnx.1 (Nat.le_refl _)).get i (by omega)
      have li : (i : Int) < (its.length : Int) := by omega
      gi_wp2
      refine hR.mono ?_
      rintro e W3 (⟨rfl, hJ3, hk3⟩ | ⟨rfl, hJx3⟩)
      · gi_wp2
        go_roundw
        case rel => exact ⟨k + 1, i, by omega, by rfl, by rw [down_take _ k i HKM.out]; exact hJ3, hnx.trans hk3⟩
        case measure => simp [intOf]
      · gi_wp2
        refine bodyPost_ret (results_none rfl _ _ _) rfl ?_
        exact ⟨⟨_, rfl⟩, .inr ⟨_, ⟨k + 1, (down_take _ k i HKM.out).symm⟩, hJx3⟩⟩
/-- The contract of what Backward hands back. -/
theorem back_stops (n Bs n₀ : Nat) (hn : 1 ≤ n) (A : Option Addr) (c : Nat) (its : List ItemL) (hl : its.length ≤ 1099511627776) (w : World) (hBs : Bs < w.heap.size) (hn₀ : n₀ ≤ w.heap.size)
    (hc : w.cell? ⟨Bs, 0, none⟩ = some (.slice A its.length c)) (hI : ItemsAt w n₀ A its) :
    SeqStopsK Fence.wide n Tryd.prog 39 #[.pointer (some ⟨Bs, 0, none⟩)] (encI its) (KpB n₀ Bs) (fun ys => ys = down its.length) (fun pre => ∃ k, pre = (down its.length).take k) its.length w := fun l J Jx W hW _ _ hY h0 =>
  back1_in n l Bs n₀ hn A c its hl J Jx hY W ((hW.cell (p := ⟨Bs, 0, none⟩) hBs).trans hc) (hI.below (hW.mono hn₀) (Nat.le_refl _)) h0
end Go.Proofs.YtnghneoggiolgaaDoor
