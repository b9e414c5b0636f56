/- texts: two rows of texts that say the same. -/
import Derived.Test.YtfhindffmghlaaaDoorMTPairsC
import Derived.BigQuiet
set_option linter.unusedVariables false
set_option linter.unusedSimpArgs false
namespace Go.Proofs.YtfhindffmghlaaaDoor
open Go.RowKit
set_option maxHeartbeats 4000000 in
set_option maxRecDepth 20000 in
theorem textsSame_calls (A : Option Addr) (c : Nat) (us : List Piece) (A2 : Option Addr) (c2 : Nat) (vs : List Piece) (w : World) (hl : us.length ≤ 1099511627776) (he : us.map txt = vs.map txt) (hs : Seq w w.heap.size A (pcs us)) (hs2 : Seq w w.heap.size A2 (pcs vs)) (hp : ∀ p ∈ us, Seq w w.heap.size p.1 (bytes p.2.2)) (hp2 : ∀ p ∈ vs, Seq w w.heap.size p.1 (bytes p.2.2)) :
    Calls Tryd.prog 41 #[.slice A us.length c, .slice A2 vs.length c2] w (SamePost w true) := by
  have hn := congrArg List.length he
  rw [List.length_map, List.length_map] at hn
  have dn : ((us.length : Int) != (vs.length : Int)) = false := by simp [hn]
  have hle := Nat.le_of_eq hn
  have HS := Lib.hid hs
  have HS2 := Lib.hid hs2
  have HP := Lib.hid hp
  have HP2 := Lib.hid hp2
  have HEq := Lib.hid (show ∀ k (h : k < us.length) (h2 : k < vs.length), us[k].2.2 = vs[k].2.2 from fun k h h2 => by
    have h1 := congrArg (fun L => L[k]?) he
    simp only [List.getElem?_map, List.getElem?_eq_getElem h, List.getElem?_eq_getElem h2, Option.map_some, Option.some.injEq] at h1
    exact h1)
  clear hs hs2 hp hp2 he hn
  go_enter Tryd.func41, Tryd.ntmps41
  go_wp2_with fail
  go_loopw [5] (fun i wr => ∃ k : Nat, k ≤ us.length ∧ i = .int .i64 k ∧ Below w.heap.size w wr) (fun i _ => us.length - (intOf i).toNat)
  case atStart => exact ⟨0, by omega, rfl, Below.refl _ _⟩
  case round =>
    obtain ⟨k, hk, rfl, hbl⟩ := hrel
    rename World => w1
    have hsz := hbl.size
    have HBl := Lib.hid hbl
    by_cases hlt : k < us.length
    · have dk : decide ((k : Int) < (us.length : Int)) = true := decide_eq_true (by omega)
      have dk2 : decide (k < us.length) = true := decide_eq_true hlt
      have lk : (k : Int) < (us.length : Int) := by omega
      have hlt2 : k < vs.length := by omega
      have lk2 : (k : Int) < (vs.length : Int) := by omega
      obtain ⟨ad, hA, _, q0⟩ := (HS.out.below hbl (Nat.le_refl _)).piece k hlt
      obtain ⟨ad2, hA2, _, r0⟩ := (HS2.out.below hbl (Nat.le_refl _)).piece k hlt2
      have hb0 := (HP.out _ (List.getElem_mem hlt)).below hbl (Nat.le_refl _)
      have hb1 := (HP2.out _ (List.getElem_mem hlt2)).below hbl (Nat.le_refl _)
      have hxy := HEq.out k hlt hlt2
      obtain ⟨x, hx⟩ : ∃ x, us[k] = x := ⟨_, rfl⟩
      obtain ⟨y, hy⟩ : ∃ y, vs[k] = y := ⟨_, rfl⟩
      rw [hx] at q0 hb0 hxy
      rw [hy] at r0 hb1 hxy
      clear hx hy hbl
      obtain ⟨Ax, cx, lx⟩ := x
      obtain ⟨Ay, cy, ly⟩ := y
      simp only at q0 r0 hb0 hb1 hxy
      subst hxy
      subst hA
      subst hA2
      have hsm := fun nq => sameLE_calls Ax cx w.heap.size lx Ay cy lx (w1.drewN nq) (hb0.drewN nq) (hb1.drewN nq)
      rw [show (lx == lx) = true by simp] at hsm
      have HSm := Lib.hid hsm
      clear hsm hb0 hb1
      go_wp2_with fail
      go_quiet ((go_at_call 27; exact Calls.quiet_of_same (HSm.out _)))
      have hbd := below_drewN (Below.refl w1.heap.size w1) nq
      go_wp2_with fail
      exact ⟨⟨k + 1, by omega, by go_num, HBl.out.trans (hbd.mono hsz)⟩, by simp [intOf]; omega⟩
    · have dk : decide ((k : Int) < (us.length : Int)) = false := decide_eq_false (by omega)
      have dk2 : decide (k < us.length) = false := decide_eq_false hlt
      clear hbl
      go_wp2_with fail
      go_ret
      exact ⟨rfl, HBl.out⟩
end Go.Proofs.YtfhindffmghlaaaDoor
