/- in: the value of a key in a plain list. -/
import Derived.Test.YtfhindffmghlaaaDoorMTLawA
set_option linter.unusedVariables false
set_option linter.unusedSimpArgs false
namespace Go.Proofs.YtfhindffmghlaaaDoor
open Go.RowKit
def hasL (k : List UInt8) (l : List KV) : Bool := l.any fun q => q.1 == k
theorem has_get {k : List UInt8} : ∀ {l : List KV}, (∀ x ∈ l, x.2 ≠ []) → hasL k l = !(getL k l).isEmpty
  | [], _ => rfl
  | q :: r, h => by
    unfold hasL getL
    rw [List.any_cons]
    by_cases hq : q.1 = k
    · have := h q List.mem_cons_self
      rw [if_pos hq]
      simp [hq, this]
    · rw [if_neg hq]
      have := has_get (k := k) fun x hx => h x (List.mem_cons_of_mem q hx)
      unfold hasL at this
      simp [hq, this]
theorem getL_at {k : List UInt8} : ∀ {l : List KV} {n : Nat} (h : n < l.length), (∀ j (hj : j < l.length), j < n → l[j].1 ≠ k) → l[n].1 = k → getL k l = l[n].2 ∧ hasL k l = true
  | q :: r, 0, _, _, he => by
    have he : q.1 = k := he
    unfold getL hasL
    rw [if_pos he]
    simp [he]
  | q :: r, n + 1, h, hj, he => by
    have h0 : q.1 ≠ k := hj 0 (by simp) (by omega)
    have := getL_at (l := r) (n := n) (by simpa using h) (fun j h1 h2 => hj (j + 1) (by simpa using h1) (by omega)) he
    unfold getL hasL
    rw [if_neg h0]
    refine ⟨this.1, ?_⟩
    have h2 := this.2
    unfold hasL at h2
    simp [h2]
theorem getL_none {k : List UInt8} : ∀ {l : List KV}, (∀ j (hj : j < l.length), l[j].1 ≠ k) → getL k l = [] ∧ hasL k l = false
  | [], _ => ⟨rfl, rfl⟩
  | q :: r, h => by
    have h0 : q.1 ≠ k := h 0 (by simp)
    have := getL_none (l := r) fun j hj => h (j + 1) (by simpa using hj)
    unfold getL hasL
    rw [if_neg h0]
    refine ⟨this.1, ?_⟩
    have h2 := this.2
    unfold hasL at h2
    simp [h0, h2]
def InPost (w : World) (l : List KV) (key : List UInt8) (e : Ending) (w' : World) : Prop :=
  ∃ (A : Option Addr) (c : Nat), e = .returned (.tuple #[.slice A (getL key l).length c, .bool (hasL key l)]) ∧ Seq w' w'.heap.size A (bytes (getL key l)) ∧ Below w.heap.size w w'
set_option maxHeartbeats 4000000 in
set_option maxRecDepth 20000 in
theorem in_calls (A : Option Addr) (c : Nat) (l : List PairL) (A2 : Option Addr) (c2 : Nat) (key : List UInt8) (w : World) (hl : l.length ≤ 1099511627776) (hp : PairsIn w w.heap.size A l) (hs : Seq w w.heap.size A2 (bytes key)) :
    Calls Tryd.prog 26 #[.slice A l.length c, .slice A2 key.length c2] w (InPost w (l.map saidP) key) := by
  have HP := Lib.hid hp
  have HS := Lib.hid hs
  clear hp hs
  go_enter Tryd.func26, Tryd.ntmps26
  go_wp2_with fail
  go_loopw [6] (fun i wr => ∃ k : Nat, k ≤ l.length ∧ i = .int .i64 k ∧ (∀ j (h : j < l.length), j < k → l[j].1.2.2 ≠ key) ∧ Below w.heap.size w wr) (fun i _ => l.length - (intOf i).toNat)
  case atStart => exact ⟨0, by omega, rfl, fun _ _ h => absurd h (by omega), Below.refl _ _⟩
  case round =>
    obtain ⟨k, hk, rfl, hno, hbl⟩ := hrel
    have HNo := Lib.hid hno
    have HBl := Lib.hid hbl
    clear hno
    by_cases hlt : k < l.length
    · have dk : decide ((k : Int) < (l.length : Int)) = true := by simp; omega
      have lk : (k : Int) < (l.length : Int) := by omega
      have hpr := HP.out.below hbl (Nat.le_refl _)
      obtain ⟨ad, rfl, hlta, q0, q1⟩ := hpr.1.get k hlt
      obtain ⟨hs0, hs1, _⟩ := hpr.2 _ (List.getElem_mem hlt)
      have hx : l[k].1.2.2 = key → getL key (l.map saidP) = l[k].2.2.2 ∧ hasL key (l.map saidP) = true := fun h => by
        have := getL_at (k := key) (l := l.map saidP) (n := k) (by simpa using hlt) (fun j hj hjk => by rw [List.getElem_map]; exact HNo.out j (by simpa using hj) hjk) (by rw [List.getElem_map]; exact h)
        rw [List.getElem_map] at this
        exact this
      have hnx : l[k].1.2.2 ≠ key → ∀ j (h : j < l.length), j < k + 1 → l[j].1.2.2 ≠ key := fun h j hj hjk => by
        rcases Nat.lt_or_ge j k with h1 | h1
        · exact HNo.out j hj h1
        · obtain rfl : j = k := by omega
          exact h
      have HX := Lib.hid hx
      have HNx := Lib.hid hnx
      clear hx hnx hpr hbl
      generalize l[k] = x at *
      obtain ⟨⟨Ak, ck, lk'⟩, ⟨Av, cv, lv⟩⟩ := x
      simp only [pcV] at q0 q1
      simp only at hs0 hs1
      have hsm := sameLE_calls Ak ck w.heap.size lk' A2 c2 key wr hs0 (HS.out.below HBl.out (Nat.le_refl _))
      have HS1 := Lib.hid hs1
      clear hs0 hs1
      by_cases he : lk' = key
      · have hbe : (lk' == key) = true := by simpa using he
        rw [hbe] at hsm
        have HSm := Lib.hid hsm
        obtain ⟨hg, hh⟩ := HX.out he
        have HGe := Lib.hid hg
        have HHe := Lib.hid hh
        clear he hbe hsm hg hh HX HNx
        go_wp2_with (go_at_call 27; (refine HSm.out.mono ?_; rintro e1 w1 ⟨rfl, rfl⟩))
        refine bodyPost_ret (results_tmp2 rfl _ _ _) rfl ?_
        refine ⟨Av, cv, by (rw [HGe.out, HHe.out]; rfl), ?_, HBl.out⟩
        rw [HGe.out]
        exact HS1.out.more HBl.out.size
      · have hbe : (lk' == key) = false := by simpa using he
        rw [hbe] at hsm
        have HSm := Lib.hid hsm
        have HHe := Lib.hid (HNx.out he)
        clear he hbe hsm HX HNx
        go_wp2_with (go_at_call 27; (refine HSm.out.mono ?_; rintro e1 w1 ⟨rfl, rfl⟩))
        exact ⟨⟨k + 1, by omega, by go_num, HHe.out, HBl.out⟩, by simp [intOf]; omega⟩
    · have dk : decide ((k : Int) < (l.length : Int)) = false := by simp; omega
      have hnn := getL_none (k := key) (l := l.map saidP) fun j hj => by
        have hj' : j < l.length := by simpa using hj
        rw [List.getElem_map]
        exact HNo.out j hj' (by omega)
      obtain ⟨hg, hh⟩ := hnn
      have HGe := Lib.hid hg
      have HHe := Lib.hid hh
      clear hg hh hbl
      go_wp2_with fail
      refine bodyPost_ret (results_tmp2 rfl _ _ _) rfl ?_
      refine ⟨none, 0, by (rw [HGe.out, HHe.out]; rfl), ?_, HBl.out⟩
      rw [HGe.out]
      exact Seq.none_
end Go.Proofs.YtfhindffmghlaaaDoor
