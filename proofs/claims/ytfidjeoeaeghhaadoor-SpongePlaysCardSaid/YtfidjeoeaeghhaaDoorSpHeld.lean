/- What was lent, behind the loop that lends: rows of the call's own, in other blocks than the two slices. -/
import Derived.Test.YtfidjeoeaeghhaaDoorSpLoans
import Derived.Test.YtfidjeoeaeghhaaDoorSpWeigh
namespace Go.Proofs.YtfidjeoeaeghhaaDoor
open Go.RowKit
structure Held (w0 w : World) (B : Nat) (N : Nat → Nat) (F : Nat → List UInt8) (γ κ : Nat → Nat) (n : Nat) (A3 A5 : Option Addr) (xs ys : List Value) : Prop where
  below : Below w0.heap.size w0 w
  size : B ≤ w.heap.size
  row : ∀ i, i < n → w.ownsRow w0.heap.size 5 1 (.slice (some ⟨γ i, 0, none⟩) (N i + 40) (κ i)) (N i + 40) (bytes (F i))
  ap : ∀ i j, i < n → j < n → γ i = γ j → i = j
  lent : Seq w B A3 xs
  handed : Seq w B A5 ys
  apL : ∀ i, i < n → ∀ ad, A3 = some ad → ad.block ≠ γ i
  apH : ∀ i, i < n → ∀ ad, A5 = some ad → ad.block ≠ γ i
  head : 0 < n → ∃ q, A3 = some ⟨q, 0, none⟩
section
variable {w0 w w' : World} {B : Nat} {N : Nat → Nat} {F : Nat → List UInt8} {γ κ : Nat → Nat} {n : Nat} {A3 A5 : Option Addr} {xs ys : List Value}
theorem Held.next (h : Held w0 w B N F γ κ n A3 A5 xs ys) (hb : Below w.heap.size w w') : Held w0 w' B N F γ κ n A3 A5 xs ys :=
  ⟨h.below.trans (hb.mono h.below.size), Nat.le_trans h.size hb.size, fun i hi => own_below' (h.row i hi) hb, h.ap, h.lent.below hb h.size, h.handed.below hb h.size, h.apL, h.apH, h.head⟩
theorem Held.lt (h : Held w0 w B N F γ κ n A3 A5 xs ys) (i : Nat) (hi : i < n) : w0.heap.size ≤ γ i ∧ γ i < w.heap.size := (h.row i hi).lt (γ i) rfl
theorem Held.wiped (h : Held w0 w B N F γ κ n A3 A5 xs ys) {k : Nat} (hk : k < n) {L : List UInt8} (hg : w.grownBy w' (some (γ k))) (ho : w'.ownsRow w0.heap.size 5 1 (.slice (some ⟨γ k, 0, none⟩) (N k + 40) (κ k)) (N k + 40) (bytes L)) :
    Held w0 w' B N (fun i => if i = k then L else F i) γ κ n A3 A5 xs ys :=
  ⟨h.below.grown hg h.below.size (fun q e => by injection e with e; rw [← e]; exact (h.lt k hk).1), Nat.le_trans h.size hg.size, fun i hi => by
    by_cases e : i = k
    · subst e
      rw [if_pos rfl]
      exact ho
    · rw [if_neg e]
      exact own_grown (h.row i hi) hg (fun q hq e2 => by injection hq with hq; injection e2 with e2; exact e (h.ap i k hi hk ((show γ i = q from hq).trans e2.symm))), h.ap,
    Seq.grownNe h.lent h.size hg (fun _ ad e e2 => h.apL k hk ad e (Option.some.inj e2)), Seq.grownNe h.handed h.size hg (fun _ ad e e2 => h.apH k hk ad e (Option.some.inj e2)), h.apL, h.apH, h.head⟩
theorem Held.congr (h : Held w0 w B N F γ κ n A3 A5 xs ys) {F' : Nat → List UInt8} (e : ∀ i, i < n → F i = F' i) : Held w0 w B N F' γ κ n A3 A5 xs ys :=
  ⟨h.below, h.size, fun i hi => by rw [← e i hi]; exact h.row i hi, h.ap, h.lent, h.handed, h.apL, h.apH, h.head⟩
/-- One row, as a slice's cells. -/
theorem Held.seq (h : Held w0 w B N F γ κ n A3 A5 xs ys) (i : Nat) (hi : i < n) : Seq w w.heap.size (some ⟨γ i, 0, none⟩) (bytes (F i)) := Seq.of_own (h.row i hi)
theorem Held.of_loans {w4 w5 : World} {G : Nat → List UInt8} {c3 : Nat} {A4 : Option Addr} {c4 c5 : Nat} {m : Nat} (h : Loans w0 w N F G γ κ n A3 c3 A4 c4) (hb : Below w.heap.size w w4) (hg : w4.grownBy w5 (Value.slice A4 n c4).ownBlock)
    (ho : w5.ownsRow w0.heap.size 32 1 (.slice A5 m c5) m ys) (hm : 0 < m) (hf : (Value.slice A5 m c5).ownBlock = (Value.slice A4 n c4).ownBlock ∨ (Value.slice A5 m c5).ownBlock = some w4.heap.size) :
    Held w0 w5 w5.heap.size N F γ κ n A3 A5 (loanC γ κ N n) ys := by
  have s0 := h.below.size
  have s1 := hb.size
  have s2 := hg.size
  have hL : w5.ownsRow w0.heap.size 37 2 (.slice A3 n c3) n (loanC γ κ N n) := own_grown (own_below' h.lent hb) hg fun q e => fun e2 => h.apLH q e e2
  refine ⟨(h.below.trans (hb.mono s0)).grown hg (by omega) fun q e => (h.handed.lt q e).1, Nat.le_refl _, fun i hi => own_grown (own_below' (h.row i hi) hb) hg fun q hq => ?_, h.ap, Seq.of_own hL, Seq.of_own ho, ?_, ?_, fun hn => by obtain ⟨q, e, _⟩ := own_form hL hn; exact ⟨q, e⟩⟩
  · injection hq with hq
    subst hq
    exact h.apH i hi
  · intro i hi ad e e2
    subst e
    obtain ⟨q, e3, _⟩ := own_form hL (by omega)
    injection e3 with e3
    subst e3
    exact h.apL i hi (by rw [← e2]; rfl)
  · intro i hi ad e e2
    subst e
    obtain ⟨q, e3, _⟩ := own_form ho hm
    injection e3 with e3
    subst e3
    have hlt := h.lt i hi
    have e2 : q = γ i := e2
    rcases hf with hf | hf
    · exact h.apH i hi (by rw [← hf, ← e2]; rfl)
    · have : some q = some w4.heap.size := hf
      injection this with this
      omega
/-- What was handed, as pieces: its cells lie there. -/
theorem Held.pieces (h : Held w0 w B N F γ κ n A3 A5 xs ys) {G : Nat → List UInt8} {M : Nat → List UInt8} (hF : ∀ i, i < n → F i = G i ++ M i) : ∀ p ∈ handL γ κ G n, Seq w w.heap.size p.1 (bytes p.2.2) := by
  intro p hp
  obtain ⟨i, hi, rfl⟩ := handL_mem hp
  have := (h.seq i hi).take (G i).length
  rw [hF i hi, bytes_append, List.take_append_of_le_length (by rw [bytes_length]; exact Nat.le_refl _), List.take_of_length_le (by rw [bytes_length]; exact Nat.le_refl _)] at this
  exact this
theorem join_mem {ps : List Piece} {p : Piece} (h : p ∈ ps) : p.2.2.length ≤ (joinP ps).length := by
  unfold joinP
  induction ps with
  | nil => cases h
  | cons q ps ih =>
    simp only [List.map_cons, List.flatten_cons, List.length_append]
    rcases List.mem_cons.1 h with rfl | h
    · omega
    · have := ih h; omega
theorem joinP_one (A : Option Addr) (c : Nat) (l : List UInt8) : joinP [(A, c, l)] = l := by simp [joinP]
theorem Held.first (h : Held w0 w B N F γ κ n A3 A5 xs ys) {G : Nat → List UInt8} {zs : List Value} (hy : ys = pcs (handL γ κ G n) ++ zs) : Seq w w.heap.size A5 (pcs (handL γ κ G n)) := by
  have := (h.handed.more h.size).take n
  rw [hy, List.take_append_of_le_length (by simp [pcs, handL_length]), List.take_of_length_le (by simp [pcs, handL_length])] at this
  exact this
theorem Held.sum (h : Held w0 w B N F γ κ n A3 A5 xs ys) {G M : Nat → List UInt8} {zs : List Value} (hy : ys = pcs (handL γ κ G n) ++ zs) (hF : ∀ i, i < n → F i = G i ++ M i) (hT : Tables w) (c m : Nat) (hm : m = n) (hn : n ≤ 1099511627776) (hj : (joinP (handL γ κ G n)).length ≤ 1099511627776) :
    Calls Tryd.prog 25 #[.slice A5 m c] w fun e w' => e = .returned (.agg (tab 32 (hashV (hashS (joinP (handL γ κ G n)))))) ∧ Below w.heap.size w w' := by
  subst hm
  have := sumF_calls A5 c w.heap.size (handL γ κ G m) w hT (by rw [handL_length]; omega) (h.first hy) (Nat.le_refl _) (fun p hp => ⟨h.pieces hF p hp, by have := join_mem hp; omega⟩)
  rw [handL_length] at this
  exact this
theorem Held.joined (h : Held w0 w B N F γ κ n A3 A5 xs ys) {G M : Nat → List UInt8} {zs : List Value} (hy : ys = pcs (handL γ κ G n) ++ zs) (hF : ∀ i, i < n → F i = G i ++ M i) (c m : Nat) (hm : m = n) (hn : n ≤ 1099511627776) (hj : (joinP (handL γ κ G n)).length ≤ 1099511627776) :
    Calls Tryd.prog 24 #[.slice A5 m c] w fun e w' => ∃ (A' : Option Addr) (c' : Nat), e = .returned (.slice A' (joinP (handL γ κ G n)).length c') ∧ w'.ownsRow w.heap.size 5 1 (.slice A' (joinP (handL γ κ G n)).length c') (joinP (handL γ κ G n)).length (bytes (joinP (handL γ κ G n))) ∧ Below w.heap.size w w' := by
  subst hm
  have := joined_calls A5 c w.heap.size (handL γ κ G m) w (by rw [handL_length]; omega) hj (h.first hy) (Nat.le_refl _) (fun p hp => h.pieces hF p hp)
  rw [handL_length] at this
  exact this
/-- The document's Sum of one piece in a new row. -/
theorem sumR_one (A : Option Addr) (c : Nat) (l : List UInt8) (w : World) (hl : l.length ≤ 1099511627776) (hs : Seq w w.heap.size A (bytes l)) (t : TypeId) :
    Calls Tryd.prog 21 #[.slice (some ⟨w.heap.size, 0, none⟩) 1 1] (w.alloc (.cells #[.slice A l.length c] t)) fun e w' => e = .returned (.agg (tab 32 (hashV (hashS l)))) ∧ Below w.heap.size w w' := by
  have := sumR_calls (some ⟨w.heap.size, 0, none⟩) 1 (w.heap.size + 1) [(A, c, l)] (w.alloc (.cells #[.slice A l.length c] t)) (by simp) (by rw [joinP_one]; exact hl) (Seq.one_new w (.slice A l.length c) t) (by rw [size_alloc]; exact Nat.le_refl _)
    (fun p hp => by obtain rfl := List.mem_singleton.1 hp; exact (hs.alloc (Nat.le_refl _) _).more (Nat.le_succ _))
  rw [joinP_one] at this
  refine this.mono fun e w' ⟨he, hb⟩ => ⟨he, ((Below.refl w.heap.size w).alloc (Nat.le_refl _) _).trans (hb.mono (by rw [size_alloc]; exact Nat.le_succ _))⟩
end
end Go.Proofs.YtfidjeoeaeghhaaDoor
