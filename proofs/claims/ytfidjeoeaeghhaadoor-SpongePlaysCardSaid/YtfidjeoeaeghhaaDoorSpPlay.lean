/- Three sponges, and what each has taken. -/
import Derived.Test.YtfidjeoeaeghhaaDoorSpLoans
import Derived.Test.YtfidjeoeaeghhaaDoorSpSteps
namespace Go.Proofs.YtfidjeoeaeghhaaDoor
open Go.RowKit
theorem Blk.ne {w : World} {g g' : Nat} {t t' : TypeId} {cs cs' : Array Value} (h : Blk w g t cs) (h' : Blk w g' t' cs') (ht : t ≠ t') : g ≠ g' := by
  intro e
  subst e
  have h : w.heap[g]? = some (.cells cs t (0, 0)) := h
  have h' : w.heap[g]? = some (.cells cs' t' (0, 0)) := h'
  rw [h] at h'
  injection h' with h'
  injection h' with _ h'
  exact ht h'
theorem own_blk {w : World} {base : Nat} {e : TypeId} {size n : Nat} {v : Value} {xs : List Value} (h : w.ownsRow base e size v n xs) (q : Nat) (hq : v.ownBlock = some q) : ∃ cur, Blk w q e cur := by
  rcases h.2 with ⟨rfl, _⟩ | ⟨g, cap, cur, rfl, hg, hh, _⟩
  · simp [Value.ownBlock] at hq
  · have : some g = some q := hq
    injection this with this
    subst this
    exact ⟨cur, hh⟩
theorem own_two {w : World} {base base' : Nat} {e e' : TypeId} {size n size' n' : Nat} {v v' : Value} {xs xs' : List Value} (h : w.ownsRow base e size v n xs) (h' : w.ownsRow base' e' size' v' n' xs') (he : e ≠ e') (q : Nat) (hq : v.ownBlock = some q) : v'.ownBlock ≠ some q := fun hq' => by
  obtain ⟨c1, h1⟩ := own_blk h q hq
  obtain ⟨c2, h2⟩ := own_blk h' q hq'
  exact h1.ne h2 he rfl
theorem Blk.grownNe' {w w' : World} {g r : Nat} {t : TypeId} {cs : Array Value} (h : Blk w g t cs) (hg : w.grownBy w' (some r)) (hne : g ≠ r) : Blk w' g t cs :=
  (hg.block g h.lt (fun e => hne (Option.some.inj e))).trans h
def tvV (V : Nat → Option Addr) (cv : Nat → Nat) (T : Nat → List UInt8) (k : Nat) : Value := .slice (V k) (T k).length (cv k)
structure Plays (w0 w : World) (γ : Nat → Nat) (gl cl gt : Nat) (V : Nat → Option Addr) (cv : Nat → Nat) (S T : Nat → List UInt8) : Prop where
  below : Below w0.heap.size w0 w
  sp : ∀ k, k < 3 → SpAt w (γ k) (writeS (zeroS, 0) (S k)).1 (writeS (zeroS, 0) (S k)).2
  row : ∀ k, k < 3 → w.ownsRow w0.heap.size 5 1 (tvV V cv T k) (T k).length (bytes (T k))
  ptr : w.ownsRow w0.heap.size 30 1 (.slice (some ⟨gl, 0, none⟩) 3 cl) 3 (ptrs γ 3)
  tk : Blk w gt 32 (tab 3 (tvV V cv T))
  oldS : ∀ k, k < 3 → w0.heap.size ≤ γ k
  oldT : w0.heap.size ≤ gt
  apS : ∀ i j, i < 3 → j < 3 → γ i = γ j → i = j
  apV : ∀ i j, i < 3 → j < 3 → ∀ q, (tvV V cv T i).ownBlock = some q → (tvV V cv T j).ownBlock = some q → i = j
section
variable {w0 w w' : World} {γ : Nat → Nat} {gl cl gt : Nat} {V : Nat → Option Addr} {cv : Nat → Nat} {S T : Nat → List UInt8}
theorem Plays.next (h : Plays w0 w γ gl cl gt V cv S T) (hb : Below w.heap.size w w') : Plays w0 w' γ gl cl gt V cv S T :=
  ⟨h.below.trans (hb.mono h.below.size), fun k hk => Blk.below (h.sp k hk) hb (Blk.lt (h.sp k hk)), fun k hk => own_below' (h.row k hk) hb, own_below' h.ptr hb, h.tk.below hb h.tk.lt, h.oldS, h.oldT, h.apS, h.apV⟩
theorem Plays.ptrBlk (h : Plays w0 w γ gl cl gt V cv S T) : ∃ cur, Blk w gl 30 cur := own_blk h.ptr gl rfl
theorem Plays.ne_ptr (h : Plays w0 w γ gl cl gt V cv S T) (k : Nat) (hk : k < 3) : γ k ≠ gl := by obtain ⟨_, h1⟩ := h.ptrBlk; exact Blk.ne (h.sp k hk) h1 (by decide)
theorem Plays.ne_tk (h : Plays w0 w γ gl cl gt V cv S T) (k : Nat) (hk : k < 3) : γ k ≠ gt := Blk.ne (h.sp k hk) h.tk (by decide)
theorem Plays.ptr_tk (h : Plays w0 w γ gl cl gt V cv S T) : gl ≠ gt := by obtain ⟨_, h1⟩ := h.ptrBlk; exact Blk.ne h1 h.tk (by decide)
theorem Plays.row_sp (h : Plays w0 w γ gl cl gt V cv S T) (k j : Nat) (hk : k < 3) (hj : j < 3) : (tvV V cv T k).ownBlock ≠ some (γ j) := fun e => by
  obtain ⟨_, h1⟩ := own_blk (h.row k hk) _ e
  exact Blk.ne h1 (h.sp j hj) (by decide) rfl
theorem Plays.row_ptr (h : Plays w0 w γ gl cl gt V cv S T) (k : Nat) (hk : k < 3) : (tvV V cv T k).ownBlock ≠ some gl := own_two h.ptr (h.row k hk) (by decide) gl rfl
theorem Plays.row_tk (h : Plays w0 w γ gl cl gt V cv S T) (k : Nat) (hk : k < 3) : (tvV V cv T k).ownBlock ≠ some gt := fun e => by
  obtain ⟨_, h1⟩ := own_blk (h.row k hk) _ e
  exact Blk.ne h1 h.tk (by decide) rfl
theorem Plays.lts (h : Plays w0 w γ gl cl gt V cv S T) : (∀ k, k < 3 → γ k < w.heap.size) ∧ (∀ k, k < 3 → ∀ q, (tvV V cv T k).ownBlock = some q → q < w.heap.size) ∧ gl < w.heap.size ∧ gt < w.heap.size :=
  ⟨fun k hk => Blk.lt (h.sp k hk), fun k hk q hq => ((h.row k hk).lt q hq).2, (h.ptr.lt gl rfl).2, h.tk.lt⟩
/-- A turn elsewhere. -/
theorem Plays.far (h : Plays w0 w γ gl cl gt V cv S T) {r : Nat} (hg : w.grownBy w' (some r)) (hr : w0.heap.size ≤ r) (h1 : ∀ k, k < 3 → γ k ≠ r) (h2 : ∀ k, k < 3 → (tvV V cv T k).ownBlock ≠ some r) (h3 : gl ≠ r) (h4 : gt ≠ r) : Plays w0 w' γ gl cl gt V cv S T :=
  ⟨h.below.grown hg h.below.size (fun q e => by injection e with e; omega), fun k hk => Blk.grownNe' (h.sp k hk) hg (h1 k hk), fun k hk => own_grown (h.row k hk) hg (fun q hq e => h2 k hk (by rw [hq, e])), own_grown h.ptr hg (fun q hq e => by injection hq with hq; injection e with e; exact h3 (by rw [e]; exact hq)),
    h.tk.grownNe' hg h4, h.oldS, h.oldT, h.apS, h.apV⟩
/-- A turn in a block that is newer than an earlier state. -/
theorem Plays.later {wS : World} {S0 : Nat → List UInt8} (h0 : Plays w0 wS γ gl cl gt V cv S0 T) (h : Plays w0 w γ gl cl gt V cv S T) {r : Nat} (hg : w.grownBy w' (some r)) (hr : wS.heap.size ≤ r) : Plays w0 w' γ gl cl gt V cv S T := by
  have hl := h0.lts
  have := h0.below.size
  exact h.far hg (by omega) (fun k hk => by have := hl.1 k hk; omega) (fun k hk e => by have := hl.2.1 k hk r e; omega) (by omega) (by omega)
def updL (T : Nat → List UInt8) (k : Nat) (l : List UInt8) (j : Nat) : List UInt8 := if j = k then l else T j
theorem updL_at (T : Nat → List UInt8) (k : Nat) (l : List UInt8) : updL T k l k = l := if_pos rfl
theorem updL_ne {T : Nat → List UInt8} {k j : Nat} {l : List UInt8} (h : j ≠ k) : updL T k l j = T j := if_neg h
/-- One sponge has turned. -/
theorem Plays.turned (h : Plays w0 w γ gl cl gt V cv S T) {k : Nat} (hk : k < 3) {l : List UInt8} (hg : w.grownBy w' (some (γ k))) (hat : SpAt w' (γ k) (writeS (zeroS, 0) l).1 (writeS (zeroS, 0) l).2) : Plays w0 w' γ gl cl gt V cv (updL S k l) T :=
  ⟨h.below.grown hg h.below.size (fun q e => by injection e with e; have := h.oldS k hk; omega), fun j hj => by
      by_cases e : j = k
      · subst e
        rw [updL_at]
        exact hat
      · rw [updL_ne e]
        exact Blk.grownNe' (h.sp j hj) hg (fun e2 => e (h.apS j k hj hk e2)),
    fun j hj => own_grown (h.row j hj) hg (fun q hq e => h.row_sp j k hj hk (by rw [hq, e])), own_grown h.ptr hg (fun q hq e => by injection hq with hq; injection e with e; exact h.ne_ptr k hk (by rw [e]; exact hq.symm)),
    h.tk.grownNe' hg (fun e => h.ne_tk k hk e.symm), h.oldS, h.oldT, h.apS, h.apV⟩
def updA {α : Type} (T : Nat → α) (k : Nat) (l : α) (j : Nat) : α := if j = k then l else T j
theorem tv_upd (V : Nat → Option Addr) (cv : Nat → Nat) (T : Nat → List UInt8) (k : Nat) (A : Option Addr) (c : Nat) (l : List UInt8) : upd (tvV V cv T) k (.slice A l.length c) = tvV (updA V k A) (updA cv k c) (updL T k l) := by
  funext j
  unfold upd tvV updA updL
  by_cases e : j = k <;> simp [e]
theorem tv_at (V : Nat → Option Addr) (cv : Nat → Nat) (T : Nat → List UInt8) (k : Nat) (A : Option Addr) (c : Nat) (l : List UInt8) : tvV (updA V k A) (updA cv k c) (updL T k l) k = .slice A l.length c := by
  rw [← tv_upd]; exact if_pos rfl
theorem tv_ne (V : Nat → Option Addr) (cv : Nat → Nat) (T : Nat → List UInt8) {k j : Nat} (A : Option Addr) (c : Nat) (l : List UInt8) (h : j ≠ k) : tvV (updA V k A) (updA cv k c) (updL T k l) j = tvV V cv T j := by
  rw [← tv_upd]; exact if_neg h
/-- One list of bytes has become another, in a row that is newer or the old one; and the slot holds it. -/
theorem Plays.took {w'' : World} (h : Plays w0 w γ gl cl gt V cv S T) {k : Nat} (hk : k < 3) {l : List UInt8} {A : Option Addr} {c : Nat} (hg : w.grownBy w' (tvV V cv T k).ownBlock) (ho : w'.ownsRow w0.heap.size 5 1 (.slice A l.length c) l.length (bytes l))
    (hf : (Value.slice A l.length c).ownBlock = (tvV V cv T k).ownBlock ∨ (Value.slice A l.length c).ownBlock = some w.heap.size ∨ (Value.slice A l.length c).ownBlock = none) (hw : Only gt (w'.setCell ⟨gt, k, none⟩ (.slice A l.length c)) w'') (hk2 : ∀ t cs, Blk (w'.setCell ⟨gt, k, none⟩ (.slice A l.length c)) gt t cs → Blk w'' gt t cs) :
    Plays w0 w'' γ gl cl gt (updA V k A) (updA cv k c) S (updL T k l) := by
  have s0 := h.below.size
  have s1 := hg.size
  have hl := h.lts
  have ho2 : Only gt w' w'' := (Only.setCell w' ⟨gt, k, none⟩ _).trans hw
  have hgt' : Blk w' gt 32 (tab 3 (tvV V cv T)) := (hg.block gt hl.2.2.2 (fun e => h.row_tk k hk e.symm)).trans h.tk
  have hnew : ∀ q, (Value.slice A l.length c).ownBlock = some q → (tvV V cv T k).ownBlock = some q ∨ q = w.heap.size := fun q hq => by
    rcases hf with hf | hf | hf
    · exact Or.inl (by rw [← hf]; exact hq)
    · rw [hf] at hq
      injection hq with hq
      exact Or.inr hq.symm
    · rw [hf] at hq
      cases hq
  refine ⟨?_, ?_, ?_, ?_, ?_, h.oldS, h.oldT, h.apS, ?_⟩
  · exact ho2.below (h.below.grown hg s0 (fun q e => ((h.row k hk).lt q e).1)) h.oldT
  · intro j hj
    refine ho2.blk ((hg.block (γ j) (hl.1 j hj) (fun e => h.row_sp k j hk hj e.symm)).trans (h.sp j hj)) (h.ne_tk j hj)
  · intro j hj
    by_cases e : j = k
    · subst e
      rw [tv_at, updL_at]
      refine own_only ho ho2 (fun e => ?_)
      rcases hnew _ e with e | e
      · exact h.row_tk j hk e
      · have := hl.2.2.2
        omega
    · rw [tv_ne V cv T A c l e, updL_ne e]
      exact own_only (own_grown (h.row j hj) hg (fun q hq e2 => e (h.apV j k hj hk q hq e2))) ho2 (h.row_tk j hj)
  · exact own_only (own_grown h.ptr hg (fun q hq e => by injection hq with hq; subst hq; exact h.row_ptr k hk e)) ho2 (fun e => h.ptr_tk (Option.some.inj e))
  · rw [← tv_upd]
    exact hk2 _ _ (hgt'.put k _)
  · intro i j hi hj q hqi hqj
    by_cases ei : i = k <;> by_cases ej : j = k
    · omega
    · rw [ei, tv_at] at hqi
      rw [tv_ne V cv T A c l ej] at hqj
      rcases hnew q hqi with e | e
      · rw [ei]; exact h.apV k j hk hj q e hqj
      · have := hl.2.1 j hj q hqj; omega
    · rw [ej, tv_at] at hqj
      rw [tv_ne V cv T A c l ei] at hqi
      rcases hnew q hqj with e | e
      · rw [ej]; exact h.apV i k hi hk q hqi e
      · have := hl.2.1 i hi q hqi; omega
    · rw [tv_ne V cv T A c l ei] at hqi
      rw [tv_ne V cv T A c l ej] at hqj
      exact h.apV i j hi hj q hqi hqj
theorem ptrs_set (γ : Nat → Nat) (n k g : Nat) : (ptrs γ n).set k (ptrV g) = ptrs (updA γ k g) n := by
  refine List.ext_getElem (by simp [ptrs]) fun i h1 h2 => ?_
  rw [List.getElem_set]
  simp only [ptrs, List.getElem_map, List.getElem_range, updA]
  by_cases e : k = i
  · rw [if_pos e, if_pos e.symm]
  · rw [if_neg e, if_neg (fun h => e h.symm)]
/-- Another sponge takes a place. -/
theorem Plays.fresh (h : Plays w0 w γ gl cl gt V cv S T) {k g : Nat} (hk : k < 3) (hg : w.heap.size ≤ g) (hb : Below w.heap.size w w') (hat : SpAt w' g (writeS (zeroS, 0) []).1 (writeS (zeroS, 0) []).2) :
    Plays w0 (w'.setCell ⟨gl, k, none⟩ (ptrV g)) (updA γ k g) gl cl gt V cv (updL S k []) T := by
  have h' := h.next hb
  have hl := h.lts
  have s0 := h.below.size
  have hst := h'.ptr.stored k (ptrV g)
  rw [ptrs_set] at hst
  have ho := Only.setCell w' ⟨gl, k, none⟩ (ptrV g)
  refine ⟨ho.below h'.below (h.ptr.lt gl rfl).1, ?_, ?_, hst.1, ?_, ?_, h.oldT, ?_, h.apV⟩
  · intro j hj
    by_cases e : j = k
    · subst e
      rw [updL_at, show updA γ j g j = g from if_pos rfl]
      exact ho.blk hat (show g ≠ gl by omega)
    · rw [updL_ne e, show updA γ k g j = γ j from if_neg e]
      exact ho.blk (h'.sp j hj) (h'.ne_ptr j hj)
  · intro j hj
    exact own_only (h'.row j hj) ho (h'.row_ptr j hj)
  · exact ho.blk h'.tk (fun e => h'.ptr_tk e.symm)
  · intro j hj
    by_cases e : j = k
    · rw [e, show updA γ k g k = g from if_pos rfl]
      omega
    · rw [show updA γ k g j = γ j from if_neg e]
      exact h.oldS j hj
  · intro i j hi hj e
    by_cases ei : i = k <;> by_cases ej : j = k
    · omega
    · rw [ei, show updA γ k g k = g from if_pos rfl, show updA γ k g j = γ j from if_neg ej] at e
      have := hl.1 j hj
      omega
    · rw [ej, show updA γ k g k = g from if_pos rfl, show updA γ k g i = γ i from if_neg ei] at e
      have := hl.1 i hi
      omega
    · rw [show updA γ k g i = γ i from if_neg ei, show updA γ k g j = γ j from if_neg ej] at e
      exact h.apS i j hi hj e
theorem Plays.congr (h : Plays w0 w γ gl cl gt V cv S T) {S' : Nat → List UInt8} (e : ∀ i, i < 3 → S i = S' i) : Plays w0 w γ gl cl gt V cv S' T :=
  ⟨h.below, fun k hk => by rw [← e k hk]; exact h.sp k hk, h.row, h.ptr, h.tk, h.oldS, h.oldT, h.apS, h.apV⟩
theorem Plays.ptrCell (h : Plays w0 w γ gl cl gt V cv S T) (k : Nat) (hk : k < 3) : w.cell? ⟨gl, k, none⟩ = some (.pointer (some ⟨γ k, 0, none⟩)) := by
  have := h.ptr.cellAt k (by omega)
  rw [this, List.getElem?_eq_getElem (by rw [ptrs_length]; exact hk), ptrs_get]
theorem Plays.tkCell (h : Plays w0 w γ gl cl gt V cv S T) (k : Nat) (hk : k < 3) : w.cell? ⟨gt, k, none⟩ = some (.slice (V k) (T k).length (cv k)) := h.tk.at_ k hk
theorem updL_le {T : Nat → List UInt8} {n m : Nat} (h : ∀ k, k < 3 → (T k).length ≤ n) (k : Nat) (l : List UInt8) (hl : l.length ≤ m) (hnm : n ≤ m) : ∀ j, j < 3 → (updL T k l j).length ≤ m := fun j hj => by
  unfold updL
  split
  · exact hl
  · exact Nat.le_trans (h j hj) hnm
/-- A list of bytes is none again. -/
theorem Plays.emptied (h : Plays w0 w γ gl cl gt V cv S T) {k : Nat} (hk : k < 3) : Plays w0 (w.setCell ⟨gt, k, none⟩ (.slice none 0 0)) γ gl cl gt (updA V k none) (updA cv k 0) S (updL T k []) :=
  h.took (l := []) (A := none) (c := 0) hk (World.grownBy.refl w _) (World.ownsRow_nil _ _ _ _) (Or.inr (Or.inr rfl)) (Only.refl _ _) (fun _ _ h => h)
theorem writeS_two (l m : List UInt8) : writeS ((writeS (zeroS, 0) l).1, (writeS (zeroS, 0) l).2) m = writeS (zeroS, 0) (l ++ m) := by rw [writeS_append]
end
theorem own_front {w : World} {base n : Nat} {e : TypeId} {A : Option Addr} {m c : Nat} {l r : List UInt8} (h : w.ownsRow base e 1 (.slice A m c) n (bytes (l ++ r))) (hm : m = n) : Seq w w.heap.size A (bytes l) := by
  subst hm
  have := (Seq.of_own h).take l.length
  rw [bytes_append, List.take_append_of_le_length (by rw [bytes_length]; exact Nat.le_refl _), List.take_of_length_le (by rw [bytes_length]; exact Nat.le_refl _)] at this
  exact this
end Go.Proofs.YtfidjeoeaeghhaaDoor
