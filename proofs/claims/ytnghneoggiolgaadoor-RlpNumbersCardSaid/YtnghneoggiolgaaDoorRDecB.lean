/- Decode's rows in memory: turned in place, taken off, put on. -/
import Derived.Test.YtnghneoggiolgaaDoorRDec
namespace Go.Proofs.YtnghneoggiolgaaDoor
open Go.RowKit
section
variable {W W' : World} {base : Nat} {st : List (Nat × Nat)} {L : List SaidI} {A : Option Addr} {n c : Nat} {q : Nat × Nat}
theorem StackIs.top (h : StackIs W base (.slice A n c) (q :: st)) : n = st.length + 1 ∧ ∃ g, A = some ⟨g, 0, none⟩ ∧ base ≤ g ∧ g < W.heap.size ∧ st.length + 1 ≤ c ∧ c ≤ maxLen ∧
    W.cell? ⟨g, st.length * 2, none⟩ = some (.int .i64 q.1) ∧ W.cell? ⟨g, st.length * 2 + 1, none⟩ = some (.int .i64 q.2) := by
  obtain ⟨A', c', e, h⟩ := h
  injection e with e1 e2 e3
  subst e1 e2 e3
  refine ⟨rfl, ?_⟩
  obtain ⟨g, rfl, h1, h2, h3, h4⟩ := own_form h (by simp)
  have hc : ∀ i, i < 2 → (opensC (q :: st))[st.length * 2 + i]? = [Value.int .i64 q.1, .int .i64 q.2][i]? := fun i hi => by
    rw [opensC_cons, List.getElem?_append_right (by rw [opensC_length]; omega), opensC_length, Nat.add_sub_cancel_left]
  refine ⟨g, rfl, h1, h2, by simpa using h3, h4, ?_, ?_⟩
  · have := h.cells (g := g) rfl (st.length * 2) _ (hc 0 (by omega))
    rwa [addr_add, Nat.zero_add] at this
  · have := h.cells (g := g) rfl (st.length * 2 + 1) _ (hc 1 (by omega))
    rwa [addr_add, Nat.zero_add] at this
theorem own_cut {e : TypeId} {size m : Nat} {xs : List Value} (h : W.ownsRow base e size (.slice A n c) n xs) (hm : m ≤ n) (hn : 0 < n) : W.ownsRow base e size (.slice A m c) m (xs.take (m * size)) := by
  obtain ⟨h1, h2⟩ := h
  have hle : m * size ≤ n * size := Nat.mul_le_mul_right _ hm
  refine ⟨by rw [List.length_take]; omega, ?_⟩
  rcases h2 with ⟨h2, h3⟩ | ⟨g, cap, cur, hv, hg, hh, hnc, hcm, hcs, htake⟩
  · omega
  · injection hv with e1 e2 e3
    subst e1 e3
    exact .inr ⟨g, c, cur, rfl, hg, hh, by omega, hcm, hcs, by rw [← htake, List.take_take, Nat.min_eq_left hle]⟩
theorem StackIs.pop (h : StackIs W base (.slice A n c) (q :: st)) : StackIs W base (.slice A st.length c) st := by
  obtain ⟨A', c', e, h⟩ := h
  injection e with e1 e2 e3
  subst e1 e2 e3
  refine ⟨A, c, rfl, ?_⟩
  have := own_cut h (m := st.length) (by simp) (by simp)
  rw [opensC_cons, List.take_append_of_le_length (by rw [opensC_length]; exact Nat.le_refl _), List.take_of_length_le (by rw [opensC_length]; exact Nat.le_refl _)] at this
  exact this
theorem RowIs.shape {v : Value} (h : RowIs W base v L) : ∃ A c, v = .slice A L.length c := by
  obtain ⟨A, c, l, e, _⟩ := h
  exact ⟨A, c, e⟩
theorem StackIs.shape {v : Value} (h : StackIs W base v st) : ∃ A c, v = .slice A st.length c ∧ W.ownsRow base 57 2 (.slice A st.length c) st.length (opensC st) := by
  obtain ⟨A, c, rfl, h⟩ := h
  exact ⟨A, c, rfl, h⟩
theorem map_modify_said (l : List ItemL) (j : Nat) : (l.modify j fun x => (x.1, x.2.1 + 1, x.2.2)).map said = (l.map said).modify j up := by
  apply List.ext_getElem
  · simp
  · intro i h1 h2
    simp only [List.getElem_map, List.getElem_modify]
    split <;> rfl
theorem itemsC_modify (l : List ItemL) (j : Nat) (hj : j < l.length) : itemsC (l.modify j fun x => (x.1, x.2.1 + 1, x.2.2)) = (itemsC l).set (j * 3 + 1) (.int .i64 (l[j].2.1 + 1)) := by
  induction l generalizing j with
  | nil => simp at hj
  | cons x l ih =>
    cases j with
    | zero => rfl
    | succ j =>
      have hj' : j < l.length := by simpa using hj
      rw [List.modify_succ_cons]
      have e1 : ∀ y (m : List ItemL), itemsC (y :: m) = itemC y ++ itemsC m := fun _ _ => rfl
      rw [e1, e1, ih j hj', List.set_append_right _ _ (by simp [itemC]; omega)]
      have : (j + 1) * 3 + 1 - (itemC x).length = j * 3 + 1 := by simp [itemC]; omega
      rw [this]
      rfl
theorem RowIs.bump {j : Nat} (h : RowIs W base (.slice A n c) L) (hj : j < L.length) : n = L.length ∧ ∃ g, A = some ⟨g, 0, none⟩ ∧ base ≤ g ∧ g < W.heap.size ∧ W.cell? ⟨g, j * 3 + 1, none⟩ = some (.int .i64 L[j].2.1) ∧ W.frozen? ⟨g, j * 3 + 1, none⟩ = false ∧
    (∀ {e' : TypeId} {size' n' base' : Nat} {v' : Value} {xs' : List Value}, e' ≠ 34 → W.ownsRow base' e' size' v' n' xs' → (W.setCell ⟨g, j * 3 + 1, none⟩ (.int .i64 (L[j].2.1 + 1))).ownsRow base' e' size' v' n' xs') ∧
    RowIs (W.setCell ⟨g, j * 3 + 1, none⟩ (.int .i64 (L[j].2.1 + 1))) base (.slice A n c) (L.modify j up) := by
  obtain ⟨A', c', l, e, hl, h, ho⟩ := h
  injection e with e1 e2 e3
  subst e1 e2 e3 hl
  refine ⟨rfl, ?_⟩
  have hj' := hj
  rw [List.length_map] at hj'
  obtain ⟨g, rfl, h1, h2, h3, h4⟩ := own_form h (by omega)
  have hlen := itemsC_length l
  have hc := itemsC_get l j 1 hj' (by omega)
  obtain ⟨cur, hb⟩ := own_blk h g rfl
  have hother : ∀ {e' : TypeId} {size' n' base' : Nat} {v' : Value} {xs' : List Value}, e' ≠ 34 → W.ownsRow base' e' size' v' n' xs' → (W.setCell ⟨g, j * 3 + 1, none⟩ (.int .i64 ((l[j]'hj').2.1 + 1))).ownsRow base' e' size' v' n' xs' :=
    fun he ho' => own_only ho' (Only.setCell _ _ _) (fun e => own_two ho' h he g e rfl)
  refine ⟨g, rfl, h1, h2, ?_, Blk.frozen hb _, ?_, ?_⟩
  · rw [List.getElem_map]
    have hcc := h.cells (g := g) rfl _ _ hc
    rwa [addr_add, Nat.zero_add] at hcc
  · rw [List.getElem_map]
    exact hother
  · rw [List.getElem_map]
    have hset := own_set h (i := j * 3 + 1) (by omega) (.int .i64 ((l[j]'hj').2.1 + 1))
    rw [← itemsC_modify l j hj'] at hset
    refine ⟨some ⟨g, 0, none⟩, c, l.modify j fun x => (x.1, x.2.1 + 1, x.2.2), by simp, map_modify_said l j, ?_, ?_⟩
    · rw [List.length_modify]
      exact hset
    · intro x hx
      obtain ⟨i, hi, rfl⟩ := List.getElem_of_mem hx
      rw [List.getElem_modify]
      have hi' : i < l.length := by simpa using hi
      have := hother (by decide) (ho (l[i]'hi') (List.getElem_mem hi'))
      split <;> exact this
theorem RowIs.only {v : Value} {e' : TypeId} {size' n' base' g : Nat} {v' : Value} {xs' : List Value} (h : RowIs W base v L) (ho : W.ownsRow base' e' size' v' n' xs') (hg : v'.ownBlock = some g) (he : e' ≠ 34) (he2 : e' ≠ 5) (hw : Only g W W') : RowIs W' base v L := by
  obtain ⟨A, c, l, e, hl, h, hi⟩ := h
  exact ⟨A, c, l, e, hl, own_only h hw (fun e => own_two ho h he g hg e), fun x hx => own_only (hi x hx) hw (fun e => own_two ho (hi x hx) he2 g hg e)⟩
/-- An item put behind the row. -/
theorem RowIs.snoc {A1 : Option Addr} {c1 : Nat} {l : List ItemL} {x : ItemL} (h : W.ownsRow base 34 3 (.slice A n c) n (itemsC l)) (hi : ∀ y ∈ l, OwnI W base y) (hx : OwnI W base x) (hn : n = l.length)
    (h2 : W'.ownsRow base 34 3 (.slice A1 (n + 1) c1) (n + 1) (itemsC l ++ itemC x)) (hg : W.grownBy W' (Value.slice A n c).ownBlock) : RowIs W' base (.slice A1 (n + 1) c1) (l.map said ++ [said x]) := by
  refine ⟨A1, c1, l ++ [x], by simp [hn], by simp, ?_, ?_⟩
  · rw [itemsC_append]
    have e : (l.map said ++ [said x]).length = n + 1 := by simp [hn]
    rw [e]
    simpa [itemsC] using h2
  · intro y hy
    rcases List.mem_append.1 hy with hy | hy
    · exact (hi y hy).grown h (by decide) hg
    · rw [List.mem_singleton] at hy
      subst hy
      exact hx.grown h (by decide) hg
theorem OwnI.none_ (W : World) (base : Nat) (b : Bool) (i : Int) : OwnI W base (b, i, none, 0, []) := World.ownsRow_nil _ _ _ _
end
end Go.Proofs.YtnghneoggiolgaaDoor
