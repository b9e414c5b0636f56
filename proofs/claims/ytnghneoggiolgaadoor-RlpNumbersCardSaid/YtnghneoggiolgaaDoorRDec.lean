/- Decode: what it answers, in plain words; its rows in memory. -/
import Derived.Test.YtnghneoggiolgaaDoorRCopy
import Derived.Test.YtnghneoggiolgaaDoorRRead
namespace Go.Proofs.YtnghneoggiolgaaDoor
open Go.RowKit
abbrev SaidI := Bool × Int × List UInt8
theorem readM_ok {b : List UInt8} {p en : Nat} (h : (readM b p en).2.2.2 = 0) (hen : en ≤ b.length) :
    p < en ∧ p ≤ (readM b p en).2.1 ∧ (readM b p en).2.1 ≤ (readM b p en).2.2.1 ∧ (readM b p en).2.2.1 ≤ en ∧ p < (readM b p en).2.2.1 ∧ ((readM b p en).1 = true → p < (readM b p en).2.1) := by
  unfold readM at *
  split
  · rename_i h1; rw [if_pos h1] at h; cases h
  rename_i h1
  rw [if_neg h1] at h
  split
  · simp only; exact ⟨by omega, by omega, by omega, by omega, by omega, by simp⟩
  rename_i h2
  rw [if_neg h2] at h
  split
  · rename_i h3
    rw [if_pos h3] at h
    split
    · rename_i h4; rw [if_pos h4] at h; cases h
    rename_i h4
    rw [if_neg h4] at h
    split
    · rename_i h5; rw [if_pos h5] at h; cases h
    rename_i h5
    rw [if_neg h5] at h
    split
    · rename_i h6; rw [if_pos h6] at h; cases h
    simp only; exact ⟨by omega, by omega, by omega, by omega, by omega, by omega⟩
  rename_i h3
  rw [if_neg h3] at h
  split
  · rename_i h4; rw [if_pos h4] at h; cases h
  rename_i h4
  rw [if_neg h4] at h
  split
  · rename_i h5; rw [if_pos h5] at h; cases h
  simp only; exact ⟨by omega, by omega, by omega, by omega, by omega, by omega⟩
theorem readM_err (b : List UInt8) (p en : Nat) : (readM b p en).2.2.2 = 0 ∨ (readM b p en).2.2.2 = 50 ∨ (readM b p en).2.2.2 = 251 := by
  unfold readM
  split
  · simp
  split
  · simp
  split
  · split
    · simp
    split
    · simp
    split
    · simp
    simp
  split
  · simp
  split
  · simp
  simp
def up (x : SaidI) : SaidI := (x.1, x.2.1 + 1, x.2.2)
def upL (L : List SaidI) : List (Nat × Nat) → List SaidI
  | [] => L
  | q :: _ => L.modify q.1 up
theorem upL_length (L : List SaidI) (st : List (Nat × Nat)) : (upL L st).length = L.length := by
  cases st <;> simp [upL]
def newI (b : List UInt8) (r : ReadR) : SaidI := if r.1 then (true, 0, []) else (false, 0, (b.take r.2.2.1).drop r.2.1)
def openN (r : ReadR) (L : List SaidI) (st : List (Nat × Nat)) : List (Nat × Nat) := if r.1 then (L.length, r.2.2.1) :: st else st
def atN (r : ReadR) : Nat := if r.1 then r.2.1 else r.2.2.1
def enN (r : ReadR) (en : Nat) : Nat := if r.1 then r.2.2.1 else en
def endOf (n : Nat) : List (Nat × Nat) → Nat
  | [] => n
  | q :: _ => q.2
def popM (n p : Nat) : Nat → List (Nat × Nat) → Option (Nat × List (Nat × Nat))
  | _, [] => none
  | en, q :: st => if p < en then some (en, q :: st) else popM n p (endOf n st) st
abbrev DecR := List SaidI × Nat × Nat
def decGo (b : List UInt8) : Nat → List SaidI → List (Nat × Nat) → Nat → Nat → DecR
  | 0, _, _, _, _ => ([], 0, 0)
  | k + 1, L, st, p, en =>
    if (readM b p en).2.2.2 ≠ 0 then ([], (readM b p en).2.2.2, p) else
    match popM b.length (atN (readM b p en)) (enN (readM b p en) en) (openN (readM b p en) L st) with
    | none => if atN (readM b p en) < b.length then ([], 58, atN (readM b p en)) else (upL L st ++ [newI b (readM b p en)], 0, 0)
    | some (en', st') => decGo b k (upL L st ++ [newI b (readM b p en)]) st' (atN (readM b p en)) en'
def decM (b : List UInt8) : DecR := decGo b (b.length + 1) [] [] 0 b.length
/-- What holds at the head of each round. -/
structure DecInv (n : Nat) (L : List SaidI) (st : List (Nat × Nat)) (p en : Nat) : Prop where
  hp : p ≤ n
  hen : en ≤ n
  hlen : L.length ≤ p
  hcnt : ∀ x ∈ L, 0 ≤ x.2.1 ∧ x.2.1 ≤ L.length ∧ x.2.2.length ≤ n
  hst : ∀ q ∈ st, q.1 < L.length ∧ q.2 ≤ n
  hsize : st.length ≤ L.length
theorem DecInv.start (n : Nat) : DecInv n [] [] 0 n := ⟨by omega, by omega, by simp, by simp, by simp, by simp⟩
theorem upL_mem {n k : Nat} {L : List SaidI} {st : List (Nat × Nat)} (h : ∀ x ∈ L, 0 ≤ x.2.1 ∧ x.2.1 ≤ k ∧ x.2.2.length ≤ n) : ∀ x ∈ upL L st, 0 ≤ x.2.1 ∧ x.2.1 ≤ (k + 1 : Nat) ∧ x.2.2.length ≤ n := by
  intro x hx
  cases st with
  | nil => have := h x hx; omega
  | cons q st =>
    obtain ⟨j, hj, rfl⟩ := List.getElem_of_mem hx
    simp only [upL] at *
    rw [List.getElem_modify]
    have hj' : j < L.length := by rw [upL_length] at hj; exact hj
    have := h L[j] (List.getElem_mem hj')
    split
    · simp only [up]; omega
    · omega
theorem DecInv.next {b : List UInt8} {L : List SaidI} {st : List (Nat × Nat)} {p en : Nat} (h : DecInv b.length L st p en) (hr : (readM b p en).2.2.2 = 0) :
    DecInv b.length (upL L st ++ [newI b (readM b p en)]) (openN (readM b p en) L st) (atN (readM b p en)) (enN (readM b p en) en) := by
  obtain ⟨h1, h2, h3, h4, h5, h6⟩ := readM_ok hr h.hen
  have hp := h.hp
  have he := h.hen
  have hl := h.hlen
  have hsz := h.hsize
  refine ⟨?_, ?_, ?_, ?_, ?_, ?_⟩
  · unfold atN; split <;> omega
  · unfold enN; split <;> omega
  · rw [List.length_append, upL_length]
    unfold atN
    split
    · rename_i hd; have := h6 hd; simp; omega
    · simp; omega
  · intro x hx
    rw [List.length_append, upL_length]
    rcases List.mem_append.1 hx with hx | hx
    · have := upL_mem h.hcnt x hx
      simp only [List.length_cons, List.length_nil]
      omega
    · rw [List.mem_singleton] at hx
      subst hx
      unfold newI
      split
      · simp
        omega
      · simp
        omega
  · intro q hq
    rw [List.length_append, upL_length]
    unfold openN at hq
    split at hq
    · rcases List.mem_cons.1 hq with rfl | hq
      · simp only [List.length_cons, List.length_nil]; omega
      · have := h.hst q hq; simp only [List.length_cons, List.length_nil]; omega
    · have := h.hst q hq; simp only [List.length_cons, List.length_nil]; omega
  · rw [List.length_append, upL_length]
    unfold openN
    split
    · simp; omega
    · simp; omega
theorem DecInv.pop {n p : Nat} {L : List SaidI} : ∀ {st : List (Nat × Nat)} {en : Nat} {en' : Nat} {st' : List (Nat × Nat)}, DecInv n L st p en → popM n p en st = some (en', st') → DecInv n L st' p en' ∧ p < en'
  | [], en, en', st', h, hp => by simp [popM] at hp
  | q :: st, en, en', st', h, hp => by
    unfold popM at hp
    split at hp
    · injection hp with hp
      injection hp with h1 h2
      subst h1 h2
      exact ⟨h, by assumption⟩
    · have h' : DecInv n L st p (endOf n st) := ⟨h.hp, by
        cases st with
        | nil => exact Nat.le_refl _
        | cons q' st => exact (h.hst q' (by simp)).2, h.hlen, h.hcnt, fun q hq => h.hst q (List.mem_cons_of_mem _ hq), by have := h.hsize; simp at this; omega⟩
      exact h'.pop hp
theorem atN_lt {b : List UInt8} {p en : Nat} (hr : (readM b p en).2.2.2 = 0) (hen : en ≤ b.length) : p < atN (readM b p en) := by
  obtain ⟨h1, h2, h3, h4, h5, h6⟩ := readM_ok hr hen
  unfold atN
  split
  · rename_i hd; exact h6 hd
  · exact h5
/-- The row that is read has no more items than there are bytes, nor longer ones. -/
theorem decGo_bound {b : List UInt8} : ∀ (k : Nat) {L : List SaidI} {st : List (Nat × Nat)} {p en : Nat}, DecInv b.length L st p en →
    (decGo b k L st p en).1.length ≤ b.length ∧ (∀ x ∈ (decGo b k L st p en).1, 0 ≤ x.2.1 ∧ x.2.1 ≤ (b.length : Nat) ∧ x.2.2.length ≤ b.length) ∧ (decGo b k L st p en).2.1 ≤ 251 ∧ (decGo b k L st p en).2.2 ≤ b.length
  | 0, L, st, p, en, h => by simp [decGo]
  | k + 1, L, st, p, en, h => by
    unfold decGo
    split
    · have := readM_err b p en
      exact ⟨by simp, by simp, by simp only; omega, h.hp⟩
    rename_i hr
    have hn := h.next (by omega)
    have h1 := hn.hlen
    have h2 := hn.hp
    split
    · split
      · exact ⟨by simp, by simp, by simp only; omega, h2⟩
      · refine ⟨Nat.le_trans h1 h2, fun x hx => ?_, by simp only; omega, by simp only; omega⟩
        have := hn.hcnt x hx
        omega
    · rename_i en' st' hp
      exact decGo_bound k (hn.pop hp).1
theorem decM_bound (b : List UInt8) : (decM b).1.length ≤ b.length ∧ (∀ x ∈ (decM b).1, 0 ≤ x.2.1 ∧ x.2.1 ≤ (b.length : Nat) ∧ x.2.2.length ≤ b.length) ∧ (decM b).2.1 ≤ 251 ∧ (decM b).2.2 ≤ b.length := decGo_bound _ (DecInv.start _)
/- The rows in memory. -/
def openV (q : Nat × Nat) : List Value := [.int .i64 q.1, .int .i64 q.2]
def opensC (st : List (Nat × Nat)) : List Value := st.reverse.flatMap openV
theorem opensC_length (st : List (Nat × Nat)) : (opensC st).length = st.length * 2 := by
  induction st with
  | nil => rfl
  | cons q st ih => simp only [opensC, List.reverse_cons, List.flatMap_append, List.length_append, List.length_cons] at *; rw [ih]; simp [openV]; omega
theorem opensC_cons (q : Nat × Nat) (st : List (Nat × Nat)) : opensC (q :: st) = opensC st ++ [.int .i64 q.1, .int .i64 q.2] := by simp [opensC, openV]
theorem infoOpened : (Tryd.prog.info? 57).map (fun i => (i.zero, i.size, i.bytes)) = some (some (.agg #[.int .i64 0, .int .i64 0]), 2, 16) := by kernel_rfl
theorem elOpened : Elem Tryd.prog 53 57 2 16 := Elem.mk' Tryd.underlying53 infoOpened rfl (by decide)
def StackIs (W : World) (base : Nat) (v : Value) (st : List (Nat × Nat)) : Prop := ∃ A c, v = .slice A st.length c ∧ W.ownsRow base 57 2 v st.length (opensC st)
def RowIs (W : World) (base : Nat) (v : Value) (L : List SaidI) : Prop := ∃ A c, ∃ l : List ItemL, v = .slice A L.length c ∧ l.map said = L ∧ W.ownsRow base 34 3 v L.length (itemsC l) ∧ ∀ x ∈ l, OwnI W base x
theorem StackIs.nil (W : World) (base : Nat) : StackIs W base (.slice none 0 0) [] := ⟨none, 0, rfl, World.ownsRow_nil _ _ _ _⟩
theorem RowIs.nil (W : World) (base : Nat) : RowIs W base (.slice none 0 0) [] := ⟨none, 0, [], rfl, rfl, World.ownsRow_nil _ _ _ _, by simp⟩
section
variable {W W' : World} {base : Nat} {v : Value} {st : List (Nat × Nat)} {L : List SaidI}
theorem StackIs.below (h : StackIs W base v st) (hb : Below W.heap.size W W') : StackIs W' base v st := by
  obtain ⟨A, c, e, h⟩ := h
  exact ⟨A, c, e, own_below' h hb⟩
theorem RowIs.below (h : RowIs W base v L) (hb : Below W.heap.size W W') : RowIs W' base v L := by
  obtain ⟨A, c, l, e, hl, h, ho⟩ := h
  exact ⟨A, c, l, e, hl, own_below' h hb, fun x hx => own_below' (ho x hx) hb⟩
theorem StackIs.grown {base' : Nat} {e' : TypeId} {s' n' : Nat} {v' : Value} {xs' : List Value} (h : StackIs W base v st) (ho : W.ownsRow base' e' s' v' n' xs') (he : e' ≠ 57) (hg : W.grownBy W' v'.ownBlock) : StackIs W' base v st := by
  obtain ⟨A, c, e, h⟩ := h
  exact ⟨A, c, e, own_grown h hg fun q hq e => own_two ho h he q e hq⟩
theorem OwnI.grown {base' : Nat} {e' : TypeId} {s' n' : Nat} {v' : Value} {xs' : List Value} {x : ItemL} (h : OwnI W base x) (ho : W.ownsRow base' e' s' v' n' xs') (he : e' ≠ 5) (hg : W.grownBy W' v'.ownBlock) : OwnI W' base x :=
  own_grown h hg fun q hq e => own_two ho h he q e hq
theorem RowIs.grown {base' : Nat} {e' : TypeId} {s' n' : Nat} {v' : Value} {xs' : List Value} (h : RowIs W base v L) (ho : W.ownsRow base' e' s' v' n' xs') (he : e' ≠ 34) (he2 : e' ≠ 5) (hg : W.grownBy W' v'.ownBlock) : RowIs W' base v L := by
  obtain ⟨A, c, l, e, hl, h, ho'⟩ := h
  exact ⟨A, c, l, e, hl, own_grown h hg fun q hq e => own_two ho h he q e hq, fun x hx => (ho' x hx).grown ho he2 hg⟩
theorem own_set {e : TypeId} {size n c g i : Nat} {xs : List Value} (h : W.ownsRow base e size (.slice (some ⟨g, 0, none⟩) n c) n xs) (hi : i < xs.length) (u : Value) : (W.setCell ⟨g, i, none⟩ u).ownsRow base e size (.slice (some ⟨g, 0, none⟩) n c) n (xs.set i u) := by
  obtain ⟨h1, h2⟩ := h
  refine ⟨by rw [List.length_set]; exact h1, ?_⟩
  rcases h2 with ⟨h2, h3⟩ | ⟨g', cap, cur, hv, hg, hh, hnc, hcm, hcs, htake⟩
  · cases h2
  · injection hv with e1 e2 e3
    injection e1 with e1
    injection e1 with e1
    subst e1 e3
    refine .inr ⟨g, c, cur.setIfInBounds i u, rfl, hg, Blk.set_ hh i u, hnc, hcm, by simpa using hcs, ?_⟩
    rw [Array.toList_setIfInBounds, List.take_set, htake]
end
end Go.Proofs.YtnghneoggiolgaaDoor
