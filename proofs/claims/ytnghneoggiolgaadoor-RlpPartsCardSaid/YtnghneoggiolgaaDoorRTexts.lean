/- Texts in memory: rows of slices of bytes, each of them and the row in memory of the call's own. -/
import Derived.Test.YtnghneoggiolgaaDoorRParts
import Derived.Test.YtnghneoggiolgaaDoorRSame
namespace Go.Proofs.YtnghneoggiolgaaDoor
open Go.RowKit
theorem infoText : (Tryd.prog.info? 26).map (fun i => (i.zero, i.size, i.bytes)) = some (some (.slice none 0 0), 1, 24) := by kernel_rfl
theorem elText : Elem Tryd.prog 38 26 1 24 := Elem.mk' Tryd.underlying38 infoText rfl (by decide)
def txt (p : Piece) : List UInt8 := p.2.2
def OwnP (w : World) (base : Nat) (p : Piece) : Prop := w.ownsRow base 5 1 (pcV p) p.2.2.length (bytes p.2.2)
theorem OwnP.seq {w : World} {base : Nat} {p : Piece} (h : OwnP w base p) : Seq w w.heap.size p.1 (bytes p.2.2) := Seq.of_own h
theorem OwnP.alloc {w : World} {base : Nat} {p : Piece} (h : OwnP w base p) (o : Obj) : OwnP (w.alloc o) base p := own_alloc h o
theorem OwnP.below {w w' : World} {base : Nat} {p : Piece} (h : OwnP w base p) (hb : Below w.heap.size w w') : OwnP w' base p := own_below' h hb
theorem OwnP.grown {w w' : World} {base base' : Nat} {p : Piece} {e' : TypeId} {s' n' : Nat} {v' : Value} {xs' : List Value} (h : OwnP w base p) (ho : w.ownsRow base' e' s' v' n' xs') (he : e' ≠ 5) (hg : w.grownBy w' v'.ownBlock) : OwnP w' base p :=
  own_grown h hg fun q hq e => own_two ho h he q e hq
/-- A row of texts. -/
def TextsIs (W : World) (base : Nat) (v : Value) (L : List (List UInt8)) : Prop := ∃ A c, ∃ ps : List Piece, v = .slice A L.length c ∧ ps.map txt = L ∧ W.ownsRow base 26 1 v L.length (pcs ps) ∧ ∀ p ∈ ps, OwnP W base p
theorem TextsIs.nil (W : World) (base : Nat) : TextsIs W base (.slice none 0 0) [] := ⟨none, 0, [], rfl, rfl, World.ownsRow_nil _ _ _ _, by simp⟩
section
variable {W W' : World} {base : Nat} {v : Value} {L : List (List UInt8)} {A : Option Addr} {n c : Nat}
theorem TextsIs.below (h : TextsIs W base v L) (hb : Below W.heap.size W W') : TextsIs W' base v L := by
  obtain ⟨A, c, ps, e, hl, h, ho⟩ := h
  exact ⟨A, c, ps, e, hl, own_below' h hb, fun x hx => own_below' (ho x hx) hb⟩
theorem TextsIs.mono {base' : Nat} (h : TextsIs W base v L) (hb : base' ≤ base) : TextsIs W base' v L := by
  obtain ⟨A, c, ps, e, hl, h, ho⟩ := h
  exact ⟨A, c, ps, e, hl, own_mono h hb, fun x hx => own_mono (ho x hx) hb⟩
theorem TextsIs.alloc (h : TextsIs W base v L) (o : Obj) : TextsIs (W.alloc o) base v L := h.below ((Below.refl _ _).alloc (Nat.le_refl _) _)
theorem TextsIs.shape (h : TextsIs W base v L) : ∃ A c, v = .slice A L.length c := by
  obtain ⟨A, c, ps, e, _⟩ := h
  exact ⟨A, c, e⟩
/-- What a read of it gives. -/
theorem TextsIs.at_ (h : TextsIs W base v L) : ∃ A c, ∃ ps : List Piece, v = .slice A ps.length c ∧ ps.length = L.length ∧ ps.map txt = L ∧ Seq W W.heap.size A (pcs ps) ∧ ∀ p ∈ ps, Seq W W.heap.size p.1 (bytes p.2.2) := by
  obtain ⟨A, c, ps, rfl, hl, h, ho⟩ := h
  have hn : ps.length = L.length := by rw [← hl, List.length_map]
  rw [← hn] at h ⊢
  exact ⟨A, c, ps, rfl, rfl, hl, Seq.of_own h, fun p hp => Seq.of_own (ho p hp)⟩
/-- Another row of another kind that grows. -/
theorem TextsIs.grown {base' : Nat} {e' : TypeId} {s' n' : Nat} {v' : Value} {xs' : List Value} (h : TextsIs W base v L) (ho : W.ownsRow base' e' s' v' n' xs') (he : e' ≠ 26) (he2 : e' ≠ 5) (hg : W.grownBy W' v'.ownBlock) : TextsIs W' base v L := by
  obtain ⟨A, c, ps, e, hl, h, ho'⟩ := h
  exact ⟨A, c, ps, e, hl, own_grown h hg fun q hq e => own_two ho h he q e hq, fun x hx => (ho' x hx).grown ho he2 hg⟩
/-- Two rows whose blocks are not one. -/
def Apart (v v' : Value) : Prop := ∀ q, v.ownBlock = some q → v'.ownBlock ≠ some q
theorem Apart.none_ (n c : Nat) (v' : Value) : Apart (.slice none n c) v' := fun q h => by simp [Value.ownBlock] at h
theorem Apart.symm {v v' : Value} (h : Apart v v') : Apart v' v := fun q h1 h2 => h q h2 h1
theorem Apart.step {v v' v2 : Value} (h : Apart v v') (hf : v2.ownBlock = v.ownBlock ∨ v2.ownBlock = some W.heap.size) (hl : ∀ q, v'.ownBlock = some q → q < W.heap.size) : Apart v2 v' := fun q h1 h2 => by
  rcases hf with hf | hf
  · rw [hf] at h1; exact h q h1 h2
  · rw [hf] at h1
    injection h1 with h1
    have := hl q h2
    omega
theorem TextsIs.lt (h : TextsIs W base v L) (q : Nat) (hq : v.ownBlock = some q) : base ≤ q ∧ q < W.heap.size := by
  obtain ⟨A, c, ps, e, hl, h, ho⟩ := h
  exact h.lt q hq
/-- Another row of texts that grows. -/
theorem TextsIs.grown2 {base' : Nat} {n' : Nat} {v' : Value} {xs' : List Value} (h : TextsIs W base v L) (ho : W.ownsRow base' 26 1 v' n' xs') (ha : Apart v v') (hg : W.grownBy W' v'.ownBlock) : TextsIs W' base v L := by
  obtain ⟨A, c, ps, e, hl, h, ho'⟩ := h
  exact ⟨A, c, ps, e, hl, own_grown h hg fun q hq e => ha q hq e, fun x hx => (ho' x hx).grown ho (by decide) hg⟩
/-- A text put behind the row. -/
theorem TextsIs.snoc {A1 : Option Addr} {c1 : Nat} {ps : List Piece} {p : Piece} (h : W.ownsRow base 26 1 (.slice A n c) n (pcs ps)) (hi : ∀ y ∈ ps, OwnP W base y) (hx : OwnP W base p) (hn : n = ps.length)
    (h2 : W'.ownsRow base 26 1 (.slice A1 (n + 1) c1) (n + 1) (pcs ps ++ [pcV p])) (hg : W.grownBy W' (Value.slice A n c).ownBlock) : TextsIs W' base (.slice A1 (n + 1) c1) (ps.map txt ++ [txt p]) := by
  refine ⟨A1, c1, ps ++ [p], by simp [hn], by simp, ?_, ?_⟩
  · rw [← pcs_snoc]
    have e : (ps.map txt ++ [txt p]).length = n + 1 := by simp [hn]
    rw [e]
    exact h2
  · intro y hy
    rcases List.mem_append.1 hy with hy | hy
    · exact (hi y hy).grown h (by decide) hg
    · rw [List.mem_singleton] at hy
      subst hy
      exact hx.grown h (by decide) hg
theorem TextsIs.open_ (h : TextsIs W base (.slice A n c) L) : n = L.length ∧ ∃ ps : List Piece, ps.map txt = L ∧ ps.length = n ∧ W.ownsRow base 26 1 (.slice A n c) n (pcs ps) ∧ ∀ p ∈ ps, OwnP W base p := by
  obtain ⟨A', c', ps, e, hl, h, ho⟩ := h
  injection e with e1 e2 e3
  subst e1 e2 e3
  exact ⟨rfl, ps, hl, by rw [← hl, List.length_map], h, ho⟩
end
theorem joinP_txt (ps : List Piece) : joinP ps = (ps.map txt).flatten := rfl
end Go.Proofs.YtnghneoggiolgaaDoor
