/- Many loans beside one another: the slice of loans, the slice of what is handed. -/
import Derived.Test.YtfidjeoeaeghhaaDoorSpLend
import Derived.Test.YtfidjeoeaeghhaaDoorSpCut
namespace Go.Proofs.YtfidjeoeaeghhaaDoor
open Go.RowKit
theorem own_grown {w w' : World} {base : Nat} {e : TypeId} {size n : Nat} {v : Value} {xs : List Value} {row : Option Nat} (h : w.ownsRow base e size v n xs) (hg : w.grownBy w' row) (hne : ∀ q, v.ownBlock = some q → row ≠ some q) : w'.ownsRow base e size v n xs := by
  have hlt := h.lt
  obtain ⟨h1, h2⟩ := h
  refine ⟨h1, ?_⟩
  rcases h2 with h2 | ⟨g', cap, cur, rfl, hg', hh, r⟩
  · exact .inl h2
  · exact .inr ⟨g', cap, cur, rfl, hg', (hg.block g' (hlt g' rfl).2 (fun e => hne g' rfl e.symm)).trans hh, r⟩
def lb (ps : List Piece) (i : Nat) : List UInt8 := (ps.getD i (none, 0, [])).2.2
theorem lb_get (ps : List Piece) (i : Nat) (h : i < ps.length) : lb ps i = ps[i].2.2 := by unfold lb; rw [List.getD_eq_getElem?_getD, List.getElem?_eq_getElem h]; rfl
def fullT (ps : List Piece) (i : Nat) : List UInt8 := lb ps i ++ marksL (UInt8.ofNat i) 40
theorem fullT_length (ps : List Piece) (i : Nat) : (fullT ps i).length = (lb ps i).length + 40 := by unfold fullT; rw [List.length_append, marksL_length]
def handL (γ κ : Nat → Nat) (F : Nat → List UInt8) (k : Nat) : List Piece := (List.range k).map fun i => (some ⟨γ i, 0, none⟩, κ i, F i)
theorem handL_length (γ κ : Nat → Nat) (F : Nat → List UInt8) (k : Nat) : (handL γ κ F k).length = k := by simp [handL]
theorem handL_succ (γ κ : Nat → Nat) (F : Nat → List UInt8) (k g c : Nat) : handL (extG γ k g) (extG κ k c) F (k + 1) = handL γ κ F k ++ [(some ⟨g, 0, none⟩, c, F k)] := by
  unfold handL
  rw [List.range_succ, List.map_append]
  congr 1
  · refine List.map_congr_left fun i hi => ?_
    rw [extG_ne (by simpa using hi), extG_ne (by simpa using hi)]
  · simp [extG_at]
theorem handL_get (γ κ : Nat → Nat) (F : Nat → List UInt8) (k i : Nat) (h : i < k) : (pcs (handL γ κ F k))[i]? = some (.slice (some ⟨γ i, 0, none⟩) (F i).length (κ i)) := by
  unfold pcs handL
  rw [List.getElem?_map, List.getElem?_map, List.getElem?_range h]
  rfl
theorem handL_pcs (γ κ : Nat → Nat) (F G : Nat → List UInt8) (k : Nat) (h : ∀ i, i < k → (F i).length = (G i).length) : pcs (handL γ κ F k) = pcs (handL γ κ G k) := by
  unfold pcs handL
  rw [List.map_map, List.map_map]
  refine List.map_congr_left fun i hi => ?_
  simp only [Function.comp, pcV]
  rw [h i (by simpa using hi)]
theorem handL_mem {γ κ : Nat → Nat} {F : Nat → List UInt8} {k : Nat} {p : Piece} (h : p ∈ handL γ κ F k) : ∃ i, i < k ∧ p = (some ⟨γ i, 0, none⟩, κ i, F i) := by
  unfold handL at h
  obtain ⟨i, hi, rfl⟩ := List.mem_map.1 h
  exact ⟨i, by simpa using hi, rfl⟩
theorem handL_join (γ κ : Nat → Nat) (F : Nat → List UInt8) (k : Nat) : joinP (handL γ κ F k) = ((List.range k).map F).flatten := by
  unfold joinP handL
  rw [List.map_map]
  rfl
theorem lb_join (ps : List Piece) : ((List.range ps.length).map (lb ps)).flatten = joinP ps := by
  unfold joinP
  congr 1
  refine List.ext_getElem (by simp) fun i h1 h2 => ?_
  simp only [List.getElem_map, List.getElem_range]
  exact lb_get ps i (by simpa using h1)
theorem flat_len (F G : Nat → List UInt8) (n : Nat) (h : ∀ i, i < n → (F i).length = (G i).length) : ((List.range n).map F).flatten.length = ((List.range n).map G).flatten.length := by
  rw [List.length_flatten, List.length_flatten, List.map_map, List.map_map]
  congr 1
  exact List.map_congr_left fun i hi => h i (by simpa using hi)
def loanC (γ κ N : Nat → Nat) (k : Nat) : List Value := (List.range k).flatMap fun i => [.slice (some ⟨γ i, 0, none⟩) (N i) (κ i), .slice (some ⟨γ i, 0, none⟩) (N i + 40) (κ i)]
theorem loanC_succ' (γ κ N : Nat → Nat) (k : Nat) : loanC γ κ N (k + 1) = loanC γ κ N k ++ [.slice (some ⟨γ k, 0, none⟩) (N k) (κ k), .slice (some ⟨γ k, 0, none⟩) (N k + 40) (κ k)] := by
  unfold loanC
  rw [List.range_succ, List.flatMap_append]
  simp
theorem loanC_length (γ κ N : Nat → Nat) (k : Nat) : (loanC γ κ N k).length = k * 2 := by
  induction k with
  | zero => rfl
  | succ k ih => rw [loanC_succ', List.length_append, ih]; simp; omega
theorem loanC_succ (γ κ N : Nat → Nat) (k g c : Nat) : loanC (extG γ k g) (extG κ k c) N (k + 1) = loanC γ κ N k ++ [.slice (some ⟨g, 0, none⟩) (N k) c, .slice (some ⟨g, 0, none⟩) (N k + 40) c] := by
  rw [loanC_succ', extG_at, extG_at]
  congr 1
  unfold loanC
  rw [List.flatMap_def, List.flatMap_def]
  congr 1
  refine List.map_congr_left fun i hi => ?_
  rw [extG_ne (by simpa using hi), extG_ne (by simpa using hi)]
theorem loanC_get (γ κ N : Nat → Nat) (k i : Nat) (h : i < k) : (loanC γ κ N k)[i * 2]? = some (.slice (some ⟨γ i, 0, none⟩) (N i) (κ i)) ∧ (loanC γ κ N k)[i * 2 + 1]? = some (.slice (some ⟨γ i, 0, none⟩) (N i + 40) (κ i)) := by
  induction k with
  | zero => omega
  | succ k ih =>
    rw [loanC_succ']
    by_cases e : i = k
    · subst e
      rw [List.getElem?_append_right (by rw [loanC_length]; omega), List.getElem?_append_right (by rw [loanC_length]; omega), loanC_length]
      rw [Nat.sub_self, Nat.add_sub_cancel_left]
      exact ⟨rfl, rfl⟩
    · rw [List.getElem?_append_left (by rw [loanC_length]; omega), List.getElem?_append_left (by rw [loanC_length]; omega)]
      exact ih (by omega)
theorem infoLoan : (Tryd.prog.info? 37).map (fun i => (i.zero, i.size, i.bytes)) = some (some (.agg #[.slice none 0 0, .slice none 0 0]), 2, 48) := by kernel_rfl
theorem elLoan : Elem Tryd.prog 47 37 2 48 := Elem.mk' Tryd.underlying47 infoLoan rfl (by decide)
structure Loans (w0 w : World) (N : Nat → Nat) (F : Nat → List UInt8) (G : Nat → List UInt8) (γ κ : Nat → Nat) (k : Nat) (A3 : Option Addr) (c3 : Nat) (A4 : Option Addr) (c4 : Nat) : Prop where
  below : Below w0.heap.size w0 w
  row : ∀ i, i < k → w.ownsRow w0.heap.size 5 1 (.slice (some ⟨γ i, 0, none⟩) (N i + 40) (κ i)) (N i + 40) (bytes (F i))
  lent : w.ownsRow w0.heap.size 37 2 (.slice A3 k c3) k (loanC γ κ N k)
  handed : w.ownsRow w0.heap.size 32 1 (.slice A4 k c4) k (pcs (handL γ κ G k))
  ap : ∀ i j, i < k → j < k → γ i = γ j → i = j
  apL : ∀ i, i < k → (Value.slice A3 k c3).ownBlock ≠ some (γ i)
  apH : ∀ i, i < k → (Value.slice A4 k c4).ownBlock ≠ some (γ i)
  apLH : ∀ q, (Value.slice A3 k c3).ownBlock = some q → (Value.slice A4 k c4).ownBlock ≠ some q
theorem ownBlock_len {A : Option Addr} {n m c d : Nat} : (Value.slice A n c).ownBlock = (Value.slice A m d).ownBlock := by cases A <;> rfl
theorem Loans.lt {w0 w : World} {N : Nat → Nat} {F G : Nat → List UInt8} {γ κ : Nat → Nat} {k : Nat} {A3 : Option Addr} {c3 : Nat} {A4 : Option Addr} {c4 : Nat} (h : Loans w0 w N F G γ κ k A3 c3 A4 c4) (i : Nat) (hi : i < k) : w0.heap.size ≤ γ i ∧ γ i < w.heap.size := (h.row i hi).lt (γ i) rfl
theorem Loans.handedAt {w0 w w2 w3 : World} {N : Nat → Nat} {F G : Nat → List UInt8} {γ κ : Nat → Nat} {k : Nat} {A3 : Option Addr} {c3 : Nat} {A4 : Option Addr} {c4 : Nat} (h : Loans w0 w N F G γ κ k A3 c3 A4 c4) (hb2 : Below w.heap.size w w2) (hg3 : w2.grownBy w3 (Value.slice A3 k c3).ownBlock) :
    w3.ownsRow w0.heap.size 32 1 (.slice A4 k c4) k (pcs (handL γ κ G k)) :=
  own_grown (own_below' h.handed hb2) hg3 fun q hq e => h.apLH q e hq
theorem Loans.step {w0 w w1 w2 w3 w4 w5 : World} {N : Nat → Nat} {F G : Nat → List UInt8} {γ κ : Nat → Nat} {k g κg : Nat} {A3 : Option Addr} {c3 : Nat} {A4 : Option Addr} {c4 : Nat} {A3' : Option Addr} {c3' : Nat} {A4' : Option Addr} {c4' : Nat} (h : Loans w0 w N F G γ κ k A3 c3 A4 c4)
    (hb1 : Below w.heap.size w w1) (hr : w1.ownsRow w.heap.size 5 1 (.slice (some ⟨g, 0, none⟩) (N k + 40) κg) (N k + 40) (bytes (F k))) (hb2 : Below w1.heap.size w1 w2) (hg3 : w2.grownBy w3 (Value.slice A3 k c3).ownBlock)
    (ho3 : w3.ownsRow w0.heap.size 37 2 (.slice A3' (k + 1) c3') (k + 1) (loanC γ κ N k ++ [.slice (some ⟨g, 0, none⟩) (N k) κg, .slice (some ⟨g, 0, none⟩) (N k + 40) κg]))
    (hf3 : (Value.slice A3' (k + 1) c3').ownBlock = (Value.slice A3 k c3).ownBlock ∨ (Value.slice A3' (k + 1) c3').ownBlock = some w2.heap.size) (hb4 : Below w3.heap.size w3 w4) (hg5 : w4.grownBy w5 (Value.slice A4 k c4).ownBlock)
    (ho5 : w5.ownsRow w0.heap.size 32 1 (.slice A4' (k + 1) c4') (k + 1) (pcs (handL γ κ G k) ++ [.slice (some ⟨g, 0, none⟩) (N k) κg])) (hG : (G k).length = N k)
    (hf5 : (Value.slice A4' (k + 1) c4').ownBlock = (Value.slice A4 k c4).ownBlock ∨ (Value.slice A4' (k + 1) c4').ownBlock = some w4.heap.size) :
    Loans w0 w5 N F G (extG γ k g) (extG κ k κg) (k + 1) A3' c3' A4' c4' := by
  have s0 := h.below.size
  have s1 := hb1.size
  have s2 := hb2.size
  have s3 := hg3.size
  have s4 := hb4.size
  have s5 := hg5.size
  have hgr := hr.lt g rfl
  have hL := h.lent.lt
  have hH := h.handed.lt
  have hL' := ho3.lt
  have hH' := ho5.lt
  have pass : ∀ {e : TypeId} {size n : Nat} {v : Value} {xs : List Value} {base : Nat}, w1.ownsRow base e size v n xs → (∀ q, v.ownBlock = some q → (Value.slice A3 k c3).ownBlock ≠ some q ∧ (Value.slice A4 k c4).ownBlock ≠ some q) → w5.ownsRow base e size v n xs := fun ho hq =>
    own_grown (own_below' (own_grown (own_below' ho hb2) hg3 fun q e => (hq q e).1) hb4) hg5 fun q e => (hq q e).2
  have notL : ∀ q, w.heap.size ≤ q → (Value.slice A3 k c3).ownBlock ≠ some q := fun q hq e => by have := hL q e; omega
  have notH : ∀ q, w.heap.size ≤ q → (Value.slice A4 k c4).ownBlock ≠ some q := fun q hq e => by have := hH q e; omega
  refine ⟨?_, ?_, ?_, ?_, ?_, ?_, ?_, ?_⟩
  · refine ((((h.below.trans (hb1.mono s0)).trans (hb2.mono (by omega))).grown hg3 (by omega) fun q e => (hL q e).1).trans (hb4.mono (by omega))).grown hg5 (by omega) fun q e => (hH q e).1
  · intro i hi
    by_cases e : i = k
    · subst e
      rw [extG_at, extG_at]
      refine pass (own_mono hr (by omega)) fun q hq => ?_
      injection hq with hq
      subst hq
      exact ⟨notL g hgr.1, notH g hgr.1⟩
    · rw [extG_ne (by omega), extG_ne (by omega)]
      refine pass (own_below' (h.row i (by omega)) hb1) fun q hq => ?_
      injection hq with hq
      subst hq
      exact ⟨h.apL i (by omega), h.apH i (by omega)⟩
  · rw [loanC_succ]
    refine own_grown (own_below' ho3 hb4) hg5 fun q hq e => ?_
    rcases hf3 with hf | hf
    · rw [hf] at hq
      exact h.apLH q hq e
    · rw [hf] at hq
      injection hq with hq
      have := hH q e
      omega
  · rw [handL_succ, ← pcs_snoc]
    have : pcV (some ⟨g, 0, none⟩, κg, G k) = .slice (some ⟨g, 0, none⟩) (N k) κg := by unfold pcV; rw [hG]
    rw [this]
    exact ho5
  · intro i j hi hj e
    by_cases ei : i = k <;> by_cases ej : j = k
    · omega
    · have := h.lt j (by omega)
      rw [ei, extG_at, extG_ne (by omega)] at e
      omega
    · have := h.lt i (by omega)
      rw [ej, extG_at, extG_ne (by omega)] at e
      omega
    · rw [extG_ne (by omega), extG_ne (by omega)] at e
      exact h.ap i j (by omega) (by omega) e
  · intro i hi e
    by_cases ei : i = k
    · rw [ei, extG_at] at e
      rcases hf3 with hf | hf
      · rw [hf] at e; exact notL g hgr.1 e
      · rw [hf] at e; injection e with e; omega
    · have hlt := h.lt i (by omega)
      rw [extG_ne (by omega)] at e
      rcases hf3 with hf | hf
      · rw [hf] at e; exact h.apL i (by omega) e
      · rw [hf] at e; injection e with e; omega
  · intro i hi e
    by_cases ei : i = k
    · rw [ei, extG_at] at e
      rcases hf5 with hf | hf
      · rw [hf] at e; exact notH g hgr.1 e
      · rw [hf] at e; injection e with e; omega
    · have hlt := h.lt i (by omega)
      rw [extG_ne (by omega)] at e
      rcases hf5 with hf | hf
      · rw [hf] at e; exact h.apH i (by omega) e
      · rw [hf] at e; injection e with e; omega
  · intro q hq e
    rcases hf3 with hf | hf <;> rcases hf5 with hf' | hf'
    · rw [hf] at hq; rw [hf'] at e; exact h.apLH q hq e
    · rw [hf] at hq; rw [hf'] at e; injection e with e; have := hL q hq; omega
    · rw [hf] at hq; rw [hf'] at e; injection hq with hq; have := hH q e; omega
    · rw [hf] at hq; rw [hf'] at e; injection hq with hq; injection e with e; have := hL' q (by rw [hf, hq]); omega
end Go.Proofs.YtfidjeoeaeghhaaDoor
