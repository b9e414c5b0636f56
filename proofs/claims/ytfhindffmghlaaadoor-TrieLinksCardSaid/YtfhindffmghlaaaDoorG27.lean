/- The plain list: what a trie of puts holds. -/
import Derived.Test.YtfhindffmghlaaaDoorG26
import Derived.Test.YtfhindffmghlaaaDoorG16
set_option linter.unusedVariables false
set_option linter.unusedSimpArgs false
namespace Go.Proofs.YtfhindffmghlaaaDoor
open Go.RowKit
theorem less_irrefl : ∀ a : List UInt8, Op.bytesLess a a = false
  | [] => rfl
  | x :: a => by
    unfold Op.bytesLess
    rw [less_irrefl a]
    simp
theorem less_trans : ∀ a b c : List UInt8, Op.bytesLess a b = true → Op.bytesLess b c = true → Op.bytesLess a c = true
  | _, [], _, h, _ => by simp [Op.bytesLess] at h
  | _, _ :: _, [], _, h => by simp [Op.bytesLess] at h
  | [], _ :: _, _ :: _, _, _ => by simp [Op.bytesLess]
  | x :: a, y :: b, z :: c, h1, h2 => by
    simp only [Op.bytesLess, Bool.or_eq_true, decide_eq_true_eq, Bool.and_eq_true, beq_iff_eq] at h1 h2 ⊢
    rcases h1 with h1 | ⟨rfl, h1⟩
    · rcases h2 with h2 | ⟨rfl, h2⟩
      · exact Or.inl (UInt8.lt_trans h1 h2)
      · exact Or.inl h1
    · rcases h2 with h2 | ⟨rfl, h2⟩
      · exact Or.inl h2
      · exact Or.inr ⟨rfl, less_trans a b c h1 h2⟩
theorem less_tri : ∀ a b : List UInt8, Op.bytesLess a b = false → a ≠ b → Op.bytesLess b a = true
  | [], [], _, h => absurd rfl h
  | _ :: _, [], _, _ => by simp [Op.bytesLess]
  | [], _ :: _, h, _ => by simp [Op.bytesLess] at h
  | x :: a, y :: b, h1, h2 => by
    simp only [Op.bytesLess, Bool.or_eq_false_iff, decide_eq_false_iff_not, Bool.and_eq_false_iff, beq_eq_false_iff_ne] at h1
    simp only [Op.bytesLess, Bool.or_eq_true, decide_eq_true_eq, Bool.and_eq_true, beq_iff_eq]
    obtain ⟨h3, h4⟩ := h1
    by_cases hxy : x = y
    · subst hxy
      refine Or.inr ⟨rfl, less_tri a b ?_ (fun e => h2 (by rw [e]))⟩
      rcases h4 with h4 | h4
      · exact absurd rfl h4
      · exact h4
    · refine Or.inl ?_
      rw [UInt8.lt_iff_toNat_lt] at h3 ⊢
      have : x.toNat ≠ y.toNat := fun e => hxy (UInt8.toNat_inj.1 e)
      omega
theorem two_halves : ∀ x : UInt8, (x >>> 4) <<< 4 ||| (x &&& 15) = x := by
  have : ∀ n : Fin 256, (UInt8.ofNat n.val >>> 4) <<< 4 ||| (UInt8.ofNat n.val &&& 15) = UInt8.ofNat n.val := by decide +kernel
  intro x
  have h := this ⟨x.toNat, x.toNat_lt⟩
  simpa using h
theorem nib_inj : ∀ a b : List UInt8, nib a = nib b → a = b
  | [], [], _ => rfl
  | [], _ :: _, h => by simp [nib] at h
  | _ :: _, [], h => by simp [nib] at h
  | x :: a, y :: b, h => by
    have h' : x >>> 4 = y >>> 4 ∧ x &&& 15 = y &&& 15 ∧ nib a = nib b := by simpa [nib] using h
    obtain ⟨h1, h2, h3⟩ := h'
    rw [nib_inj a b h3, ← two_halves x, h1, h2, two_halves y]
abbrev KV := List UInt8 × List UInt8
def insL (p : KV) : List KV → List KV
  | [] => [p]
  | q :: r => if Op.bytesLess q.1 p.1 = true then q :: insL p r else if q.1 = p.1 then p :: r else p :: q :: r
def stepL (out : List KV) (p : KV) : List KV := if 64 < p.1.length ∨ p.2 = [] then out else insL p out
def plainL (l : List KV) : List KV := l.foldl stepL []
def getL (k : List UInt8) : List KV → List UInt8
  | [] => []
  | q :: r => if q.1 = k then q.2 else getL k r
def Rising : List KV → Prop
  | [] => True
  | q :: r => (∀ x ∈ r, Op.bytesLess q.1 x.1 = true) ∧ Rising r
theorem ins_mem {p x : KV} : ∀ {l : List KV}, x ∈ insL p l → x = p ∨ x ∈ l
  | [], h => by simp [insL] at h; exact Or.inl h
  | q :: r, h => by
    unfold insL at h
    split at h
    · rcases List.mem_cons.1 h with rfl | h
      · exact Or.inr List.mem_cons_self
      · rcases ins_mem h with rfl | h
        · exact Or.inl rfl
        · exact Or.inr (List.mem_cons_of_mem _ h)
    · split at h
      · rcases List.mem_cons.1 h with rfl | h
        · exact Or.inl rfl
        · exact Or.inr (List.mem_cons_of_mem _ h)
      · rcases List.mem_cons.1 h with rfl | h
        · exact Or.inl rfl
        · exact Or.inr h
theorem ins_rising {p : KV} : ∀ {l : List KV}, Rising l → Rising (insL p l)
  | [], _ => ⟨fun _ h => (List.not_mem_nil h).elim, trivial⟩
  | q :: r, ⟨h1, h2⟩ => by
    unfold insL
    split
    · rename_i hq
      refine ⟨fun x hx => ?_, ins_rising h2⟩
      rcases ins_mem hx with rfl | hx
      · exact hq
      · exact h1 x hx
    · rename_i hq
      split
      · rename_i he
        exact ⟨fun x hx => by rw [← he]; exact h1 x hx, h2⟩
      · rename_i he
        have hpq := less_tri q.1 p.1 (by simpa using hq) he
        refine ⟨fun x hx => ?_, h1, h2⟩
        rcases List.mem_cons.1 hx with rfl | hx
        · exact hpq
        · exact less_trans _ _ _ hpq (h1 x hx)
theorem get_out {k : List UInt8} : ∀ {l : List KV}, (∀ x ∈ l, x.1 ≠ k) → getL k l = []
  | [], _ => rfl
  | q :: r, h => by
    unfold getL
    rw [if_neg (h q List.mem_cons_self)]
    exact get_out fun x hx => h x (List.mem_cons_of_mem _ hx)
theorem get_ins {p : KV} {k : List UInt8} : ∀ {l : List KV}, Rising l → getL k (insL p l) = if k = p.1 then p.2 else getL k l
  | [], _ => by
    unfold insL getL
    by_cases h : p.1 = k
    · rw [if_pos h, if_pos h.symm]
    · rw [if_neg h, if_neg (fun e => h e.symm)]
      rfl
  | q :: r, ⟨h1, h2⟩ => by
    unfold insL
    by_cases hq : Op.bytesLess q.1 p.1 = true
    · rw [if_pos hq]
      unfold getL
      by_cases hk : q.1 = k
      · rw [if_pos hk, if_pos hk, if_neg]
        rintro rfl
        rw [hk, less_irrefl] at hq
        cases hq
      · rw [if_neg hk, if_neg hk]
        exact get_ins h2
    · rw [if_neg hq]
      by_cases he : q.1 = p.1
      · rw [if_pos he]
        unfold getL
        by_cases hk : p.1 = k
        · rw [if_pos hk, if_pos hk.symm]
        · rw [if_neg hk, if_neg (fun e => hk e.symm), if_neg (by rw [he]; exact hk)]
      · rw [if_neg he]
        conv => lhs; unfold getL
        by_cases hk : p.1 = k
        · rw [if_pos hk, if_pos hk.symm]
        · rw [if_neg hk, if_neg (fun e => hk e.symm)]
theorem ins_length {p : KV} : ∀ {l : List KV}, Rising l → (∀ x ∈ l, x.2 ≠ []) → (insL p l).length = if getL p.1 l = [] then l.length + 1 else l.length
  | [], _, _ => by simp [insL, getL]
  | q :: r, ⟨h1, h2⟩, hv => by
    unfold insL
    by_cases hq : Op.bytesLess q.1 p.1 = true
    · rw [if_pos hq]
      have hk : q.1 ≠ p.1 := by
        intro e
        rw [e, less_irrefl] at hq
        cases hq
      unfold getL
      rw [if_neg hk, List.length_cons, ins_length h2 fun x hx => hv x (List.mem_cons_of_mem _ hx)]
      split <;> simp
    · rw [if_neg hq]
      by_cases he : q.1 = p.1
      · rw [if_pos he]
        unfold getL
        rw [if_pos he, if_neg (hv q List.mem_cons_self)]
        rfl
      · rw [if_neg he]
        have hpq := less_tri q.1 p.1 (by simpa using hq) he
        unfold getL
        rw [if_neg he, get_out, if_pos rfl]
        · rfl
        · intro x hx e
          have := less_trans _ _ _ hpq (h1 x hx)
          rw [e, less_irrefl] at this
          cases this
/-- A plain list and a trie hold the same. -/
structure Alike (out : List KV) (s : Tr × Nat) : Prop where
  rising : Rising out
  full : ∀ x ∈ out, x.2 ≠ [] ∧ x.1.length ≤ 64
  get : ∀ k, getT s.1 k = getL k out
  size : s.2 = out.length
  good : Good s.1
theorem alike_nil : Alike [] (.nil, 0) := ⟨trivial, fun _ h => (List.not_mem_nil h).elim, fun _ => gT_nil _, rfl, trivial⟩
theorem putE_zero (key value : List UInt8) : putE key value = 0 ↔ ¬ (64 < key.length ∨ value = []) := by
  unfold putE
  split
  · simp; omega
  · split <;> simp_all
theorem alike_step {out : List KV} {s : Tr × Nat} (h : Alike out s) (p : KV) : Alike (stepL out p) (stepP s p) := by
  by_cases hp : 64 < p.1.length ∨ p.2 = []
  · have e0 : putE p.1 p.2 ≠ 0 := fun e => (putE_zero _ _).1 e hp
    have e1 : stepL out p = out := by unfold stepL; rw [if_pos hp]
    have e2 : stepP s p = s := by unfold stepP putP putN; rw [if_neg e0, if_neg e0]
    rw [e1, e2]
    exact h
  · have e0 := (putE_zero _ _).2 hp
    have e1 : stepL out p = insL p out := by unfold stepL; rw [if_neg hp]
    have e2 : stepP s p = (putT s.1 (nib p.1) p.2, if getT s.1 p.1 = [] then s.2 + 1 else s.2) := by unfold stepP putP putN; rw [if_pos e0, if_pos e0]
    rw [e1, e2]
    have hv : p.2 ≠ [] := fun e => hp (Or.inr e)
    refine ⟨ins_rising h.rising, fun x hx => ?_, fun k => ?_, ?_, good_put _ h.good (nib_nibs _) hv⟩
    · rcases ins_mem hx with rfl | hx
      · exact ⟨hv, by omega⟩
      · exact h.full x hx
    · rw [get_ins h.rising, ← h.get k]
      show gT _ (nib k) = if k = p.1 then p.2 else gT _ (nib k)
      rw [gT_put]
      by_cases hk : k = p.1
      · rw [if_pos hk, if_pos (by rw [hk])]
      · rw [if_neg hk, if_neg fun e => hk (nib_inj _ _ e)]
    · rw [ins_length h.rising fun x hx => (h.full x hx).1, ← h.get, h.size]
theorem alike_laid (l : List KV) : Alike (plainL l) (laidS l) := by
  unfold plainL laidS
  have : ∀ (l : List KV) (out : List KV) (s : Tr × Nat), Alike out s → Alike (l.foldl stepL out) (l.foldl stepP s) := by
    intro l
    induction l with
    | nil => exact fun _ _ h => h
    | cons p l ih => exact fun out s h => ih _ _ (alike_step h p)
  exact this l _ _ alike_nil
end Go.Proofs.YtfhindffmghlaaaDoor
/- Where a pair goes in a plain list. -/
namespace Go.Proofs.YtfhindffmghlaaaDoor
open Go.RowKit
theorem ins_at (p : KV) : ∀ (out : List KV) (n : Nat), n ≤ out.length → (∀ i (h : i < out.length), i < n → Op.bytesLess out[i].1 p.1 = true) → (∀ h : n < out.length, Op.bytesLess out[n].1 p.1 = false) →
    insL p out = if ∃ h : n < out.length, out[n].1 = p.1 then out.set n p else out.take n ++ p :: out.drop n
  | [], n, h0, _, _ => by
    obtain rfl : n = 0 := by simpa using h0
    rw [if_neg (by rintro ⟨h, _⟩; simp at h)]
    rfl
  | q :: r, 0, _, _, h2 => by
    have hq : Op.bytesLess q.1 p.1 = false := h2 (by simp)
    unfold insL
    rw [if_neg (by rw [hq]; simp)]
    by_cases he : q.1 = p.1
    · rw [if_pos he, if_pos ⟨by simp, he⟩]
      rfl
    · rw [if_neg he, if_neg (by rintro ⟨_, h⟩; exact he h)]
      rfl
  | q :: r, n + 1, h0, h1, h2 => by
    have hq : Op.bytesLess q.1 p.1 = true := h1 0 (by simp) (by omega)
    unfold insL
    rw [if_pos hq, ins_at p r n (by simpa using h0) (fun i h hi => h1 (i + 1) (by simpa using h) (by omega)) (fun h => h2 (by simpa using h))]
    by_cases he : ∃ h : n < r.length, r[n].1 = p.1
    · obtain ⟨h, h'⟩ := he
      rw [if_pos ⟨h, h'⟩, if_pos ⟨by simpa using h, h'⟩]
      rfl
    · rw [if_neg he, if_neg]
      · rfl
      · rintro ⟨h, h'⟩
        exact he ⟨by simpa using h, h'⟩
/-- The cells of a row of pairs. -/
def flatP (l : List PairL) : List Value := l.flatMap pairC
theorem flatP_length (l : List PairL) : (flatP l).length = l.length * 2 := by
  induction l with
  | nil => rfl
  | cons x r ih =>
    have : flatP (x :: r) = pairC x ++ flatP r := rfl
    rw [this, List.length_append, ih]
    simp [pairC]
    omega
theorem flatP_append (a b : List PairL) : flatP (a ++ b) = flatP a ++ flatP b := by unfold flatP; rw [List.flatMap_append]
theorem flatP_get : ∀ (l : List PairL) (j i : Nat) (h : j < l.length), i < 2 → (flatP l)[j * 2 + i]? = (pairC l[j])[i]?
  | x :: r, 0, i, _, hi => by
    have : flatP (x :: r) = pairC x ++ flatP r := rfl
    rw [this, Nat.zero_mul, Nat.zero_add, List.getElem?_append_left (by simpa [pairC] using hi)]
    rfl
  | x :: r, j + 1, i, h, hi => by
    have : flatP (x :: r) = pairC x ++ flatP r := rfl
    rw [this, List.getElem?_append_right (by simp [pairC]; omega), show (j + 1) * 2 + i - (pairC x).length = j * 2 + i by simp [pairC]; omega, flatP_get r j i (by simpa using h) hi]
    rfl
  | [], _, _, h, _ => by simp at h
theorem flatP_set : ∀ (l : List PairL) (j : Nat) (x : PairL), flatP (l.set j x) = if j < l.length then ((flatP l).set (j * 2) (pcV x.1)).set (j * 2 + 1) (pcV x.2) else flatP l
  | [], j, x => by simp
  | y :: r, 0, x => by
    rw [if_pos (by simp)]
    rfl
  | y :: r, j + 1, x => by
    have e1 : flatP ((y :: r).set (j + 1) x) = pcV y.1 :: pcV y.2 :: flatP (r.set j x) := rfl
    have e2 : flatP (y :: r) = pcV y.1 :: pcV y.2 :: flatP r := rfl
    rw [e1, e2, flatP_set r j x]
    have e3 : (j + 1) * 2 = j * 2 + 1 + 1 := by omega
    rw [e3]
    by_cases h : j < r.length
    · rw [if_pos h, if_pos (by simpa using h)]
      rfl
    · rw [if_neg h, if_neg (by simpa using h)]
/-- A row of pairs of the call's own. -/
abbrev RowP (w : World) (base : Nat) (A : Option Addr) (c : Nat) (l : List PairL) : Prop := w.ownsRow base 40 2 (.slice A l.length c) l.length (flatP l)
theorem infoPair : (Tryd.prog.info? 40).map (fun i => (i.zero, i.size, i.bytes)) = some (some (.agg #[.slice none 0 0, .slice none 0 0]), 2, 48) := by kernel_rfl
theorem elPair : Elem Tryd.prog 34 40 2 48 := Elem.mk' Tryd.underlying34 infoPair rfl (by decide)
theorem RowP.at_ {w : World} {base c : Nat} {A : Option Addr} {l : List PairL} (h : RowP w base A c l) : PairsAt w w.heap.size A l := fun j hj => by
  obtain ⟨g, rfl, hg, hlt, hn, hc⟩ := own_form h (by omega)
  refine ⟨_, rfl, hlt, fun i hi => ?_⟩
  obtain ⟨h1, h2⟩ := h
  rcases h2 with ⟨h2, h3⟩ | ⟨g', cap, cur, hv, hg', hh, hnc, hcm, hcs, htake⟩
  · cases h2
  · injection hv with e1 e2 e3
    injection e1 with e1
    injection e1 with e1
    subst e1 e3
    rw [addr_add, Nat.zero_add, Blk.cell hh, ← flatP_get l j i hj hi, ← htake, List.getElem?_take, if_pos (by omega), Array.getElem?_toList]
end Go.Proofs.YtfhindffmghlaaaDoor
