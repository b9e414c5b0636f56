/- One plain list, one trie. No walk. -/
import Derived.Test.YtfhindffmghlaaaDoorMTSameP
import Derived.Test.YtfhindffmghlaaaDoorG27
set_option linter.unusedVariables false
set_option linter.unusedSimpArgs false
namespace Go.Proofs.YtfhindffmghlaaaDoor
open Go.RowKit
theorem even_step {s : Tr × Nat} (p : KV) (h : ∀ path, gT s.1 path ≠ [] → ∃ key, path = nib key) : ∀ path, gT (stepP s p).1 path ≠ [] → ∃ key, path = nib key := fun path hp => by
  unfold stepP putP at hp
  simp only at hp
  split at hp
  · rw [gT_put] at hp
    split at hp
    · rename_i e
      exact ⟨p.1, e⟩
    · exact h path hp
  · exact h path hp
theorem laid_even (l : List KV) : ∀ path, gT (laidS l).1 path ≠ [] → ∃ key, path = nib key := by
  unfold laidS
  have : ∀ (l : List KV) (s : Tr × Nat), (∀ path, gT s.1 path ≠ [] → ∃ key, path = nib key) → ∀ path, gT (l.foldl stepP s).1 path ≠ [] → ∃ key, path = nib key := by
    intro l
    induction l with
    | nil => exact fun _ h => h
    | cons p l ih => exact fun s h => ih _ (even_step p h)
  exact this l (.nil, 0) fun path h => absurd (gT_nil path) h
theorem rising_out {q : KV} {r : List KV} {k : List UInt8} (h : Rising (q :: r)) (hk : Op.bytesLess k q.1 = true) : getL k (q :: r) = [] := get_out fun x hx e => by
  rcases List.mem_cons.1 hx with rfl | hx
  · rw [e, less_irrefl] at hk; cases hk
  · have := less_trans _ _ _ hk (h.1 x hx)
    rw [e, less_irrefl] at this
    cases this
theorem rising_tail {q : KV} {r : List KV} (h : Rising (q :: r)) : getL q.1 r = [] := get_out fun x hx e => by
  have := h.1 x hx
  rw [e, less_irrefl] at this
  cases this
theorem rising_ext : ∀ {a b : List KV}, Rising a → Rising b → (∀ x ∈ a, x.2 ≠ []) → (∀ x ∈ b, x.2 ≠ []) → (∀ k, getL k a = getL k b) → a = b
  | [], [], _, _, _, _, _ => rfl
  | [], q :: r, _, _, _, hb, h => by
    have h1 := h q.1
    unfold getL at h1
    rw [if_pos rfl] at h1
    exact absurd h1.symm (hb q List.mem_cons_self)
  | q :: r, [], _, _, ha, _, h => by
    have h1 := h q.1
    unfold getL at h1
    rw [if_pos rfl] at h1
    exact absurd h1 (ha q List.mem_cons_self)
  | p :: a, q :: b, hra, hrb, ha, hb, h => by
    have hp : getL p.1 (p :: a) = p.2 := by unfold getL; rw [if_pos rfl]
    have hq : getL q.1 (q :: b) = q.2 := by unfold getL; rw [if_pos rfl]
    by_cases he : p.1 = q.1
    · have hv : p.2 = q.2 := by rw [← hp, h p.1, he, hq]
      have hpq : p = q := Prod.ext he hv
      subst hpq
      congr 1
      refine rising_ext hra.2 hrb.2 (fun x hx => ha x (List.mem_cons_of_mem _ hx)) (fun x hx => hb x (List.mem_cons_of_mem _ hx)) fun k => ?_
      by_cases hk : p.1 = k
      · subst hk
        rw [rising_tail hra, rising_tail hrb]
      · have h1 := h k
        unfold getL at h1
        rwa [if_neg hk, if_neg hk] at h1
    · cases hl : Op.bytesLess p.1 q.1 with
      | true =>
        have h1 := h p.1
        rw [hp, rising_out hrb hl] at h1
        exact absurd h1 (ha p List.mem_cons_self)
      | false =>
        have hl2 := less_tri p.1 q.1 hl he
        have h1 := h q.1
        rw [hq, rising_out hra hl2] at h1
        exact absurd h1.symm (hb q List.mem_cons_self)
theorem alike_tree {a b : List KV} {s u : Tr × Nat} (ha : Alike a s) (hb : Alike b u) (hs : ∀ path, gT s.1 path ≠ [] → ∃ key, path = nib key) (hu : ∀ path, gT u.1 path ≠ [] → ∃ key, path = nib key) (h : a = b) : s.1 = u.1 := by
  subst h
  refine good_ext ha.good hb.good fun path _ => ?_
  by_cases hk : ∃ key, path = nib key
  · obtain ⟨key, rfl⟩ := hk
    exact (ha.get key).trans (hb.get key).symm
  · rw [Classical.not_not.1 fun h1 => hk (hs path h1), Classical.not_not.1 fun h1 => hk (hu path h1)]
theorem alike_list {a b : List KV} {s u : Tr × Nat} (ha : Alike a s) (hb : Alike b u) (h : s.1 = u.1) : a = b :=
  rising_ext ha.rising hb.rising (fun x hx => (ha.full x hx).1) (fun x hx => (hb.full x hx).1) fun k => by rw [← ha.get k, ← hb.get k, h]
theorem laid_same (l m : List KV) : plainL l = plainL m ↔ (laidS l).1 = (laidS m).1 :=
  ⟨alike_tree (alike_laid l) (alike_laid m) (laid_even l) (laid_even m), alike_list (alike_laid l) (alike_laid m)⟩
/-- Tries with one root and unlike lists: two unlike nodes with one hash. -/
theorem root_clash {t u : Tr} {M : Nat} (hM : M ≤ 549755813888) (ht : Good t) (hu : Good u) (hbt : Bnd M t) (hbu : Bnd M u) (hne : t ≠ u) {hash : List UInt8 → List UInt8} (hh : ∀ l, (hash l).length = 32) (hr : hash (encT hash t) = hash (encT hash u)) :
    ¬ ∀ x ∈ nodesT hash t, ∀ y ∈ nodesT hash u, hash x = hash y → x = y := fun h => by
  have he := h _ (List.mem_cons_self ..) _ (List.mem_cons_self ..) hr
  exact hne (same_of hh hM t u ht hu hbt hbu (fun x hx y hy => h x (List.mem_cons_of_mem _ hx) y (List.mem_cons_of_mem _ hy)) he)
end Go.Proofs.YtfhindffmghlaaaDoor
