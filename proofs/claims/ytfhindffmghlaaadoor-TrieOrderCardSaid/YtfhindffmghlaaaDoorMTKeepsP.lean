/- What is deleted from a plain list, and from a trie. No walk. -/
import Derived.Test.YtfhindffmghlaaaDoorMTSameQ
import Derived.Test.YtfhindffmghlaaaDoorMTInL
set_option linter.unusedVariables false
set_option linter.unusedSimpArgs false
namespace Go.Proofs.YtfhindffmghlaaaDoor
open Go.RowKit
/-- A plain list without a key. -/
def goneL (g : List UInt8) (l : List KV) : List KV := l.filter fun x => !(x.1 == g)
theorem gone_nil (g : List UInt8) : goneL g [] = [] := rfl
theorem gone_cons (g : List UInt8) (x : KV) (l : List KV) : goneL g (x :: l) = if x.1 = g then goneL g l else x :: goneL g l := by
  unfold goneL
  rw [List.filter_cons]
  by_cases h : x.1 = g
  · rw [if_pos h, if_neg (by simp [h])]
  · rw [if_neg h, if_pos (by simp [h])]
theorem gone_mem {g : List UInt8} {l : List KV} {x : KV} (h : x ∈ goneL g l) : x ∈ l ∧ x.1 ≠ g := by
  unfold goneL at h
  rw [List.mem_filter] at h
  exact ⟨h.1, by simpa using h.2⟩
theorem gone_rising {g : List UInt8} : ∀ {l : List KV}, Rising l → Rising (goneL g l)
  | [], _ => trivial
  | q :: r, ⟨h1, h2⟩ => by
    rw [gone_cons]
    split
    · exact gone_rising h2
    · exact ⟨fun x hx => h1 x (gone_mem hx).1, gone_rising h2⟩
theorem gone_get (g k : List UInt8) : ∀ l : List KV, getL k (goneL g l) = if k = g then [] else getL k l
  | [] => by simp [gone_nil, getL]
  | q :: r => by
    rw [gone_cons]
    have ih := gone_get g k r
    by_cases hq : q.1 = g
    · rw [if_pos hq, ih]
      by_cases hk : k = g
      · rw [if_pos hk, if_pos hk]
      · rw [if_neg hk, if_neg hk, getL, if_neg (fun e => hk (e.symm.trans hq))]
    · rw [if_neg hq]
      unfold getL
      by_cases hk : k = g
      · rw [if_pos hk] at ih ⊢
        rw [if_neg (fun e => hq (e.trans hk)), ih]
      · rw [if_neg hk] at ih ⊢
        rw [ih]
theorem gone_out {g : List UInt8} : ∀ {l : List KV}, (∀ x ∈ l, x.1 ≠ g) → goneL g l = l
  | [], _ => rfl
  | q :: r, h => by
    rw [gone_cons, if_neg (h q List.mem_cons_self), gone_out fun x hx => h x (List.mem_cons_of_mem _ hx)]
theorem gone_same {g : List UInt8} {l : List KV} (hv : ∀ x ∈ l, x.2 ≠ []) (hg : getL g l = []) : goneL g l = l := gone_out fun x hx e => by
  induction l with
  | nil => exact List.not_mem_nil hx
  | cons q r ih =>
    unfold getL at hg
    by_cases hq : q.1 = g
    · rw [if_pos hq] at hg
      exact hv q List.mem_cons_self hg
    · rw [if_neg hq] at hg
      rcases List.mem_cons.1 hx with rfl | hx
      · exact hq e
      · exact ih (fun x hx => hv x (List.mem_cons_of_mem _ hx)) hg hx
theorem gone_len {g : List UInt8} : ∀ {l : List KV}, Rising l → getL g l ≠ [] → (goneL g l).length + 1 = l.length
  | [], _, h => by simp [getL] at h
  | q :: r, ⟨h1, h2⟩, h => by
    rw [gone_cons]
    unfold getL at h
    by_cases hq : q.1 = g
    · rw [if_pos hq, gone_out, List.length_cons]
      intro x hx e
      have := h1 x hx
      rw [hq, e, less_irrefl] at this
      cases this
    · rw [if_neg hq] at h ⊢
      rw [List.length_cons, List.length_cons, gone_len h2 h]
/-- A trie without a key is alike to the list without it. -/
theorem alike_del {out : List KV} {s : Tr × Nat} (h : Alike out s) (g : List UInt8) : Alike (goneL g out) (delP s.1 g, delN s.1 s.2 g) := by
  by_cases hg : getT s.1 g = []
  · rw [show delP s.1 g = s.1 by unfold delP; rw [if_pos hg], show delN s.1 s.2 g = s.2 by unfold delN; rw [if_pos hg], gone_same (fun x hx => (h.full x hx).1) (by rw [← h.get]; exact hg)]
    exact h
  · rw [show delP s.1 g = dropT s.1 (nib g) by unfold delP; rw [if_neg hg], show delN s.1 s.2 g = s.2 - 1 by unfold delN; rw [if_neg hg]]
    have hd := drop_spec (nib g) h.good (nib_nibs g) hg
    refine ⟨gone_rising h.rising, fun x hx => h.full x (gone_mem hx).1, fun k => ?_, ?_, hd.1⟩
    · rw [gone_get, ← h.get k]
      show gT _ (nib k) = if k = g then [] else gT _ (nib k)
      rw [hd.2]
      by_cases hk : k = g
      · rw [if_pos hk, if_pos (by rw [hk])]
      · rw [if_neg hk, if_neg fun e => hk (nib_inj _ _ e)]
    · have := gone_len h.rising (g := g) (by rw [← h.get]; exact hg)
      have := h.size
      simp only
      omega
theorem even_del {t : Tr} (g : List UInt8) (hd : Good t) (h : ∀ path, gT t path ≠ [] → ∃ key, path = nib key) : ∀ path, gT (delP t g) path ≠ [] → ∃ key, path = nib key := fun path hp => by
  unfold delP at hp
  split at hp
  · exact h path hp
  · rename_i hg
    rw [(drop_spec (nib g) hd (nib_nibs g) hg).2] at hp
    split at hp
    · exact absurd rfl hp
    · exact h path hp
theorem gone_get_self (g : List UInt8) (l : List KV) : getL g (goneL g l) = [] := by rw [gone_get, if_pos rfl]
theorem gone_has_self (g : List UInt8) (l : List KV) : hasL g (goneL g l) = false := by
  unfold hasL
  rw [List.any_eq_false]
  intro x hx
  simpa using (gone_mem hx).2
/-- One step of the loop that leaves a key out. -/
def goneR (g : List UInt8) (l : List PairL) : List PairL := l.filter fun x => !(x.1.2.2 == g)
theorem goneR_said (g : List UInt8) (l : List PairL) : (goneR g l).map saidP = goneL g (l.map saidP) := by
  unfold goneR goneL
  rw [List.filter_map]
  rfl
theorem goneR_take {g : List UInt8} {l : List PairL} {k : Nat} (h : k < l.length) : goneR g (l.take (k + 1)) = if l[k].1.2.2 = g then goneR g (l.take k) else goneR g (l.take k) ++ [l[k]] := by
  unfold goneR
  rw [List.take_succ_eq_append_getElem h, List.filter_append]
  by_cases hk : l[k].1.2.2 = g
  · rw [if_pos hk, List.filter_cons, if_neg (by simp [hk]), List.filter_nil, List.append_nil]
  · rw [if_neg hk, List.filter_cons, if_pos (by simp [hk]), List.filter_nil]
end Go.Proofs.YtfhindffmghlaaaDoor
