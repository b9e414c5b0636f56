/- The paths of a trie, in order: they are the plain list. No walk. -/
import Derived.Test.YtfhindffmghlaaaDoorMTSameQ
set_option linter.unusedVariables false
set_option linter.unusedSimpArgs false
namespace Go.Proofs.YtfhindffmghlaaaDoor
open Go.RowKit
/-- Where values lie, with the paths that lead there; pre leads to the trie. -/
def pathsT : Tr → List UInt8 → List KV
  | .nil, _ => []
  | .node p ks v, pre => (if v = [] then [] else [(pre ++ p, v)]) ++ ((List.range 16).map fun i => pathsT (ks i) (pre ++ p ++ [UInt8.ofNat i])).flatten
def pkP (x : KV) : KV := (pairUp x.1, x.2)
theorem paths_node (p : List UInt8) (ks : Nat → Tr) (v pre : List UInt8) : pathsT (.node p ks v) pre = (if v = [] then [] else [(pre ++ p, v)]) ++ ((List.range 16).map fun i => pathsT (ks i) (pre ++ p ++ [UInt8.ofNat i])).flatten := by rw [pathsT]
theorem paths_len : ∀ (t : Tr) (pre : List UInt8), (pathsT t pre).length ≤ cntT t
  | .nil, pre => by simp [pathsT]
  | .node p ks v, pre => by
    rw [paths_node, cnt_node, List.length_append, List.length_flatten, List.map_map]
    have h1 := sum_le_sum (fun i => (pathsT (ks i) (pre ++ p ++ [UInt8.ofNat i])).length) (fun i => cntT (ks i)) (fun i => paths_len (ks i) _) (List.range 16)
    have h2 : (if v = [] then ([] : List KV) else [(pre ++ p, v)]).length ≤ 1 := by split <;> simp
    have h3 : (List.map (List.length ∘ fun i => pathsT (ks i) (pre ++ p ++ [UInt8.ofNat i])) (List.range 16)).sum = (List.map (fun i => (pathsT (ks i) (pre ++ p ++ [UInt8.ofNat i])).length) (List.range 16)).sum := rfl
    omega
theorem paths_mem : ∀ {t : Tr} {pre : List UInt8} {x : KV}, Good t → x ∈ pathsT t pre → ∃ q, x.1 = pre ++ q ∧ gT t q = x.2 ∧ x.2 ≠ []
  | .nil, pre, x, _, h => by simp [pathsT] at h
  | .node p ks v, pre, x, hg, h => by
    rw [paths_node] at h
    rcases List.mem_append.1 h with h | h
    · split at h
      · cases h
      · rename_i hv
        obtain rfl := List.mem_singleton.1 h
        exact ⟨p, rfl, gT_self, hv⟩
    · obtain ⟨L, hL, hx⟩ := List.mem_flatten.1 h
      obtain ⟨i, hi, rfl⟩ := List.mem_map.1 hL
      have hi16 := List.mem_range.1 hi
      obtain ⟨q, h1, h2, h3⟩ := paths_mem (hg.2.2.1 i) hx
      refine ⟨p ++ UInt8.ofNat i :: q, by rw [h1]; simp, ?_, h3⟩
      rw [gT_kid, nat8 hi16]
      exact h2
theorem paths_of : ∀ {t : Tr} {pre q : List UInt8}, Nibs q → gT t q ≠ [] → (pre ++ q, gT t q) ∈ pathsT t pre
  | .nil, pre, q, _, h => absurd (gT_nil q) h
  | .node p ks v, pre, q, hn, h => by
    rw [paths_node]
    rcases way_cases p q with hq | rfl | ⟨x, r, rfl⟩
    · exact absurd (gT_off hq) h
    · rw [gT_self] at h ⊢
      exact List.mem_append.2 (Or.inl (by rw [if_neg h]; exact List.mem_singleton.2 rfl))
    · rw [gT_kid] at h ⊢
      have hx := hn.right.head
      have := paths_of (pre := pre ++ p ++ [UInt8.ofNat x.toNat]) hn.right.tail' h
      refine List.mem_append.2 (Or.inr (List.mem_flatten.2 ⟨_, List.mem_map.2 ⟨x.toNat, List.mem_range.2 hx, rfl⟩, ?_⟩))
      rw [nat8'] at this ⊢
      simpa using this
/- In order. -/
theorem less_app : ∀ (a b c : List UInt8), Op.bytesLess (a ++ b) (a ++ c) = Op.bytesLess b c
  | [], _, _ => rfl
  | x :: a, b, c => by
    rw [List.cons_append, List.cons_append]
    have := less_app a b c
    unfold Op.bytesLess
    rw [this]
    have hx : ¬ x < x := by rw [UInt8.lt_iff_toNat_lt]; omega
    simp only [hx, decide_false, beq_self_eq_true, Bool.true_and, Bool.false_or]
    cases b <;> cases c <;> simp [Op.bytesLess]
theorem less_nil (x : UInt8) (r : List UInt8) : Op.bytesLess [] (x :: r) = true := by simp [Op.bytesLess]
theorem less_cons {x y : UInt8} (h : x < y) (r s : List UInt8) : Op.bytesLess (x :: r) (y :: s) = true := by simp [Op.bytesLess, h]
theorem rising_app : ∀ {a b : List KV}, Rising a → Rising b → (∀ x ∈ a, ∀ y ∈ b, Op.bytesLess x.1 y.1 = true) → Rising (a ++ b)
  | [], _, _, hb, _ => hb
  | x :: a, b, ha, hb, h => ⟨fun y hy => by
      rcases List.mem_append.1 hy with hy | hy
      · exact ha.1 y hy
      · exact h x List.mem_cons_self y hy, rising_app ha.2 hb fun y hy z hz => h y (List.mem_cons_of_mem _ hy) z hz⟩
theorem rising_flat (f : Nat → List KV) (hr : ∀ i, Rising (f i)) (hx : ∀ i j, i < j → j < 16 → ∀ x ∈ f i, ∀ y ∈ f j, Op.bytesLess x.1 y.1 = true) : ∀ n, n ≤ 16 → Rising ((List.range n).map f).flatten
  | 0, _ => trivial
  | n + 1, hn => by
    rw [flat_succ]
    refine rising_app (rising_flat f hr hx n (by omega)) (hr n) fun x hx2 y hy => ?_
    obtain ⟨L, hL, hxl⟩ := List.mem_flatten.1 hx2
    obtain ⟨i, hi, rfl⟩ := List.mem_map.1 hL
    exact hx i n (List.mem_range.1 hi) (by omega) x hxl y hy
theorem paths_rising : ∀ {t : Tr} (pre : List UInt8), Good t → Rising (pathsT t pre)
  | .nil, pre, _ => by rw [pathsT]; trivial
  | .node p ks v, pre, hg => by
    rw [paths_node]
    have hk : ∀ i x, x ∈ pathsT (ks i) (pre ++ p ++ [UInt8.ofNat i]) → ∃ q, x.1 = (pre ++ p) ++ UInt8.ofNat i :: q := fun i x hx => by
      obtain ⟨q, h1, _, _⟩ := paths_mem (hg.2.2.1 i) hx
      exact ⟨q, by rw [h1]; simp⟩
    refine rising_app ?_ (rising_flat _ (fun i => paths_rising _ (hg.2.2.1 i)) (fun i j hij hj x hx y hy => ?_) 16 (Nat.le_refl _)) (fun x hx y hy => ?_)
    · split
      · trivial
      · exact ⟨fun _ h => (List.not_mem_nil h).elim, trivial⟩
    · obtain ⟨q, hq⟩ := hk i x hx
      obtain ⟨r, hr⟩ := hk j y hy
      rw [hq, hr, less_app]
      refine less_cons ?_ _ _
      rw [UInt8.lt_iff_toNat_lt, nat8 (by omega), nat8 hj]
      exact hij
    · split at hx
      · cases hx
      · obtain rfl := List.mem_singleton.1 hx
        obtain ⟨L, hL, hyl⟩ := List.mem_flatten.1 hy
        obtain ⟨i, _, rfl⟩ := List.mem_map.1 hL
        obtain ⟨q, hq⟩ := hk i y hyl
        rw [hq]
        have := less_app (pre ++ p) [] (UInt8.ofNat i :: q)
        rw [List.append_nil] at this
        rw [this]
        exact less_nil _ _
/- Keys out of paths. -/
theorem pairUp_nib : ∀ k : List UInt8, pairUp (nib k) = k
  | [] => rfl
  | x :: k => by
    have h : nib (x :: k) = (x >>> 4) :: (x &&& 15) :: nib k := rfl
    rw [h, pairUp, pairUp_nib k, two_halves]
theorem half_less : ∀ x y : UInt8, (x < y) ↔ (x >>> 4 < y >>> 4 ∨ (x >>> 4 = y >>> 4 ∧ x &&& 15 < y &&& 15)) := by
  intro x y
  have h1 : ∀ z : UInt8, (z >>> 4).toNat = z.toNat / 16 := fun z => by
    rw [UInt8.toNat_shiftRight]
    have : z.toNat >>> ((4 : UInt8).toNat % 8) = z.toNat / 16 := by rw [Nat.shiftRight_eq_div_pow]; rfl
    rw [this]
  have h2 : ∀ z : UInt8, (z &&& 15).toNat = z.toNat % 16 := fun z => by
    rw [UInt8.toNat_and]
    exact Nat.and_two_pow_sub_one_eq_mod z.toNat 4
  rw [UInt8.lt_iff_toNat_lt, UInt8.lt_iff_toNat_lt, UInt8.lt_iff_toNat_lt, ← UInt8.toNat_inj, h1, h1, h2, h2]
  omega
theorem less_nib : ∀ a b : List UInt8, Op.bytesLess (nib a) (nib b) = Op.bytesLess a b
  | [], [] => rfl
  | [], y :: b => by rw [less_nil]; rfl
  | x :: a, [] => rfl
  | x :: a, y :: b => by
    have hx : nib (x :: a) = (x >>> 4) :: (x &&& 15) :: nib a := rfl
    have hy : nib (y :: b) = (y >>> 4) :: (y &&& 15) :: nib b := rfl
    rw [hx, hy, Bool.eq_iff_iff]
    have ih := less_nib a b
    simp only [Op.bytesLess, ih, Bool.or_eq_true, decide_eq_true_eq, Bool.and_eq_true, beq_iff_eq]
    have hl := half_less x y
    have he : x = y ↔ (x >>> 4 = y >>> 4 ∧ x &&& 15 = y &&& 15) := ⟨fun e => by rw [e]; exact ⟨rfl, rfl⟩, fun ⟨e1, e2⟩ => by rw [← two_halves x, e1, e2, two_halves y]⟩
    rw [hl, he]
    constructor
    · rintro (h | ⟨h, h2 | ⟨h2, h3⟩⟩)
      · exact Or.inl (Or.inl h)
      · exact Or.inl (Or.inr ⟨h, h2⟩)
      · exact Or.inr ⟨⟨h, h2⟩, h3⟩
    · rintro ((h | ⟨h, h2⟩) | ⟨⟨h, h2⟩, h3⟩)
      · exact Or.inl h
      · exact Or.inr ⟨h, Or.inl h2⟩
      · exact Or.inr ⟨h, Or.inr ⟨h2, h3⟩⟩
theorem rising_map : ∀ {l : List KV}, Rising l → (∀ x ∈ l, ∃ k, x.1 = nib k) → Rising (l.map pkP)
  | [], _, _ => trivial
  | x :: l, hr, hk => ⟨fun y hy => by
      obtain ⟨z, hz, rfl⟩ := List.mem_map.1 hy
      have h1 := hr.1 z hz
      obtain ⟨k1, e1⟩ := hk x List.mem_cons_self
      obtain ⟨k2, e2⟩ := hk z (List.mem_cons_of_mem _ hz)
      rw [e1, e2, less_nib] at h1
      unfold pkP
      simp only [e1, e2, pairUp_nib]
      exact h1, rising_map hr.2 fun y hy => hk y (List.mem_cons_of_mem _ hy)⟩
theorem getL_mem : ∀ {l : List KV} {k v : List UInt8}, Rising l → (k, v) ∈ l → getL k l = v
  | q :: r, k, v, hr, h => by
    rcases List.mem_cons.1 h with rfl | h
    · unfold getL
      rw [if_pos rfl]
    · have h1 := hr.1 _ h
      unfold getL
      rw [if_neg, getL_mem hr.2 h]
      intro e
      rw [e, less_irrefl] at h1
      cases h1
/-- The pairs of a trie. -/
def keysT (t : Tr) : List KV := (pathsT t []).map pkP
theorem keys_alike {out : List KV} {t : Tr} {n : Nat} (h : Alike out (t, n)) (he : ∀ path, gT t path ≠ [] → ∃ key, path = nib key) : keysT t = out := by
  have hpk : ∀ x ∈ pathsT t [], ∃ k, x.1 = nib k ∧ gT t x.1 = x.2 ∧ x.2 ≠ [] := fun x hx => by
    obtain ⟨q, h1, h2, h3⟩ := paths_mem h.good hx
    rw [List.nil_append] at h1
    rw [h1]
    obtain ⟨k, hk⟩ := he q (by rw [h2]; exact h3)
    exact ⟨k, hk, h2, h3⟩
  have hr : Rising (keysT t) := rising_map (paths_rising [] h.good) fun x hx => by
    obtain ⟨k, hk, _⟩ := hpk x hx
    exact ⟨k, hk⟩
  have hv : ∀ x ∈ keysT t, x.2 ≠ [] ∧ gT t (nib x.1) = x.2 := fun x hx => by
    obtain ⟨y, hy, rfl⟩ := List.mem_map.1 hx
    obtain ⟨k, hk, h2, h3⟩ := hpk y hy
    unfold pkP
    rw [hk] at h2 ⊢
    simp only [pairUp_nib]
    exact ⟨h3, h2⟩
  refine rising_ext hr h.rising (fun x hx => (hv x hx).1) (fun x hx => (h.full x hx).1) fun k => ?_
  rw [← h.get k]
  show getL k (keysT t) = gT t (nib k)
  by_cases hk : gT t (nib k) = []
  · rw [hk]
    refine get_out fun x hx e => ?_
    have := hv x hx
    rw [e, hk] at this
    exact this.1 this.2.symm
  · refine getL_mem hr (List.mem_map.2 ⟨(nib k, gT t (nib k)), ?_, ?_⟩)
    · have := paths_of (pre := []) (nib_nibs k) hk
      rwa [List.nil_append] at this
    · unfold pkP
      simp only [pairUp_nib]
end Go.Proofs.YtfhindffmghlaaaDoor
