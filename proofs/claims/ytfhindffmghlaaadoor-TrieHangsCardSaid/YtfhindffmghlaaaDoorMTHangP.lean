/- Each text of a trie hangs on one ahead of it; a proof is some of the texts, each hanging on the one ahead. No walk. -/
import Derived.Test.YtfhindffmghlaaaDoorMTSameP
set_option linter.unusedVariables false
set_option linter.unusedSimpArgs false
namespace Go.Proofs.YtfhindffmghlaaaDoor
open It
section
variable {hash : List UInt8 → List UInt8}
/-- Each hangs on the root or on one ahead. -/
def Hangs (hash : List UInt8 → List UInt8) (root : List UInt8) (L : List (List UInt8)) : Prop := ∀ (i : Nat) (x : List UInt8), L[i]? = some x → hash x <:+: root ∨ ∃ j y, j < i ∧ L[j]? = some y ∧ hash x <:+: y
theorem Hangs.nil (root : List UInt8) : Hangs hash root [] := fun i x h => by simp at h
theorem Hangs.mono {r r' : List UInt8} {L : List (List UInt8)} (h : Hangs hash r L) (hr : r <:+: r') : Hangs hash r' L := fun i x hx => (h i x hx).imp (fun h1 => h1.trans hr) id
theorem Hangs.app {r : List UInt8} {A B : List (List UInt8)} (h1 : Hangs hash r A) (h2 : Hangs hash r B) : Hangs hash r (A ++ B) := fun i x hx => by
  rcases Nat.lt_or_ge i A.length with hi | hi
  · rw [List.getElem?_append_left hi] at hx
    rcases h1 i x hx with h | ⟨j, y, hj, hy, h⟩
    · exact Or.inl h
    · exact Or.inr ⟨j, y, hj, by rw [List.getElem?_append_left (by omega)]; exact hy, h⟩
  · rw [List.getElem?_append_right hi] at hx
    rcases h2 _ x hx with h | ⟨j, y, hj, hy, h⟩
    · exact Or.inl h
    · exact Or.inr ⟨A.length + j, y, by omega, by rw [List.getElem?_append_right (by omega), Nat.add_sub_cancel_left]; exact hy, h⟩
theorem Hangs.cons {r x : List UInt8} {L : List (List UInt8)} (hx : hash x <:+: r) (h : Hangs hash x L) : Hangs hash r (x :: L) := fun i u hu => by
  cases i with
  | zero =>
    simp only [List.getElem?_cons_zero, Option.some.injEq] at hu
    subst hu
    exact Or.inl hx
  | succ i =>
    simp only [List.getElem?_cons_succ] at hu
    rcases h i u hu with h | ⟨j, y, hj, hy, h⟩
    · exact Or.inr ⟨0, x, by omega, rfl, h⟩
    · exact Or.inr ⟨j + 1, y, by omega, by simpa using hy, h⟩
theorem Hangs.flat {r : List UInt8} {α : Type} (f : α → List (List UInt8)) : ∀ (l : List α), (∀ a ∈ l, Hangs hash r (f a)) → Hangs hash r (l.map f).flatten
  | [], _ => Hangs.nil r
  | a :: l, h => by
    rw [List.map_cons, List.flatten_cons]
    exact (h a List.mem_cons_self).app (Hangs.flat f l fun b hb => h b (List.mem_cons_of_mem _ hb))
theorem infix_flat {α : Type} {l : List (List α)} {x : List α} (h : x ∈ l) : x <:+: l.flatten := by
  obtain ⟨a, b, rfl⟩ := List.append_of_mem h
  rw [List.flatten_append, List.flatten_cons, ← List.append_assoc]
  exact ⟨_, _, rfl⟩
theorem stands_long (_ : ∀ l, (hash l).length = 32) {b : List UInt8} (h : 32 ≤ b.length) : hash b <:+: stands hash b := by
  unfold stands bytesM
  rw [if_neg (by omega)]
  exact ⟨_, [], by rw [List.append_nil]⟩
theorem stands_short {b : List UInt8} (h : ¬ 32 ≤ b.length) : stands hash b = b := by
  unfold stands
  rw [if_pos (by omega)]
theorem stands_branch (ks : Nat → Tr) (v : List UInt8) {i : Nat} (hi : i < 16) : stands hash (encT hash (ks i)) <:+: branchT hash ks v := by
  unfold branchT withM
  have h : stands hash (encT hash (ks i)) <:+: ((List.range 16).map fun i => stands hash (encT hash (ks i))).flatten := infix_flat (List.mem_map.2 ⟨i, List.mem_range.2 hi, rfl⟩)
  exact h.trans (((List.prefix_append _ _).isInfix).trans (List.suffix_append _ _).isInfix)
theorem stands_ext (p : List UInt8) (b : List UInt8) (hp : p ≠ []) : stands hash b <:+: wrapT hash p b := by
  unfold wrapT withM
  rw [if_neg hp]
  exact ((List.suffix_append _ _).isInfix).trans (List.suffix_append _ _).isInfix
/-- A kid's texts hang on the branch. -/
theorem kid_hangs (hh : ∀ l, (hash l).length = 32) (ks : Nat → Tr) (v : List UInt8) {i : Nat} (hi : i < 16) {L : List (List UInt8)} (h : Hangs hash (encT hash (ks i)) L) :
    Hangs hash (branchT hash ks v) ((if 32 ≤ (encT hash (ks i)).length then [encT hash (ks i)] else []) ++ L) := by
  have hb := stands_branch (hash := hash) ks v hi
  by_cases hl : 32 ≤ (encT hash (ks i)).length
  · rw [if_pos hl]
    exact Hangs.cons ((stands_long hh hl).trans hb) h
  · rw [if_neg hl, List.nil_append]
    rw [stands_short hl] at hb
    exact h.mono hb
theorem under_hangs (hh : ∀ l, (hash l).length = 32) : ∀ t : Tr, Hangs hash (encT hash t) (underT hash t true false [])
  | .nil => by rw [underT]; exact Hangs.nil _
  | .node p ks v => by
    have ih := fun i => under_hangs hh (ks i)
    rw [under_all, encT_node]
    by_cases hl : leafK ks = true
    · rw [if_pos hl, if_pos hl]
      exact Hangs.nil _
    · rw [if_neg hl, if_neg hl]
      have hk : Hangs hash (branchT hash ks v) ((List.range 16).map fun x => (if 32 ≤ (encT hash (ks x)).length then [encT hash (ks x)] else []) ++ underT hash (ks x) true false []).flatten :=
        Hangs.flat _ _ fun i hi => kid_hangs hh ks v (List.mem_range.1 hi) (ih i)
      by_cases hp : p = []
      · rw [if_neg (fun h => h.1 hp), List.nil_append]
        unfold wrapT
        rw [if_pos hp]
        exact hk
      · by_cases hb : 32 ≤ (branchT hash ks v).length
        · rw [if_pos ⟨hp, hb⟩]
          exact Hangs.cons ((stands_long hh hb).trans (stands_ext p _ hp)) hk
        · rw [if_neg (fun h => hb h.2), List.nil_append]
          have := stands_ext (hash := hash) p (branchT hash ks v) hp
          rw [stands_short hb] at this
          exact hk.mono this
/-- Each hangs on the one ahead. -/
def ChainH (hash : List UInt8 → List UInt8) : List UInt8 → List (List UInt8) → Prop
  | _, [] => True
  | r, x :: l => hash x <:+: r ∧ ChainH hash x l
theorem ChainH.mono {r r' : List UInt8} {L : List (List UInt8)} (h : ChainH hash r L) (hr : r <:+: r') : ChainH hash r' L := by
  cases L with
  | nil => trivial
  | cons x l => exact ⟨h.1.trans hr, h.2⟩
theorem ChainH.at_ : ∀ {L : List (List UInt8)} {r : List UInt8}, ChainH hash r L → ∀ (i : Nat) (x y : List UInt8), (r :: L)[i]? = some x → (r :: L)[i + 1]? = some y → hash y <:+: x
  | [], _, _, _, _, _, _, h2 => by simp at h2
  | u :: L, r, h, 0, x, y, h1, h2 => by
    simp only [List.getElem?_cons_zero, Option.some.injEq, List.getElem?_cons_succ, Nat.zero_add] at h1 h2
    subst h1 h2
    exact h.1
  | u :: L, r, h, i + 1, x, y, h1, h2 => ChainH.at_ h.2 i x y (by simpa using h1) (by simpa using h2)
theorem proof_chain (hh : ∀ l, (hash l).length = 32) : ∀ (t : Tr) (path : List UInt8), Nibs path → ChainH hash (encT hash t) (underT hash t false true path)
  | .nil, _, _ => by rw [underT]; trivial
  | .node p ks v, path, hn => by
    have ih := fun i path hn => proof_chain hh (ks i) path hn
    rw [underT_node, encT_node]
    by_cases hl : leafK ks = true
    · rw [if_pos hl, if_pos hl]
      trivial
    · rw [if_neg hl, if_neg hl]
      by_cases hpf : p <+: path
      · obtain ⟨rest, rfl⟩ := hpf
        simp only [List.prefix_append, decide_true, List.drop_left, Bool.true_and, Bool.false_or, and_true]
        have hk : ChainH hash (branchT hash ks v) ((List.range 16).map (kidU hash ks false true rest)).flatten := by
          cases rest with
          | nil => rw [kids_nil]; trivial
          | cons x r =>
            have hx := hn.right.head
            rw [kids_cons ks x r hx]
            have h1 := ih x.toNat r hn.right.tail'
            have hb := stands_branch (hash := hash) ks v hx
            by_cases hs : 32 ≤ (encT hash (ks x.toNat)).length
            · rw [if_pos hs]
              exact ⟨(stands_long hh hs).trans hb, h1⟩
            · rw [if_neg hs, List.nil_append]
              rw [stands_short hs] at hb
              exact h1.mono hb
        by_cases hp : p = []
        · rw [if_neg (fun h => h.1 hp), List.nil_append]
          unfold wrapT
          rw [if_pos hp]
          exact hk
        · by_cases hb : 32 ≤ (branchT hash ks v).length
          · rw [if_pos ⟨hp, hb⟩]
            exact ⟨(stands_long hh hb).trans (stands_ext p _ hp), hk⟩
          · rw [if_neg (fun h => hb h.2), List.nil_append]
            have := stands_ext (hash := hash) p (branchT hash ks v) hp
            rw [stands_short hb] at this
            exact hk.mono this
      · have e2 : ((List.range 16).map (kidU hash ks false false (path.drop p.length))).flatten = [] := by
          rw [List.flatten_eq_nil_iff]
          intro l hl
          obtain ⟨i, _, rfl⟩ := List.mem_map.1 hl
          unfold kidU
          simp only [Bool.false_and, Bool.false_or, Bool.false_eq_true, if_false, and_false, List.nil_append]
          exact under_off (ks i) []
        simp only [hpf, decide_false, Bool.and_false, Bool.false_or, Bool.false_eq_true, and_false, if_false, List.nil_append, e2]
        trivial
theorem flat_sub {α : Type} (f g : Nat → List α) (h : ∀ i, (f i).Sublist (g i)) : ∀ k, (((List.range k).map f).flatten).Sublist ((List.range k).map g).flatten
  | 0 => by simp
  | k + 1 => by
    rw [flat_succ, flat_succ]
    exact (flat_sub f g h k).append (h k)
theorem if_sub {α : Type} {p q : Prop} [Decidable p] [Decidable q] (x : α) (h : p → q) : (if p then [x] else []).Sublist (if q then [x] else []) := by
  by_cases hp : p
  · rw [if_pos hp, if_pos (h hp)]
    exact List.Sublist.refl _
  · rw [if_neg hp]
    exact List.nil_sublist _
/-- A proof's texts are some of all. -/
theorem proof_sub : ∀ (t : Tr) (on : Bool) (path : List UInt8), (underT hash t false on path).Sublist (underT hash t true false [])
  | .nil, _, _ => by rw [underT, underT]; exact List.Sublist.refl _
  | .node p ks v, on, path => by
    have ih := fun i on path => proof_sub (ks i) on path
    rw [under_all, underT_node]
    by_cases hl : leafK ks = true
    · rw [if_pos hl, if_pos hl]
      exact List.Sublist.refl _
    · rw [if_neg hl, if_neg hl]
      refine List.Sublist.append (if_sub _ fun h => ⟨h.1, h.2.1⟩) (flat_sub _ _ (fun i => ?_) 16)
      unfold kidU
      exact List.Sublist.append (if_sub _ fun h => h.1) (ih i _ _)
theorem sub_skip {α : Type} {x y : α} {l L : List α} (h : (x :: l).Sublist (y :: L)) (hne : y ≠ x) : (x :: l).Sublist L := by
  cases h with
  | cons _ h => exact h
  | cons_cons _ h => exact absurd rfl hne
theorem sub_take {α : Type} {x : α} {l L : List α} (h : (x :: l).Sublist (x :: L)) : l.Sublist L := by
  cases h with
  | cons _ h => exact (List.sublist_cons_self x l).trans h
  | cons_cons _ h => exact h
end
end Go.Proofs.YtfhindffmghlaaaDoor
