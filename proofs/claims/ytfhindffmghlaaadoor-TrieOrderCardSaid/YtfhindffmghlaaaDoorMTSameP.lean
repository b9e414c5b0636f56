/- Two tries with one text, and no two unlike nodes with one hash: they are one trie. No walk. -/
import Derived.Test.YtfhindffmghlaaaDoorG17
set_option linter.unusedVariables false
set_option linter.unusedSimpArgs false
namespace Go.Proofs.YtfhindffmghlaaaDoor
open It
/-- All texts of a trie. -/
def nodesT (hash : List UInt8 → List UInt8) (t : Tr) : List (List UInt8) := encT hash t :: underT hash t true false []
section
variable {hash : List UInt8 → List UInt8}
theorem kidU_all (ks : Nat → Tr) (rest : List UInt8) (x : Nat) : kidU hash ks true false rest x = (if 32 ≤ (encT hash (ks x)).length then [encT hash (ks x)] else []) ++ underT hash (ks x) true false [] := by
  unfold kidU
  simp
theorem under_all (p : List UInt8) (ks : Nat → Tr) (v : List UInt8) : underT hash (.node p ks v) true false [] =
    if leafK ks then [] else (if p ≠ [] ∧ 32 ≤ (branchT hash ks v).length then [branchT hash ks v] else []) ++ ((List.range 16).map fun x => (if 32 ≤ (encT hash (ks x)).length then [encT hash (ks x)] else []) ++ underT hash (ks x) true false []).flatten := by
  rw [underT_node]
  simp only [Bool.false_and, Bool.true_or, and_true]
  congr 2
  congr 1
  exact List.map_congr_left fun x _ => kidU_all ks _ x
theorem under_kid {p : List UInt8} {ks : Nat → Tr} {v : List UInt8} (hl : ¬ leafK ks = true) {i : Nat} (hi : i < 16) {x : List UInt8} (hx : (32 ≤ (encT hash (ks i)).length ∧ x = encT hash (ks i)) ∨ x ∈ underT hash (ks i) true false []) : x ∈ underT hash (.node p ks v) true false [] := by
  rw [under_all, if_neg hl]
  refine List.mem_append.2 (Or.inr (List.mem_flatten.2 ⟨_, List.mem_map.2 ⟨i, List.mem_range.2 hi, rfl⟩, ?_⟩))
  rcases hx with ⟨h, rfl⟩ | h
  · exact List.mem_append.2 (Or.inl (by rw [if_pos h]; exact List.mem_singleton.2 rfl))
  · exact List.mem_append.2 (Or.inr h)
theorem under_ext {p : List UInt8} {ks : Nat → Tr} {v : List UInt8} (hl : ¬ leafK ks = true) (hp : p ≠ []) (h : 32 ≤ (branchT hash ks v).length) : branchT hash ks v ∈ underT hash (.node p ks v) true false [] := by
  rw [under_all, if_neg hl]
  exact List.mem_append.2 (Or.inl (by rw [if_pos ⟨hp, h⟩]; exact List.mem_singleton.2 rfl))
theorem written_inj {p q : List UInt8} (hp : Nibs p) (hq : Nibs q) {m n : Fin 2} (h : written p (UInt8.ofNat m.val) = written q (UInt8.ofNat n.val)) : p = q ∧ UInt8.ofNat m.val = UInt8.ofNat n.val := by
  have h1 := readT_written hp m
  rw [h, readT_written hq n] at h1
  simp only [Option.some.injEq, Prod.mk.injEq] at h1
  exact ⟨h1.1.symm, h1.2.symm⟩
/-- What stands for two items is one: they are one, or two with one hash. -/
theorem stand_one (hh : ∀ l, (hash l).length = 32) {a b : It} (ha : ∀ l, a = .bytes l → l.length ≠ 32) (hb : ∀ l, b = .bytes l → l.length ≠ 32) (h : standI hash a = standI hash b) : a = b ∨ (32 ≤ a.enc.length ∧ 32 ≤ b.enc.length ∧ hash a.enc = hash b.enc) := by
  unfold standI at h
  split at h <;> split at h
  · exact Or.inl h
  · exact absurd (hh _) (ha _ h)
  · exact absurd (hh _) (hb _ h.symm)
  · rename_i h1 h2
    refine Or.inr ⟨by omega, by omega, ?_⟩
    simpa using h
theorem itT_thin (t : Tr) : ∀ l, itT hash t = .bytes l → l.length ≠ 32 := by
  intro l h
  cases t with
  | nil =>
    rw [itT] at h
    simp only [It.bytes.injEq] at h
    subst h
    simp
  | node p ks v =>
    rw [itT_node] at h
    cases h
theorem same_of (hh : ∀ l, (hash l).length = 32) {M : Nat} (hM : M ≤ 549755813888) : ∀ (t u : Tr), Good t → Good u → Bnd M t → Bnd M u → (∀ x ∈ underT hash t true false [], ∀ y ∈ underT hash u true false [], hash x = hash y → x = y) → encT hash t = encT hash u → t = u := by
  intro t
  induction t with
  | nil =>
    intro u _ hu _ hbu _ he
    cases u with
    | nil => rfl
    | node p ks v =>
      have h1 := itemOf_enc (itT hash .nil) (by rw [itT_enc]; have := encT_le hash hh .nil M hM trivial; omega)
      have h2 := itemOf_enc (itT hash (.node p ks v)) (by rw [itT_enc]; have := encT_le hash hh _ M hM hbu; omega)
      rw [itT_enc, he, ← itT_enc, h2, itT_node, itT] at h1
      cases h1
  | node p ks v ih =>
    intro u hg hu hb hbu hc he
    have h1 := itemOf_enc (itT hash (.node p ks v)) (by rw [itT_enc]; have := encT_le hash hh _ M hM hb; omega)
    rw [itT_enc, he, ← itT_enc] at h1
    have h2 := itemOf_enc (itT hash u) (by rw [itT_enc]; have := encT_le hash hh _ M hM hbu; omega)
    rw [h2] at h1
    have h3 : itT hash u = itT hash (.node p ks v) := Option.some.inj h1
    clear h1 h2
    cases u with
    | nil =>
      rw [itT_node, itT] at h3
      cases h3
    | node p' ks' v' =>
      rw [itT_node, itT_node] at h3
      simp only [It.list.injEq] at h3
      obtain ⟨hn, hk, hgk, _⟩ := hg
      obtain ⟨hn', hk', hgk', _⟩ := hu
      rw [xsT_node, xsT_node] at h3
      have hbr : ¬ leafK ks = true → ¬ leafK ks' = true → brI hash ks' v' = brI hash ks v → v = v' ∧ ks = ks' := fun hl hl' hbi => by
        have hv := brI_value (hash := hash) ks v
        rw [← hbi, brI_value] at hv
        refine ⟨by simpa using hv.symm, funext fun i => ?_⟩
        rcases Nat.lt_or_ge i 16 with hi | hi
        · have hs := brI_kid (hash := hash) ks v i hi
          rw [← hbi, brI_kid _ _ _ i hi] at hs
          refine ih i (ks' i) (hgk i) (hgk' i) (hb.2.2.2 i) (hbu.2.2.2 i) (fun x hx y hy => hc x (under_kid hl hi (Or.inr hx)) y (under_kid hl' hi (Or.inr hy))) ?_
          rcases stand_one hh (itT_thin _) (itT_thin _) hs with h | ⟨ha, hb', hab⟩
          · rw [← itT_enc, ← itT_enc, h]
          · rw [itT_enc] at ha hb' hab
            rw [itT_enc] at hab
            exact hc _ (under_kid hl hi (Or.inl ⟨hb', rfl⟩)) _ (under_kid hl' hi (Or.inl ⟨ha, rfl⟩)) hab.symm
        · rw [hk i hi, hk' i hi]
      by_cases hl : leafK ks = true <;> by_cases hl' : leafK ks' = true
      · rw [if_pos hl, if_pos hl'] at h3
        simp only [List.cons.injEq, It.bytes.injEq, and_true] at h3
        obtain ⟨rfl, _⟩ := written_inj (m := 1) (n := 1) hn' hn h3.1
        rw [h3.2, leafK_noKids hk hl, leafK_noKids hk' hl']
      · rw [if_pos hl, if_neg hl'] at h3
        split at h3
        · have := congrArg List.length h3
          rw [brI_length] at this
          simp at this
        · simp only [List.cons.injEq, It.bytes.injEq] at h3
          exact absurd (written_inj (m := 0) (n := 1) hn' hn h3.1).2 (by decide)
      · rw [if_neg hl, if_pos hl'] at h3
        split at h3
        · have := congrArg List.length h3
          rw [brI_length] at this
          simp at this
        · simp only [List.cons.injEq, It.bytes.injEq] at h3
          exact absurd (written_inj (m := 1) (n := 0) hn' hn h3.1).2 (by decide)
      · rw [if_neg hl, if_neg hl'] at h3
        by_cases hp : p = [] <;> by_cases hp' : p' = []
        · rw [if_pos hp, if_pos hp'] at h3
          obtain ⟨rfl, rfl⟩ := hbr hl hl' h3
          rw [hp, hp']
        · rw [if_pos hp, if_neg hp'] at h3
          have := congrArg List.length h3
          rw [brI_length] at this
          simp at this
        · rw [if_neg hp, if_pos hp'] at h3
          have := congrArg List.length h3
          rw [brI_length] at this
          simp at this
        · rw [if_neg hp, if_neg hp'] at h3
          simp only [List.cons.injEq, It.bytes.injEq, and_true] at h3
          obtain ⟨rfl, _⟩ := written_inj (m := 0) (n := 0) hn' hn h3.1
          have hbi : brI hash ks' v' = brI hash ks v := by
            rcases stand_one hh (fun l h => by cases h) (fun l h => by cases h) h3.2 with h | ⟨ha, hb', hab⟩
            · simpa using h
            · rw [brI_enc] at ha hb' hab
              rw [brI_enc] at hab
              have hbe := hc _ (under_ext hl hp hb') _ (under_ext hl' hp ha) hab.symm
              have e1 := itemOf_enc (It.list (brI hash ks v)) (by rw [brI_enc]; have := branchT_le hash hh ks v M (by omega) hb.2.2.1; omega)
              have e2 := itemOf_enc (It.list (brI hash ks' v')) (by rw [brI_enc]; have := branchT_le hash hh ks' v' M (by omega) hbu.2.2.1; omega)
              rw [brI_enc, hbe, ← brI_enc, e2] at e1
              simpa using e1
          obtain ⟨rfl, rfl⟩ := hbr hl hl' hbi
          rfl
end
end Go.Proofs.YtfhindffmghlaaaDoor
