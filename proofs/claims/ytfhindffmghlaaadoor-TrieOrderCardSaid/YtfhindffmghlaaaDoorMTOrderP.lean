/- Pairs that come in another order, with others that come and go: one list. No walk. -/
import Derived.Test.YtfhindffmghlaaaDoorMTKeepsP
import Derived.Test.YtfhindffmghlaaaDoorMTPathsP
set_option linter.unusedVariables false
set_option linter.unusedSimpArgs false
namespace Go.Proofs.YtfhindffmghlaaaDoor
open Go.RowKit
theorem step_get {L : List KV} (h : Rising L) (p : KV) (k : List UInt8) : getL k (stepL L p) = if (¬ (64 < p.1.length ∨ p.2 = [])) ∧ k = p.1 then p.2 else getL k L := by
  unfold stepL
  by_cases hp : 64 < p.1.length ∨ p.2 = []
  · rw [if_pos hp, if_neg (fun h => h.1 hp)]
  · rw [if_neg hp, get_ins h]
    by_cases hk : k = p.1
    · rw [if_pos hk, if_pos ⟨hp, hk⟩]
    · rw [if_neg hk, if_neg (fun h => hk h.2)]
/-- All keys of a list are among these. -/
def Among (ks : List (List UInt8)) (L : List KV) : Prop := ∀ k, getL k L ≠ [] → k ∈ ks
theorem among_nil (ks : List (List UInt8)) : Among ks [] := fun _ h => absurd rfl h
theorem among_step {ks : List (List UInt8)} {L : List KV} (hr : Rising L) (h : Among ks L) {p : KV} (hp : p.1 ∈ ks) : Among ks (stepL L p) := fun k hk => by
  rw [step_get hr] at hk
  split at hk
  · rename_i hc
    rw [hc.2]
    exact hp
  · exact h k hk
theorem gone_has {g k : List UInt8} {L : List KV} (h : getL k (goneL g L) ≠ []) : k ≠ g ∧ getL k L ≠ [] := by
  rw [gone_get] at h
  split at h
  · exact absurd rfl h
  · rename_i hk
    exact ⟨hk, h⟩
theorem among_gone {ks : List (List UInt8)} {L : List KV} (h : Among ks L) (g : List UInt8) : Among ks (goneL g L) := fun k hk => h k (gone_has hk).2
/-- After the others' first i keys were deleted. -/
def Gone (ks os : List (List UInt8)) (i : Nat) (L : List KV) : Prop := ∀ k, getL k L ≠ [] → k ∈ ks ∧ ∀ j (h : j < os.length), j < i → k ≠ os[j]
theorem gone_zero {ks os : List (List UInt8)} {L : List KV} (h : Among ks L) : Gone ks os 0 L := fun k hk => ⟨h k hk, fun _ _ h => absurd h (Nat.not_lt_zero _)⟩
theorem gone_next {ks os : List (List UInt8)} {i : Nat} {L : List KV} (h : Gone ks os i L) (hi : i < os.length) : Gone ks os (i + 1) (goneL os[i] L) := fun k hk => by
  obtain ⟨h1, h2⟩ := gone_has hk
  refine ⟨(h k h2).1, fun j hj hji => ?_⟩
  rcases Nat.lt_or_ge j i with h3 | h3
  · exact (h k h2).2 j hj h3
  · obtain rfl : j = i := by omega
    exact h1
theorem gone_all {ks os : List (List UInt8)} {i : Nat} {L : List KV} (h : Gone (os ++ ks) os i L) (hi : os.length ≤ i) : Among ks L := fun k hk => by
  obtain ⟨h1, h2⟩ := h k hk
  rcases List.mem_append.1 h1 with h3 | h3
  · obtain ⟨j, hj, e⟩ := List.getElem_of_mem h3
    exact absurd e.symm (h2 j hj (by omega))
  · exact h3
/-- After the first i pairs were put once more. -/
def Back (W : List KV) (i : Nat) (L : List KV) : Prop := Among (W.map (·.1)) L ∧ ∀ j (h : j < W.length), j < i → getL W[j].1 L = W[j].2
theorem back_zero {W L : List KV} (h : Among (W.map (·.1)) L) : Back W 0 L := ⟨h, fun _ _ h => absurd h (Nat.not_lt_zero _)⟩
theorem back_next {W L : List KV} {i : Nat} (hr : Rising L) (hW : Rising W) (hf : ∀ x ∈ W, x.2 ≠ [] ∧ x.1.length ≤ 64) (h : Back W i L) (hi : i < W.length) : Back W (i + 1) (stepL L W[i]) := by
  have hm : W[i] ∈ W := List.getElem_mem hi
  refine ⟨among_step hr h.1 (List.mem_map_of_mem hm), fun j hj hji => ?_⟩
  rw [step_get hr]
  have hv : ¬ (64 < W[i].1.length ∨ W[i].2 = []) := by
    have := hf _ hm
    intro h
    rcases h with h | h
    · omega
    · exact this.1 h
  by_cases hk : W[j].1 = W[i].1
  · rw [if_pos ⟨hv, hk⟩]
    have h1 := getL_mem hW (k := W[i].1) (v := W[i].2) hm
    have h2 := getL_mem hW (k := W[j].1) (v := W[j].2) (List.getElem_mem hj)
    rw [← h1, ← hk, h2]
  · rw [if_neg (fun h => hk h.2)]
    refine h.2 j hj ?_
    rcases Nat.lt_or_ge j i with h3 | h3
    · exact h3
    · obtain rfl : j = i := by omega
      exact absurd rfl hk
theorem back_all {W L : List KV} {i : Nat} (hr : Rising L) (hL : ∀ x ∈ L, x.2 ≠ []) (hW : Rising W) (hf : ∀ x ∈ W, x.2 ≠ []) (h : Back W i L) (hi : W.length ≤ i) : L = W := by
  refine rising_ext hr hW hL hf fun k => ?_
  by_cases hk : k ∈ W.map (·.1)
  · obtain ⟨x, hx, rfl⟩ := List.mem_map.1 hk
    obtain ⟨j, hj, rfl⟩ := List.getElem_of_mem hx
    rw [h.2 j hj (by omega), getL_mem hW (k := W[j].1) (v := W[j].2) hx]
  · have h1 : getL k W = [] := get_out fun x hx e => hk (e ▸ List.mem_map_of_mem hx)
    rw [h1]
    by_cases h2 : getL k L = []
    · exact h2
    · exact absurd (h.1 k h2) hk
end Go.Proofs.YtfhindffmghlaaaDoor
