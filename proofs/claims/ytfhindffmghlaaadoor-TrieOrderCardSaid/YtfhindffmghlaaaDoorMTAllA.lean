/- Pairs of a trie: the state of its walk. No walk. -/
import Derived.Test.YtfhindffmghlaaaDoorMTPathsP
import Derived.Test.YtfhindffmghlaaaDoorMTPlain
import Derived.Test.YtfhindffmghlaaaDoorG10
set_option linter.unusedVariables false
set_option linter.unusedSimpArgs false
namespace Go.Proofs.YtfhindffmghlaaaDoor
open Go.RowKit
/-- From w to w' blocks of pairs from base on have turned, and there is new memory. -/
def PKept (base : Nat) (w w' : World) : Prop := ∃ G, Kept w w' G ∧ (∀ b, G b → ∃ cs, Blk w b 40 cs ∨ Blk w b 34 cs) ∧ ∀ b, G b → base ≤ b
section
variable {base B : Nat} {w w' w'' : World}
theorem PKept.of_below (h : Below w.heap.size w w') (base : Nat) : PKept base w w' := ⟨fun _ => False, Kept.of_below h _, fun _ h => h.elim, fun _ h => h.elim⟩
theorem PKept.refl (base : Nat) (w : World) : PKept base w w := PKept.of_below (Below.refl _ _) base
theorem PKept.size (h : PKept base w w') : w.heap.size ≤ w'.heap.size := by
  obtain ⟨G, hk, _⟩ := h
  exact hk.size
theorem PKept.below (h : PKept base w w') (hb : base ≤ w.heap.size) : Below base w w' := by
  obtain ⟨G, hk, _, hG⟩ := h
  exact hk.below hG hb
theorem PKept.blk {g : Nat} {ty : TypeId} {cs : Array Value} (h : PKept base w w') (hb : Blk w g ty cs) (h1 : ty ≠ 40) (h2 : ty ≠ 34) : Blk w' g ty cs := by
  obtain ⟨G, hk, hN, _⟩ := h
  refine hk.blk hb fun hf => ?_
  obtain ⟨cs', hc | hc⟩ := hN g hf
  · exact Blk.ne hb hc h1 rfl
  · exact Blk.ne hb hc h2 rfl
theorem PKept.trans (h : PKept base w w') (h2 : PKept base w' w'') : PKept base w w'' := by
  obtain ⟨G, hk, hN, hG⟩ := h
  obtain ⟨G2, hk2, hN2, hG2⟩ := h2
  refine ⟨fun b => (G b ∨ G2 b) ∧ b < w.heap.size, ?_, ?_, fun b hb => hb.1.elim (hG b) (hG2 b)⟩
  · refine ⟨hk2.os.trans hk.os, hk2.tape.trans hk.tape, hk2.output.trans hk.output, Nat.le_trans hk.size hk2.size, fun g hg hn => ?_⟩
    have n1 : ¬ G g := fun h => hn ⟨Or.inl h, hg⟩
    have n2 : ¬ G2 g := fun h => hn ⟨Or.inr h, hg⟩
    exact (hk2.block g (Nat.lt_of_lt_of_le hg hk.size) n2).trans (hk.block g hg n1)
  · rintro b ⟨hb1, hb2⟩
    by_cases hGb : G b
    · exact hN b hGb
    · have hG2b : G2 b := hb1.resolve_left hGb
      obtain ⟨cs, hc⟩ := hN2 b hG2b
      have e := hk.block b hb2 hGb
      rcases hc with hc | hc
      · exact ⟨cs, Or.inl (e.symm.trans hc)⟩
      · exact ⟨cs, Or.inr (e.symm.trans hc)⟩
theorem PKept.grown {row : Option Nat} (h : w.grownBy w' row) (hr : ∀ q, row = some q → base ≤ q ∧ ∃ cs, Blk w q 40 cs) : PKept base w w' := by
  refine ⟨fun b => row = some b, ⟨h.os, h.tape, h.output, h.size, fun g hg hn => h.block g hg (fun e => hn e.symm)⟩, fun b hb => ?_, fun b hb => (hr b hb).1⟩
  obtain ⟨cs, hc⟩ := (hr b hb).2
  exact ⟨cs, Or.inl hc⟩
theorem PKept.set {g i : Nat} {cs : Array Value} {u : Value} (hb : Blk w g 34 cs) (hg : base ≤ g) : PKept base w (w.setCell ⟨g, i, none⟩ u) := by
  have ho := Only.setCell w ⟨g, i, none⟩ u
  exact ⟨fun b => b = g, ⟨ho.os, ho.tape, ho.output, Nat.le_of_eq ho.size.symm, fun b _ hn => ho.block b hn⟩, fun b hb2 => ⟨cs, Or.inr (hb2 ▸ hb)⟩, fun b hb2 => hb2 ▸ hg⟩
theorem PKept.drew (h : PKept base w w') : PKept base w w'.drew := h.trans (PKept.of_below (below_drewN (Below.refl _ _) 1) base)
theorem PKept.seqB {A : Option Addr} {l : List UInt8} (h : PKept base w w') (hs : SeqB w A l) : SeqB w' A l := hs.keep fun _ _ hb => h.blk hb (by decide) (by decide)
theorem PKept.own {b0 : Nat} {p : Piece} (h : PKept base w w') (hp : OwnP w b0 p) : OwnP w' b0 p := by
  obtain ⟨a1, a2⟩ := hp
  refine ⟨a1, ?_⟩
  rcases a2 with a2 | ⟨g', cap, cur, hv, hg', hh, r⟩
  · exact .inl a2
  · exact .inr ⟨g', cap, cur, hv, hg', h.blk hh (by decide) (by decide), r⟩
theorem PKept.tree {b0 : Nat} {t : Tr} {v : Value} {F : Nat → Prop} (h : PKept base w w') (ht : TreeAt w b0 t v F) : TreeAt w' b0 t v F := by
  obtain ⟨G, hk, hN, _⟩ := h
  refine ht.keptT' hk (fun g hg hf => ?_) (fun g cs hf hb => ?_)
  · obtain ⟨_, cs, hc⟩ := ht.typed g hg
    obtain ⟨cs', hc2 | hc2⟩ := hN g hf
    · exact Blk.ne hc hc2 (by decide) rfl
    · exact Blk.ne hc hc2 (by decide) rfl
  · obtain ⟨cs', hc2 | hc2⟩ := hN g hf
    · exact Blk.ne hb hc2 (by decide) rfl
    · exact Blk.ne hb hc2 (by decide) rfl
end
/-- All pieces of pairs. -/
def piecesL (l : List PairL) : List Piece := l.flatMap fun x => [x.1, x.2]
/-- The walk's state: the pairs so far; the closure. -/
structure AllAt (w : World) (base Bl Bf : Nat) (out : List PairL) : Prop where
  cell : ∃ (A : Option Addr) (c : Nat), Blk w Bl 34 #[.slice A out.length c] ∧ RowP w base A c out
  fn : Blk w Bf 93 #[.func (.func 55) #[] #[.pointer (some ⟨Bl, 0, none⟩), .pointer (some ⟨Bf, 0, none⟩)]]
  own : ∀ p ∈ piecesL out, OwnP w base p
  floor : base ≤ Bl
  apart : (piecesL out).Pairwise (fun a b => Apart (pcV a) (pcV b))
section
variable {w w' : World} {base Bl Bf : Nat} {out : List PairL}
theorem AllAt.below (h : AllAt w base Bl Bf out) (hb : Below w.heap.size w w') : AllAt w' base Bl Bf out := by
  obtain ⟨A, c, h1, h2⟩ := h.cell
  exact ⟨⟨A, c, h1.below hb h1.lt, own_below' h2 hb⟩, h.fn.below hb h.fn.lt, fun p hp => own_below' (h.own p hp) hb, h.floor, h.apart⟩
theorem pieces_app (a b : List PairL) : piecesL (a ++ b) = piecesL a ++ piecesL b := by unfold piecesL; rw [List.flatMap_append]
theorem pieces_len (a : List PairL) : (piecesL a).length = 2 * a.length := by
  unfold piecesL
  induction a with
  | nil => rfl
  | cons x a ih =>
    rw [List.flatMap_cons, List.length_append, ih]
    simp
    omega
end
/-- What the walk of a trie leaves. -/
def AllPost (w : World) (base Bl Bf : Nat) (out : List PairL) (new : List KV) (e : Ending) (w' : World) : Prop :=
  e = .returned (.tuple #[]) ∧ ∃ nw : List PairL, nw.map saidP = new ∧ AllAt w' base Bl Bf (out ++ nw) ∧ PKept base w w'
theorem flat_cnt (ks : Nat → Tr) (L : List UInt8) : ∀ (n j : Nat), j < n → (((List.range j).map fun i => (pathsT (ks i) (L ++ [UInt8.ofNat i])).map pkP).flatten).length + cntT (ks j) ≤ ((List.range n).map fun i => cntT (ks i)).sum := by
  have h1 : ∀ j, (((List.range j).map fun i => (pathsT (ks i) (L ++ [UInt8.ofNat i])).map pkP).flatten).length ≤ ((List.range j).map fun i => cntT (ks i)).sum := fun j => by
    rw [List.length_flatten, List.map_map]
    exact sum_le_sum _ _ (fun i => by
      show ((pathsT (ks i) (L ++ [UInt8.ofNat i])).map pkP).length ≤ _
      rw [List.length_map]
      exact paths_len _ _) _
  intro n
  induction n with
  | zero => intro j h; exact absurd h (by omega)
  | succ n ih =>
    intro j hj
    rw [List.range_succ, List.map_append, List.sum_append]
    simp only [List.map_cons, List.map_nil, List.sum_cons, List.sum_nil, Nat.add_zero]
    by_cases e : j = n
    · subst e
      have := h1 j
      omega
    · have := ih j (by omega)
      omega
end Go.Proofs.YtfhindffmghlaaaDoor
