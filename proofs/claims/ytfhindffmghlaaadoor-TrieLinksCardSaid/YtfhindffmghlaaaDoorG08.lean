/- put. -/
import Derived.Test.YtfhindffmghlaaaDoorG07
import Derived.StillTailTactics
import Derived.Deep.LoopGhost
import Derived.Deep.CutRange
import Derived.Deep.RegionLaw
set_option linter.unusedVariables false
set_option linter.unusedSimpArgs false
namespace Go.Proofs.YtfhindffmghlaaaDoor
open Go.RowKit
/-- No path and no value of a tree is longer. -/
def Bnd (M : Nat) : Tr → Prop
  | .nil => True
  | .node p ks v => p.length ≤ M ∧ Nibs p ∧ v.length ≤ M ∧ ∀ i, Bnd M (ks i)
/-- What a step that gives a tree answers. -/
def TreePost (w : World) (base : Nat) (F : Nat → Prop) (t : Tr) (e : Ending) (w' : World) : Prop :=
  ∃ (v' : Value) (F' : Nat → Prop), e = .returned v' ∧ TreeAt w' base t v' F' ∧ Kept w w' F ∧ ∀ b, F' b → F b ∨ w.heap.size ≤ b
/-- A node laid anew. -/
theorem TreeAt.new {w : World} {base : Nat} {pp vp : Piece} (hb : base ≤ w.heap.size) (hp : OwnP w base pp) (hv : OwnP w base vp) (hn : vp.2.2 = [] → pcV vp = .slice none 0 0) {cs : Array Value} (hcs : cs = tab 18 (nodeV (pcV pp) (fun _ => .pointer none) (pcV vp))) :
    TreeAt (w.alloc (.cells cs 99)) base (.node pp.2.2 noKids vp.2.2) (.pointer (some ⟨w.heap.size, 0, none⟩)) (fun b => b = w.heap.size) :=
  ⟨w.heap.size, pp, vp, fun _ => .pointer none, fun _ _ => False, rfl, hb, (Blk.new w _ _).same hcs, rfl, hp.alloc _, rfl, hv.alloc _, hn, fun _ _ => ⟨rfl, fun _ h => h⟩, fun _ _ h => h, fun _ _ _ _ _ h _ => h.elim, fun b => ⟨Or.inl, fun h => by
    rcases h with h | ⟨_, _, h⟩
    · exact h
    · exact h.elim⟩⟩
theorem node_lit (pv vv : Value) : #[pv, .pointer none, .pointer none, .pointer none, .pointer none, .pointer none, .pointer none, .pointer none, .pointer none, .pointer none, .pointer none, .pointer none, .pointer none, .pointer none, .pointer none, .pointer none, .pointer none, vv] = tab 18 (nodeV pv (fun _ => .pointer none) vv) := rfl
theorem Kept.of_only {w w' : World} {g : Nat} (h : Only g w w') : Kept w w' (fun b => b = g) := ⟨h.os, h.tape, h.output, Nat.le_of_eq h.size.symm, fun b _ hn => h.block b hn⟩
theorem Nodes.one {w : World} {g : Nat} {cs : Array Value} (h : Blk w g 99 cs) : Nodes w (fun b => b = g) := fun b hb => by subst hb; exact ⟨cs, h⟩
theorem nodeV_kid (pv : Value) (kv : Nat → Value) (vv v' : Value) (x : Nat) (hx : x < 16) : tab 18 (upd (nodeV pv kv vv) (1 + x) v') = tab 18 (nodeV pv (upd kv x v') vv) := tab_congr fun j hj => by
  unfold upd nodeV
  by_cases h : j = 1 + x
  · subst h
    rw [if_pos rfl, if_neg (by omega), if_pos (by omega)]
    show v' = if 1 + x - 1 = x then v' else kv (1 + x - 1)
    rw [if_pos (by omega)]
  · rw [if_neg h]
    by_cases h0 : j = 0
    · rw [if_pos h0, if_pos h0]
    · rw [if_neg h0, if_neg h0]
      by_cases h1 : j < 17
      · rw [if_pos h1, if_pos h1]
        show kv (j - 1) = if j - 1 = x then v' else kv (j - 1)
        rw [if_neg (by omega)]
      · rw [if_neg h1, if_neg h1]
theorem nodeV_path (pv p' : Value) (kv : Nat → Value) (vv : Value) : tab 18 (upd (nodeV pv kv vv) 0 p') = tab 18 (nodeV p' kv vv) := tab_congr fun j _ => by
  unfold upd nodeV
  by_cases h : j = 0
  · rw [if_pos h, if_pos h]
  · rw [if_neg h, if_neg h, if_neg h]
theorem nodeV_value (pv : Value) (kv : Nat → Value) (vv v' : Value) : tab 18 (upd (nodeV pv kv vv) 17 v') = tab 18 (nodeV pv kv v') := tab_congr fun j hj => by
  unfold upd nodeV
  by_cases h : j = 17
  · subst h; simp
  · rw [if_neg h]
    by_cases h0 : j = 0
    · rw [if_pos h0, if_pos h0]
    · rw [if_neg h0, if_neg h0, if_pos (by omega), if_pos (by omega)]
/-- A node's parts. -/
structure NodeAt (w : World) (base g : Nat) (pp vp : Piece) (kv : Nat → Value) (ks : Nat → Tr) (Fk : Nat → Nat → Prop) : Prop where
  old : base ≤ g
  blk : Blk w g 99 (tab 18 (nodeV (pcV pp) kv (pcV vp)))
  path : OwnP w base pp
  value : OwnP w base vp
  none_ : vp.2.2 = [] → pcV vp = .slice none 0 0
  kids : ∀ i, i < 16 → TreeAt w base (ks i) (kv i) (Fk i)
  notIn : ∀ i, i < 16 → ¬ Fk i g
  apart : ∀ i j b, i < 16 → j < 16 → Fk i b → Fk j b → i = j
/-- A node's blocks. -/
def footN (g : Nat) (Fk : Nat → Nat → Prop) (b : Nat) : Prop := b = g ∨ ∃ i, i < 16 ∧ Fk i b
section
variable {w w' w2 : World} {base g : Nat} {pp vp : Piece} {kv : Nat → Value} {ks : Nat → Tr} {Fk : Nat → Nat → Prop}
theorem NodeAt.tree (h : NodeAt w base g pp vp kv ks Fk) : TreeAt w base (.node pp.2.2 ks vp.2.2) (.pointer (some ⟨g, 0, none⟩)) (footN g Fk) :=
  ⟨g, pp, vp, kv, Fk, rfl, h.old, h.blk, rfl, h.path, rfl, h.value, h.none_, h.kids, h.notIn, h.apart, fun _ => Iff.rfl⟩
theorem NodeAt.below (h : NodeAt w base g pp vp kv ks Fk) (hb : Below w.heap.size w w') : NodeAt w' base g pp vp kv ks Fk :=
  ⟨h.old, h.blk.below hb h.blk.lt, h.path.below hb, h.value.below hb, h.none_, fun i hi => (h.kids i hi).below hb, h.notIn, h.apart⟩
/-- Steps at other nodes. -/
theorem NodeAt.kept {F0 : Nat → Prop} (h : NodeAt w base g pp vp kv ks Fk) (hk : Kept w w' F0) (hN : Nodes w F0) (hd : ∀ b, footN g Fk b → ¬ F0 b) : NodeAt w' base g pp vp kv ks Fk :=
  ⟨h.old, hk.blk h.blk (hd g (Or.inl rfl)), h.path.kept hk hN, h.value.kept hk hN, h.none_, fun i hi => (h.kids i hi).kept hk hN (fun b hb => hd b (Or.inr ⟨i, hi, hb⟩)), h.notIn, h.apart⟩
theorem NodeAt.nodes (h : NodeAt w base g pp vp kv ks Fk) : Nodes w (footN g Fk) := h.tree.nodes
theorem NodeAt.lt (h : NodeAt w base g pp vp kv ks Fk) (b : Nat) (hb : footN g Fk b) : base ≤ b ∧ b < w.heap.size := h.tree.lt b hb
theorem NodeAt.setPath (h : NodeAt w base g pp vp kv ks Fk) {p2 : Piece} (hp : OwnP w base p2) : NodeAt (w.setCell ⟨g, 0, none⟩ (pcV p2)) base g p2 vp kv ks Fk := by
  have ho := Only.setCell w ⟨g, 0, none⟩ (pcV p2)
  have hk := Kept.of_only ho
  have hN := Nodes.one h.blk
  refine ⟨h.old, ?_, hp.kept hk hN, h.value.kept hk hN, h.none_, fun i hi => (h.kids i hi).kept hk hN (fun b hb (e : b = g) => h.notIn i hi (by rw [← e]; exact hb)), h.notIn, h.apart⟩
  have := h.blk.put 0 (pcV p2)
  rwa [nodeV_path] at this
theorem NodeAt.setValue (h : NodeAt w base g pp vp kv ks Fk) {v2 : Piece} (hv : OwnP w base v2) (hn : v2.2.2 = [] → pcV v2 = .slice none 0 0) : NodeAt (w.setCell ⟨g, 17, none⟩ (pcV v2)) base g pp v2 kv ks Fk := by
  have ho := Only.setCell w ⟨g, 17, none⟩ (pcV v2)
  have hk := Kept.of_only ho
  have hN := Nodes.one h.blk
  refine ⟨h.old, ?_, h.path.kept hk hN, hv.kept hk hN, hn, fun i hi => (h.kids i hi).kept hk hN (fun b hb (e : b = g) => h.notIn i hi (by rw [← e]; exact hb)), h.notIn, h.apart⟩
  have := h.blk.put 17 (pcV v2)
  rwa [nodeV_value] at this
/-- A kid given anew, in place of one whose steps turned only its own blocks. -/
theorem NodeAt.setKid (h : NodeAt w base g pp vp kv ks Fk) {x : Nat} (hx : x < 16) {F0 : Nat → Prop} (hk : Kept w w2 F0) (hF0 : ∀ b, F0 b → Fk x b) {t' : Tr} {v' : Value} {F' : Nat → Prop} (ht : TreeAt w2 base t' v' F') (hF : ∀ b, F' b → Fk x b ∨ w.heap.size ≤ b) :
    NodeAt (w2.setCell ⟨g, 1 + x, none⟩ v') base g pp vp (upd kv x v') (upd ks x t') (upd Fk x F') := by
  have hN0 : Nodes w F0 := fun b hb => (h.kids x hx).nodes b (hF0 b hb)
  have hb2 : Blk w2 g 99 (tab 18 (nodeV (pcV pp) kv (pcV vp))) := hk.blk h.blk (fun hb => h.notIn x hx (hF0 g hb))
  have ho := Only.setCell w2 ⟨g, 1 + x, none⟩ v'
  have hk2 := Kept.of_only ho
  have hN2 := Nodes.one hb2
  have hg : ¬ F' g := fun hb => by
    rcases hF g hb with h1 | h1
    · exact h.notIn x hx h1
    · have := h.blk.lt; omega
  refine ⟨h.old, ?_, (h.path.kept hk hN0).kept hk2 hN2, (h.value.kept hk hN0).kept hk2 hN2, h.none_, fun i hi => ?_, fun i hi => ?_, fun i j b hi hj => ?_⟩
  · have := hb2.put (1 + x) v'
    rwa [nodeV_kid _ _ _ _ x hx] at this
  · unfold upd
    by_cases e : i = x
    · simp only [if_pos e]
      exact ht.kept hk2 hN2 (fun b hb (e2 : b = g) => hg (by rw [← e2]; exact hb))
    · simp only [if_neg e]
      exact ((h.kids i hi).kept hk hN0 (fun b hb hb2 => e (h.apart i x b hi hx hb (hF0 b hb2)))).kept hk2 hN2 (fun b hb (e2 : b = g) => h.notIn i hi (by rw [← e2]; exact hb))
  · unfold upd
    by_cases e : i = x
    · simp only [if_pos e]; exact hg
    · simp only [if_neg e]; exact h.notIn i hi
  · unfold upd
    by_cases e : i = x <;> by_cases e2 : j = x
    · intros; omega
    · simp only [if_pos e, if_neg e2]
      intro h1 h2
      rcases hF b h1 with h3 | h3
      · exact absurd (h.apart j x b hj hx h2 h3) e2
      · have := ((h.kids j hj).lt b h2).2; omega
    · simp only [if_neg e, if_pos e2]
      intro h1 h2
      rcases hF b h2 with h3 | h3
      · exact absurd (h.apart i x b hi hx h1 h3) e
      · have := ((h.kids i hi).lt b h1).2; omega
    · simp only [if_neg e, if_neg e2]
      exact h.apart i j b hi hj
end
theorem NodeAt.mkEmpty {w : World} {base g : Nat} {pp : Piece} (hb : base ≤ g) (hB : Blk w g 99 (tab 18 (nodeV (pcV pp) (fun _ => .pointer none) (.slice none 0 0)))) (hp : OwnP w base pp) :
    NodeAt w base g pp (none, 0, []) (fun _ => .pointer none) noKids (fun _ _ => False) :=
  ⟨hb, hB, hp, World.ownsRow_nil _ _ _ _, fun _ => rfl, fun _ _ => ⟨rfl, fun _ h => h⟩, fun _ _ h => h, fun _ _ _ _ _ h _ => h.elim⟩
/-- A kid given anew, whose blocks are no others'. -/
theorem NodeAt.giveKid {w w2 : World} {base g : Nat} {pp vp : Piece} {kv : Nat → Value} {ks : Nat → Tr} {Fk : Nat → Nat → Prop} (h : NodeAt w2 base g pp vp kv ks Fk) {x : Nat} (hx : x < 16) {t' : Tr} {v' : Value} {F' : Nat → Prop} (ht : TreeAt w2 base t' v' F')
    (hg : ¬ F' g) (hF : ∀ i b, i < 16 → i ≠ x → F' b → ¬ Fk i b) (hb2 : Blk w g 99 (tab 18 (nodeV (pcV pp) (upd kv x v') (pcV vp)))) (ho : Only g w2 w) :
    NodeAt w base g pp vp (upd kv x v') (upd ks x t') (upd Fk x F') := by
  have hk2 := Kept.of_only ho
  have hN2 := Nodes.one h.blk
  refine ⟨h.old, hb2, h.path.kept hk2 hN2, h.value.kept hk2 hN2, h.none_, fun i hi => ?_, fun i hi => ?_, fun i j b hi hj => ?_⟩
  · unfold upd
    by_cases e : i = x
    · simp only [if_pos e]
      exact ht.kept hk2 hN2 (fun b hb (e2 : b = g) => hg (by rw [← e2]; exact hb))
    · simp only [if_neg e]
      exact (h.kids i hi).kept hk2 hN2 (fun b hb (e2 : b = g) => h.notIn i hi (by rw [← e2]; exact hb))
  · unfold upd
    by_cases e : i = x
    · simp only [if_pos e]; exact hg
    · simp only [if_neg e]; exact h.notIn i hi
  · unfold upd
    by_cases e : i = x <;> by_cases e2 : j = x
    · intros; omega
    · simp only [if_pos e, if_neg e2]
      intro h1 h2
      exact absurd h2 (hF j b hj e2 h1)
    · simp only [if_neg e, if_pos e2]
      intro h1 h2
      exact absurd h1 (hF i b hi e h2)
    · simp only [if_neg e, if_neg e2]
      exact h.apart i j b hi hj
/-- A node with one kid. -/
theorem NodeAt.oneKid {w : World} {base g : Nat} {pp : Piece} {x : Nat} {t' : Tr} {v' : Value} {F' : Nat → Prop} (hb : base ≤ g) (hp : OwnP w base pp) (ht : TreeAt w base t' v' F') (hg : ¬ F' g)
    (hb2 : Blk w g 99 (tab 18 (nodeV (pcV pp) (upd (fun _ => .pointer none) x v') (.slice none 0 0)))) :
    NodeAt w base g pp (none, 0, []) (upd (fun _ => .pointer none) x v') (upd noKids x t') (upd (fun _ _ => False) x F') := by
  refine ⟨hb, hb2, hp, World.ownsRow_nil _ _ _ _, fun _ => rfl, fun i hi => ?_, fun i hi => ?_, fun i j b hi hj => ?_⟩
  · unfold upd
    by_cases e : i = x
    · simp only [if_pos e]; exact ht
    · simp only [if_neg e]; exact ⟨rfl, fun _ h => h⟩
  · unfold upd
    by_cases e : i = x
    · simp only [if_pos e]; exact hg
    · simp only [if_neg e]; exact fun h => h
  · unfold upd
    by_cases e : i = x <;> by_cases e2 : j = x
    · intros; omega
    · simp only [if_neg e2]
      intro _ h2; exact h2.elim
    · simp only [if_neg e]
      intro h1; exact h1.elim
    · simp only [if_neg e]
      intro h1; exact h1.elim
theorem TreeAt.parts {w : World} {base : Nat} {p val : List UInt8} {ks : Nat → Tr} {v : Value} {F : Nat → Prop} (h : TreeAt w base (.node p ks val) v F) :
    ∃ (g : Nat) (pp vp : Piece) (kv : Nat → Value) (Fk : Nat → Nat → Prop), v = .pointer (some ⟨g, 0, none⟩) ∧ pp.2.2 = p ∧ vp.2.2 = val ∧ NodeAt w base g pp vp kv ks Fk ∧ ∀ b, F b ↔ footN g Fk b := by
  obtain ⟨g, pp, vp, kv, Fk, h1, h2, h3, rfl, h5, rfl, h7, h8, h9, h10, h11, h12⟩ := h
  exact ⟨g, pp, vp, kv, Fk, h1, rfl, rfl, ⟨h2, h3, h5, h7, h8, h9, h10, h11⟩, h12⟩
set_option maxHeartbeats 2000000 in
set_option maxRecDepth 20000 in
theorem putNil_calls (base : Nat) (vp : Piece) (A : Option Addr) (c : Nat) (l : List UInt8) (F : Nat → Prop) (w : World) (hl : l.length ≤ 1099511627776) (hb : base ≤ w.heap.size) (hv : OwnP w base vp) (hn : vp.2.2 = [] → pcV vp = .slice none 0 0) (hs : SeqB w A l) :
    Calls Tryd.prog 67 #[.pointer none, .slice A l.length c, pcV vp] w (TreePost w base F (putT .nil l vp.2.2)) := by
  have HS := Lib.hid hs
  have HV := Lib.hid hv
  have HN := Lib.hid hn
  obtain ⟨Av, cv, lv⟩ := vp
  unfold pcV
  clear hs hv hn
  go_enter Tryd.func67, Tryd.ntmps67
  go_wp2_with (go_at_call 54; refine (clone_calls A c _ l w hl (Nat.le_refl _) HS.out.seq).mono ?_; rintro e1 w1 ⟨A1, c1, rfl, ho1, hb1⟩; have HO1 := Lib.hid ho1; have HB1 := Lib.hid hb1; clear ho1 hb1)
  go_ret
  have hz := HB1.out.size
  have hnew := TreeAt.new (w := w1) (base := base) (pp := (A1, c1, l)) (vp := (Av, cv, lv)) (by omega) (own_mono HO1.out hb) (OwnP.below HV.out HB1.out) HN.out (node_lit _ _)
  exact ⟨_, _, rfl, hnew, (Kept.of_below HB1.out F).alloc _, fun b hb => Or.inr (by omega)⟩
end Go.Proofs.YtfhindffmghlaaaDoor
/- put: where a node is split. -/
namespace Go.Proofs.YtfhindffmghlaaaDoor
open Go.RowKit
theorem putT_node (p : List UInt8) (ks : Nat → Tr) (val l v : List UInt8) : putT (.node p ks val) l v =
    if common p l < p.length then
      match l.drop (common p l) with
      | [] => .node (p.take (common p l)) (upd noKids (p.getD (common p l) 0).toNat (.node (p.drop (common p l + 1)) ks val)) v
      | x :: r => .node (p.take (common p l)) (upd (upd noKids (p.getD (common p l) 0).toNat (.node (p.drop (common p l + 1)) ks val)) x.toNat (.node r noKids v)) []
    else
      match l.drop (common p l) with
      | [] => .node p ks v
      | x :: r => .node p (upd ks x.toNat (putT (ks x.toNat) r v)) val := by
  rw [putT]
  rfl
theorem TreeAt.ptr {w : World} {base : Nat} {t : Tr} {v : Value} {F : Nat → Prop} (h : TreeAt w base t v F) : ∃ o, v = .pointer o := by
  cases t with
  | nil => exact ⟨_, h.1⟩
  | node p ks val => obtain ⟨g, _, _, _, _, rfl, _⟩ := h; exact ⟨_, rfl⟩
/-- What put is handed. -/
structure PutPre (base M : Nat) (vp : Piece) (t : Tr) (v : Value) (F : Nat → Prop) (A : Option Addr) (c : Nat) (l : List UInt8) (w : World) : Prop where
  cap : l.length ≤ c
  capM : c ≤ maxLen
  len : l.length ≤ M
  nibs : Nibs l
  bound : M ≤ 1099511627776
  floor : base ≤ w.heap.size
  bnd : Bnd M t
  tree : TreeAt w base t v F
  path : SeqB w A l
  value : OwnP w base vp
  some_ : vp.2.2 ≠ []
theorem foot_one {F : Nat → Prop} {Fk : Nat → Nat → Prop} {g g2 x N : Nat} (hF : ∀ b, F b ↔ footN g Fk b) (hN : N ≤ g2) : ∀ b, footN g2 (upd (fun _ _ => False) x (footN g Fk)) b → F b ∨ N ≤ b := by
  intro b hb
  rcases hb with rfl | ⟨i, _, hb⟩
  · exact Or.inr hN
  · unfold upd at hb
    split at hb
    · exact Or.inl ((hF b).2 hb)
    · exact hb.elim
theorem foot_two {F : Nat → Prop} {Fk : Nat → Nat → Prop} {g g2 x z N : Nat} {F' : Nat → Prop} (hF : ∀ b, F b ↔ footN g Fk b) (hN : N ≤ g2) (h : ∀ b, F' b → N ≤ b) : ∀ b, footN g2 (upd (upd (fun _ _ => False) x (footN g Fk)) z F') b → F b ∨ N ≤ b := by
  intro b hb
  rcases hb with rfl | ⟨i, _, hb⟩
  · exact Or.inr hN
  · unfold upd at hb
    split at hb
    · exact Or.inr (h b hb)
    · split at hb
      · exact Or.inl ((hF b).2 hb)
      · exact hb.elim
theorem common_ne (a b : List UInt8) : ∀ (h1 : common a b < a.length) (h2 : common a b < b.length), a[common a b] ≠ b[common a b] := by
  induction a generalizing b with
  | nil => intro h1; simp at h1
  | cons x a ih =>
    cases b with
    | nil => intro _ h2; simp at h2
    | cons y b =>
      by_cases e : x = y
      · have hc : common (x :: a) (y :: b) = common a b + 1 := by show (if x = y then common a b + 1 else 0) = _; rw [if_pos e]
        intro h1 h2
        simp only [hc, List.length_cons] at h1 h2 ⊢
        exact ih b (by omega) (by omega)
      · have hc : common (x :: a) (y :: b) = 0 := by show (if x = y then common a b + 1 else 0) = _; rw [if_neg e]
        intro h1 h2
        simp only [hc]
        exact e
set_option maxHeartbeats 4000000 in
set_option maxRecDepth 20000 in
theorem putSplit_calls (base M : Nat) (vp : Piece) (p val : List UInt8) (ks : Nat → Tr) (v : Value) (F : Nat → Prop) (A : Option Addr) (c : Nat) (l : List UInt8) (w : World) (h : PutPre base M vp (.node p ks val) v F A c l w) (hk0 : common p l < p.length) :
    Calls Tryd.prog 67 #[v, .slice A l.length c, pcV vp] w (TreePost w base F (putT (.node p ks val) l vp.2.2)) := by
  obtain ⟨g, ⟨Ap, cp, p'⟩, ⟨An, cn, val'⟩, kv, Fk, rfl, rfl, rfl, hN, hF⟩ := h.tree.parts
  simp only at hk0 hF
  have q0 : w.cell? ⟨g, 0, none⟩ = some (.slice Ap p'.length cp) := hN.blk.at_ 0 (by omega)
  have hlM := h.len
  have hM := h.bound
  have hlc := h.cap
  have hcm := h.capM
  unfold maxLen at hcm
  have hpM : p'.length ≤ M := h.bnd.1
  have hpo : w.ownsRow base 5 1 (.slice Ap p'.length cp) p'.length (bytes p') := hN.path
  have hcpM := own_capM hpo
  have hcpc := own_cap hpo
  unfold maxLen at hcpM
  have hcom := common_calls Ap cp _ p' A c _ l w (by omega) (Seq.of_own hpo) h.path.seq
  have hput := putT_node p' ks val' l vp.2.2
  rw [if_pos hk0] at hput
  have hkl := (common_le p' l).2
  have hne0 := common_ne p' l
  generalize common p' l = k at *
  have hne : ∀ h2 : k < l.length, p'[k] ≠ l[k] := fun h2 => hne0 hk0 h2
  clear hne0
  have dsp : decide ((k : Int) < (p'.length : Int)) = true := by simp; omega
  obtain ⟨ap, rfl, ⟨csp, hblkp⟩, hcp⟩ := (SeqB.of_own hpo) (by omega)
  have hy := hcp k hk0
  have hy16 : p'[k].toNat < 16 := h.bnd.2.1 _ (List.getElem_mem hk0)
  have hgd : p'.getD k 0 = p'[k] := by rw [List.getD_eq_getElem?_getD, List.getElem?_eq_getElem hk0]; rfl
  rw [hgd] at hput
  generalize p'[k] = y at *
  have ey : (by8 y).toNat = y.toNat := by unfold by8; omega
  have by0 : 0 ≤ by8 y := by8_nonneg y
  have by1 : by8 y < 16 := by unfold by8; omega
  have l1 : (k : Int) ≤ (cp : Int) := by omega
  have l2 : (0 : Int) ≤ (k : Int) := by omega
  have l3 : (k : Int) < (p'.length : Int) := by omega
  have l4 : (k : Int) ≤ (l.length : Int) := by omega
  have hlt3 : (p'.take k).length = k := by rw [List.length_take]; omega
  have HN := Lib.hid hN
  have HPre := Lib.hid h
  have HCom := Lib.hid hcom
  have HF := Lib.hid hF
  have HPut := Lib.hid hput
  have HPo := Lib.hid hpo
  have HY := Lib.hid hy
  have HLt := Lib.hid hlt3
  obtain ⟨Av, cv, lv⟩ := vp
  unfold pcV
  clear hN h hcom hF hput hpo hcp hgd hy hlt3
  go_enter Tryd.func67, Tryd.ntmps67
  go_upto_region 8 with (first
    | (go_at_call 92; refine HCom.out.mono ?_; rintro e1 w1 ⟨rfl, m1, hm1⟩; have q01 : w1.cell? ⟨g, 0, none⟩ = some (.slice (some ap) p'.length cp) := hm1.symm ▸ (show (w.drewN m1).cell? ⟨g, 0, none⟩ = _ from q0); have hn1 : NodeAt w1 base g (some ap, cp, p') (An, cn, val') kv ks Fk := hm1.symm ▸ HN.out.below (below_drewN (Below.refl _ _) m1); have HN1 := Lib.hid hn1; have hs1 : w1.heap.size = w.heap.size := hm1.symm ▸ rfl; have hs1a := Nat.le_of_eq hs1; have hs1b := Nat.le_of_eq hs1.symm; have HM1 := Lib.hid hm1; clear hn1 hm1 hs1)
    | (go_at_call 54; have hcl := clone_calls (some ap) cp w1.heap.size (p'.take k) w1 (by rw [HLt.out]; omega) (Nat.le_refl _) (by have := (SeqB.of_own HN1.out.path).take k; exact this.seq); rw [HLt.out] at hcl; refine hcl.mono ?_; clear hcl; rintro e2 w2 ⟨A3, c3, rfl, ho3, hb3⟩; have HO3 := Lib.hid ho3; have HB3 := Lib.hid hb3; have hs2 := hb3.size; clear ho3 hb3))
  have hAr0 := HPre.out.path.cut (k := k) hlc
  have hdl : (l.drop k).length = l.length - k := List.length_drop
  generalize (if c = k then A else Option.map (fun x => x.add k) A) = Ar at *
  generalize hmr : l.length - k = mr at *
  generalize hcr : c - k = cr at *
  have hmrM : mr ≤ M := by omega
  have hmc : mr ≤ cr := by omega
  have hcrM : cr ≤ 9223372036854775807 := by omega
  have HDl := Lib.hid hdl
  have HAr := Lib.hid hAr0
  clear hdl hAr0 hmr hcr
  have hB3 : Blk (w2.alloc (.cells #[.slice A3 k c3, .pointer none, .pointer none, .pointer none, .pointer none, .pointer none, .pointer none, .pointer none, .pointer none, .pointer none, .pointer none, .pointer none, .pointer none, .pointer none, .pointer none, .pointer none, .pointer none, .slice none 0 0] 99)) w2.heap.size 99 (tab 18 (nodeV (pcV (A3, c3, p'.take k)) (fun _ => .pointer none) (.slice none 0 0))) := (Blk.new w2 _ _).same (by unfold pcV; simp only; rw [HLt.out]; exact node_lit _ _)
  have hn3 : NodeAt (w2.alloc (.cells #[.slice A3 k c3, .pointer none, .pointer none, .pointer none, .pointer none, .pointer none, .pointer none, .pointer none, .pointer none, .pointer none, .pointer none, .pointer none, .pointer none, .pointer none, .pointer none, .pointer none, .pointer none, .slice none 0 0] 99)) base g (some ap, cp, p') (An, cn, val') kv ks Fk := (HN1.out.below HB3.out).below ((Below.refl _ _).alloc (Nat.le_refl _) _)
  have ho3 : (w2.alloc (.cells #[.slice A3 k c3, .pointer none, .pointer none, .pointer none, .pointer none, .pointer none, .pointer none, .pointer none, .pointer none, .pointer none, .pointer none, .pointer none, .pointer none, .pointer none, .pointer none, .pointer none, .pointer none, .slice none 0 0] 99)).ownsRow base 5 1 (.slice A3 k c3) k (bytes (p'.take k)) := own_alloc (own_mono HO3.out (by have := HPre.out.floor; omega)) _
  have hk3 : Kept w (w2.alloc (.cells #[.slice A3 k c3, .pointer none, .pointer none, .pointer none, .pointer none, .pointer none, .pointer none, .pointer none, .pointer none, .pointer none, .pointer none, .pointer none, .pointer none, .pointer none, .pointer none, .pointer none, .pointer none, .slice none 0 0] 99)) F := ((HM1.out.symm ▸ (Kept.refl w F).drewN m1 : Kept w w1 F).then_below HB3.out).alloc _
  have hs3 : (w2.alloc (.cells #[.slice A3 k c3, .pointer none, .pointer none, .pointer none, .pointer none, .pointer none, .pointer none, .pointer none, .pointer none, .pointer none, .pointer none, .pointer none, .pointer none, .pointer none, .pointer none, .pointer none, .pointer none, .slice none 0 0] 99)).heap.size = w2.heap.size + 1 := size_alloc _ _
  have hlt2 : ∀ b, footN g Fk b → b < w2.heap.size := fun b hb => by have := (HN1.out.lt b hb).2; omega
  generalize w2.alloc (.cells #[.slice A3 k c3, .pointer none, .pointer none, .pointer none, .pointer none, .pointer none, .pointer none, .pointer none, .pointer none, .pointer none, .pointer none, .pointer none, .pointer none, .pointer none, .pointer none, .pointer none, .pointer none, .slice none 0 0] 99) = w3 at *
  have hs3a := Nat.le_of_eq hs3
  have hs3b := Nat.le_of_eq hs3.symm
  have q03 : w3.cell? ⟨g, 0, none⟩ = some (.slice (some ap) p'.length cp) := hn3.blk.at_ 0 (by omega)
  have qy3 : w3.cell? (ap.add k) = some (.int .u8 (by8 y)) := (World.cell?_of_block (w := w) (by rw [block_add]; exact (hk3.blk_ne (w := w) (F := F) (fun b hb => by obtain ⟨_, cs, hc⟩ := HPre.out.tree.typed b hb; exact ⟨cs, hc⟩) hblkp (by decide)).trans hblkp.symm)).trans HY.out
  have qz3 : w3.cell? ⟨w2.heap.size, 1 + y.toNat, none⟩ = some (.pointer none) := (hB3.at_ (1 + y.toNat) (by omega)).trans (by unfold nodeV; rw [if_neg (by omega), if_pos (by omega)])
  have f3 := hB3.frozen (1 + y.toNat)
  have HB3n := Lib.hid hB3
  have HN3 := Lib.hid hn3
  have HO3n := Lib.hid ho3
  have HK3 := Lib.hid hk3
  have HLt2 := Lib.hid hlt2
  clear hB3 hn3 ho3 hk3 hs3 hlt2
  go_still_tail 13, (by kernel_rfl)
  change wpList _ _ _ _ _ w3.drew
  go_upto_region 9 with fail
  have hop3 : OwnP w3 base (A3, c3, p'.take k) := by unfold OwnP pcV; simp only; rw [HLt.out]; exact HO3n.out
  have ho4 := (Only.setCell w3 ⟨w2.heap.size, 1 + y.toNat, none⟩ (.pointer (some ⟨g, 0, none⟩))).drew
  have hB4 : Blk (w3.setCell ⟨w2.heap.size, 1 + y.toNat, none⟩ (.pointer (some ⟨g, 0, none⟩))).drew w2.heap.size 99 (tab 18 (nodeV (pcV (A3, c3, p'.take k)) (upd (fun _ => .pointer none) y.toNat (.pointer (some ⟨g, 0, none⟩))) (.slice none 0 0))) := ((HB3n.out.put (1 + y.toNat) _).same (nodeV_kid _ _ _ _ _ hy16)).drew
  have hk4' := Kept.of_only ho4
  have hN4 := Nodes.one HB3n.out
  have hn4 := HN3.out.kept hk4' hN4 (fun b hb (e : b = w2.heap.size) => by have := HLt2.out b hb; omega)
  have hop4 := hop3.kept hk4' hN4
  have hk4 := HK3.out.only ho4 (Or.inr (show w.heap.size ≤ w2.heap.size by omega))
  have hs4 := ho4.size
  generalize (w3.setCell ⟨w2.heap.size, 1 + y.toNat, none⟩ (.pointer (some ⟨g, 0, none⟩))).drew = w4 at *
  have hs4a := Nat.le_of_eq hs4
  have hs4b := Nat.le_of_eq hs4.symm
  have q04 : w4.cell? ⟨g, 0, none⟩ = some (.slice (some ap) p'.length cp) := hn4.blk.at_ 0 (by omega)
  have HB4 := Lib.hid hB4
  have HN4 := Lib.hid hn4
  have HO4 := Lib.hid hop4
  have HK4 := Lib.hid hk4
  clear hop3 ho4 hB4 hk4' hN4 hn4 hop4 hk4 hs4 q03 qy3 qz3 f3
  have n5 : (0 : Int) ≤ (k : Int) + 1 := by omega
  have l5 : (k : Int) + 1 ≤ (p'.length : Int) := by omega
  go_cut [73] from 61 to 73 (fun _ wx => ∃ (A5 : Option Addr) (c5 : Nat), NodeAt wx base g (A5, c5, p'.drop (k + 1)) (An, cn, val') kv ks Fk ∧ Blk wx w2.heap.size 99 (tab 18 (nodeV (pcV (A3, c3, p'.take k)) (upd (fun _ => .pointer none) y.toNat (.pointer (some ⟨g, 0, none⟩))) (.slice none 0 0))) ∧ OwnP wx base (A3, c3, p'.take k) ∧ Kept w wx F ∧ w4.heap.size ≤ wx.heap.size ∧ SeqB wx Ar (l.drop k))
  case first =>
    have hdl5 : (p'.drop (k + 1)).length = p'.length - (k + 1) := List.length_drop
    have HD5 := Lib.hid hdl5
    have hsq5 := (SeqB.of_own HN4.out.path).drop (k + 1)
    have hcl5 : ∀ A', SeqB w4 A' (p'.drop (k + 1)) → ∀ c', Calls Tryd.prog 54 #[.slice A' (p'.length - (k + 1)) c'] w4 (fun e w' => ∃ (A' : Option Addr) (c' : Nat), e = .returned (.slice A' (p'.length - (k + 1)) c') ∧ w'.ownsRow w4.heap.size 5 1 (.slice A' (p'.length - (k + 1)) c') (p'.length - (k + 1)) (bytes (p'.drop (k + 1))) ∧ Below w4.heap.size w4 w') := fun A' hA' c' => by
      have := clone_calls A' c' w4.heap.size (p'.drop (k + 1)) w4 (by rw [hdl5]; omega) (Nat.le_refl _) hA'.seq
      rwa [hdl5] at this
    have HC5 := Lib.hid hcl5
    have HS5 := Lib.hid hsq5
    clear hdl5 hsq5 hcl5
    by_cases hcp : cp = k + 1
    · subst hcp
      have hnil : p'.drop (k + 1) = [] := List.drop_eq_nil_of_le (by omega)
      have HNil := Lib.hid hnil
      have hc6 := clone_calls (some ap) 0 w4.heap.size [] w4 (by simp) (Nat.le_refl _) Seq.none_
      simp only [List.length_nil] at hc6
      have HC6 := Lib.hid hc6
      clear hnil hc6
      go_wp2_with (go_at_call 54; refine HC6.out.mono ?_; rintro e5 w5 ⟨A5, c5, rfl, ho5, hb5⟩; have hn5 := HN4.out.below hb5; have f05 := hn5.blk.frozen 0; have q05 : w5.cell? ⟨g, 0, none⟩ = some (.slice (some ap) p'.length (k + 1)) := hn5.blk.at_ 0 (by omega); have HN5 := Lib.hid hn5; have HO5 := Lib.hid ho5; have HB5 := Lib.hid hb5; clear hn5 ho5 hb5)
      go_meet
      case rel =>
        have hp5 : OwnP w5 base (A5, c5, p'.drop (k + 1)) := by unfold OwnP pcV; simp only; rw [HNil.out]; exact own_mono HO5.out (by have := HPre.out.floor; omega)
        have hg2 : w2.heap.size ≠ g := by have := HLt2.out g (Or.inl rfl); omega
        have e5 : (Value.slice A5 0 c5) = pcV (A5, c5, p'.drop (k + 1)) := by unfold pcV; simp only; rw [HNil.out]; rfl
        rw [e5]
        refine ⟨A5, c5, ?_, ?_, ?_, ?_, ?_, ?_⟩
        · exact HN5.out.setPath (p2 := (A5, c5, p'.drop (k + 1))) hp5
        · exact (HB4.out.below HB5.out HB4.out.lt).far hg2 _
        · exact (OwnP.below HO4.out HB5.out).kept (Kept.of_only (Only.setCell w5 ⟨g, 0, none⟩ (pcV (A5, c5, p'.drop (k + 1))))) (Nodes.one HN5.out.blk)
        · exact (HK4.out.then_below HB5.out).only (Only.setCell w5 ⟨g, 0, none⟩ _) (Or.inl ((HF.out g).2 (Or.inl rfl)))
        · rw [size_setCell]; exact HB5.out.size
        · exact ((HAr.out.keep (w' := w4) (fun b cs hb => HK4.out.blk_ne (fun b hb => by obtain ⟨_, cs, hc⟩ := HPre.out.tree.typed b hb; exact ⟨cs, hc⟩) hb (by decide))).below HB5.out).kept (Kept.of_only (Only.setCell w5 ⟨g, 0, none⟩ (pcV (A5, c5, p'.drop (k + 1))))) (Nodes.one HN5.out.blk)
    · have HC6 := Lib.hid (HC5.out _ HS5.out (cp - (k + 1)))
      go_wp2_with (go_at_call 54; refine HC6.out.mono ?_; rintro e5 w5 ⟨A5, c5, rfl, ho5, hb5⟩; have hn5 := HN4.out.below hb5; have f05 := hn5.blk.frozen 0; have q05 : w5.cell? ⟨g, 0, none⟩ = some (.slice (some ap) p'.length cp) := hn5.blk.at_ 0 (by omega); have HN5 := Lib.hid hn5; have HO5 := Lib.hid ho5; have HB5 := Lib.hid hb5; clear hn5 ho5 hb5)
      go_meet
      case rel =>
        have hp5 : OwnP w5 base (A5, c5, p'.drop (k + 1)) := by unfold OwnP pcV; simp only; rw [HD5.out]; exact own_mono HO5.out (by have := HPre.out.floor; omega)
        have hg2 : w2.heap.size ≠ g := by have := HLt2.out g (Or.inl rfl); omega
        have e5 : (Value.slice A5 (p'.length - (k + 1)) c5) = pcV (A5, c5, p'.drop (k + 1)) := by unfold pcV; simp only; rw [HD5.out]
        rw [e5]
        refine ⟨A5, c5, ?_, ?_, ?_, ?_, ?_, ?_⟩
        · exact HN5.out.setPath (p2 := (A5, c5, p'.drop (k + 1))) hp5
        · exact (HB4.out.below HB5.out HB4.out.lt).far hg2 _
        · exact (OwnP.below HO4.out HB5.out).kept (Kept.of_only (Only.setCell w5 ⟨g, 0, none⟩ (pcV (A5, c5, p'.drop (k + 1))))) (Nodes.one HN5.out.blk)
        · exact (HK4.out.then_below HB5.out).only (Only.setCell w5 ⟨g, 0, none⟩ _) (Or.inl ((HF.out g).2 (Or.inl rfl)))
        · rw [size_setCell]; exact HB5.out.size
        · exact ((HAr.out.keep (w' := w4) (fun b cs hb => HK4.out.blk_ne (fun b hb => by obtain ⟨_, cs, hc⟩ := HPre.out.tree.typed b hb; exact ⟨cs, hc⟩) hb (by decide))).below HB5.out).kept (Kept.of_only (Only.setCell w5 ⟨g, 0, none⟩ (pcV (A5, c5, p'.drop (k + 1))))) (Nodes.one HN5.out.blk)
  case rest =>
    obtain ⟨A5, c5, hn6, hB6, hop6, hk6, hs6, hsr6⟩ := hcut
    have hg2 : ¬ footN g Fk w2.heap.size := fun hb => by have := HLt2.out _ hb; omega
    have hfloor := HPre.out.floor
    have hold : TreeAt wc base (.node (p'.drop (k + 1)) ks val') (.pointer (some ⟨g, 0, none⟩)) (footN g Fk) := hn6.tree
    have hn7 := NodeAt.oneKid (x := y.toNat) (by omega) hop6 hold hg2 hB6
    have hv7 : OwnP wc base (Av, cv, lv) := HPre.out.value.kept hk6 (fun b hb => by obtain ⟨_, cs, hc⟩ := HPre.out.tree.typed b hb; exact ⟨cs, hc⟩)
    have hput := HPut.out
    have hdl := HDl.out
    have HN7 := Lib.hid hn7
    have HV7 := Lib.hid hv7
    have HK6 := Lib.hid hk6
    have HSr := Lib.hid hsr6
    clear hn6 hB6 hop6 hk6 hsr6 hold hn7 hv7 HB4 HN4 HO4 HK4 HO3n HN3 HB3n HN1 HO3 HB3 HM1 q04 q01
    cases hr : l.drop k with
    | nil =>
      rw [hr] at hput hdl
      simp only [List.length_nil] at hdl
      subst hdl
      have f17 := HN7.out.blk.frozen 17
      have q17 : wc.cell? ⟨w2.heap.size, 17, none⟩ = some (.slice none 0 0) := HN7.out.blk.at_ 17 (by omega)
      have HP := Lib.hid hput
      clear hput hr
      go_wp2_with fail
      go_ret
      show TreePost w base F (putT (.node p' ks val') l lv) _ _
      rw [HP.out]
      exact ⟨_, _, rfl, (HN7.out.setValue (v2 := (Av, cv, lv)) HV7.out (fun e => absurd e HPre.out.some_)).tree, HK6.out.only (Only.setCell wc ⟨w2.heap.size, 17, none⟩ _) (Or.inr (show w.heap.size ≤ w2.heap.size by omega)), foot_one HF.out (by omega)⟩
    | cons x r =>
      rw [hr] at hput hdl
      have hkl2 : k < l.length := by
        have := congrArg List.length hr
        rw [List.length_drop] at this
        simp at this
        omega
      have hlk : l[k] = x := by
        have := List.drop_eq_getElem_cons hkl2
        rw [hr] at this
        injection this with h1 _
        exact h1.symm
      have hxy : x.toNat ≠ y.toNat := fun e => hne hkl2 (by rw [hlk]; exact UInt8.toNat_inj.1 e.symm)
      have hx16 : x.toNat < 16 := HPre.out.nibs x (List.mem_of_mem_drop (by rw [hr]; simp))
      have hsr := HSr.out
      rw [hr] at hsr
      obtain ⟨adr, rfl, hblkr, hcx⟩ := hsr (by simp)
      have hcx0 := hcx 0 (by simp)
      have hadd : adr.add 0 = adr := by unfold Addr.add; simp
      rw [hadd] at hcx0
      have hcx0 : wc.cell? adr = some (.int .u8 (by8 x)) := hcx0
      have hcut2 := hsr.cut (k := 1) (cap := cr) (by rw [hdl]; exact hmc)
      have ex : (by8 x).toNat = x.toNat := by unfold by8; omega
      have bx0 : 0 ≤ by8 x := by8_nonneg x
      have bx1 : by8 x < 16 := by unfold by8; omega
      have hm1 : mr - 1 = r.length := by simp at hdl; omega
      have hmr0 : 0 < mr := by simp at hdl; omega
      have hz0 : ((mr : Int) == 0) = false := by rw [beq_eq_false_iff_ne]; omega
      have l6 : (0 : Int) < (mr : Int) := by omega
      have l7 : (1 : Int) ≤ (mr : Int) := by omega
      have l7n : 1 ≤ mr := by omega
      have l8 : (mr : Int) ≤ (cr : Int) := by omega
      have l9 : r.length ≤ M := by omega
      have qk : wc.cell? ⟨w2.heap.size, 1 + x.toNat, none⟩ = some (.pointer none) := (HN7.out.blk.at_ (1 + x.toNat) (by omega)).trans (by unfold nodeV; rw [if_neg (by omega), if_pos (by omega), Nat.add_sub_cancel_left]; unfold upd; rw [if_neg hxy])
      have HP := Lib.hid hput
      have HCut2 := Lib.hid hcut2
      clear hput hr hdl hlk hcut2 hcx hsr hadd hne hxy
      by_cases hc2 : cr = 1
      · subst hc2
        have hseq := HCut2.out
        first | rw [if_pos rfl] at hseq | rw [if_pos trivial] at hseq
        change SeqB wc (some adr) r at hseq
        have hcall := putNil_calls base (Av, cv, lv) (some adr) (0) r (fun _ => False) wc.drew (by omega) (by have : wc.drew.heap.size = wc.heap.size := rfl; have := HK6.out.size; omega) (own_drewN HV7.out 1) (fun e => absurd e HPre.out.some_) (hseq.drewN 1)
        unfold pcV at hcall
        have HCall := Lib.hid hcall
        clear hcall hseq
        go_wp2_with fail
        go_region_law (first | (go_simp; go_at_call 67; refine HCall.out.mono ?_; rintro e8 w8 ⟨v8, F8, rfl, ht8, hk8, hf8⟩; obtain ⟨o8, rfl⟩ := ht8.ptr; have hNx : Nodes wc.drew (fun _ => False) := fun _ hf => hf.elim; have k1 : w8.cell? adr = some (.int .u8 (by8 x)) := (World.cell?_of_block (w := wc.drew) (by obtain ⟨cs, hc⟩ := hblkr; exact (hk8.blk_ne hNx hc.drew (by decide)).trans hc.symm)).trans hcx0; have k2 : w8.cell? ⟨w2.heap.size, 1 + x.toNat, none⟩ = some (.pointer none) := (World.cell?_of_block (w := wc.drew) ((hk8.blk HN7.out.blk.drew (fun hf => hf)).trans HN7.out.blk.symm)).trans qk; have f2 : w8.frozen? ⟨w2.heap.size, 1 + x.toNat, none⟩ = false := (hk8.blk HN7.out.blk.drew (fun hf => hf)).frozen _; have HT8 := Lib.hid ht8; have HK8 := Lib.hid hk8; have HF8 := Lib.hid hf8; clear ht8 hk8 hf8))
        all_goals
          go_wp2_with fail
          go_ret
          show TreePost w base F (putT (.node p' ks val') l lv) _ _
          rw [HP.out]
          have hk8 : Kept w wc.drew F := HK6.out.drewN 1
          have hn8 := (HN7.out.below (below_drewN (Below.refl _ _) 1)).setKid hx16 (F0 := fun _ => False) HK8.out (fun _ hf => hf.elim) HT8.out (fun b hb => Or.inr ((HF8.out b hb).resolve_left (fun hf => hf)))
          exact ⟨_, _, rfl, hn8.tree, (hk8.trans HK8.out (fun _ hf => hf.elim)).only (Only.setCell _ ⟨w2.heap.size, 1 + x.toNat, none⟩ _) (Or.inr (show w.heap.size ≤ w2.heap.size by omega)),
            foot_two HF.out (by omega) (fun b hb => by have := (HF8.out b hb).resolve_left (fun hf => hf); have h9 : wc.drew.heap.size = wc.heap.size := rfl; have := HK6.out.size; omega)⟩
      · have hseq := HCut2.out
        rw [if_neg hc2] at hseq
        change SeqB wc (some (adr.add 1)) r at hseq
        have hcall := putNil_calls base (Av, cv, lv) (some (adr.add 1)) (cr - 1) r (fun _ => False) wc.drew (by omega) (by have : wc.drew.heap.size = wc.heap.size := rfl; have := HK6.out.size; omega) (own_drewN HV7.out 1) (fun e => absurd e HPre.out.some_) (hseq.drewN 1)
        unfold pcV at hcall
        have HCall := Lib.hid hcall
        clear hcall hseq
        go_wp2_with fail
        go_region_law (first | (go_simp; go_at_call 67; refine HCall.out.mono ?_; rintro e8 w8 ⟨v8, F8, rfl, ht8, hk8, hf8⟩; obtain ⟨o8, rfl⟩ := ht8.ptr; have hNx : Nodes wc.drew (fun _ => False) := fun _ hf => hf.elim; have k1 : w8.cell? adr = some (.int .u8 (by8 x)) := (World.cell?_of_block (w := wc.drew) (by obtain ⟨cs, hc⟩ := hblkr; exact (hk8.blk_ne hNx hc.drew (by decide)).trans hc.symm)).trans hcx0; have k2 : w8.cell? ⟨w2.heap.size, 1 + x.toNat, none⟩ = some (.pointer none) := (World.cell?_of_block (w := wc.drew) ((hk8.blk HN7.out.blk.drew (fun hf => hf)).trans HN7.out.blk.symm)).trans qk; have f2 : w8.frozen? ⟨w2.heap.size, 1 + x.toNat, none⟩ = false := (hk8.blk HN7.out.blk.drew (fun hf => hf)).frozen _; have HT8 := Lib.hid ht8; have HK8 := Lib.hid hk8; have HF8 := Lib.hid hf8; clear ht8 hk8 hf8))
        all_goals
          go_wp2_with fail
          go_ret
          show TreePost w base F (putT (.node p' ks val') l lv) _ _
          rw [HP.out]
          have hk8 : Kept w wc.drew F := HK6.out.drewN 1
          have hn8 := (HN7.out.below (below_drewN (Below.refl _ _) 1)).setKid hx16 (F0 := fun _ => False) HK8.out (fun _ hf => hf.elim) HT8.out (fun b hb => Or.inr ((HF8.out b hb).resolve_left (fun hf => hf)))
          exact ⟨_, _, rfl, hn8.tree, (hk8.trans HK8.out (fun _ hf => hf.elim)).only (Only.setCell _ ⟨w2.heap.size, 1 + x.toNat, none⟩ _) (Or.inr (show w.heap.size ≤ w2.heap.size by omega)),
            foot_two HF.out (by omega) (fun b hb => by have := (HF8.out b hb).resolve_left (fun hf => hf); have h9 : wc.drew.heap.size = wc.heap.size := rfl; have := HK6.out.size; omega)⟩
end Go.Proofs.YtfhindffmghlaaaDoor
