/- What a proof tells: the plain law of Check. No walk. -/
import Derived.Test.YtfhindffmghlaaaDoorG05
import Derived.Test.YtfhindffmghlaaaDoorG10
set_option linter.unusedVariables false
set_option linter.unusedSimpArgs false
namespace Go.Proofs.YtfhindffmghlaaaDoor
open It
/-- The nibbles and the mark that bytes write. -/
def readT : List UInt8 → Option (List UInt8 × UInt8)
  | [] => none
  | x :: r => if 64 ≤ x.toNat ∨ (x &&& 16 = 0 ∧ x &&& 15 ≠ 0) then none else some ((if x &&& 16 ≠ 0 then [x &&& 15] else []) ++ nib r, x >>> 5)
/-- Has a list a node's shape? -/
def shapedT : List It → Bool
  | [.bytes b, _] => (readT b).isSome
  | xs => xs.length == 17
/-- Is it no bytes? -/
def voidI : It → Bool
  | .bytes [] => true
  | _ => false
/-- What a way gives: none, if the texts are no proof; else the value and the texts that are left. -/
abbrev WayR := Option (List UInt8 × List (List UInt8))
section
variable (hash : List UInt8 → List UInt8)
/-- A text is taken, and gone on in by k. -/
def nextT (k : List It → List (List UInt8) → List UInt8 → WayR) (h : List UInt8) (texts : List (List UInt8)) (path : List UInt8) : WayR :=
  match texts with
  | [] => none
  | t :: ts => if hash t ≠ h then none else
    match itemOf t with
    | none => none
    | some (.bytes l) => if l = [] then some ([], ts) else none
    | some (.list xs) => if shapedT xs then k xs ts path else none
/-- On at an item. -/
def atT (k : List It → List (List UInt8) → List UInt8 → WayR) (it : It) (texts : List (List UInt8)) (path : List UInt8) : WayR :=
  match it with
  | .list xs => if 32 ≤ (It.list xs).enc.length ∨ shapedT xs = false then none else k xs texts path
  | .bytes b => if b = [] then some ([], texts) else if b.length = 32 then nextT hash k b texts path else none
/-- One look at a node. -/
def lookT (k : List It → List (List UInt8) → List UInt8 → WayR) (xs : List It) (texts : List (List UInt8)) (path : List UInt8) : WayR :=
  if xs.length = 17 then
    match path with
    | [] => match xs.getD 16 (.bytes []) with
      | .list _ => none
      | .bytes v => some (v, texts)
    | x :: r => atT hash k (xs.getD x.toNat (.bytes [])) texts r
  else
    match xs with
    | [.bytes b, far] =>
      match readT b with
      | none => none
      | some (p, mark) =>
        if mark = 1 then
          match far with
          | .list _ => none
          | .bytes v => if v = [] then none else if p = path then some (v, texts) else some ([], texts)
        else if p = [] then none
        else if ¬ p <+: path then some ([], texts)
        else if voidI far then none
        else atT hash k far texts (path.drop p.length)
    | _ => none
def inT : Nat → List It → List (List UInt8) → List UInt8 → WayR
  | 0, _, _, _ => none
  | f + 1, xs, texts, path => lookT hash (inT f) xs texts path
/-- What a proof says of a path under a root: nothing; or the value ([]: none is there). -/
def checkT (root : List UInt8) (texts : List (List UInt8)) (path : List UInt8) : Option (List UInt8) :=
  match nextT hash (inT hash (path.length + 1)) root texts path with
  | some (v, []) => some v
  | _ => none
end
end Go.Proofs.YtfhindffmghlaaaDoor
/- Tries: what they tell; a good trie is told by its values. No walk. -/
namespace Go.Proofs.YtfhindffmghlaaaDoor
/-- The value of a path; none is []. -/
def gT (t : Tr) (path : List UInt8) : List UInt8 := valueT (findT t path)
theorem gT_nil (path : List UInt8) : gT .nil path = [] := by unfold gT; rw [findT]; rfl
section
variable {p : List UInt8} {ks : Nat → Tr} {v : List UInt8}
theorem gT_off {path : List UInt8} (h : ¬ p <+: path) : gT (.node p ks v) path = [] := by
  unfold gT; rw [findT, if_neg h]; rfl
theorem gT_self : gT (.node p ks v) p = v := by
  unfold gT; rw [findT, if_pos (List.prefix_refl p), List.drop_length]; rfl
theorem gT_kid (x : UInt8) (r : List UInt8) : gT (.node p ks v) (p ++ x :: r) = gT (ks x.toNat) r := by
  unfold gT; rw [findT, if_pos (List.prefix_append _ _), List.drop_left]
theorem way_cases (p path : List UInt8) : (¬ p <+: path) ∨ path = p ∨ ∃ x r, path = p ++ x :: r := by
  by_cases h : p <+: path
  · obtain ⟨t, rfl⟩ := h
    cases t with
    | nil => exact Or.inr (Or.inl (by simp))
    | cons x r => exact Or.inr (Or.inr ⟨x, r, rfl⟩)
  · exact Or.inl h
end
def Good : Tr → Prop
  | .nil => True
  | .node p ks v => Nibs p ∧ (∀ i, 16 ≤ i → ks i = .nil) ∧ (∀ i, Good (ks i)) ∧ (v ≠ [] ∨ ∃ i j, i < j ∧ ks i ≠ .nil ∧ ks j ≠ .nil)
theorem Nibs.app {a b : List UInt8} (ha : Nibs a) (hb : Nibs b) : Nibs (a ++ b) := fun x hx => by
  rcases List.mem_append.1 hx with h | h
  · exact ha x h
  · exact hb x h
theorem Nibs.cons {x : UInt8} {b : List UInt8} (ha : x.toNat < 16) (hb : Nibs b) : Nibs (x :: b) := fun y hy => by
  rcases List.mem_cons.1 hy with rfl | h
  · exact ha
  · exact hb y h
theorem nat8 {i : Nat} (h : i < 16) : (UInt8.ofNat i).toNat = i := by simp; omega
theorem nat8' (x : UInt8) : UInt8.ofNat x.toNat = x := by simp
theorem good_some : ∀ {t : Tr}, Good t → t ≠ .nil → ∃ path, Nibs path ∧ gT t path ≠ []
  | .nil, _, h => absurd rfl h
  | .node p ks v, hg, _ => by
    obtain ⟨h1, h2, h3, h4⟩ := hg
    rcases h4 with h4 | ⟨i, j, hij, hi, hj⟩
    · exact ⟨p, h1, by rw [gT_self]; exact h4⟩
    · obtain ⟨r, hr, hv⟩ := good_some (h3 i) hi
      have hi16 : i < 16 := by
        rcases Nat.lt_or_ge i 16 with h | h
        · exact h
        · exact absurd (h2 i h) hi
      exact ⟨p ++ UInt8.ofNat i :: r, h1.app (Nibs.cons (by rw [nat8 hi16]; exact hi16) hr), by rw [gT_kid, nat8 hi16]; exact hv⟩
/-- What all its paths begin with its own path begins with. -/
theorem good_front {p q : List UInt8} {ks : Nat → Tr} {v : List UInt8} (hg : Good (.node p ks v)) (h : ∀ path, Nibs path → gT (.node p ks v) path ≠ [] → q <+: path) : q <+: p := by
  obtain ⟨h1, h2, h3, h4⟩ := hg
  rcases h4 with h4 | ⟨i, j, hij, hi, hj⟩
  · exact h p h1 (by rw [gT_self]; exact h4)
  · have hlt : ∀ i, ks i ≠ .nil → i < 16 := fun i hi => by
      rcases Nat.lt_or_ge i 16 with h | h
      · exact h
      · exact absurd (h2 i h) hi
    have key : ∀ i, ks i ≠ .nil → ∃ r, q <+: p ++ UInt8.ofNat i :: r := fun i hi => by
      obtain ⟨r, hr, hv⟩ := good_some (h3 i) hi
      have hi16 := hlt i hi
      exact ⟨r, h _ (h1.app (Nibs.cons (by rw [nat8 hi16]; exact hi16) hr)) (by rw [gT_kid, nat8 hi16]; exact hv)⟩
    obtain ⟨r1, q1⟩ := key i hi
    obtain ⟨r2, q2⟩ := key j hj
    by_cases hl : q.length ≤ p.length
    · exact List.prefix_of_prefix_length_le q1 (List.prefix_append _ _) hl
    · have a1 : p ++ [UInt8.ofNat i] <+: q := List.prefix_of_prefix_length_le (l₃ := p ++ UInt8.ofNat i :: r1) (by rw [show p ++ UInt8.ofNat i :: r1 = (p ++ [UInt8.ofNat i]) ++ r1 by simp]; exact List.prefix_append _ _) q1 (by simp; omega)
      have a2 : p ++ [UInt8.ofNat j] <+: q := List.prefix_of_prefix_length_le (l₃ := p ++ UInt8.ofNat j :: r2) (by rw [show p ++ UInt8.ofNat j :: r2 = (p ++ [UInt8.ofNat j]) ++ r2 by simp]; exact List.prefix_append _ _) q2 (by simp; omega)
      have a3 := List.prefix_of_prefix_length_le a1 a2 (by simp)
      have a4 := a3.eq_of_length (by simp)
      have a5 : UInt8.ofNat i = UInt8.ofNat j := by simpa using a4
      have a6 := congrArg UInt8.toNat a5
      rw [nat8 (hlt i hi), nat8 (hlt j hj)] at a6
      omega
theorem gT_front {p path : List UInt8} {ks : Nat → Tr} {v : List UInt8} (h : gT (.node p ks v) path ≠ []) : p <+: path := by
  by_cases hp : p <+: path
  · exact hp
  · exact absurd (gT_off hp) h
/-- A good trie is told by its values. -/
theorem good_ext : ∀ {t u : Tr}, Good t → Good u → (∀ path, Nibs path → gT t path = gT u path) → t = u
  | .nil, .nil, _, _, _ => rfl
  | .nil, .node p ks v, _, hu, h => by
    obtain ⟨path, hn, hv⟩ := good_some hu (by simp)
    exact absurd ((h path hn).symm.trans (gT_nil path)) hv
  | .node p ks v, .nil, ht, _, h => by
    obtain ⟨path, hn, hv⟩ := good_some ht (by simp)
    exact absurd ((h path hn).trans (gT_nil path)) hv
  | .node p ks v, .node p' ks' v', ht, hu, h => by
    have e1 : p' <+: p := good_front ht fun path hn hv => gT_front (by rw [← h path hn]; exact hv)
    have e2 : p <+: p' := good_front hu fun path hn hv => gT_front (by rw [h path hn]; exact hv)
    obtain rfl : p = p' := e2.eq_of_length (Nat.le_antisymm e2.length_le e1.length_le)
    obtain ⟨h1, h2, h3, h4⟩ := ht
    obtain ⟨_, k2, k3, _⟩ := hu
    have ev : v = v' := by have := h p h1; rwa [gT_self, gT_self] at this
    have ek : ks = ks' := by
      funext i
      rcases Nat.lt_or_ge i 16 with hi | hi
      · refine good_ext (h3 i) (k3 i) fun r hr => ?_
        have := h (p ++ UInt8.ofNat i :: r) (h1.app (Nibs.cons (by rw [nat8 hi]; exact hi) hr))
        rwa [gT_kid, gT_kid, nat8 hi] at this
      · rw [h2 i hi, k2 i hi]
    rw [ev, ek]
theorem good_noKids (i : Nat) : Good (noKids i) := trivial
theorem upd_self {α : Type} (S : Nat → α) (i : Nat) (v : α) : upd S i v i = v := by unfold upd; rw [if_pos rfl]
theorem upd_other {α : Type} (S : Nat → α) {i j : Nat} (v : α) (h : j ≠ i) : upd S i v j = S j := by unfold upd; rw [if_neg h]
theorem common_spec : ∀ (a b : List UInt8), ∃ q a2 b2, a = q ++ a2 ∧ b = q ++ b2 ∧ common a b = q.length ∧ (∀ x y r s, a2 = x :: r → b2 = y :: s → x ≠ y)
  | [], b => ⟨[], [], b, rfl, rfl, by simp [common], by simp⟩
  | x :: a, [] => ⟨[], x :: a, [], rfl, rfl, by simp [common], by simp⟩
  | x :: a, y :: b => by
    by_cases h : x = y
    · subst h
      obtain ⟨q, a2, b2, h1, h2, h3, h4⟩ := common_spec a b
      exact ⟨x :: q, a2, b2, by simp [h1], by simp [h2], by simp [common, h3], h4⟩
    · refine ⟨[], x :: a, y :: b, rfl, rfl, by simp [common, h], ?_⟩
      intro x' y' r s e1 e2
      injection e1 with e1 _
      injection e2 with e2 _
      subst e1 e2
      exact h
theorem putT_leaf (path v : List UInt8) : putT .nil path v = .node path noKids v := by rw [putT]
section
variable {ks : Nat → Tr} {val v : List UInt8}
/-- The four ways of put. -/
theorem putT_end (p : List UInt8) : putT (.node p ks val) p v = .node p ks v := by
  have hc : common p p = p.length := by
    obtain ⟨q, a2, b2, h1, h2, h3, h4⟩ := common_spec p p
    cases a2 with
    | nil => simp at h1; rw [h3, h1]
    | cons x r =>
      have : b2 = x :: r := List.append_cancel_left (h2.symm.trans h1)
      exact absurd rfl (h4 x x r r rfl this)
  rw [putT, hc, if_neg (by omega), List.drop_length]
theorem common_app (p : List UInt8) (r : List UInt8) : common p (p ++ r) = p.length := by
  induction p with
  | nil => simp [common]
  | cons x p ih => simp [common, ih]
theorem putT_down (p : List UInt8) (x : UInt8) (r : List UInt8) : putT (.node p ks val) (p ++ x :: r) v = .node p (upd ks x.toNat (putT (ks x.toNat) r v)) val := by
  rw [putT, common_app, if_neg (by omega), List.drop_left]
theorem common_split (q : List UInt8) (x : UInt8) (a b : List UInt8) (h : ∀ y s, b = y :: s → x ≠ y) : common (q ++ x :: a) (q ++ b) = q.length := by
  induction q with
  | nil =>
    cases b with
    | nil => simp [common]
    | cons y s => simp [common, h y s rfl]
  | cons z q ih => simp [common, ih]
theorem putT_cut (q : List UInt8) (x : UInt8) (a : List UInt8) : putT (.node (q ++ x :: a) ks val) q v = .node q (upd noKids x.toNat (.node a ks val)) v := by
  have hc : common (q ++ x :: a) q = q.length := by
    have := common_split q x a [] (by simp)
    rwa [List.append_nil] at this
  rw [putT, hc, if_pos (by simp), List.drop_length]
  simp [List.getD_eq_getElem?_getD]
theorem putT_fork (q : List UInt8) (x : UInt8) (a : List UInt8) (y : UInt8) (r : List UInt8) (h : x ≠ y) : putT (.node (q ++ x :: a) ks val) (q ++ y :: r) v = .node q (upd (upd noKids x.toNat (.node a ks val)) y.toNat (.node r noKids v)) [] := by
  have hc := common_split q x a (y :: r) (by intro y' s e; injection e with e _; subst e; exact h)
  rw [putT, hc, if_pos (by simp), List.drop_left]
  simp [List.getD_eq_getElem?_getD]
/-- .. are all. -/
theorem put_cases (p path : List UInt8) : path = p ∨ (∃ x r, path = p ++ x :: r) ∨ (∃ x a, p = path ++ x :: a) ∨ ∃ q x a y r, p = q ++ x :: a ∧ path = q ++ y :: r ∧ x ≠ y := by
  obtain ⟨q, a2, b2, h1, h2, h3, h4⟩ := common_spec p path
  cases a2 with
  | nil =>
    cases b2 with
    | nil => exact Or.inl (by rw [h1, h2])
    | cons y r => exact Or.inr (Or.inl ⟨y, r, by rw [h1, h2]; simp⟩)
  | cons x a =>
    cases b2 with
    | nil => exact Or.inr (Or.inr (Or.inl ⟨x, a, by rw [h1, h2]; simp⟩))
    | cons y r => exact Or.inr (Or.inr (Or.inr ⟨q, x, a, y, r, h1, h2, h4 x y a r rfl rfl⟩))
end
theorem toNat_ne {x y : UInt8} (h : x ≠ y) : x.toNat ≠ y.toNat := fun e => h (UInt8.toNat_inj.1 e)
theorem gT_leaf (path v path' : List UInt8) : gT (.node path noKids v) path' = if path' = path then v else [] := by
  rcases way_cases path path' with h | rfl | ⟨x, r, rfl⟩
  · rw [gT_off h, if_neg (fun e => h (by rw [e]; exact List.prefix_refl _))]
  · rw [gT_self, if_pos rfl]
  · rw [gT_kid, if_neg (by simp)]
    exact gT_nil r
/-- A node cut in two tells the same. -/
theorem gT_cut (q : List UInt8) (x : UInt8) (a : List UInt8) (ks : Nat → Tr) (val path : List UInt8) : gT (.node q (upd noKids x.toNat (.node a ks val)) []) path = gT (.node (q ++ x :: a) ks val) path := by
  rcases way_cases q path with h | rfl | ⟨y, r, rfl⟩
  · rw [gT_off h, gT_off (fun h2 => h ((List.prefix_append _ _).trans h2))]
  · rw [gT_self, gT_off (fun h2 => by have := h2.length_le; simp at this; omega)]
  · rw [gT_kid]
    by_cases hxy : y = x
    · subst hxy
      rw [upd_self]
      rcases way_cases a r with h | rfl | ⟨z, s, rfl⟩
      · rw [gT_off h, gT_off (fun h2 => h (by
          rw [List.prefix_append_right_inj] at h2
          exact (List.cons_prefix_cons.1 h2).2))]
      · rw [gT_self, gT_self]
      · rw [gT_kid, show q ++ y :: (a ++ z :: s) = (q ++ y :: a) ++ z :: s by simp, gT_kid]
    · rw [upd_other _ _ (toNat_ne hxy), show noKids y.toNat = Tr.nil from rfl, gT_nil, gT_off (fun h2 => by
        rw [List.prefix_append_right_inj] at h2
        exact hxy (List.cons_prefix_cons.1 h2).1.symm)]
theorem gT_upd {p : List UInt8} {ks : Nat → Tr} {v : List UInt8} (y : UInt8) (t : Tr) (path : List UInt8) : gT (.node p (upd ks y.toNat t) v) path = if p ++ [y] <+: path then gT t (path.drop (p.length + 1)) else gT (.node p ks v) path := by
  rcases way_cases p path with h | rfl | ⟨z, s, rfl⟩
  · rw [gT_off h, gT_off h, if_neg (fun h2 => h ((List.prefix_append _ _).trans h2))]
  · rw [gT_self, gT_self, if_neg (fun h2 => by have := h2.length_le; simp at this; omega)]
  · rw [gT_kid, gT_kid]
    by_cases hz : z = y
    · subst hz
      rw [upd_self, if_pos (by rw [List.prefix_append_right_inj]; simp), show p ++ z :: s = (p ++ [z]) ++ s by simp, show p.length + 1 = (p ++ [z]).length by simp, List.drop_left]
    · rw [upd_other _ _ (toNat_ne hz), if_neg (fun h2 => by
        rw [List.prefix_append_right_inj] at h2
        exact hz (List.cons_prefix_cons.1 h2).1.symm)]
/-- What a trie tells behind a put. -/
theorem gT_put : ∀ {t : Tr} (path : List UInt8) {v : List UInt8}, ∀ path', gT (putT t path v) path' = if path' = path then v else gT t path'
  | .nil, path, v, path' => by rw [putT_leaf, gT_leaf, gT_nil]
  | .node p ks val, path, v, path' => by
    rcases put_cases p path with rfl | ⟨x, r, rfl⟩ | ⟨x, a, rfl⟩ | ⟨q, x, a, y, r, rfl, rfl, hxy⟩
    · rw [putT_end]
      rcases way_cases path path' with h | rfl | ⟨z, s, rfl⟩
      · rw [gT_off h, gT_off h, if_neg (fun e => h (by rw [e]; exact List.prefix_refl _))]
      · rw [gT_self, if_pos rfl]
      · rw [gT_kid, gT_kid, if_neg (by simp)]
    · rw [putT_down]
      rcases way_cases p path' with h | rfl | ⟨z, s, rfl⟩
      · rw [gT_off h, gT_off h, if_neg (fun e => h (by rw [e]; exact List.prefix_append _ _))]
      · rw [gT_self, gT_self, if_neg (by simp)]
      · rw [gT_kid, gT_kid]
        by_cases hz : z = x
        · subst hz
          rw [upd_self, gT_put r s]
          by_cases hs : s = r
          · rw [if_pos hs, if_pos (by rw [hs])]
          · rw [if_neg hs, if_neg (by simpa using hs)]
        · rw [upd_other _ _ (toNat_ne hz), if_neg (fun e => by
            have := List.append_cancel_left e
            injection this with e1 _
            exact hz e1)]
    · rw [putT_cut]
      rw [← gT_cut path x a]
      rcases way_cases path path' with h | rfl | ⟨z, s, rfl⟩
      · rw [gT_off h, gT_off h, if_neg (fun e => h (by rw [e]; exact List.prefix_refl _))]
      · rw [gT_self, if_pos rfl]
      · rw [gT_kid, gT_kid, if_neg (by simp)]
    · rw [putT_fork _ _ _ _ _ hxy, gT_upd, gT_cut q x a]
      by_cases hp : q ++ [y] <+: path'
      · rw [if_pos hp]
        obtain ⟨s, rfl⟩ := hp
        rw [show q.length + 1 = (q ++ [y]).length by simp, List.drop_left, gT_leaf]
        by_cases hs : s = r
        · rw [if_pos hs, if_pos (by rw [hs]; simp)]
        · rw [if_neg hs, if_neg (by simpa using hs), gT_off (fun h2 => by
            rw [List.append_assoc, List.prefix_append_right_inj] at h2
            exact hxy (List.cons_prefix_cons.1 h2).1)]
      · rw [if_neg hp, if_neg (fun e => hp (by rw [e, show q ++ y :: r = (q ++ [y]) ++ r by simp]; exact List.prefix_append _ _))]
theorem Nibs.left {a b : List UInt8} (h : Nibs (a ++ b)) : Nibs a := fun x hx => h x (List.mem_append.2 (Or.inl hx))
theorem Nibs.right {a b : List UInt8} (h : Nibs (a ++ b)) : Nibs b := fun x hx => h x (List.mem_append.2 (Or.inr hx))
theorem Nibs.head {x : UInt8} {b : List UInt8} (h : Nibs (x :: b)) : x.toNat < 16 := h x (List.mem_cons_self ..)
theorem Nibs.tail' {x : UInt8} {b : List UInt8} (h : Nibs (x :: b)) : Nibs b := fun y hy => h y (List.mem_cons_of_mem _ hy)
theorem good_upd {ks : Nat → Tr} {i : Nat} {t : Tr} (h : ∀ i, Good (ks i)) (ht : Good t) : ∀ j, Good (upd ks i t j) := fun j => by
  unfold upd
  split
  · exact ht
  · exact h j
theorem far_upd {ks : Nat → Tr} {i : Nat} {t : Tr} (h : ∀ i, 16 ≤ i → ks i = .nil) (hi : i < 16) : ∀ j, 16 ≤ j → upd ks i t j = .nil := fun j hj => by
  rw [upd_other _ _ (by omega)]
  exact h j hj
theorem putT_some (t : Tr) (path v : List UInt8) : putT t path v ≠ .nil := by
  cases t with
  | nil => rw [putT_leaf]; simp
  | node p ks val =>
    rcases put_cases p path with rfl | ⟨x, r, rfl⟩ | ⟨x, a, rfl⟩ | ⟨q, x, a, y, r, rfl, rfl, hxy⟩
    · rw [putT_end]; simp
    · rw [putT_down]; simp
    · rw [putT_cut]; simp
    · rw [putT_fork _ _ _ _ _ hxy]; simp
theorem good_put : ∀ {t : Tr} (path : List UInt8) {v : List UInt8}, Good t → Nibs path → v ≠ [] → Good (putT t path v)
  | .nil, path, v, _, hn, hv => by
    rw [putT_leaf]
    exact ⟨hn, fun _ _ => rfl, good_noKids, Or.inl hv⟩
  | .node p ks val, path, v, hg, hn, hv => by
    obtain ⟨h1, h2, h3, h4⟩ := hg
    rcases put_cases p path with rfl | ⟨x, r, rfl⟩ | ⟨x, a, rfl⟩ | ⟨q, x, a, y, r, rfl, rfl, hxy⟩
    · rw [putT_end]
      exact ⟨h1, h2, h3, Or.inl hv⟩
    · rw [putT_down]
      have hx := hn.right.head
      refine ⟨h1, far_upd h2 hx, good_upd h3 (good_put r (h3 _) hn.right.tail' hv), ?_⟩
      rcases h4 with h4 | ⟨i, j, hij, hi, hj⟩
      · exact Or.inl h4
      · refine Or.inr ⟨i, j, hij, ?_, ?_⟩
        · unfold upd
          split
          · exact putT_some _ _ _
          · exact hi
        · unfold upd
          split
          · exact putT_some _ _ _
          · exact hj
    · rw [putT_cut]
      have hx := h1.right.head
      exact ⟨hn, far_upd (fun _ _ => rfl) hx, good_upd good_noKids ⟨h1.right.tail', h2, h3, h4⟩, Or.inl hv⟩
    · rw [putT_fork _ _ _ _ _ hxy]
      have hx := h1.right.head
      have hy := hn.right.head
      have hxy' := toNat_ne hxy
      refine ⟨hn.left, far_upd (far_upd (fun _ _ => rfl) hx) hy, good_upd (good_upd good_noKids ⟨h1.right.tail', h2, h3, h4⟩) ⟨hn.right.tail', fun _ _ => rfl, good_noKids, Or.inl hv⟩, Or.inr ?_⟩
      rcases Nat.lt_or_gt_of_ne hxy' with h | h
      · exact ⟨x.toNat, y.toNat, h, by rw [upd_other _ _ hxy', upd_self]; simp, by rw [upd_self]; simp⟩
      · exact ⟨y.toNat, x.toNat, h, by rw [upd_self]; simp, by rw [upd_other _ _ hxy', upd_self]; simp⟩
theorem there_mem (ks : Nat → Tr) (i : Nat) : i ∈ there ks ↔ i < 16 ∧ ks i ≠ .nil := by
  unfold there
  rw [List.mem_filter, List.mem_range]
  cases h : ks i with
  | nil => simp [Tr.isNil]
  | node p k v => simp [Tr.isNil]
theorem there_sorted (ks : Nat → Tr) : (there ks).Pairwise (· < ·) := by
  unfold there
  exact List.Pairwise.filter _ List.pairwise_lt_range
theorem noKids_of {ks : Nat → Tr} (h2 : ∀ i, 16 ≤ i → ks i = .nil) (h : there ks = []) : ks = noKids := by
  funext i
  rcases Nat.lt_or_ge i 16 with hi | hi
  · cases hk : ks i with
    | nil => rfl
    | node p k v =>
      have := (there_mem ks i).2 ⟨hi, by rw [hk]; simp⟩
      rw [h] at this
      cases this
  · exact h2 i hi
theorem oneKid_of {ks : Nat → Tr} {i : Nat} (h2 : ∀ i, 16 ≤ i → ks i = .nil) (h : there ks = [i]) : ks = upd noKids i (ks i) := by
  funext j
  by_cases hj : j = i
  · subst hj; rw [upd_self]
  · rw [upd_other _ _ hj]
    rcases Nat.lt_or_ge j 16 with hi | hi
    · cases hk : ks j with
      | nil => rfl
      | node p k v =>
        have := (there_mem ks j).2 ⟨hi, by rw [hk]; simp⟩
        rw [h] at this
        exact absurd (List.mem_singleton.1 this) hj
    · exact h2 j hi
/-- A fold tells the same, and is good. -/
theorem fold_spec {p : List UInt8} {ks : Nat → Tr} {val : List UInt8} (h1 : Nibs p) (h2 : ∀ i, 16 ≤ i → ks i = .nil) (h3 : ∀ i, Good (ks i)) :
    Good (foldT p ks val) ∧ ∀ path, gT (foldT p ks val) path = gT (.node p ks val) path := by
  unfold foldT
  split
  · rename_i h
    refine ⟨⟨h1, h2, h3, ?_⟩, fun _ => rfl⟩
    rcases h with h | h
    · exact Or.inl h
    · refine Or.inr ?_
      have hs := there_sorted ks
      have hm := there_mem ks
      match hl : there ks with
      | [] => rw [hl] at h; simp at h
      | [_] => rw [hl] at h; simp at h
      | i :: j :: l =>
        rw [hl] at hs hm
        exact ⟨i, j, (List.pairwise_cons.1 hs).1 j (by simp), ((hm i).1 (by simp)).2, ((hm j).1 (by simp)).2⟩
  · rename_i h
    have hv : val = [] := by
      by_cases hv : val = []
      · exact hv
      · exact absurd (Or.inl hv) h
    have hl : ¬ 1 < (there ks).length := fun h' => h (Or.inr h')
    subst hv
    match hlist : there ks with
    | [] =>
      refine ⟨trivial, fun path => ?_⟩
      have : ks = noKids := noKids_of h2 hlist
      rw [this, gT_nil, gT_leaf]
      split <;> rfl
    | i :: [] =>
      have hi := (there_mem ks i).1 (by rw [hlist]; simp)
      have hk := oneKid_of h2 hlist
      have hg := h3 i
      cases hki : ks i with
      | nil => exact absurd hki hi.2
      | node kp kk kv =>
        rw [hki] at hg hk
        simp only [hki]
        refine ⟨⟨h1.app (Nibs.cons (by rw [nat8 hi.1]; exact hi.1) hg.1), hg.2.1, hg.2.2.1, hg.2.2.2⟩, fun path => ?_⟩
        have := gT_cut p (UInt8.ofNat i) kp kk kv path
        rw [nat8 hi.1] at this
        rw [hk, this]
    | i :: j :: l => rw [hlist] at hl; simp at hl
theorem dropT_node' (p : List UInt8) (ks : Nat → Tr) (val l : List UInt8) : dropT (.node p ks val) l =
    match l.drop p.length with
    | [] => foldT p ks []
    | x :: r => foldT p (upd ks x.toNat (dropT (ks x.toNat) r)) val := by rw [dropT]; cases l.drop p.length <;> rfl
/-- What a trie tells behind a drop; it is good. -/
theorem drop_spec : ∀ {t : Tr} (path : List UInt8), Good t → Nibs path → gT t path ≠ [] → Good (dropT t path) ∧ ∀ path', gT (dropT t path) path' = if path' = path then [] else gT t path'
  | .nil, path, _, _, h => absurd (gT_nil path) h
  | .node p ks val, path, hg, hn, h => by
    obtain ⟨h1, h2, h3, h4⟩ := hg
    rw [dropT_node']
    rcases way_cases p path with h5 | rfl | ⟨x, r, rfl⟩
    · exact absurd (gT_off h5) h
    · rw [List.drop_length]
      have hf := fold_spec (val := []) h1 h2 h3
      refine ⟨hf.1, fun path' => ?_⟩
      rw [hf.2]
      rcases way_cases path path' with h | rfl | ⟨z, s, rfl⟩
      · rw [gT_off h, gT_off h, if_neg (fun e => h (by rw [e]; exact List.prefix_refl _))]
      · rw [gT_self, if_pos rfl]
      · rw [gT_kid, gT_kid, if_neg (by simp)]
    · rw [List.drop_left]
      rw [gT_kid] at h
      have hx := hn.right.head
      obtain ⟨g1, g2⟩ := drop_spec r (h3 _) hn.right.tail' h
      have hf := fold_spec (p := p) (ks := upd ks x.toNat (dropT (ks x.toNat) r)) (val := val) h1 (far_upd h2 hx) (good_upd h3 g1)
      refine ⟨hf.1, fun path' => ?_⟩
      rw [hf.2]
      rcases way_cases p path' with h | rfl | ⟨z, s, rfl⟩
      · rw [gT_off h, gT_off h, if_neg (fun e => h (by rw [e]; exact List.prefix_append _ _))]
      · rw [gT_self, gT_self, if_neg (by simp)]
      · rw [gT_kid, gT_kid]
        by_cases hz : z = x
        · subst hz
          rw [upd_self, g2]
          by_cases hs : s = r
          · rw [if_pos hs, if_pos (by rw [hs])]
          · rw [if_neg hs, if_neg (by simpa using hs)]
        · rw [upd_other _ _ (toNat_ne hz), if_neg (fun e => by
            have := List.append_cancel_left e
            injection this with e1 _
            exact hz e1)]
end Go.Proofs.YtfhindffmghlaaaDoor
