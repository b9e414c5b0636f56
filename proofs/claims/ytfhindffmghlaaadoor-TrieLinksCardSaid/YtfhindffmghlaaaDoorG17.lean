/- A trie's nodes as items; what a proof of it tells: itself alone is taken, or two texts have one hash. No walk. -/
import Derived.Test.YtfhindffmghlaaaDoorG16
import Derived.Test.YtfhindffmghlaaaDoorG15
import Derived.Test.YtfhindffmghlaaaDoorG28
set_option linter.unusedVariables false
set_option linter.unusedSimpArgs false
namespace Go.Proofs.YtfhindffmghlaaaDoor
open It
/- Paths as bytes. -/
theorem u8_cases {x : UInt8} (h : x.toNat < 16) : ∃ i : Fin 16, x = UInt8.ofNat i.val := ⟨⟨x.toNat, h⟩, by simp⟩
theorem odd_first : ∀ (m : Fin 2) (i : Fin 16), (32 * UInt8.ofNat m.val + (16 + UInt8.ofNat i.val)).toNat < 64 ∧ (32 * UInt8.ofNat m.val + (16 + UInt8.ofNat i.val)) &&& 16 ≠ 0 ∧ (32 * UInt8.ofNat m.val + (16 + UInt8.ofNat i.val)) &&& 15 = UInt8.ofNat i.val ∧ (32 * UInt8.ofNat m.val + (16 + UInt8.ofNat i.val)) >>> 5 = UInt8.ofNat m.val := by decide +kernel
theorem even_first : ∀ (m : Fin 2), (32 * UInt8.ofNat m.val).toNat < 64 ∧ (32 * UInt8.ofNat m.val) &&& 16 = 0 ∧ (32 * UInt8.ofNat m.val) &&& 15 = 0 ∧ (32 * UInt8.ofNat m.val) >>> 5 = UInt8.ofNat m.val := by decide +kernel
theorem pair_back : ∀ (i j : Fin 16), (UInt8.ofNat i.val <<< 4 ||| UInt8.ofNat j.val) >>> 4 = UInt8.ofNat i.val ∧ (UInt8.ofNat i.val <<< 4 ||| UInt8.ofNat j.val) &&& 15 = UInt8.ofNat j.val := by decide +kernel
theorem nib_pairUp : ∀ (l : List UInt8), Nibs l → l.length % 2 = 0 → nib (pairUp l) = l
  | [], _, _ => rfl
  | [a], _, h => by simp at h
  | a :: b :: r, hn, h => by
    have ih := nib_pairUp r hn.tail'.tail' (by simp only [List.length_cons] at h; omega)
    obtain ⟨i, rfl⟩ := u8_cases hn.head
    obtain ⟨j, rfl⟩ := u8_cases hn.tail'.head
    have hp := pair_back i j
    unfold pairUp nib
    rw [List.flatMap_cons, hp.1, hp.2]
    show _ :: _ :: nib (pairUp r) = _
    rw [ih]
theorem readT_cons (x : UInt8) (r : List UInt8) : readT (x :: r) = if 64 ≤ x.toNat ∨ (x &&& 16 = 0 ∧ x &&& 15 ≠ 0) then none else some ((if x &&& 16 ≠ 0 then [x &&& 15] else []) ++ nib r, x >>> 5) := rfl
theorem readT_written {p : List UInt8} (hn : Nibs p) (m : Fin 2) : readT (written p (UInt8.ofNat m.val)) = some (p, UInt8.ofNat m.val) := by
  unfold written
  split
  · rename_i h
    cases p with
    | nil => simp at h
    | cons x r =>
      obtain ⟨i, rfl⟩ := u8_cases hn.head
      have ho := odd_first m i
      have hr := nib_pairUp r hn.tail' (by simp only [List.length_cons] at h; omega)
      show readT ((32 * UInt8.ofNat m.val + (16 + UInt8.ofNat i.val)) :: pairUp r) = _
      rw [readT_cons, if_neg (by rintro (h | h); omega; exact ho.2.1 h.1), if_pos ho.2.1, ho.2.2.1, ho.2.2.2, hr]
      rfl
  · rename_i h
    have he := even_first m
    have hr := nib_pairUp p hn (by omega)
    rw [readT_cons, if_neg (by rintro (h | h); omega; exact h.2 he.2.2.1), if_neg (by simp [he.2.1]), he.2.2.2, hr]
    rfl
section
variable (hash : List UInt8 → List UInt8)
/-- What stands for an item. -/
def standI (it : It) : It := if it.enc.length < 32 then it else .bytes (hash it.enc)
/-- A node as an item. -/
def itT : Tr → It
  | .nil => .bytes []
  | .node p ks v =>
    if leafK ks then .list [.bytes (written p 1), .bytes v]
    else if p = [] then .list ((List.range 16).map (fun i => standI hash (itT (ks i))) ++ [.bytes v])
    else .list [.bytes (written p 0), standI hash (.list ((List.range 16).map (fun i => standI hash (itT (ks i))) ++ [.bytes v]))]
/-- A branch's items. -/
def brI (ks : Nat → Tr) (v : List UInt8) : List It := (List.range 16).map (fun i => standI hash (itT hash (ks i))) ++ [.bytes v]
/-- A node's items. -/
def xsT : Tr → List It
  | .nil => []
  | .node p ks v => if leafK ks then [.bytes (written p 1), .bytes v] else if p = [] then brI hash ks v else [.bytes (written p 0), standI hash (.list (brI hash ks v))]
theorem xsT_node (p : List UInt8) (ks : Nat → Tr) (v : List UInt8) : xsT hash (.node p ks v) = if leafK ks then [.bytes (written p 1), .bytes v] else if p = [] then brI hash ks v else [.bytes (written p 0), standI hash (.list (brI hash ks v))] := rfl
theorem itT_node (p : List UInt8) (ks : Nat → Tr) (v : List UInt8) : itT hash (.node p ks v) = .list (xsT hash (.node p ks v)) := by
  rw [itT, xsT_node]
  unfold brI
  split
  · rfl
  · split <;> rfl
theorem encs_map (l : List Nat) (f : Nat → It) : encs (l.map f) = (l.map fun i => (f i).enc).flatten := by
  induction l with
  | nil => rfl
  | cons x l ih => simp only [List.map_cons, encs, ih, List.flatten_cons]
theorem standI_enc (it : It) : (standI hash it).enc = stands hash it.enc := by
  unfold standI stands
  split
  · rfl
  · rw [It.enc]
theorem itT_enc : ∀ t : Tr, (itT hash t).enc = encT hash t
  | .nil => by rw [itT, encT, It.enc]
  | .node p ks v => by
    have ih := fun i => itT_enc (ks i)
    rw [itT_node, encT_node]
    have hb : (It.list (brI hash ks v)).enc = branchT hash ks v := by
      unfold brI branchT
      rw [It.enc, encs_append, encs_map, encs, encs, List.append_nil, It.enc]
      congr 3
      exact List.map_congr_left fun i _ => by rw [standI_enc, ih]
    rw [xsT_node]
    by_cases hl : leafK ks = true
    · rw [if_pos hl, if_pos hl, It.enc, encs, encs, encs, List.append_nil, It.enc, It.enc]
    · rw [if_neg hl, if_neg hl]
      unfold wrapT
      by_cases hp : p = []
      · rw [if_pos hp, if_pos hp, hb]
      · rw [if_neg hp, if_neg hp, It.enc, encs, encs, encs, List.append_nil, standI_enc, hb, It.enc]
theorem brI_enc (ks : Nat → Tr) (v : List UInt8) : (It.list (brI hash ks v)).enc = branchT hash ks v := by
  unfold brI branchT
  rw [It.enc, encs_append, encs_map, encs, encs, List.append_nil, It.enc]
  congr 3
  exact List.map_congr_left fun i _ => by rw [standI_enc, itT_enc]
theorem brI_length (ks : Nat → Tr) (v : List UInt8) : (brI hash ks v).length = 17 := by simp [brI]
theorem brI_kid (ks : Nat → Tr) (v : List UInt8) (i : Nat) (hi : i < 16) : (brI hash ks v).getD i (.bytes []) = standI hash (itT hash (ks i)) := by
  unfold brI
  simp [List.getD_eq_getElem?_getD, List.getElem?_append, hi]
theorem brI_value (ks : Nat → Tr) (v : List UInt8) : (brI hash ks v).getD 16 (.bytes []) = .bytes v := by
  unfold brI
  simp [List.getD_eq_getElem?_getD, List.getElem?_append]
theorem shaped17 {xs : List It} (h : xs.length = 17) : shapedT xs = true := by
  unfold shapedT
  split
  · simp at h
  · simp [h]
theorem xsT_shaped {p : List UInt8} {ks : Nat → Tr} {v : List UInt8} (hn : Nibs p) : shapedT (xsT hash (.node p ks v)) = true := by
  rw [xsT_node]
  split
  · unfold shapedT
    have := readT_written hn 1
    rw [show UInt8.ofNat (1 : Fin 2).val = 1 from rfl] at this
    simp [this]
  · split
    · exact shaped17 (brI_length hash ks v)
    · unfold shapedT
      have := readT_written hn 0
      rw [show UInt8.ofNat (0 : Fin 2).val = 0 from rfl] at this
      simp [this]
/-- No two unlike texts at one place have one hash. -/
def NoClash (a b : List (List UInt8)) : Prop := ∀ (i : Nat) (x y : List UInt8), a[i]? = some x → b[i]? = some y → hash x = hash y → x = y
/-- The true texts are taken, and left behind. -/
def followT (U texts : List (List UInt8)) (v : List UInt8) : WayR := if U <+: texts then some (v, texts.drop U.length) else none
theorem follow_nil (texts : List (List UInt8)) (v : List UInt8) : followT [] texts v = some (v, texts) := by unfold followT; simp
variable {hash}
theorem NoClash.tail {x y : List UInt8} {a b : List (List UInt8)} (h : NoClash hash (x :: a) (y :: b)) : NoClash hash a b := fun i u v h1 h2 => h (i + 1) u v (by simpa using h1) (by simpa using h2)
theorem NoClash.left {a b c : List (List UInt8)} (h : NoClash hash a (b ++ c)) : NoClash hash a b := fun i u v h1 h2 => h i u v h1 (by
  obtain ⟨hi, _⟩ := List.getElem?_eq_some_iff.1 h2
  rw [List.getElem?_append_left hi]
  exact h2)
theorem follow_cons {t u : List UInt8} {ts U : List (List UInt8)} {v : List UInt8} : followT (u :: U) (t :: ts) v = if t = u then followT U ts v else none := by
  unfold followT
  by_cases h : t = u
  · subst h
    rw [if_pos rfl]
    simp [List.cons_prefix_cons]
  · rw [if_neg h, if_neg (fun h2 => h (List.cons_prefix_cons.1 h2).1.symm)]
theorem follow_none {u : List UInt8} {U : List (List UInt8)} {v : List UInt8} : followT (u :: U) [] v = none := by
  unfold followT
  rw [if_neg (by simp)]
/-- A text taken by its hash. -/
theorem next_list {xs : List It} {k : List It → List (List UInt8) → List UInt8 → WayR} {path : List UInt8} {U : List (List UInt8)} {v : List UInt8} (hs : shapedT xs = true) (hl : (It.list xs).enc.length < 281474976710656)
    (hk : ∀ texts, NoClash hash texts U → k xs texts path = followT U texts v) {texts : List (List UInt8)} (hc : NoClash hash texts ((It.list xs).enc :: U)) :
    nextT hash k (hash (It.list xs).enc) texts path = followT ((It.list xs).enc :: U) texts v := by
  cases texts with
  | nil => rw [follow_none]; rfl
  | cons t ts =>
    unfold nextT
    simp only
    rw [follow_cons]
    by_cases ht : t = (It.list xs).enc
    · subst ht
      rw [if_neg (by simp), if_pos rfl, itemOf_enc _ hl]
      simp only
      rw [if_pos hs]
      exact hk ts hc.tail
    · rw [if_neg ht, if_pos (fun h => ht (hc 0 t _ rfl rfl h))]
theorem at_list {xs : List It} {k : List It → List (List UInt8) → List UInt8 → WayR} {path : List UInt8} {U : List (List UInt8)} {v : List UInt8} (hh : ∀ l, (hash l).length = 32) (hs : shapedT xs = true) (hl : (It.list xs).enc.length < 281474976710656)
    (hk : ∀ texts, NoClash hash texts U → k xs texts path = followT U texts v) {texts : List (List UInt8)} (hc : NoClash hash texts ((if 32 ≤ (It.list xs).enc.length then [(It.list xs).enc] else []) ++ U)) :
    atT hash k (standI hash (.list xs)) texts path = followT ((if 32 ≤ (It.list xs).enc.length then [(It.list xs).enc] else []) ++ U) texts v := by
  unfold standI
  by_cases h : (It.list xs).enc.length < 32
  · rw [if_pos h, if_neg (by omega)] at *
    unfold atT
    simp only
    rw [if_neg (by rintro (h2 | h2); omega; rw [hs] at h2; cases h2)]
    exact hk texts hc
  · rw [if_neg h, if_pos (by omega)] at *
    unfold atT
    simp only
    have h32 := hh (It.list xs).enc
    rw [if_neg (by intro e; rw [e] at h32; cases h32), if_pos h32]
    exact next_list hs hl hk hc
/-- Kids off the way give nothing. -/
theorem under_off : ∀ (t : Tr) (path : List UInt8), underT hash t false false path = []
  | .nil, _ => by rw [underT]
  | .node p ks v, path => by
    rw [underT_node]
    split
    · rfl
    · have hk : ∀ x, kidU hash ks false (false && decide (p <+: path)) (path.drop p.length) x = [] := fun x => by
        unfold kidU
        simp only [Bool.false_and, Bool.false_or, Bool.false_eq_true, if_false, and_false, List.nil_append]
        exact under_off (ks x) []
      rw [if_neg (by simp), List.nil_append]
      rw [List.flatten_eq_nil_iff]
      intro l hl
      obtain ⟨x, _, rfl⟩ := List.mem_map.1 hl
      exact hk x
theorem kidU_off (ks : Nat → Tr) (rest : List UInt8) (x : Nat) (h : rest = [] ∨ ∃ y r, rest = y :: r ∧ y.toNat ≠ x) : kidU hash ks false true rest x = [] := by
  have hg : (true && decide (0 < rest.length) && decide ((rest.headD 0).toNat = x)) = false := by
    rcases h with rfl | ⟨y, r, rfl, hy⟩
    · simp
    · simp [hy]
  unfold kidU
  rw [hg]
  simp only [Bool.false_or, Bool.false_eq_true, if_false, and_false, List.nil_append]
  exact under_off (ks x) []
theorem flat_one {α : Type} (f : Nat → List α) (x : Nat) (h : ∀ i, i ≠ x → f i = []) : ∀ k, x < k → ((List.range k).map f).flatten = f x
  | 0, hk => absurd hk (by omega)
  | k + 1, hk => by
    rw [flat_succ]
    by_cases hx : x = k
    · subst hx
      have : ((List.range x).map f).flatten = [] := by
        rw [List.flatten_eq_nil_iff]
        intro l hl
        obtain ⟨i, hi, rfl⟩ := List.mem_map.1 hl
        exact h i (by have := List.mem_range.1 hi; omega)
      rw [this, List.nil_append]
    · rw [flat_one f x h k (by omega), h k (fun e => hx e.symm), List.append_nil]
theorem kids_nil (ks : Nat → Tr) : ((List.range 16).map (kidU hash ks false true [])).flatten = [] := by
  rw [List.flatten_eq_nil_iff]
  intro l hl
  obtain ⟨i, _, rfl⟩ := List.mem_map.1 hl
  exact kidU_off ks [] i (Or.inl rfl)
theorem kids_cons (ks : Nat → Tr) (x : UInt8) (r : List UInt8) (hx : x.toNat < 16) : ((List.range 16).map (kidU hash ks false true (x :: r))).flatten =
    (if 32 ≤ (encT hash (ks x.toNat)).length then [encT hash (ks x.toNat)] else []) ++ underT hash (ks x.toNat) false true r := by
  rw [flat_one _ x.toNat (fun i hi => kidU_off ks _ i (Or.inr ⟨x, r, rfl, fun e => hi e.symm⟩)) 16 hx]
  unfold kidU
  simp
theorem leafK_noKids {ks : Nat → Tr} (h2 : ∀ i, 16 ≤ i → ks i = .nil) (h : leafK ks = true) : ks = noKids := by
  funext i
  rcases Nat.lt_or_ge i 16 with hi | hi
  · have := List.all_eq_true.1 h i (List.mem_range.2 hi)
    cases hk : ks i with
    | nil => rfl
    | node p k v => rw [hk] at this; cases this
  · exact h2 i hi
/-- A branch. -/
theorem branch_way {ks : Nat → Tr} {v : List UInt8} {f : Nat} (hh : ∀ l, (hash l).length = 32) (hg : ∀ i, Good (ks i)) (hb : ∀ i, (encT hash (ks i)).length < 281474976710656) (path : List UInt8) (hn : Nibs path)
    (ih : ∀ i path texts, Nibs path → path.length < f → ks i ≠ .nil → NoClash hash texts (underT hash (ks i) false true path) → inT hash f (xsT hash (ks i)) texts path = followT (underT hash (ks i) false true path) texts (gT (ks i) path))
    (hf : path.length ≤ f) {texts : List (List UInt8)} (hc : NoClash hash texts ((List.range 16).map (kidU hash ks false true path)).flatten) :
    lookT hash (inT hash f) (brI hash ks v) texts path = followT ((List.range 16).map (kidU hash ks false true path)).flatten texts (gT (.node [] ks v) path) := by
  unfold lookT
  rw [if_pos (brI_length hash ks v)]
  cases path with
  | nil =>
    simp only
    rw [brI_value, kids_nil, follow_nil, gT_self]
  | cons x r =>
    simp only
    have hx := hn.head
    rw [kids_cons ks x r hx] at *
    rw [brI_kid hash ks v x.toNat hx, show gT (.node [] ks v) (x :: r) = gT (ks x.toNat) r from gT_kid (p := []) x r]
    cases hk : ks x.toNat with
    | nil =>
      rw [underT, gT_nil]
      have e1 : encT hash .nil = [128] := by rw [encT]; decide
      rw [e1, if_neg (by simp), List.nil_append, follow_nil]
      have e2 : standI hash (itT hash .nil) = .bytes [] := by
        unfold standI
        rw [itT_enc, e1, if_pos (by simp), itT]
      rw [e2]
      unfold atT
      simp
    | node kp kk kv =>
      have hgk := hg x.toNat
      have hbk := hb x.toNat
      have ihk := fun texts => ih x.toNat r texts hn.tail' (by simp only [List.length_cons] at hf; omega) (by rw [hk]; simp)
      rw [hk] at hgk ihk hc hbk
      rw [itT_node]
      have he : (It.list (xsT hash (.node kp kk kv))).enc = encT hash (.node kp kk kv) := by rw [← itT_node, itT_enc]
      rw [← he] at hc hbk ⊢
      exact at_list hh (xsT_shaped hash hgk.1) hbk ihk hc
/-- A node: the true texts are taken, and tell the value. -/
theorem node_way {M : Nat} (hh : ∀ l, (hash l).length = 32) (hM : M ≤ 549755813888) : ∀ (t : Tr) (f : Nat) (path : List UInt8) (texts : List (List UInt8)), Good t → Bnd M t → Nibs path → path.length < f → t ≠ .nil → NoClash hash texts (underT hash t false true path) →
    inT hash f (xsT hash t) texts path = followT (underT hash t false true path) texts (gT t path)
  | .nil, _, _, _, _, _, _, _, h, _ => absurd rfl h
  | .node p ks v, 0, _, _, _, _, _, hf, _, _ => absurd hf (by omega)
  | .node p ks v, f + 1, path, texts, hg, hb, hn, hf, _, hc => by
    obtain ⟨h1, h2, h3, h4⟩ := hg
    rw [underT_node] at hc ⊢
    rw [inT]
    by_cases hl : leafK ks = true
    · rw [if_pos hl] at hc ⊢
      have hks := leafK_noKids h2 hl
      have hv : v ≠ [] := by
        rcases h4 with h4 | ⟨i, j, _, hi, _⟩
        · exact h4
        · rw [hks] at hi; exact absurd rfl hi
      rw [follow_nil, hks, gT_leaf]
      rw [xsT_node]
      unfold lookT
      have hr := readT_written h1 1
      rw [show UInt8.ofNat (1 : Fin 2).val = 1 from rfl] at hr
      rw [hks] at hl
      simp only [hl, if_true, hr]
      simp only [List.length_cons, List.length_nil]
      rw [if_neg (by omega), if_neg hv]
      by_cases hp : p = path
      · rw [if_pos hp, if_pos hp.symm]
      · rw [if_neg hp, if_neg (fun e => hp e.symm)]
    · rw [if_neg hl] at hc ⊢
      simp only [Bool.false_or, Bool.true_and] at hc ⊢
      have hbk : ∀ i, (encT hash (ks i)).length < 281474976710656 := fun i => by
        have := encT_le hash hh (ks i) M hM (hb.2.2.2 i)
        omega
      by_cases hp : p = []
      · subst hp
        simp only [List.nil_prefix, decide_true, List.length_nil, List.drop_zero, ne_eq, not_true_eq_false, false_and, if_false, List.nil_append] at hc ⊢
        rw [xsT_node]
        rw [if_neg hl, if_pos rfl]
        exact branch_way hh h3 hbk path hn (fun i path' texts' hn' hf' hne hc' => node_way hh hM (ks i) f path' texts' (h3 i) (hb.2.2.2 i) hn' hf' hne hc') (by omega) hc
      · have hr := readT_written h1 0
        rw [show UInt8.ofNat (0 : Fin 2).val = 0 from rfl] at hr
        have hbr : (It.list (brI hash ks v)).enc.length < 281474976710656 := by
          rw [brI_enc]
          have := branchT_le hash hh ks v M (by omega) hb.2.2.1
          omega
        rw [xsT_node]
        rw [if_neg hl, if_neg hp]
        unfold lookT
        simp only [List.length_cons, List.length_nil, hr]
        rw [if_neg (by omega), if_neg (by decide), if_neg hp]
        by_cases hpf : p <+: path
        · obtain ⟨rest, rfl⟩ := hpf
          simp only [List.prefix_append, decide_true, List.drop_left, not_true_eq_false, if_false] at hc ⊢
          have hpl : 0 < p.length := List.length_pos_iff.2 hp
          have hvd : voidI (standI hash (.list (brI hash ks v))) = false := by
            unfold standI
            split
            · rfl
            · have h32 := hh (It.list (brI hash ks v)).enc
              unfold voidI
              split
              · rename_i heq
                simp only [It.bytes.injEq] at heq
                rw [heq] at h32
                cases h32
              · rfl
          rw [hvd]
          simp only [Bool.false_eq_true, if_false]
          have hgp : gT (.node p ks v) (p ++ rest) = gT (.node [] ks v) rest := by
            cases rest with
            | nil => rw [List.append_nil, gT_self, gT_self]
            | cons x r => rw [gT_kid, show gT (.node [] ks v) (x :: r) = gT (ks x.toNat) r from gT_kid (p := []) x r]
          rw [hgp]
          have e1 : (p ≠ [] ∧ 32 ≤ (branchT hash ks v).length ∧ True) = (32 ≤ (It.list (brI hash ks v)).enc.length) := by
            rw [brI_enc]
            simp [hp]
          simp only [ne_eq, hp, not_false_eq_true, true_and, and_true, ← brI_enc] at hc ⊢
          rw [List.length_append] at hf
          obtain ⟨f', rfl⟩ : ∃ f', f = f' + 1 := ⟨f - 1, by omega⟩
          refine at_list hh (shaped17 (brI_length hash ks v)) hbr (fun texts' hc' => ?_) hc
          rw [inT]
          exact branch_way hh h3 hbk rest hn.right (fun i path' texts'' hn' hf' hne hc'' => node_way hh hM (ks i) f' path' texts'' (h3 i) (hb.2.2.2 i) hn' hf' hne hc'') (by omega) hc'
        · have e2 : ((List.range 16).map (kidU hash ks false false (path.drop p.length))).flatten = [] := by
            rw [List.flatten_eq_nil_iff]
            intro l hl
            obtain ⟨i, _, rfl⟩ := List.mem_map.1 hl
            unfold kidU
            simp only [Bool.false_and, Bool.false_or, Bool.false_eq_true, if_false, and_false, List.nil_append]
            exact under_off (ks i) []
          rw [gT_off hpf]
          simp only [hpf, decide_false, Bool.false_eq_true, and_false, if_false, List.nil_append, e2, not_false_eq_true, if_true]
          rw [follow_nil]
/-- All texts of a proof. -/
def proofT (hash : List UInt8 → List UInt8) (t : Tr) (path : List UInt8) : List (List UInt8) := encT hash t :: underT hash t false true path
/-- A proof under a trie's root: the true one is taken, and tells the value; no other one is. -/
theorem check_exact {M : Nat} {t : Tr} {path : List UInt8} {texts : List (List UInt8)} (hh : ∀ l, (hash l).length = 32) (hM : M ≤ 549755813888) (hg : Good t) (hb : Bnd M t) (hn : Nibs path) (hc : NoClash hash texts (proofT hash t path)) :
    checkT hash (hash (encT hash t)) texts path = if texts = proofT hash t path then some (gT t path) else none := by
  have hlt := encT_le hash hh t M hM hb
  have hnx : nextT hash (inT hash (path.length + 1)) (hash (encT hash t)) texts path = followT (proofT hash t path) texts (gT t path) := by
    cases t with
    | nil =>
      unfold proofT at hc ⊢
      have e1 : encT hash .nil = [128] := by rw [encT]; decide
      rw [underT, gT_nil, e1] at *
      cases texts with
      | nil => rw [follow_none]; rfl
      | cons t ts =>
        rw [follow_cons]
        unfold nextT
        simp only
        by_cases ht : t = [128]
        · subst ht
          rw [if_neg (by simp), if_pos rfl, follow_nil, show itemOf [128] = some (.bytes []) from by
            have := itemOf_enc (.bytes []) (by decide)
            exact this]
          simp
        · rw [if_neg ht, if_pos (fun h => ht (hc 0 t _ rfl rfl h))]
    | node p ks v =>
      unfold proofT at hc ⊢
      have he : (It.list (xsT hash (.node p ks v))).enc = encT hash (.node p ks v) := by rw [← itT_node, itT_enc]
      rw [← he] at hc hlt ⊢
      exact next_list (xsT_shaped hash hg.1) (by omega) (fun texts' hc' => node_way hh hM _ _ path texts' hg hb hn (by omega) (by simp) hc') hc
  unfold checkT
  rw [hnx]
  unfold followT
  by_cases h : proofT hash t path <+: texts
  · rw [if_pos h]
    obtain ⟨r, rfl⟩ := h
    rw [List.drop_left]
    cases r with
    | nil => simp
    | cons x r => simp
  · rw [if_neg h, if_neg (fun e => h (by rw [e]; exact List.prefix_refl _))]
end
end Go.Proofs.YtfhindffmghlaaaDoor
/- The texts of a trie: none is empty, none is long; two texts with one hash. No walk. -/
namespace Go.Proofs.YtfhindffmghlaaaDoor
open It
section
variable {hash : List UInt8 → List UInt8}
theorem encT_pos (t : Tr) : encT hash t ≠ [] := by
  intro h
  have := enc_pos (itT hash t)
  rw [itT_enc, h] at this
  simp at this
theorem underT_len (hh : ∀ l, (hash l).length = 32) {M : Nat} (hM : M ≤ 549755813888) : ∀ (t : Tr) (all on : Bool) (path : List UInt8), Bnd M t → ∀ x ∈ underT hash t all on path, 32 ≤ x.length ∧ x.length ≤ 2 * M + 800
  | .nil, _, _, _ => fun _ x hx => by simp [underT] at hx
  | .node p ks v, all, on, path => by
    intro hb x hx
    rw [underT_node] at hx
    split at hx
    · cases hx
    · rcases List.mem_append.1 hx with h | h
      · split at h
        · rename_i hc
          obtain rfl := List.mem_singleton.1 h
          have := branchT_le hash hh ks v M (by omega) hb.2.2.1
          exact ⟨hc.2.1, by omega⟩
        · cases h
      · obtain ⟨l, hl, hxl⟩ := List.mem_flatten.1 h
        obtain ⟨i, _, rfl⟩ := List.mem_map.1 hl
        unfold kidU at hxl
        rcases List.mem_append.1 hxl with h2 | h2
        · split at h2
          · rename_i hc
            obtain rfl := List.mem_singleton.1 h2
            exact ⟨hc.1, encT_le hash hh _ M hM (hb.2.2.2 i)⟩
          · cases h2
        · exact underT_len hh hM (ks i) _ _ _ (hb.2.2.2 i) x h2
theorem proofT_len (hh : ∀ l, (hash l).length = 32) {M : Nat} (hM : M ≤ 549755813888) {t : Tr} (hb : Bnd M t) (path : List UInt8) : ∀ x ∈ proofT hash t path, x ≠ [] ∧ x.length ≤ 2 * M + 800 := by
  intro x hx
  unfold proofT at hx
  rcases List.mem_cons.1 hx with rfl | hx
  · exact ⟨encT_pos t, encT_le hash hh t M hM hb⟩
  · have := underT_len hh hM t false true path hb x hx
    refine ⟨fun e => ?_, this.2⟩
    rw [e] at this
    simp at this
end
end Go.Proofs.YtfhindffmghlaaaDoor
