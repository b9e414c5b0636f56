/- Items and lists of items in memory; how many are due. No walk. -/
import Derived.Test.YtfhindffmghlaaaDoorG18
import Derived.Test.YtfhindffmghlaaaDoorG19
import Derived.Deep.LoopGhost
import Derived.Deep.CutRange
set_option linter.unusedVariables false
set_option linter.unusedSimpArgs false
namespace Go.Proofs.YtfhindffmghlaaaDoor
open Go.RowKit It
/-- Cells one behind the other, in a block of their kind. -/
def SeqT (w : World) (t : TypeId) (A : Option Addr) (xs : List Value) : Prop :=
  0 < xs.length → ∃ ad, A = some ad ∧ (∃ cs, Blk w ad.block t cs) ∧ ∀ j, (h : j < xs.length) → w.cell? (ad.add j) = some xs[j]
section
variable {w w' : World} {t : TypeId} {A : Option Addr} {xs : List Value}
theorem SeqT.seq (h : SeqT w t A xs) : Seq w w.heap.size A xs := fun hn => by
  obtain ⟨ad, e, ⟨cs, hb⟩, hc⟩ := h hn
  exact ⟨ad, e, hb.lt, hc⟩
theorem SeqT.nil : SeqT w t A [] := fun h => absurd h (by simp)
theorem SeqT.keep (h : SeqT w t A xs) (hk : ∀ g cs, Blk w g t cs → Blk w' g t cs) : SeqT w' t A xs := fun hn => by
  obtain ⟨ad, e, ⟨cs, hb⟩, hc⟩ := h hn
  have hb' := hk _ _ hb
  refine ⟨ad, e, ⟨cs, hb'⟩, fun j hj => ?_⟩
  rw [← hc j hj]
  exact World.cell?_of_block (w := w) (by rw [block_add]; exact hb'.trans hb.symm)
theorem SeqT.below (h : SeqT w t A xs) (hb : Below w.heap.size w w') : SeqT w' t A xs := h.keep fun _ _ hq => hq.below hb hq.lt
theorem SeqT.drop (h : SeqT w t A xs) (k : Nat) : SeqT w t (A.map (·.add k)) (xs.drop k) := fun hn => by
  rw [List.length_drop] at hn
  obtain ⟨ad, rfl, ⟨cs, hb⟩, hc⟩ := h (by omega)
  refine ⟨ad.add k, rfl, ⟨cs, by rw [block_add]; exact hb⟩, fun j hj => ?_⟩
  rw [List.length_drop] at hj
  rw [add_add', hc (k + j) (by omega), List.getElem_drop]
theorem SeqT.take (h : SeqT w t A xs) (k : Nat) : SeqT w t A (xs.take k) := fun hn => by
  rw [List.length_take] at hn
  obtain ⟨ad, rfl, hb, hc⟩ := h (by omega)
  refine ⟨ad, rfl, hb, fun j hj => ?_⟩
  rw [List.length_take] at hj
  rw [hc j (by omega), List.getElem_take]
theorem SeqT.at_ (h : SeqT w t A xs) {k : Nat} (hk : k < xs.length) : ∃ ad, A = some ad ∧ ad.block < w.heap.size ∧ w.cell? (ad.add k) = some xs[k] := by
  obtain ⟨ad, e, ⟨cs, hb⟩, hc⟩ := h (by omega)
  exact ⟨ad, e, hb.lt, hc k hk⟩
theorem SeqT.of_own {base size n c : Nat} (h : w.ownsRow base t size (.slice A n c) n xs) : SeqT w t A xs := fun hn => by
  have h1 := h.1
  have hn0 : 0 < n := by
    rcases Nat.eq_zero_or_pos n with h0 | h0
    · rw [h0, Nat.zero_mul] at h1; omega
    · exact h0
  obtain ⟨g, rfl, _⟩ := own_form h hn0
  obtain ⟨cur, hb⟩ := own_blk h g rfl
  refine ⟨_, rfl, ⟨cur, hb⟩, fun j hj => ?_⟩
  obtain ⟨ad, e, _, hc⟩ := (Seq.of_own h).at_ (k := j) hj
  injection e with e
  subst e
  exact hc
theorem SeqB.seqT {l : List UInt8} (h : SeqB w A l) : SeqT w 5 A (bytes l) := fun hn => by
  rw [bytes_length] at hn
  obtain ⟨ad, e, hb, hc⟩ := h hn
  refine ⟨ad, e, hb, fun j hj => ?_⟩
  rw [bytes_get]
  exact hc j (by rw [bytes_length] at hj; exact hj)
end
/-- An item's row in memory. -/
def ItAt (w : World) (v : Value) (it : It) : Prop :=
  ∃ (A : Option Addr) (c : Nat) (its : List ItemL), v = .slice A its.length c ∧ its.length ≤ c ∧ c ≤ maxLen ∧ its.map said = it.flat ∧ SeqT w 109 A (itemsC its) ∧ (∀ x ∈ its, SeqB w x.2.2.1 x.2.2.2.2) ∧ its.length ≤ 524288 ∧ (∀ x ∈ its, x.2.2.2.2.length ≤ 524288) ∧ ∀ x ∈ its, x.2.2.2.2.length ≤ x.2.2.2.1 ∧ x.2.2.2.1 ≤ maxLen
/-- A list's items in memory. -/
def ListAt (w : World) (v : Value) (xs : List It) : Prop :=
  ∃ (A : Option Addr) (c : Nat) (vs : List Value), v = .slice A xs.length c ∧ vs.length = xs.length ∧ SeqT w 105 A vs ∧ xs.length ≤ 524288 ∧ ∀ (i : Nat) (u : Value) (it : It), vs[i]? = some u → xs[i]? = some it → ItAt w u it
section
variable {w w' : World} {v : Value} {it : It} {xs : List It}
theorem ItAt.keep (h : ItAt w v it) (hk : ∀ g cs, Blk w g 109 cs → Blk w' g 109 cs) (hk2 : ∀ g cs, Blk w g 5 cs → Blk w' g 5 cs) : ItAt w' v it := by
  obtain ⟨A, c, its, h1, h2, h3, h4, h5, h6, h7, h8, h9⟩ := h
  exact ⟨A, c, its, h1, h2, h3, h4, h5.keep hk, fun x hx => (h6 x hx).keep hk2, h7, h8, h9⟩
theorem ItAt.below (h : ItAt w v it) (hb : Below w.heap.size w w') : ItAt w' v it := h.keep (fun _ _ hq => hq.below hb hq.lt) (fun _ _ hq => hq.below hb hq.lt)
theorem ListAt.keep (h : ListAt w v xs) (hk : ∀ g cs, Blk w g 109 cs → Blk w' g 109 cs) (hk2 : ∀ g cs, Blk w g 5 cs → Blk w' g 5 cs) (hk3 : ∀ g cs, Blk w g 105 cs → Blk w' g 105 cs) : ListAt w' v xs := by
  obtain ⟨A, c, vs, h1, h2, h3, h4, h5⟩ := h
  exact ⟨A, c, vs, h1, h2, h3.keep hk3, h4, fun i u it hu hi => (h5 i u it hu hi).keep hk hk2⟩
theorem ListAt.below (h : ListAt w v xs) (hb : Below w.heap.size w w') : ListAt w' v xs := h.keep (fun _ _ hq => hq.below hb hq.lt) (fun _ _ hq => hq.below hb hq.lt) (fun _ _ hq => hq.below hb hq.lt)
theorem ListAt.kid (h : ListAt w v xs) {i : Nat} (hi : i < xs.length) : ∃ ad c u, v = .slice (some ad) xs.length c ∧ ad.block < w.heap.size ∧ w.cell? (ad.add i) = some u ∧ ItAt w u xs[i] := by
  obtain ⟨A, c, vs, h1, h2, h3, h4, h5⟩ := h
  obtain ⟨ad, rfl, hb, hc⟩ := h3.at_ (k := i) (by omega)
  exact ⟨ad, c, _, h1, hb, hc, h5 i _ _ (List.getElem?_eq_getElem (by omega)) (List.getElem?_eq_getElem hi)⟩
end
/-- What Decode answers is an item's row. -/
theorem ItAt.of_row {w : World} {base : Nat} {v : Value} {it : It} (h : RowIs w base v it.flat) (hl : it.flat.length ≤ 524288) (hb : ∀ s ∈ it.flat, s.2.2.length ≤ 524288) : ItAt w v it := by
  obtain ⟨A, c, its, rfl, hs, ho, hi⟩ := h
  have hlen : its.length = it.flat.length := by rw [← hs, List.length_map]
  rw [← hlen] at ho hl ⊢
  exact ⟨A, c, its, rfl, own_cap ho, own_capM ho, hs, SeqT.of_own ho, fun x hx => SeqB.of_own (hi x hx), hl, said_len hs hb, fun x hx => ⟨own_cap (hi x hx), own_capM (hi x hx)⟩⟩
/- How many items are due. -/
def dueF (L : List SaidI) : Int := (L.map fun x => x.2.1 - 1).sum
theorem dueF_append (a b : List SaidI) : dueF (a ++ b) = dueF a + dueF b := by unfold dueF; rw [List.map_append, List.sum_append]
theorem dueF_cons (x : SaidI) (b : List SaidI) : dueF (x :: b) = x.2.1 - 1 + dueF b := by unfold dueF; rw [List.map_cons, List.sum_cons]
mutual
theorem due_it : ∀ it : It, dueF it.flat = -1 ∧ ∀ j, j < it.flat.length → 0 ≤ dueF (it.flat.take j)
  | .bytes l => by
    refine ⟨by simp [It.flat, dueF], fun j hj => ?_⟩
    have : j = 0 := by simpa [It.flat] using hj
    subst this
    simp [dueF]
  | .list xs => by
    obtain ⟨h1, h2⟩ := due_its xs
    rw [It.flat]
    refine ⟨by rw [dueF_cons, h1]; simp; omega, fun j hj => ?_⟩
    cases j with
    | zero => simp [dueF]
    | succ j =>
      rw [List.take_succ_cons, dueF_cons]
      have := h2 j (by simpa using hj)
      simp only
      omega
theorem due_its : ∀ xs : List It, dueF (flats xs) = -(xs.length : Int) ∧ ∀ j, j < (flats xs).length → -(xs.length : Int) + 1 ≤ dueF ((flats xs).take j)
  | [] => by simp [flats, dueF]
  | x :: xs => by
    obtain ⟨h1, h2⟩ := due_it x
    obtain ⟨h3, h4⟩ := due_its xs
    rw [flats]
    refine ⟨by rw [dueF_append, h1, h3]; simp; omega, fun j hj => ?_⟩
    rw [List.length_append] at hj
    by_cases hlt : j < x.flat.length
    · rw [List.take_append_of_le_length (by omega)]
      have := h2 j hlt
      simp only [List.length_cons]
      omega
    · have := h4 (j - x.flat.length) (by omega)
      rw [List.take_append, List.take_of_length_le (by omega), dueF_append, h1]
      simp only [List.length_cons]
      omega
end
mutual
theorem flat_counts : ∀ it : It, ∀ s ∈ it.flat, 0 ≤ s.2.1 ∧ s.2.1 ≤ (it.flat.length : Int)
  | .bytes l => by simp [It.flat]
  | .list xs => by
    intro s hs
    have hx := flats_length_le xs
    rw [It.flat] at hs ⊢
    rcases List.mem_cons.1 hs with rfl | hs
    · simp only [List.length_cons]; omega
    · have := flats_counts xs s hs
      simp only [List.length_cons]; omega
theorem flats_counts : ∀ xs : List It, ∀ s ∈ flats xs, 0 ≤ s.2.1 ∧ s.2.1 ≤ ((flats xs).length : Int)
  | [] => by simp [flats]
  | x :: xs => by
    intro s hs
    rw [flats] at hs ⊢
    rw [List.length_append]
    rcases List.mem_append.1 hs with hs | hs
    · have := flat_counts x s hs; omega
    · have := flats_counts xs s hs; omega
theorem flats_length_le : ∀ xs : List It, xs.length ≤ (flats xs).length
  | [] => by simp [flats]
  | x :: xs => by
    have := flats_length_le xs
    have := flat_pos x
    rw [flats, List.length_append, List.length_cons]
    omega
end
theorem dueF_le {L : List SaidI} {M : Nat} (h : ∀ s ∈ L, s.2.1 ≤ (M : Int)) : dueF L ≤ (L.length * M : Nat) := by
  induction L with
  | nil => simp [dueF]
  | cons x L ih =>
    have h1 := h x (by simp)
    have h2 := ih (fun s hs => h s (by simp [hs]))
    rw [dueF_cons, List.length_cons, Nat.add_mul]
    omega
theorem flats_take (xs : List It) (k : Nat) (h : k < xs.length) : flats xs = flats (xs.take k) ++ (xs[k].flat ++ flats (xs.drop (k + 1))) := by
  conv => lhs; rw [← List.take_append_drop k xs, List.drop_eq_getElem_cons h]
  rw [flats_append, flats]
theorem flats_take_succ (xs : List It) (k : Nat) (h : k < xs.length) : flats (xs.take (k + 1)) = flats (xs.take k) ++ xs[k].flat := by
  rw [List.take_succ_eq_append_getElem h, flats_append]
  simp [flats]
end Go.Proofs.YtfhindffmghlaaaDoor
/- items. -/
namespace Go.Proofs.YtfhindffmghlaaaDoor
open Go.RowKit It
theorem infoRows : (Tryd.prog.info? 105).map (fun i => (i.zero, i.size, i.bytes)) = some (some (.slice none 0 0), 1, 24) := by kernel_rfl
theorem elRows : Elem Tryd.prog 125 105 1 24 := Elem.mk' Tryd.underlying125 infoRows rfl (by decide)
theorem said_at {its : List ItemL} {L : List SaidI} (h : its.map said = L) {j : Nat} (hj : j < its.length) : L[j]? = some (said its[j]) := by rw [← h, List.getElem?_map, List.getElem?_eq_getElem hj]; rfl
theorem add_zero' (ad : Addr) : ad.add (0 * 3) = ad := by unfold Addr.add; simp
set_option maxHeartbeats 4000000 in
set_option maxRecDepth 20000 in
theorem items_bytes (v : Value) (l : List UInt8) (w : World) (h : ItAt w v (.bytes l)) :
    Calls Tryd.prog 85 #[v] w fun e w' => e = .returned (.tuple #[.slice none 0 0, .bool false]) ∧ Below w.heap.size w w' := by
  obtain ⟨A, c, its, rfl, hc, hm, hs, hq, _, _, _⟩ := h
  have hn : its.length = 1 := by have := congrArg List.length hs; simpa [It.flat] using this
  obtain ⟨⟨isL, cnt, Ab, cb, lb⟩, rfl⟩ := List.length_eq_one_iff.1 hn
  obtain ⟨ad, rfl, hlt, h0, h1, h2⟩ := (ItemsAt.of_seq hq.seq).get 0 (by simp)
  simp only [It.flat, List.map_cons, List.map_nil, said, List.cons.injEq, Prod.mk.injEq, and_true] at hs
  obtain ⟨rfl, rfl, rfl⟩ := hs
  rw [add_zero'] at h0
  clear hq h1 h2 hn
  go_enter Tryd.func85, Tryd.ntmps85
  go_wp2_with fail
  go_ret2
  exact ⟨rfl, Below.refl _ _⟩
theorem itemsC_drop (l : List ItemL) : ∀ P, itemsC (l.drop P) = (itemsC l).drop (P * 3) := by
  induction l with
  | nil => intro P; simp [itemsC]
  | cons x l ih =>
    intro P
    cases P with
    | zero => simp
    | succ P =>
      rw [List.drop_succ_cons, ih, show (P + 1) * 3 = P * 3 + 3 by omega]
      obtain ⟨a, b, c⟩ := x
      rfl
theorem itemsC_take (l : List ItemL) : ∀ P, itemsC (l.take P) = (itemsC l).take (P * 3) := by
  induction l with
  | nil => intro P; simp [itemsC]
  | cons x l ih =>
    intro P
    cases P with
    | zero => simp [itemsC]
    | succ P =>
      rw [List.take_succ_cons, show (P + 1) * 3 = P * 3 + 3 by omega]
      have e : ∀ m : List ItemL, itemsC (x :: m) = itemC x ++ itemsC m := fun m => rfl
      rw [e, e, ih]
      obtain ⟨a, b, c⟩ := x
      rfl
/-- An item within a row. -/
theorem sub_it {w : World} {ad : Addr} {c P N : Nat} {its : List ItemL} {it : It} (hq : SeqT w 109 (some ad) (itemsC its)) (hc : its.length ≤ c) (hm : c ≤ maxLen) (hby : ∀ x ∈ its, SeqB w x.2.2.1 x.2.2.2.2) (hl : its.length ≤ 524288)
    (hbl : ∀ x ∈ its, x.2.2.2.2.length ≤ 524288) (hcp : ∀ x ∈ its, x.2.2.2.2.length ≤ x.2.2.2.1 ∧ x.2.2.2.1 ≤ maxLen) (hPN : P + N ≤ its.length) (hs : ((its.map said).drop P).take N = it.flat) : ItAt w (.slice (some (ad.add (P * 3))) N (c - P)) it := by
  have hlen : ((its.drop P).take N).length = N := by rw [List.length_take, List.length_drop]; omega
  have hmem : ∀ x ∈ (its.drop P).take N, x ∈ its := fun x hx => List.mem_of_mem_drop (List.mem_of_mem_take hx)
  refine ⟨some (ad.add (P * 3)), c - P, (its.drop P).take N, by rw [hlen], by omega, by omega, by rw [List.map_take, List.map_drop]; exact hs, ?_, fun x hx => hby x (hmem x hx), by omega, fun x hx => hbl x (hmem x hx), fun x hx => hcp x (hmem x hx)⟩
  rw [itemsC_take, itemsC_drop]
  exact (hq.drop (P * 3)).take (N * 3)
/-- The rows that were found. -/
structure RowsTo (w : World) (xs : List It) (k : Nat) (vs : List Value) (A : Option Addr) (c : Nat) (wr : World) : Prop where
  len : vs.length = k
  own_ : wr.ownsRow w.heap.size 105 1 (.slice A vs.length c) vs.length vs
  its : ∀ (i : Nat) (u : Value) (it : It), vs[i]? = some u → xs[i]? = some it → ItAt w u it
  below : Below w.heap.size w wr
set_option maxHeartbeats 4000000 in
set_option maxRecDepth 20000 in
theorem items_list (v : Value) (xs : List It) (w : World) (h : ItAt w v (.list xs)) :
    Calls Tryd.prog 85 #[v] w fun e w' => ∃ vl, e = .returned (.tuple #[vl, .bool true]) ∧ ListAt w' vl xs ∧ Below w.heap.size w w' := by
  obtain ⟨A, c, its, rfl, hc, hm, hs, hq, hby, hl, hbl, hcp⟩ := h
  have hfl : its.length = 1 + (flats xs).length := by have := congrArg List.length hs; simp [It.flat] at this; omega
  have hxl := flats_length_le xs
  have hIt := ItemsAt.of_seq hq.seq
  obtain ⟨ad, rfl, hlt, h0, g1, g2⟩ := hIt.get 0 (by omega)
  clear g1 g2
  have hb := said_at hs (j := 0) (by omega)
  simp only [It.flat, List.getElem?_cons_zero, Option.some.injEq] at hb
  have hb1 := congrArg Prod.fst hb
  have hb2 : true = (its[0]'(by omega)).1 := hb1
  rw [add_zero', ← hb2] at h0
  unfold maxLen at hm
  have l0 : (0 : Int) < (its.length : Int) := by omega
  have d0 : ((its.length : Int) == 0) = false := by
    have : (its.length : Int) ≠ 0 := by omega
    simpa using this
  have HS := Lib.hid hs
  have HQ := Lib.hid hq
  have HBy := Lib.hid hby
  have HBl := Lib.hid hbl
  have HCp := Lib.hid hcp
  have HIt := Lib.hid hIt
  have HFl := Lib.hid hfl
  have hfl1 : 1 + (flats xs).length ≤ its.length := by omega
  have hfl2 : its.length ≤ 1 + (flats xs).length := by omega
  clear hs hq hby hbl hcp hIt hfl hb hb1 hb2
  go_enter Tryd.func85, Tryd.ntmps85
  go_wp2_with fail
  go_loopw [5, 4] (fun vat vo wr => ∃ (k : Nat) (Ao : Option Addr) (co : Nat) (vs : List Value), k ≤ xs.length ∧ vat = .int .i64 ((1 + (flats (xs.take k)).length : Nat) : Int) ∧ vo = .slice Ao vs.length co ∧ RowsTo w xs k vs Ao co wr) (fun vat _ _ => its.length - (intOf vat).toNat)
  case atStart => exact ⟨0, none, 0, [], by omega, rfl, rfl, rfl, World.ownsRow_nil _ _ _ _, by simp, Below.refl _ _⟩
  case round =>
    obtain ⟨k, Ao, co, vs, hk, rfl, rfl, hR⟩ := hrel
    have HR := Lib.hid hR
    have hszr := hR.below.size
    have hvl : vs.length ≤ 524288 := by have := hR.len; omega
    clear hR
    by_cases hlt2 : k < xs.length
    · have hft := flats_take xs k hlt2
      have hfs := flats_take_succ xs k hlt2
      have hfp := flat_pos xs[k]
      have hdu := due_it xs[k]
      have hln := congrArg List.length hft
      rw [List.length_append, List.length_append] at hln
      have hcn := flat_counts xs[k]
      have HFt := Lib.hid hft
      have HFs := Lib.hid hfs
      have HDu := Lib.hid hdu
      have HCn := Lib.hid hcn
      obtain ⟨P, hP⟩ : ∃ P, 1 + (flats (xs.take k)).length = P := ⟨_, rfl⟩
      obtain ⟨N, hN⟩ : ∃ N, xs[k].flat.length = N := ⟨_, rfl⟩
      have hPN : P + N ≤ its.length := by omega
      rw [hP]
      have HP := Lib.hid hP
      have HN := Lib.hid hN
      have hN0 : 0 < N := by omega
      clear hft hfs hfp hdu hln hcn hP hN
      have dP : decide (P < its.length) = true := decide_eq_true (by omega)
      go_wp2_with fail
      go_loop [6, 7] (fun vd ve => ∃ j : Nat, j ≤ N ∧ ve = .int .i64 ((P + j : Nat) : Int) ∧ vd = .int .i64 (1 + dueF (xs[k].flat.take j))) (fun _ ve => its.length - (intOf ve).toNat)
      case atStart => exact ⟨0, by omega, rfl, rfl⟩
      case round =>
        obtain ⟨j, hj, rfl, rfl⟩ := hrel
        by_cases hj2 : j < N
        · have hlt3 : P + j < its.length := by omega
          obtain ⟨a2, e2, hlt4, _, hc1, _⟩ := (HIt.out.below HR.out.below (Nat.le_refl _)).get (P + j) hlt3
          obtain rfl : ad = a2 := Option.some.inj e2
          have hsd := said_at HS.out hlt3
          have hfj : (It.list xs).flat[P + j]? = xs[k].flat[j]? := by
            rw [It.flat, ← HP.out, show 1 + (flats (xs.take k)).length + j = ((flats (xs.take k)).length + j) + 1 by omega, List.getElem?_cons_succ, HFt.out, List.getElem?_append_right (by omega), Nat.add_sub_cancel_left,
              List.getElem?_append_left (by rw [HN.out]; exact hj2)]
          rw [hfj, List.getElem?_eq_getElem (by rw [HN.out]; exact hj2), Option.some.injEq] at hsd
          have hcc : its[P + j].2.1 = (xs[k].flat[j]'(by rw [HN.out]; exact hj2)).2.1 := by rw [hsd]; rfl
          have hc2 := HCn.out _ (List.getElem_mem (show j < xs[k].flat.length by rw [HN.out]; exact hj2))
          rw [← hcc, HN.out] at hc2
          have hD1 := HDu.out.2 j (by rw [HN.out]; exact hj2)
          have hD2 := dueF_le (L := xs[k].flat.take j) (M := N) (fun s hs => by have := (HCn.out s (List.mem_of_mem_take hs)).2; rw [HN.out] at this; exact this)
          have hD3 : dueF (xs[k].flat.take (j + 1)) = dueF (xs[k].flat.take j) + (its[P + j].2.1 - 1) := by
            rw [List.take_succ_eq_append_getElem (by rw [HN.out]; exact hj2), dueF_append, hcc]
            simp [dueF]
          have hD4 : (xs[k].flat.take j).length * N ≤ 524288 * 524288 := Nat.mul_le_mul (by rw [List.length_take]; omega) (by omega)
          have HD3 := Lib.hid hD3
          generalize its[P + j].2.1 = cnt at *
          generalize dueF (xs[k].flat.take j) = D at *
          have dd : decide (1 + D > 0) = true := decide_eq_true (by omega)
          have hD5 : D ≤ 274877906944 := by omega
          have lj : ((P + j : Nat) : Int) < (its.length : Int) := by omega
          clear hsd hfj hcc hD3 hD2 hD4
          go_wp2_with fail
          go_round
          case rel => exact ⟨j + 1, by omega, by go_num, by rw [HD3.out]; congr 1; omega⟩
          case measure => simp [intOf]; omega
        · have ejN : N = j := by omega
          subst ejN
          have hD : dueF (xs[k].flat.take N) = -1 := by rw [← HN.out, List.take_length]; exact HDu.out.1
          rw [hD]
          have hdt : ((It.list xs).flat.drop P).take N = xs[k].flat := by
            rw [It.flat, ← HP.out, show 1 + (flats (xs.take k)).length = (flats (xs.take k)).length + 1 by omega, List.drop_succ_cons, HFt.out, List.drop_left, ← HN.out, List.take_left]
          rw [← HS.out] at hdt
          have hit : ItAt w (.slice (some (ad.add (P * 3))) N (c - P)) xs[k] := sub_it HQ.out hc (by unfold maxLen; omega) HBy.out hl HBl.out HCp.out hPN hdt
          have HIt2 := Lib.hid hit
          have HOa := Lib.hid (own_alloc HR.out.own_ (.cells #[.slice (some (ad.add (P * 3))) N (c - P)] 105))
          clear hD hdt hit hj2
          go_wp2_with (at_builtin; ((refine wpL_append rfl (.tmp 35) (.tmp 40) 125 rfl elRows rfl HOa.out rfl rfl (Seq.one_new _ _ _) (one1 _ _ _) (by unfold maxLen; omega) (by omega) (by rw [size_alloc]; omega) ?_; intro A4 c4 w4 ho4 hg4 _; have HO4 := Lib.hid ho4; have HB4 := Lib.hid ((HR.out.below.alloc hszr (.cells #[.slice (some (ad.add (P * 3))) N (c - P)] 105)).grown hg4 (by rw [size_alloc]; omega) (fun g hg => (HOa.out.lt g hg).1)); clear ho4 hg4)))
          refine ⟨⟨k + 1, A4, c4, vs ++ [.slice (some (ad.add (P * 3))) N (c - P)], by omega, ?_, ?_, ?_⟩, by simp [intOf]; omega⟩
          · rw [HFs.out, List.length_append, HN.out]
            congr 1
            have := HP.out
            omega
          · rw [List.length_append]; rfl
          · refine ⟨by simp [HR.out.len], ?_, fun i u it hu hi => ?_, HB4.out⟩
            · rw [List.length_append]; exact HO4.out
            · rcases Nat.lt_or_ge i vs.length with h | h
              · rw [List.getElem?_append_left h] at hu
                exact HR.out.its i u it hu hi
              · rw [List.getElem?_append_right h] at hu
                have hi0 : i - vs.length = 0 := by
                  rcases Nat.eq_zero_or_pos (i - vs.length) with h0 | h0
                  · exact h0
                  · rw [List.getElem?_eq_none (by simp; omega)] at hu; cases hu
                rw [hi0] at hu
                simp only [List.getElem?_cons_zero, Option.some.injEq] at hu
                have hik : i = k := by have := HR.out.len; omega
                subst hik
                rw [List.getElem?_eq_getElem hlt2, Option.some.injEq] at hi
                rw [← hu, ← hi]
                exact HIt2.out
    · have ek : k = xs.length := by omega
      have hP : 1 + (flats (xs.take k)).length = its.length := by rw [ek, List.take_length]; exact HFl.out.symm
      rw [hP]
      have EK := Lib.hid ek
      clear hP ek
      have dP : decide (its.length < its.length) = false := decide_eq_false (by omega)
      go_wp2_with fail
      go_ret2
      have hlen := HR.out.len
      exact ⟨.slice Ao vs.length co, rfl, ⟨Ao, co, vs, by rw [← EK.out, ← hlen], by rw [hlen, EK.out], SeqT.of_own HR.out.own_, by omega, fun i u it hu hi => (HR.out.its i u it hu hi).below HR.out.below⟩, HR.out.below⟩
end Go.Proofs.YtfhindffmghlaaaDoor
