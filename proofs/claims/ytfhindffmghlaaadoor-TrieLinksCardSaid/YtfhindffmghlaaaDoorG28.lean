/- Items: their bytes are read as they are, and Encode gives them. No walk. -/
import Derived.Test.YtfhindffmghlaaaDoorG05
import Derived.Test.YtfhindffmghlaaaDoorMRNumPure
set_option linter.unusedVariables false
set_option linter.unusedSimpArgs false
namespace Go.Proofs.YtfhindffmghlaaaDoor
open It
mutual
theorem parse_enc {b : List UInt8} : ∀ (it : It) {rest : List UInt8} {p en f : Nat}, b.drop p = it.enc ++ rest → p + it.enc.length ≤ en → en ≤ b.length → b.length < 281474976710656 → 2 * it.enc.length + 1 ≤ f → parse b f p en = some (it, p + it.enc.length)
  | .bytes l, rest, p, en, f, hb, hen, hen2, hlt, hf => by
    obtain ⟨f, rfl⟩ : ∃ j, f = j + 1 := ⟨f - 1, by omega⟩
    simp only [It.enc] at *
    have hl : l.length ≤ (bytesM l).length := by unfold bytesM; rw [List.length_append]; omega
    obtain ⟨g, hr, hg, hcut⟩ := read_bytesM (b := b) (rest := rest) (l := l) (p := p) (en := en) (by omega) hb hen hen2
    unfold parse
    rw [hr]
    simp [hcut]
  | .list xs, rest, p, en, f, hb, hen, hen2, hlt, hf => by
    obtain ⟨f, rfl⟩ : ∃ j, f = j + 1 := ⟨f - 1, by omega⟩
    simp only [It.enc] at *
    have hpos := headL_pos 192 (encs xs).length
    have hb' : b.drop p = headL 192 (encs xs).length ++ (encs xs ++ rest) := by rw [hb]; unfold withM; rw [List.append_assoc]
    have hlen : (withM 192 (encs xs)).length = (headL 192 (encs xs).length).length + (encs xs).length := by unfold withM; rw [List.length_append]
    rw [hlen] at hen hf ⊢
    have hr := read_head (b := b) (rest := encs xs ++ rest) (p := p) (en := en) (kd := 192) (m := (encs xs).length) (Or.inr rfl) (by omega) hb' (by omega) (fun h => by omega)
    have hb2 : b.drop (p + (headL 192 (encs xs).length).length) = encs xs ++ rest := by rw [← List.drop_drop, hb', List.drop_left]
    unfold parse
    rw [hr]
    simp only [decide_true, if_true, ne_eq, not_true_eq_false, if_false]
    rw [parses_enc xs hb2 rfl (by omega) hlt (by omega), Nat.add_assoc]
    rfl
theorem parses_enc {b : List UInt8} : ∀ (xs : List It) {rest : List UInt8} {p to f : Nat}, b.drop p = encs xs ++ rest → p + (encs xs).length = to → to ≤ b.length → b.length < 281474976710656 → 2 * (encs xs).length + 2 ≤ f → parses b f p to = some xs
  | [], rest, p, to, f, hb, hto, hen, hlt, hf => by
    obtain ⟨f, rfl⟩ : ∃ j, f = j + 1 := ⟨f - 1, by omega⟩
    simp only [encs, List.length_nil] at hto
    unfold parses
    rw [if_pos (by omega)]
  | x :: xs, rest, p, to, f, hb, hto, hen, hlt, hf => by
    obtain ⟨f, rfl⟩ : ∃ j, f = j + 1 := ⟨f - 1, by omega⟩
    have hpos := enc_pos x
    simp only [encs, List.length_append] at hto hf hb
    rw [List.append_assoc] at hb
    unfold parses
    rw [if_neg (by omega), parse_enc x hb (by omega) hen hlt (by omega)]
    simp only
    have hb2 : b.drop (p + x.enc.length) = encs xs ++ rest := by rw [← List.drop_drop, hb, List.drop_left]
    rw [parses_enc xs hb2 (by omega) hen hlt (by omega)]
    rfl
end
theorem itemOf_enc (it : It) (h : it.enc.length < 281474976710656) : itemOf it.enc = some it := by
  unfold itemOf
  rw [parse_enc it (b := it.enc) (rest := []) (by simp) (by omega) (Nat.le_refl _) h (Nat.le_refl _)]
  simp
theorem decM_enc (it : It) (h : it.enc.length < 281474976710656) : decM it.enc = (it.flat, 0, 0) := decM_some (itemOf_enc it h)
/- Encode. -/
def pieceAt (its : List ItemL) (sz : Nat → Nat) (i : Nat) : List UInt8 := match its[i]? with
  | some x => pieceE x (sz i)
  | none => []
theorem pieceAt_congr {its : List ItemL} {sz sz' : Nat → Nat} {j m : Nat} (h : ∀ i, j ≤ i → i < j + m → sz' i = sz i) : (List.range' j m).map (pieceAt its sz') = (List.range' j m).map (pieceAt its sz) := by
  apply List.map_congr_left
  intro i hi
  rw [List.mem_range'_1] at hi
  unfold pieceAt
  rw [h i hi.1 hi.2]
theorem topSum_app (st : List Nat) (l : List Nat) : topSum (st ++ l) l.length = l.sum := by
  unfold topSum
  rw [List.length_append, Nat.add_sub_cancel, List.drop_left]
theorem sum_rev (l : List Nat) : l.reverse.sum = l.sum := by
  induction l with
  | nil => rfl
  | cons x l ih => rw [List.reverse_cons, List.sum_append, ih, List.sum_cons]; simp; omega
def lens (xs : List It) : List Nat := (xs.map fun x => x.enc.length).reverse
theorem lens_length (xs : List It) : (lens xs).length = xs.length := by simp [lens]
theorem lens_sum (xs : List It) : (lens xs).sum = (encs xs).length := by
  unfold lens
  rw [sum_rev]
  induction xs with
  | nil => rfl
  | cons x xs ih => simp only [List.map_cons, List.sum_cons, ih, encs, List.length_append]
section
variable {its : List ItemL}
/-- The row from j on reads so. -/
def From (its : List ItemL) (j : Nat) (L : List SaidI) : Prop := ∀ i, (h : i < L.length) → ∃ x, its[j + i]? = some x ∧ said x = L[i]
theorem From.left {j : Nat} {L M : List SaidI} (h : From its j (L ++ M)) : From its j L := fun i hi => by
  obtain ⟨x, h1, h2⟩ := h i (by rw [List.length_append]; omega)
  exact ⟨x, h1, by rw [h2, List.getElem_append_left hi]⟩
theorem From.right {j : Nat} {L M : List SaidI} (h : From its j (L ++ M)) : From its (j + L.length) M := fun i hi => by
  obtain ⟨x, h1, h2⟩ := h (L.length + i) (by rw [List.length_append]; omega)
  refine ⟨x, by rw [Nat.add_assoc]; exact h1, ?_⟩
  rw [h2, List.getElem_append_right (by omega)]
  congr 1
  omega
theorem step_at {j : Nat} {x : ItemL} {st : List Nat} {sz : Nat → Nat} (hx : its[j]? = some x) (h : runE its ((down its.length).take (its.length - (j + 1))) = some (st, sz)) :
    runE its ((down its.length).take (its.length - j)) = (stepE x st).map fun t => (t.1, upd sz j t.2) := by
  obtain ⟨hj, rfl⟩ := List.getElem?_eq_some_iff.1 hx
  rw [show its.length - j = (its.length - (j + 1)) + 1 by omega, down_take its.length (its.length - (j + 1)) j (by omega)]
  exact runE_some h ⟨j, hj⟩
mutual
theorem enc_run : ∀ (it : It) {j m : Nat} {st : List Nat} {sz : Nat → Nat}, From its j it.flat → m = j + it.flat.length → runE its ((down its.length).take (its.length - m)) = some (st, sz) →
    ∃ sz', runE its ((down its.length).take (its.length - j)) = some (st ++ [it.enc.length], sz') ∧ (∀ i, m ≤ i → sz' i = sz i) ∧ ((List.range' j it.flat.length).map (pieceAt its sz')).flatten = it.enc
  | .bytes l, j, m, st, sz, hf, hm, h => by
    obtain ⟨x, hx, hs⟩ := hf 0 (by simp [It.flat])
    simp only [It.flat, List.getElem_cons_zero, List.length_cons, List.length_nil, Nat.add_zero] at hx hs hm ⊢
    obtain ⟨isL, cnt, A, c, lb⟩ := x
    simp only [said, Prod.mk.injEq] at hs
    obtain ⟨rfl, rfl, rfl⟩ := hs
    subst hm
    have := step_at hx h
    simp only [stepE, Bool.false_eq_true, if_false, if_true, Option.map_some] at this
    refine ⟨_, by rw [this, ownN_bytesM]; rfl, fun i hi => by unfold upd; rw [if_neg (by omega)], ?_⟩
    rw [show List.range' j (0 + 1) = [j] from rfl]
    simp only [List.map_cons, List.map_nil, List.flatten_cons, List.flatten_nil, List.append_nil, It.enc]
    unfold pieceAt
    rw [hx]
    simp [pieceE, upd, bytesM]
  | .list xs, j, m, st, sz, hf, hm, h => by
    obtain ⟨x, hx, hs⟩ := hf 0 (by simp [It.flat])
    have hf2 : From its (j + 1) (flats xs) := From.right (L := [(true, (xs.length : Int), [])]) (by simpa [It.flat] using hf)
    simp only [It.flat, List.getElem_cons_zero, List.length_cons, Nat.add_zero] at hx hs hm ⊢
    obtain ⟨isL, cnt, A, c, lb⟩ := x
    simp only [said, Prod.mk.injEq] at hs
    obtain ⟨rfl, rfl, rfl⟩ := hs
    obtain ⟨sz1, h1, h2, h3⟩ := encs_run xs hf2 (by omega) h
    have := step_at hx h1
    have hln := lens_length xs
    have hts : topSum (st ++ lens xs) xs.length = (encs xs).length := by rw [← hln, topSum_app, lens_sum]
    have htk : (st ++ lens xs).take ((st ++ lens xs).length - xs.length) = st := by rw [List.length_append, hln, Nat.add_sub_cancel, List.take_left]
    simp only [stepE, if_true] at this
    rw [if_pos ⟨by omega, by rw [List.length_append, hln]; omega, rfl⟩, Int.toNat_natCast, hts, htk] at this
    refine ⟨upd sz1 j (encs xs).length, by rw [this, Option.map_some]; simp only [It.enc, withM_length], fun i hi => ?_, ?_⟩
    · unfold upd
      rw [if_neg (by omega)]
      exact h2 i hi
    · rw [show (flats xs).length + 1 = 1 + (flats xs).length by omega, ← List.range'_append_1, List.map_append, List.flatten_append]
      simp only [List.range'_one, List.map_cons, List.map_nil, List.flatten_cons, List.flatten_nil, List.append_nil]
      have e1 : pieceAt its (upd sz1 j (encs xs).length) j = headL 192 (encs xs).length := by
        unfold pieceAt
        rw [hx]
        simp [pieceE, upd]
      rw [e1, pieceAt_congr (sz := sz1) (fun i h4 h5 => by unfold upd; rw [if_neg (by omega)]), h3]
      rfl
theorem encs_run : ∀ (xs : List It) {j m : Nat} {st : List Nat} {sz : Nat → Nat}, From its j (flats xs) → m = j + (flats xs).length → runE its ((down its.length).take (its.length - m)) = some (st, sz) →
    ∃ sz', runE its ((down its.length).take (its.length - j)) = some (st ++ lens xs, sz') ∧ (∀ i, m ≤ i → sz' i = sz i) ∧ ((List.range' j (flats xs).length).map (pieceAt its sz')).flatten = encs xs
  | [], j, m, st, sz, hf, hm, h => by
    simp only [flats, List.length_nil, Nat.add_zero] at hm
    subst hm
    exact ⟨sz, by simpa [lens] using h, fun _ _ => rfl, by simp [flats, encs]⟩
  | x :: xs, j, m, st, sz, hf, hm, h => by
    simp only [flats, List.length_append] at hf hm ⊢
    obtain ⟨sz1, h1, h2, h3⟩ := encs_run xs hf.right (by omega) h
    obtain ⟨sz2, h4, h5, h6⟩ := enc_run x hf.left rfl h1
    refine ⟨sz2, ?_, fun i hi => by rw [h5 i (by omega), h2 i hi], ?_⟩
    · rw [h4]
      simp [lens]
    · rw [← List.range'_append_1, List.map_append, List.flatten_append, h6, pieceAt_congr (sz := sz1) (fun i h7 _ => h5 i h7), h3]
      rfl
end
theorem From.of_said {L : List SaidI} (h : its.map said = L) : From its 0 L := fun i hi => by
  subst h
  rw [List.length_map] at hi
  exact ⟨its[i], by rw [Nat.zero_add]; exact List.getElem?_eq_getElem hi, by simp⟩
theorem encM_flat {it : It} (h : its.map said = it.flat) : encM its = some it.enc := by
  have hn : its.length = it.flat.length := by rw [← h, List.length_map]
  obtain ⟨sz, h1, _, h3⟩ := enc_run it (m := its.length) (st := []) (sz := fun _ => 0) (From.of_said h) (by omega) (by rw [Nat.sub_self, List.take_zero]; rfl)
  rw [Nat.sub_zero, List.take_of_length_le (by rw [down_length]; exact Nat.le_refl _)] at h1
  unfold encM
  rw [h1]
  simp only [List.nil_append]
  unfold outE
  rw [← hn] at h3
  rw [List.range_eq_range']
  exact congrArg some h3
end
end Go.Proofs.YtfhindffmghlaaaDoor
/- What is read as an item is that item's bytes: one text, one item. No walk. -/
namespace Go.Proofs.YtfhindffmghlaaaDoor
open It
theorem valB_foldl (l : List UInt8) (a : Nat) : l.foldl (fun a b => 256 * a + b.toNat) a = a * 256 ^ l.length + valB l := by
  unfold valB
  induction l generalizing a with
  | nil => simp
  | cons x l ih =>
    simp only [List.foldl_cons, List.length_cons]
    rw [ih, ih (256 * 0 + x.toNat), Nat.pow_succ]
    simp only [Nat.mul_zero, Nat.zero_add, Nat.add_mul]
    rw [show a * (256 ^ l.length * 256) = 256 * a * 256 ^ l.length by rw [Nat.mul_comm 256 a, Nat.mul_assoc, Nat.mul_comm 256]]
    omega
theorem valB_cons (x : UInt8) (l : List UInt8) : valB (x :: l) = x.toNat * 256 ^ l.length + valB l := by
  have := valB_foldl l x.toNat
  unfold valB
  simp only [List.foldl_cons, Nat.mul_zero, Nat.zero_add]
  exact this
theorem valB_lt (l : List UInt8) : valB l < 256 ^ l.length := by
  induction l with
  | nil => simp [valB]
  | cons x l ih =>
    rw [valB_cons, List.length_cons, Nat.pow_succ]
    have := x.toNat_lt
    have h : x.toNat * 256 ^ l.length ≤ 255 * 256 ^ l.length := Nat.mul_le_mul_right _ (by omega)
    omega
theorem ofNat_mod (a : Nat) (x : Nat) : UInt8.ofNat (a * 256 + x) = UInt8.ofNat x := by
  apply UInt8.toNat_inj.1
  simp
theorem beL_mod (k a v : Nat) : beL (a * 256 ^ k + v) k = beL v k := by
  induction k generalizing a with
  | zero => rfl
  | succ k ih =>
    unfold beL
    have hp : 0 < 256 ^ k := Nat.pow_pos (by omega)
    have e1 : a * 256 ^ (k + 1) + v = (a * 256) * 256 ^ k + v := by rw [Nat.pow_succ, Nat.mul_assoc, Nat.mul_comm 256]
    rw [e1, ih, Nat.add_comm ((a * 256) * 256 ^ k) v, Nat.add_mul_div_right _ _ hp, Nat.add_comm, ofNat_mod]
theorem beL_val (l : List UInt8) : beL (valB l) l.length = l := by
  induction l with
  | nil => rfl
  | cons x l ih =>
    rw [valB_cons, List.length_cons]
    unfold beL
    have hp : 0 < 256 ^ l.length := Nat.pow_pos (by omega)
    rw [beL_mod, ih, Nat.add_comm (x.toNat * 256 ^ l.length), Nat.add_mul_div_right _ _ hp, Nat.div_eq_of_lt (valB_lt l), Nat.zero_add]
    simp
theorem nb_val (x : UInt8) (l : List UInt8) (hx : x.toNat ≠ 0) : nb (valB (x :: l)) = l.length + 1 := by
  have h1 := nb_le (valB (x :: l)) (l.length + 1) (valB_lt (x :: l))
  have h2 := (nb_left (valB (x :: l)) l.length).1 (by
    rw [valB_cons]
    have hp : 0 < 256 ^ l.length := Nat.pow_pos (by omega)
    rw [Nat.add_comm (x.toNat * 256 ^ l.length), Nat.add_mul_div_right _ _ hp]
    exact Nat.lt_of_lt_of_le (Nat.pos_of_ne_zero hx) (Nat.le_add_left _ _))
  omega
theorem getD_at {b : List UInt8} {p : Nat} (h : p < b.length) : b.getD p 0 = b[p] := by rw [List.getD_eq_getElem?_getD, List.getElem?_eq_getElem h]; rfl
theorem longV_succ (b : List UInt8) (f k : Nat) : longV b f (k + 1) = longV b f k <<< 8 ||| ext (b.getD (f + k) 0) := rfl
theorem longV_val (b : List UInt8) (f : Nat) : ∀ k, k ≤ 8 → f + k ≤ b.length → (longV b f k).toNat = valB ((b.drop f).take k)
  | 0, _, _ => by simp [longV, valB]
  | k + 1, hk, hf => by
    have ih := longV_val b f k (by omega) (by omega)
    have hlt : valB ((b.drop f).take k) < 256 ^ k := by
      have := valB_lt ((b.drop f).take k)
      rw [List.length_take, List.length_drop, Nat.min_eq_left (by omega)] at this
      exact this
    have h7 : 256 ^ k ≤ 256 ^ 7 := Nat.pow_le_pow_right (by omega) (by omega)
    have htk : (b.drop f).take (k + 1) = (b.drop f).take k ++ [b.getD (f + k) 0] := by
      rw [List.take_succ_eq_append_getElem (by rw [List.length_drop]; omega)]
      congr 2
      rw [List.getElem_drop, getD_at (by omega)]
    rw [htk, valB_snoc, ← ih]
    rw [← ih] at hlt
    rw [longV_succ]
    generalize b.getD (f + k) 0 = x
    generalize longV b f k = L at *
    rw [BitVec.toNat_or, BitVec.toNat_shiftLeft]
    unfold ext
    have hx := x.toNat_lt
    rw [BitVec.toNat_ofNat, Nat.mod_eq_of_lt (by omega), Nat.shiftLeft_eq, Nat.mod_eq_of_lt (by omega)]
    rw [show L.toNat * 2 ^ 8 = 2 ^ 8 * L.toNat by omega, ← Nat.two_pow_add_eq_or_of_lt (by omega)]
theorem drop_cons {b : List UInt8} {p : Nat} (h : p < b.length) : b.drop p = b.getD p 0 :: b.drop (p + 1) := by
  rw [List.drop_eq_getElem_cons h, getD_at h]
theorem drop_split {b : List UInt8} {f t : Nat} (h : f ≤ t) : b.drop f = (b.take t).drop f ++ b.drop t := by
  rw [List.drop_take, show b.drop t = (b.drop f).drop (t - f) by rw [List.drop_drop]; congr 1; omega, List.take_append_drop]
theorem first_of (c : UInt8) (m : Nat) (h : c.toNat = m) : UInt8.ofNat m = c := by
  apply UInt8.toNat_inj.1
  rw [← h]
  simp
/-- A head that is read is the head of what lies behind it. -/
theorem read_canon {b : List UInt8} {p en f t : Nat} {d : Bool} (h : readM b p en = (d, f, t, 0)) (hen : en ≤ b.length) (hl : b.length ≤ 281474976710656) :
    (d = true → b.drop p = headL 192 (t - f) ++ b.drop f) ∧ (d = false → b.drop p = bytesM ((b.take t).drop f) ++ b.drop t) := by
  have hok := readM_ok (b := b) (p := p) (en := en) (by rw [h]) hen
  rw [h] at hok
  simp only at hok
  obtain ⟨h1, h2, h3, h4, h5, h6⟩ := hok
  have hd := drop_cons (b := b) (p := p) (by omega)
  have hc := (b.getD p 0).toNat_lt
  unfold readM at h
  rw [if_neg (by omega)] at h
  by_cases hs : (b.getD p 0).toNat < 128
  · rw [if_pos hs] at h
    simp only [Prod.mk.injEq] at h
    obtain ⟨rfl, rfl, rfl, _⟩ := h
    refine ⟨fun h => (by cases h), fun _ => ?_⟩
    have e : (b.take (p + 1)).drop p = [b.getD p 0] := by
      rw [List.drop_take, hd, Nat.add_sub_cancel_left]
      rfl
    rw [e, hd]
    have : small [b.getD p 0] = true := by
      unfold small
      simp
      exact hs
    unfold bytesM
    rw [if_pos this]
    rfl
  rw [if_neg hs] at h
  have hfin : (d = false → t - f ≠ 1 ∨ 128 ≤ (b.getD f 0).toNat) → (∀ kd, kd = (if d then 192 else 128) → b.drop p = headL kd (t - f) ++ b.drop f) → (d = true → b.drop p = headL 192 (t - f) ++ b.drop f) ∧ (d = false → b.drop p = bytesM ((b.take t).drop f) ++ b.drop t) := by
    intro hn hk
    refine ⟨fun e => hk 192 (by rw [e]; rfl), fun e => ?_⟩
    have hlen : ((b.take t).drop f).length = t - f := by rw [List.length_drop, List.length_take]; omega
    have hsm : small ((b.take t).drop f) = false := by
      unfold small
      rw [hlen]
      rcases hn e with hn | hn
      · simp [hn]
      · by_cases h1 : t - f = 1
        · have : ((b.take t).drop f).headD 0 = b.getD f 0 := by
            rw [List.drop_take, h1, drop_cons (b := b) (p := f) (by omega)]
            rfl
          rw [this, decide_eq_false (p := b.getD f 0 < 128) (by
            intro h
            have : (b.getD f 0).toNat < 128 := h
            omega)]
          simp
        · simp [h1]
    unfold bytesM
    rw [hsm, hlen, hk 128 (by rw [e]; rfl), List.append_assoc, ← drop_split h3]
    rfl
  by_cases hlg : 55 < (b.getD p 0).toNat % 64
  · rw [if_pos hlg] at h
    split at h
    · simp at h
    rename_i h7
    split at h
    · simp at h
    rename_i h8
    split at h
    · simp at h
    rename_i h9
    simp only [Prod.mk.injEq] at h
    obtain ⟨rfl, rfl, rfl, _⟩ := h
    have hlv := longV_val b (p + 1) ((b.getD p 0).toNat % 64 - 55) (by omega) (by omega)
    have hK0 : 0 < (b.getD p 0).toNat % 64 - 55 := by omega
    generalize hK : (b.getD p 0).toNat % 64 - 55 = K at *
    obtain ⟨k, rfl⟩ : ∃ k, K = k + 1 := ⟨K - 1, by omega⟩
    have hsp : b.drop (p + 1) = (b.drop (p + 1)).take (k + 1) ++ b.drop (p + 1 + (k + 1)) := by
      have := (List.take_append_drop (k + 1) (b.drop (p + 1))).symm
      rw [List.drop_drop] at this
      exact this
    have hcs : (b.drop (p + 1)).take (k + 1) = b.getD (p + 1) 0 :: (b.drop (p + 2)).take k := by
      rw [drop_cons (b := b) (p := p + 1) (by omega), List.take_succ_cons]
    have hlen : ((b.drop (p + 2)).take k).length = k := by rw [List.length_take, List.length_drop]; omega
    have hnb := nb_val (b.getD (p + 1) 0) ((b.drop (p + 2)).take k) (by omega)
    have hbe := beL_val (b.getD (p + 1) 0 :: (b.drop (p + 2)).take k)
    rw [List.length_cons, hlen] at hbe
    rw [hlen] at hnb
    rw [hcs] at hlv hsp
    generalize (longV b (p + 1) (k + 1)).toNat = n at *
    subst hlv
    apply hfin (fun _ => Or.inl (by omega))
    intro kd hkd
    rw [Nat.add_sub_cancel_left, hd, hsp]
    unfold headL
    rw [if_neg (by omega), hnb, hbe]
    rw [first_of (b.getD p 0)]
    · simp
    · rw [hkd]
      split
      · rename_i h; have h := of_decide_eq_true h; omega
      · rename_i h; have h : ¬ 192 ≤ (b.getD p 0).toNat := fun h' => h (decide_eq_true h'); omega
  · rw [if_neg hlg] at h
    split at h
    · simp at h
    rename_i h7
    split at h
    · simp at h
    rename_i h8
    simp only [Prod.mk.injEq] at h
    obtain ⟨rfl, rfl, rfl, _⟩ := h
    apply hfin
    · intro hd0
      have hd0 : ¬ 192 ≤ (b.getD p 0).toNat := of_decide_eq_false hd0
      by_cases h9 : p + 1 + (b.getD p 0).toNat % 64 - (p + 1) = 1
      · exact Or.inr (by omega)
      · exact Or.inl h9
    · intro kd hkd
      rw [Nat.add_sub_cancel_left, hd]
      unfold headL
      rw [if_pos (by omega)]
      rw [first_of (b.getD p 0)]
      · rfl
      · rw [hkd]
        split
        · rename_i h; have h := of_decide_eq_true h; omega
        · rename_i h; have h : ¬ 192 ≤ (b.getD p 0).toNat := fun h' => h (decide_eq_true h'); omega
mutual
theorem parse_canon {b : List UInt8} (hl : b.length ≤ 281474976710656) : ∀ (k : Nat) {p en q : Nat} {it : It}, en ≤ b.length → parse b k p en = some (it, q) → b.drop p = it.enc ++ b.drop q
  | 0, p, en, q, it, _, h => by simp [parse] at h
  | k + 1, p, en, q, it, hen, h => by
    unfold parse at h
    split at h
    · cases h
    rename_i h0
    have h0 : (readM b p en).2.2.2 = 0 := by simpa using h0
    obtain ⟨d, f, t, z, hr⟩ : ∃ d f t z, readM b p en = (d, f, t, z) := ⟨_, _, _, _, rfl⟩
    rw [hr] at h h0
    simp only at h h0
    subst h0
    have hok := readM_ok (b := b) (p := p) (en := en) (by rw [hr]) hen
    rw [hr] at hok
    simp only at hok
    have hrc := read_canon hr hen hl
    cases d with
    | false =>
      simp only [Bool.false_eq_true, if_false, Option.some.injEq, Prod.mk.injEq] at h
      obtain ⟨rfl, rfl⟩ := h
      rw [It.enc]
      exact hrc.2 rfl
    | true =>
      simp only [if_true, Option.map_eq_some_iff] at h
      obtain ⟨xs, hx, h⟩ := h
      simp only [Prod.mk.injEq] at h
      obtain ⟨rfl, rfl⟩ := h
      have hxs := parses_canon hl k (by omega) (by omega) hx
      rw [It.enc, hrc.1 rfl]
      unfold withM
      have hlen : (encs xs).length = t - f := by
        have := congrArg List.length hxs
        rw [List.length_append, List.length_drop, List.length_drop] at this
        omega
      rw [hlen, hxs, List.append_assoc]
theorem parses_canon {b : List UInt8} (hl : b.length ≤ 281474976710656) : ∀ (k : Nat) {p to : Nat} {xs : List It}, to ≤ b.length → p ≤ to → parses b k p to = some xs → b.drop p = encs xs ++ b.drop to
  | 0, p, to, xs, _, _, h => by simp [parses] at h
  | k + 1, p, to, xs, hto, hp, h => by
    unfold parses at h
    split at h
    · simp only [Option.some.injEq] at h
      subst h
      have : p = to := by omega
      rw [this]
      rfl
    split at h
    · cases h
    rename_i x q hq
    simp only [Option.map_eq_some_iff] at h
    obtain ⟨ys, hy, rfl⟩ := h
    have hpq := parse_pos k hto hq
    rw [parse_canon hl k hto hq, parses_canon hl k hto hpq.2 hy, encs, List.append_assoc]
end
/-- One item has one text. -/
theorem itemOf_canon {b : List UInt8} {it : It} (hl : b.length ≤ 281474976710656) (h : itemOf b = some it) : it.enc = b := by
  unfold itemOf at h
  split at h
  · rename_i it' q hq
    split at h
    · cases h
    rename_i hq2
    simp only [Option.some.injEq] at h
    subst h
    have := parse_canon hl _ (Nat.le_refl _) hq
    have hp := parse_pos _ (Nat.le_refl _) hq
    rw [List.drop_zero, List.drop_of_length_le (by omega), List.append_nil] at this
    exact this.symm
  · cases h
end Go.Proofs.YtfhindffmghlaaaDoor
