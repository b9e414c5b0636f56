/- Heads that are read back; lists in one another: their bytes, written and read. No program in sight. -/
import Derived.Test.YtnghneoggiolgaaDoorRDec
import Derived.Test.YtnghneoggiolgaaDoorREncode
namespace Go.Proofs.YtnghneoggiolgaaDoor
open Go.RowKit
theorem getD_left {a c : List UInt8} {j : Nat} (h : j < a.length) : (a ++ c).getD j 0 = a.getD j 0 := by
  rw [List.getD_eq_getElem?_getD, List.getD_eq_getElem?_getD, List.getElem?_append_left h]
theorem getD_drop {b : List UInt8} {p : Nat} {a : List UInt8} (h : b.drop p = a) (i : Nat) : b.getD (p + i) 0 = a.getD i 0 := by
  rw [← h, List.getD_eq_getElem?_getD, List.getD_eq_getElem?_getD, List.getElem?_drop]
theorem beL_get (n : Nat) : ∀ k j, j < k → (beL n k).getD j 0 = UInt8.ofNat (n / 256 ^ (k - 1 - j))
  | 0, j, h => by omega
  | k + 1, 0, _ => by simp [beL]
  | k + 1, j + 1, h => by
    have := beL_get n k j (by omega)
    unfold beL
    rw [List.getD_cons_succ, this]
    congr 3
    omega
theorem longV_digits {b : List UInt8} {f m k : Nat} (hm : m < 281474976710656) (hb : ∀ j, j < k → b.getD (f + j) 0 = UInt8.ofNat (m / 256 ^ (k - 1 - j))) (h0 : m < 256 ^ k) : ∀ j, j ≤ k → (longV b f j).toNat = m / 256 ^ (k - j)
  | 0, _ => by rw [Nat.sub_zero, Nat.div_eq_of_lt h0]; rfl
  | j + 1, hj => by
    have ih := longV_digits hm hb h0 j (by omega)
    unfold longV
    rw [hb j (by omega)]
    have e : k - j = (k - 1 - j) + 1 := by omega
    rw [e, Nat.pow_succ, ← Nat.div_div_eq_div_mul] at ih
    have e2 : k - (j + 1) = k - 1 - j := by omega
    rw [e2]
    have hle : m / 256 ^ (k - 1 - j) ≤ m := Nat.div_le_self _ _
    generalize m / 256 ^ (k - 1 - j) = d at *
    have hx : (ext (UInt8.ofNat d)).toNat = d % 256 := by
      unfold ext
      rw [BitVec.toNat_ofNat, UInt8.toNat_ofNat']
      omega
    rw [BitVec.toNat_or, BitVec.toNat_shiftLeft, hx, ih, Nat.shiftLeft_eq]
    have : d / 256 * 2 ^ 8 % 2 ^ 64 = 2 ^ 8 * (d / 256) := by rw [Nat.mod_eq_of_lt (by omega)]; omega
    rw [this, ← Nat.two_pow_add_eq_or_of_lt (by omega)]
    omega
theorem headL_pos (kd n : Nat) : 0 < (headL kd n).length := by unfold headL; split <;> simp
/-- A head that is read back. -/
theorem read_head {b rest : List UInt8} {p en kd m : Nat} (hkd : kd = 128 ∨ kd = 192) (hm : m < 281474976710656) (hb : b.drop p = headL kd m ++ rest) (hen : p + (headL kd m).length + m ≤ en)
    (hsm : kd = 128 → m = 1 → 128 ≤ (rest.getD 0 0).toNat) : readM b p en = (decide (kd = 192), p + (headL kd m).length, p + (headL kd m).length + m, 0) := by
  have hpos := headL_pos kd m
  have h0 := getD_drop hb 0
  have h1 := getD_drop hb 1
  rw [Nat.add_zero] at h0
  have hdeep : ∀ y, y < 64 → decide (192 ≤ kd + y) = decide (kd = 192) := fun y hy => by
    rcases hkd with rfl | rfl
    · rw [decide_eq_false (by omega), decide_eq_false (by omega)]
    · rw [decide_eq_true (by omega), decide_eq_true (by omega)]
  by_cases hs : m ≤ 55
  · have hh : headL kd m = [UInt8.ofNat (kd + m)] := by unfold headL; rw [if_pos hs]
    rw [hh] at h0 h1 hen ⊢
    simp only [List.length_cons, List.length_nil, List.cons_append, List.nil_append, List.getD_cons_zero, List.getD_cons_succ] at *
    have hx : (b.getD p 0).toNat = kd + m := by rw [h0, UInt8.toNat_ofNat']; omega
    unfold readM
    rw [hx, h1]
    have hmod : (kd + m) % 64 = m := by omega
    rw [hmod, if_neg (by omega), if_neg (by omega), if_neg (by omega), if_neg (by omega), if_neg (by
      rintro ⟨e1, e2⟩
      have := hsm (by omega) (by omega)
      omega), hdeep m (by omega)]
  · have hn := nb_le m 6 (by omega)
    have hn1 : 0 < nb m := Nat.pos_of_ne_zero (fun e => by have := nb_eq_zero.1 e; omega)
    obtain ⟨k, hk⟩ : ∃ k, nb m = k := ⟨_, rfl⟩
    have hh : headL kd m = UInt8.ofNat (kd + 55 + k) :: beL m k := by unfold headL; rw [if_neg hs, hk]
    have hlt : m < 256 ^ k := by
      rcases Nat.lt_or_ge m (256 ^ k) with h | h
      · exact h
      · have := (nb_left m k).1 (Nat.div_pos h (Nat.pow_pos (by omega)))
        omega
    have htop : 0 < m / 256 ^ (k - 1) := (nb_left m (k - 1)).2 (by omega)
    rw [hh] at h0 h1 hen ⊢
    simp only [List.length_cons, List.cons_append, List.getD_cons_zero, beL_length] at *
    have hdig : ∀ j, j < k → b.getD (p + 1 + j) 0 = UInt8.ofNat (m / 256 ^ (k - 1 - j)) := fun j hj => by
      have := getD_drop hb (j + 1)
      rw [hh, List.cons_append, List.getD_cons_succ, getD_left (by rw [beL_length]; exact hj), beL_get m k j hj] at this
      rw [show p + 1 + j = p + (j + 1) by omega, this]
    have hx : (b.getD p 0).toNat = kd + 55 + k := by rw [h0, UInt8.toNat_ofNat']; omega
    have hd0 := hdig 0 (by omega)
    rw [Nat.add_zero, Nat.sub_zero] at hd0
    have hV := longV_digits hm hdig hlt k (Nat.le_refl _)
    rw [Nat.sub_self, Nat.pow_zero, Nat.div_one] at hV
    have htopv : m / 256 ^ (k - 1) < 256 := by
      rw [Nat.div_lt_iff_lt_mul (Nat.pow_pos (by omega)), ← Nat.pow_succ', Nat.succ_eq_add_one, Nat.sub_add_cancel (by omega)]
      exact hlt
    have hz : (b.getD (p + 1) 0).toNat ≠ 0 := by
      rw [hd0, UInt8.toNat_ofNat']
      omega
    unfold readM
    rw [hx]
    have hmod : (kd + 55 + k) % 64 = 55 + k := by omega
    rw [hmod, if_neg (by omega), if_neg (by omega), if_pos (by omega), if_neg (by omega), Nat.add_sub_cancel_left, hV, if_neg (by omega), if_neg (by omega), Nat.add_assoc kd 55 k, hdeep (55 + k) (by omega)]
    simp only [Prod.mk.injEq, true_and, and_true]
    omega
theorem read_small {b : List UInt8} {p en : Nat} (hp : p < en) (hx : (b.getD p 0).toNat < 128) : readM b p en = (false, p, p + 1, 0) := by
  unfold readM
  rw [if_neg (by omega), if_pos hx]
/-- The bytes of an item of bytes. -/
def bytesM (l : List UInt8) : List UInt8 := (if small l then [] else headL 128 l.length) ++ l
/-- Its head is read, its bytes are there. -/
theorem read_bytesM {b rest l : List UInt8} {p en : Nat} (hm : l.length < 281474976710656) (hb : b.drop p = bytesM l ++ rest) (hen : p + (bytesM l).length ≤ en) (hen2 : en ≤ b.length) :
    ∃ f, readM b p en = (false, f, p + (bytesM l).length, 0) ∧ p ≤ f ∧ (b.take (p + (bytesM l).length)).drop f = l := by
  have htk : (b.take (p + (bytesM l).length)).drop p = bytesM l := by
    rw [List.drop_take, hb, Nat.add_sub_cancel_left, List.take_left]
  unfold bytesM at *
  by_cases hs : small l = true
  · rw [if_pos hs] at *
    simp only [List.nil_append] at *
    have h0 := getD_drop hb 0
    unfold small at hs
    simp only [Bool.and_eq_true, decide_eq_true_eq] at hs
    obtain ⟨h1, h2⟩ := hs
    match l, h1 with
    | [x], _ =>
      simp only [List.headD_cons, Nat.add_zero, List.cons_append, List.getD_cons_zero, List.length_cons, List.length_nil] at *
      refine ⟨p, read_small (by omega) ?_, Nat.le_refl _, htk⟩
      rw [h0]
      exact h2
  · rw [if_neg hs] at *
    rw [List.append_assoc] at hb
    rw [List.length_append] at *
    have := read_head (b := b) (rest := l ++ rest) (p := p) (en := en) (kd := 128) (m := l.length) (Or.inl rfl) hm hb (by omega) (fun _ h1 => by
      unfold small at hs
      simp only [h1, decide_true, Bool.true_and, decide_eq_true_eq] at hs
      match l, h1 with
      | [x], _ =>
        simp only [List.headD_cons, List.cons_append, List.getD_cons_zero] at *
        have : ¬ x.toNat < 128 := hs
        omega)
    refine ⟨p + (headL 128 l.length).length, ?_, by omega, ?_⟩
    · rw [this, Nat.add_assoc]
      rfl
    · rw [← List.drop_drop, htk, List.drop_left]
/-- Lists in one another. -/
def nest (inner : List UInt8) : Nat → List UInt8
  | 0 => bytesM inner
  | k + 1 => headL 192 (nest inner k).length ++ nest inner k
def nestS (inner : List UInt8) (n : Nat) : List SaidI := List.replicate n (true, 1, []) ++ [(false, 0, inner)]
theorem nest_le (inner : List UInt8) (hi : inner.length ≤ 1048576) : ∀ k, k ≤ 1048576 → (nest inner k).length ≤ inner.length + 9 * (k + 1)
  | 0, _ => by
    have := headL_length 128 inner.length
    have := wholeN_le inner.length (by omega)
    unfold nest bytesM
    rw [List.length_append]
    split <;> simp <;> omega
  | k + 1, h => by
    have ih := nest_le inner hi k (by omega)
    have := headL_length 192 (nest inner k).length
    have := wholeN_le (nest inner k).length (by omega)
    unfold nest
    rw [List.length_append]
    omega
theorem bytesM_pos (l : List UInt8) : 0 < (bytesM l).length := by
  unfold bytesM
  rw [List.length_append]
  split
  · rename_i h
    unfold small at h
    simp only [Bool.and_eq_true, decide_eq_true_eq] at h
    simp; omega
  · have := headL_pos 128 l.length
    omega
theorem nest_pos (inner : List UInt8) : ∀ k, 0 < (nest inner k).length
  | 0 => bytesM_pos inner
  | k + 1 => by unfold nest; rw [List.length_append]; have := headL_pos 192 (nest inner k).length; omega
theorem popM_all {n : Nat} : ∀ {st : List (Nat × Nat)}, (∀ q ∈ st, q.2 = n) → popM n n n st = none
  | [], _ => rfl
  | q :: st, h => by
    unfold popM
    rw [if_neg (by omega)]
    have : endOf n st = n := by
      cases st with
      | nil => rfl
      | cons q' st => exact h q' (by simp)
    rw [this]
    exact popM_all fun q hq => h q (List.mem_cons_of_mem _ hq)
theorem modify_snoc (L : List SaidI) (x : SaidI) : (L ++ [x]).modify L.length up = L ++ [up x] := by
  induction L with
  | nil => rfl
  | cons y L ih => rw [List.cons_append, List.length_cons, List.modify_succ_cons, ih]; rfl
theorem decGo_nest {b inner : List UInt8} (hi : inner.length ≤ 1048576) : ∀ (k fuel : Nat) (L : List SaidI) (st : List (Nat × Nat)) (p : Nat), k ≤ 1048576 → k < fuel → p ≤ b.length → b.drop p = nest inner k → (∀ q ∈ st, q.2 = b.length) →
    decGo b fuel L st p b.length = (upL L st ++ nestS inner k, 0, 0)
  | 0, fuel + 1, L, st, p, _, _, hpb, hb, hst => by
    have hlen : p + (bytesM inner).length = b.length := by
      have := congrArg List.length hb
      simp only [List.length_drop, nest] at this
      omega
    obtain ⟨f, hr, hpf, hcut⟩ := read_bytesM (b := b) (rest := []) (l := inner) (p := p) (en := b.length) (by omega) (by rw [List.append_nil]; exact hb) (by omega) (Nat.le_refl _)
    unfold decGo
    rw [hr, if_neg (by simp)]
    simp only [atN, enN, openN, hlen, Bool.false_eq_true, if_false]
    rw [popM_all hst]
    simp only [Nat.lt_irrefl, if_false]
    rw [hlen] at hcut
    simp only [newI, Bool.false_eq_true, if_false, hcut]
    rfl
  | k + 1, fuel + 1, L, st, p, hk, hf, hpb, hb, hst => by
    have hpos := nest_pos inner k
    have hle := nest_le inner hi k (by omega)
    have hlen : p + (headL 192 (nest inner k).length).length + (nest inner k).length = b.length := by
      have := congrArg List.length hb
      simp only [List.length_drop, nest, List.length_append] at this
      omega
    have hr := read_head (b := b) (rest := nest inner k) (p := p) (en := b.length) (kd := 192) (m := (nest inner k).length) (Or.inr rfl) (by omega) (by rw [hb]; rfl) (by omega) (fun h => by omega)
    have hdrop : b.drop (p + (headL 192 (nest inner k).length).length) = nest inner k := by
      rw [← List.drop_drop, hb]
      show (headL 192 (nest inner k).length ++ nest inner k).drop _ = _
      rw [List.drop_left]
    unfold decGo
    rw [hr, hlen, if_neg (by simp)]
    simp only [atN, enN, openN, decide_true, if_true]
    rw [popM, if_pos (by omega)]
    simp only [newI, if_true]
    rw [decGo_nest hi k fuel _ _ _ (by omega) (by omega) (by omega) hdrop (fun q hq => by
      rcases List.mem_cons.1 hq with rfl | hq
      · rfl
      · exact hst q hq)]
    show (((upL L st ++ [(true, 0, [])]).modify L.length up) ++ nestS inner k, 0, 0) = _
    have := modify_snoc (upL L st) (true, 0, [])
    rw [upL_length] at this
    rw [this]
    simp only [nestS, up, List.replicate_succ, List.append_assoc, List.cons_append, List.nil_append]
    rfl
theorem decM_nest (inner : List UInt8) (n : Nat) (hi : inner.length ≤ 1048576) (hn : n ≤ 1048576) : decM (nest inner n) = (nestS inner n, 0, 0) := by
  have hl : n < (nest inner n).length + 1 := by
    have : ∀ k, k ≤ (nest inner k).length := fun k => by
      induction k with
      | zero => omega
      | succ k ih => unfold nest; rw [List.length_append]; have := headL_pos 192 (nest inner k).length; omega
    have := this n
    omega
  have := decGo_nest (b := nest inner n) hi n _ [] [] 0 hn hl (Nat.zero_le _) (by rw [List.drop_zero]) (by simp)
  unfold decM
  rw [this]
  rfl
theorem ownN_bytesM (l : List UInt8) : ownN l = (bytesM l).length := by
  unfold ownN bytesM
  split
  · rename_i h
    unfold small at h
    simp only [Bool.and_eq_true, decide_eq_true_eq] at h
    simp [h.1]
  · rw [List.length_append, headL_length]
def nestSz (inner : List UInt8) (n i : Nat) : Nat := if i = n then inner.length else (nest inner (n - 1 - i)).length
section
variable {inner : List UInt8} {n : Nat} {its : List ItemL}
theorem nest_len (h : its.map said = nestS inner n) : its.length = n + 1 := by
  have := congrArg List.length h
  simpa [nestS] using this
theorem nest_list (h : its.map said = nestS inner n) (i : Nat) (hi : i < n) (hi' : i < its.length) : its[i].1 = true ∧ its[i].2.1 = 1 ∧ its[i].2.2.2.2 = [] := by
  have := congrArg (fun l => l[i]?) h
  simp only [List.getElem?_map, List.getElem?_eq_getElem hi', Option.map_some, nestS] at this
  rw [List.getElem?_append_left (by simpa using hi), List.getElem?_replicate, if_pos hi] at this
  injection this with this
  unfold said at this
  injection this with h1 h2
  injection h2 with h2 h3
  exact ⟨h1, h2, h3⟩
theorem nest_last (h : its.map said = nestS inner n) (hi' : n < its.length) : its[n].1 = false ∧ its[n].2.1 = 0 ∧ its[n].2.2.2.2 = inner := by
  have := congrArg (fun l => l[n]?) h
  simp only [List.getElem?_map, List.getElem?_eq_getElem hi', Option.map_some, nestS] at this
  rw [List.getElem?_append_right (by simp)] at this
  simp only [List.length_replicate, Nat.sub_self, List.getElem?_cons_zero] at this
  injection this with this
  unfold said at this
  injection this with h1 h2
  injection h2 with h2 h3
  exact ⟨h1, h2, h3⟩
theorem run_nest (h : its.map said = nestS inner n) : ∀ k, k ≤ n → ∃ sz, runE its ((down its.length).take (k + 1)) = some ([(nest inner k).length], sz) ∧ ∀ i, n - k ≤ i → i ≤ n → sz i = nestSz inner n i
  | 0, _ => by
    have hN := nest_len h
    obtain ⟨h1, h2, h3⟩ := nest_last h (by omega)
    rw [down_take its.length 0 n (by omega), List.take_zero]
    have := runE_some (its := its) (pre := []) (st := []) (sz := fun _ => 0) rfl ⟨n, by omega⟩
    rw [this]
    simp only [stepE, h1, h2, h3, Bool.false_eq_true, if_false, if_true, Option.map_some]
    refine ⟨_, by rw [ownN_bytesM]; rfl, fun i hi1 hi2 => ?_⟩
    obtain rfl : i = n := by omega
    simp [upd, nestSz]
  | k + 1, hk => by
    have hN := nest_len h
    obtain ⟨sz, hr, hsz⟩ := run_nest h k (by omega)
    obtain ⟨h1, h2, h3⟩ := nest_list h (n - k - 1) (by omega) (by omega)
    rw [down_take its.length (k + 1) (n - k - 1) (by omega)]
    have := runE_some hr ⟨n - k - 1, by omega⟩
    rw [this]
    have ht : topSum [(nest inner k).length] 1 = (nest inner k).length := by simp [topSum]
    simp only [stepE, h1, h2, h3, if_true, List.length_cons, List.length_nil]
    rw [if_pos (by simp)]
    simp only [Option.map_some, show (1 : Int).toNat = 1 from rfl, ht, Nat.zero_add, Nat.sub_self, List.take_zero, List.nil_append]
    rw [← headL_length 192 (nest inner k).length, ← List.length_append]
    refine ⟨_, rfl, fun i hi1 hi2 => ?_⟩
    unfold upd
    split
    · rename_i e
      subst e
      unfold nestSz
      rw [if_neg (by omega)]
      congr 2
      omega
    · rename_i e
      exact hsz i (by omega) hi2
theorem out_nest (h : its.map said = nestS inner n) (sz : Nat → Nat) (hsz : ∀ i, i ≤ n → sz i = nestSz inner n i) : ∀ k, k ≤ n →
    ((List.range' (n - k) (k + 1)).map fun i => match its[i]? with | some x => pieceE x (sz i) | none => []).flatten = nest inner k
  | 0, _ => by
    have hN := nest_len h
    obtain ⟨h1, h2, h3⟩ := nest_last h (by omega)
    simp only [Nat.sub_zero, List.range'_succ, List.range'_zero, List.map_cons, List.map_nil, List.flatten_cons, List.flatten_nil, List.append_nil]
    rw [List.getElem?_eq_getElem (by omega)]
    simp only [pieceE, h1, h3, Bool.false_eq_true, if_false]
    rw [hsz n (Nat.le_refl _)]
    simp [nestSz, nest, bytesM]
  | k + 1, hk => by
    have hN := nest_len h
    have ih := out_nest h sz hsz k (by omega)
    obtain ⟨h1, h2, h3⟩ := nest_list h (n - (k + 1)) (by omega) (by omega)
    rw [List.range'_succ, show n - (k + 1) + 1 = n - k by omega, List.map_cons, List.flatten_cons, ih, List.getElem?_eq_getElem (by omega)]
    simp only [pieceE, h1, if_true]
    rw [hsz _ (by omega)]
    unfold nestSz
    rw [if_neg (by omega), show n - 1 - (n - (k + 1)) = k by omega]
    rfl
theorem encM_nest (h : its.map said = nestS inner n) : encM its = some (nest inner n) := by
  have hN := nest_len h
  obtain ⟨sz, hr, hsz⟩ := run_nest h n (Nat.le_refl _)
  rw [List.take_of_length_le (by rw [down_length]; omega)] at hr
  unfold encM
  rw [hr]
  simp only
  have := out_nest h sz (fun i hi => hsz i (by omega) hi) n (Nat.le_refl _)
  unfold outE
  rw [Nat.sub_self] at this
  rw [hN, List.range_eq_range']
  exact congrArg some this
end
end Go.Proofs.YtnghneoggiolgaaDoor
