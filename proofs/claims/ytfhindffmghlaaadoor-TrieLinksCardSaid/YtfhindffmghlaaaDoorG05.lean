/- Heads that are read back; lists in one another: their bytes, written and read. No program in sight. -/
import Derived.Test.YtfhindffmghlaaaDoorG03
import Derived.Test.YtfhindffmghlaaaDoorMREncode
import Derived.Test.YtfhindffmghlaaaDoorG02
import Derived.Laws.IdiomStrings
import Derived.Lib.SliceRun
set_option linter.unusedVariables false
set_option linter.unusedSimpArgs false
namespace Go.Proofs.YtfhindffmghlaaaDoor
open Go.RowKit
theorem getD_left {a c : List UInt8} {j : Nat} (h : j < a.length) : (a ++ c).getD j 0 = a.getD j 0 := by
  rw [List.getD_eq_getElem?_getD, List.getD_eq_getElem?_getD, List.getElem?_append_left h]
theorem getD_drop {b : List UInt8} {p : Nat} {a : List UInt8} (h : b.drop p = a) (i : Nat) : b.getD (p + i) 0 = a.getD i 0 := by
  rw [← h, List.getD_eq_getElem?_getD, List.getD_eq_getElem?_getD, List.getElem?_drop]
theorem beL_get (n : Nat) : ∀ k j, j < k → (beL n k).getD j 0 = UInt8.ofNat (n / 256 ^ (k - 1 - j))
  | 0, j, h => by omega
  | k + 1, 0, _ => by simp [beL]
  | k + 1, j + 1, h => by
    have := beL_get n k j (by omega)
    unfold beL
    rw [List.getD_cons_succ, this]
    congr 3
    omega
theorem longV_digits {b : List UInt8} {f m k : Nat} (hm : m < 281474976710656) (hb : ∀ j, j < k → b.getD (f + j) 0 = UInt8.ofNat (m / 256 ^ (k - 1 - j))) (h0 : m < 256 ^ k) : ∀ j, j ≤ k → (longV b f j).toNat = m / 256 ^ (k - j)
  | 0, _ => by rw [Nat.sub_zero, Nat.div_eq_of_lt h0]; rfl
  | j + 1, hj => by
    have ih := longV_digits hm hb h0 j (by omega)
    unfold longV
    rw [hb j (by omega)]
    have e : k - j = (k - 1 - j) + 1 := by omega
    rw [e, Nat.pow_succ, ← Nat.div_div_eq_div_mul] at ih
    have e2 : k - (j + 1) = k - 1 - j := by omega
    rw [e2]
    have hle : m / 256 ^ (k - 1 - j) ≤ m := Nat.div_le_self _ _
    generalize m / 256 ^ (k - 1 - j) = d at *
    have hx : (ext (UInt8.ofNat d)).toNat = d % 256 := by
      unfold ext
      rw [BitVec.toNat_ofNat, UInt8.toNat_ofNat']
      omega
    rw [BitVec.toNat_or, BitVec.toNat_shiftLeft, hx, ih, Nat.shiftLeft_eq]
    have : d / 256 * 2 ^ 8 % 2 ^ 64 = 2 ^ 8 * (d / 256) := by rw [Nat.mod_eq_of_lt (by omega)]; omega
    rw [this, ← Nat.two_pow_add_eq_or_of_lt (by omega)]
    omega
theorem headL_pos (kd n : Nat) : 0 < (headL kd n).length := by unfold headL; split <;> simp
/-- A head that is read back. -/
theorem read_head {b rest : List UInt8} {p en kd m : Nat} (hkd : kd = 128 ∨ kd = 192) (hm : m < 281474976710656) (hb : b.drop p = headL kd m ++ rest) (hen : p + (headL kd m).length + m ≤ en)
    (hsm : kd = 128 → m = 1 → 128 ≤ (rest.getD 0 0).toNat) : readM b p en = (decide (kd = 192), p + (headL kd m).length, p + (headL kd m).length + m, 0) := by
  have hpos := headL_pos kd m
  have h0 := getD_drop hb 0
  have h1 := getD_drop hb 1
  rw [Nat.add_zero] at h0
  have hdeep : ∀ y, y < 64 → decide (192 ≤ kd + y) = decide (kd = 192) := fun y hy => by
    rcases hkd with rfl | rfl
    · rw [decide_eq_false (by omega), decide_eq_false (by omega)]
    · rw [decide_eq_true (by omega), decide_eq_true (by omega)]
  by_cases hs : m ≤ 55
  · have hh : headL kd m = [UInt8.ofNat (kd + m)] := by unfold headL; rw [if_pos hs]
    rw [hh] at h0 h1 hen ⊢
    simp only [List.length_cons, List.length_nil, List.cons_append, List.nil_append, List.getD_cons_zero, List.getD_cons_succ] at *
    have hx : (b.getD p 0).toNat = kd + m := by rw [h0, UInt8.toNat_ofNat']; omega
    unfold readM
    rw [hx, h1]
    have hmod : (kd + m) % 64 = m := by omega
    rw [hmod, if_neg (by omega), if_neg (by omega), if_neg (by omega), if_neg (by omega), if_neg (by
      rintro ⟨e1, e2⟩
      have := hsm (by omega) (by omega)
      omega), hdeep m (by omega)]
  · have hn := nb_le m 6 (by omega)
    have hn1 : 0 < nb m := Nat.pos_of_ne_zero (fun e => by have := nb_eq_zero.1 e; omega)
    obtain ⟨k, hk⟩ : ∃ k, nb m = k := ⟨_, rfl⟩
    have hh : headL kd m = UInt8.ofNat (kd + 55 + k) :: beL m k := by unfold headL; rw [if_neg hs, hk]
    have hlt : m < 256 ^ k := by
      rcases Nat.lt_or_ge m (256 ^ k) with h | h
      · exact h
      · have := (nb_left m k).1 (Nat.div_pos h (Nat.pow_pos (by omega)))
        omega
    have htop : 0 < m / 256 ^ (k - 1) := (nb_left m (k - 1)).2 (by omega)
    rw [hh] at h0 h1 hen ⊢
    simp only [List.length_cons, List.cons_append, List.getD_cons_zero, beL_length] at *
    have hdig : ∀ j, j < k → b.getD (p + 1 + j) 0 = UInt8.ofNat (m / 256 ^ (k - 1 - j)) := fun j hj => by
      have := getD_drop hb (j + 1)
      rw [hh, List.cons_append, List.getD_cons_succ, getD_left (by rw [beL_length]; exact hj), beL_get m k j hj] at this
      rw [show p + 1 + j = p + (j + 1) by omega, this]
    have hx : (b.getD p 0).toNat = kd + 55 + k := by rw [h0, UInt8.toNat_ofNat']; omega
    have hd0 := hdig 0 (by omega)
    rw [Nat.add_zero, Nat.sub_zero] at hd0
    have hV := longV_digits hm hdig hlt k (Nat.le_refl _)
    rw [Nat.sub_self, Nat.pow_zero, Nat.div_one] at hV
    have htopv : m / 256 ^ (k - 1) < 256 := by
      rw [Nat.div_lt_iff_lt_mul (Nat.pow_pos (by omega)), ← Nat.pow_succ', Nat.succ_eq_add_one, Nat.sub_add_cancel (by omega)]
      exact hlt
    have hz : (b.getD (p + 1) 0).toNat ≠ 0 := by
      rw [hd0, UInt8.toNat_ofNat']
      omega
    unfold readM
    rw [hx]
    have hmod : (kd + 55 + k) % 64 = 55 + k := by omega
    rw [hmod, if_neg (by omega), if_neg (by omega), if_pos (by omega), if_neg (by omega), Nat.add_sub_cancel_left, hV, if_neg (by omega), if_neg (by omega), Nat.add_assoc kd 55 k, hdeep (55 + k) (by omega)]
    simp only [Prod.mk.injEq, true_and, and_true]
    omega
theorem read_small {b : List UInt8} {p en : Nat} (hp : p < en) (hx : (b.getD p 0).toNat < 128) : readM b p en = (false, p, p + 1, 0) := by
  unfold readM
  rw [if_neg (by omega), if_pos hx]
/-- The bytes of an item of bytes. -/
def bytesM (l : List UInt8) : List UInt8 := (if small l then [] else headL 128 l.length) ++ l
/-- Its head is read, its bytes are there. -/
theorem read_bytesM {b rest l : List UInt8} {p en : Nat} (hm : l.length < 281474976710656) (hb : b.drop p = bytesM l ++ rest) (hen : p + (bytesM l).length ≤ en) (hen2 : en ≤ b.length) :
    ∃ f, readM b p en = (false, f, p + (bytesM l).length, 0) ∧ p ≤ f ∧ (b.take (p + (bytesM l).length)).drop f = l := by
  have htk : (b.take (p + (bytesM l).length)).drop p = bytesM l := by
    rw [List.drop_take, hb, Nat.add_sub_cancel_left, List.take_left]
  unfold bytesM at *
  by_cases hs : small l = true
  · rw [if_pos hs] at *
    simp only [List.nil_append] at *
    have h0 := getD_drop hb 0
    unfold small at hs
    simp only [Bool.and_eq_true, decide_eq_true_eq] at hs
    obtain ⟨h1, h2⟩ := hs
    match l, h1 with
    | [x], _ =>
      simp only [List.headD_cons, Nat.add_zero, List.cons_append, List.getD_cons_zero, List.length_cons, List.length_nil] at *
      refine ⟨p, read_small (by omega) ?_, Nat.le_refl _, htk⟩
      rw [h0]
      exact h2
  · rw [if_neg hs] at *
    rw [List.append_assoc] at hb
    rw [List.length_append] at *
    have := read_head (b := b) (rest := l ++ rest) (p := p) (en := en) (kd := 128) (m := l.length) (Or.inl rfl) hm hb (by omega) (fun _ h1 => by
      unfold small at hs
      simp only [h1, decide_true, Bool.true_and, decide_eq_true_eq] at hs
      match l, h1 with
      | [x], _ =>
        simp only [List.headD_cons, List.cons_append, List.getD_cons_zero] at *
        have : ¬ x.toNat < 128 := hs
        omega)
    refine ⟨p + (headL 128 l.length).length, ?_, by omega, ?_⟩
    · rw [this, Nat.add_assoc]
      rfl
    · rw [← List.drop_drop, htk, List.drop_left]
/-- Lists in one another. -/
def nest (inner : List UInt8) : Nat → List UInt8
  | 0 => bytesM inner
  | k + 1 => headL 192 (nest inner k).length ++ nest inner k
def nestS (inner : List UInt8) (n : Nat) : List SaidI := List.replicate n (true, 1, []) ++ [(false, 0, inner)]
theorem nest_le (inner : List UInt8) (hi : inner.length ≤ 1048576) : ∀ k, k ≤ 1048576 → (nest inner k).length ≤ inner.length + 9 * (k + 1)
  | 0, _ => by
    have := headL_length 128 inner.length
    have := wholeN_le inner.length (by omega)
    unfold nest bytesM
    rw [List.length_append]
    split <;> simp <;> omega
  | k + 1, h => by
    have ih := nest_le inner hi k (by omega)
    have := headL_length 192 (nest inner k).length
    have := wholeN_le (nest inner k).length (by omega)
    unfold nest
    rw [List.length_append]
    omega
theorem bytesM_pos (l : List UInt8) : 0 < (bytesM l).length := by
  unfold bytesM
  rw [List.length_append]
  split
  · rename_i h
    unfold small at h
    simp only [Bool.and_eq_true, decide_eq_true_eq] at h
    simp; omega
  · have := headL_pos 128 l.length
    omega
theorem nest_pos (inner : List UInt8) : ∀ k, 0 < (nest inner k).length
  | 0 => bytesM_pos inner
  | k + 1 => by unfold nest; rw [List.length_append]; have := headL_pos 192 (nest inner k).length; omega
theorem popM_all {n : Nat} : ∀ {st : List (Nat × Nat)}, (∀ q ∈ st, q.2 = n) → popM n n n st = none
  | [], _ => rfl
  | q :: st, h => by
    unfold popM
    rw [if_neg (by omega)]
    have : endOf n st = n := by
      cases st with
      | nil => rfl
      | cons q' st => exact h q' (by simp)
    rw [this]
    exact popM_all fun q hq => h q (List.mem_cons_of_mem _ hq)
theorem modify_snoc (L : List SaidI) (x : SaidI) : (L ++ [x]).modify L.length up = L ++ [up x] := by
  induction L with
  | nil => rfl
  | cons y L ih => rw [List.cons_append, List.length_cons, List.modify_succ_cons, ih]; rfl
theorem decGo_nest {b inner : List UInt8} (hi : inner.length ≤ 1048576) : ∀ (k fuel : Nat) (L : List SaidI) (st : List (Nat × Nat)) (p : Nat), k ≤ 1048576 → k < fuel → p ≤ b.length → b.drop p = nest inner k → (∀ q ∈ st, q.2 = b.length) →
    decGo b fuel L st p b.length = (upL L st ++ nestS inner k, 0, 0)
  | 0, fuel + 1, L, st, p, _, _, hpb, hb, hst => by
    have hlen : p + (bytesM inner).length = b.length := by
      have := congrArg List.length hb
      simp only [List.length_drop, nest] at this
      omega
    obtain ⟨f, hr, hpf, hcut⟩ := read_bytesM (b := b) (rest := []) (l := inner) (p := p) (en := b.length) (by omega) (by rw [List.append_nil]; exact hb) (by omega) (Nat.le_refl _)
    unfold decGo
    rw [hr, if_neg (by simp)]
    simp only [atN, enN, openN, hlen, Bool.false_eq_true, if_false]
    rw [popM_all hst]
    simp only [Nat.lt_irrefl, if_false]
    rw [hlen] at hcut
    simp only [newI, Bool.false_eq_true, if_false, hcut]
    rfl
  | k + 1, fuel + 1, L, st, p, hk, hf, hpb, hb, hst => by
    have hpos := nest_pos inner k
    have hle := nest_le inner hi k (by omega)
    have hlen : p + (headL 192 (nest inner k).length).length + (nest inner k).length = b.length := by
      have := congrArg List.length hb
      simp only [List.length_drop, nest, List.length_append] at this
      omega
    have hr := read_head (b := b) (rest := nest inner k) (p := p) (en := b.length) (kd := 192) (m := (nest inner k).length) (Or.inr rfl) (by omega) (by rw [hb]; rfl) (by omega) (fun h => by omega)
    have hdrop : b.drop (p + (headL 192 (nest inner k).length).length) = nest inner k := by
      rw [← List.drop_drop, hb]
      show (headL 192 (nest inner k).length ++ nest inner k).drop _ = _
      rw [List.drop_left]
    unfold decGo
    rw [hr, hlen, if_neg (by simp)]
    simp only [atN, enN, openN, decide_true, if_true]
    rw [popM, if_pos (by omega)]
    simp only [newI, if_true]
    rw [decGo_nest hi k fuel _ _ _ (by omega) (by omega) (by omega) hdrop (fun q hq => by
      rcases List.mem_cons.1 hq with rfl | hq
      · rfl
      · exact hst q hq)]
    show (((upL L st ++ [(true, 0, [])]).modify L.length up) ++ nestS inner k, 0, 0) = _
    have := modify_snoc (upL L st) (true, 0, [])
    rw [upL_length] at this
    rw [this]
    simp only [nestS, up, List.replicate_succ, List.append_assoc, List.cons_append, List.nil_append]
    rfl
theorem decM_nest (inner : List UInt8) (n : Nat) (hi : inner.length ≤ 1048576) (hn : n ≤ 1048576) : decM (nest inner n) = (nestS inner n, 0, 0) := by
  have hl : n < (nest inner n).length + 1 := by
    have : ∀ k, k ≤ (nest inner k).length := fun k => by
      induction k with
      | zero => omega
      | succ k ih => unfold nest; rw [List.length_append]; have := headL_pos 192 (nest inner k).length; omega
    have := this n
    omega
  have := decGo_nest (b := nest inner n) hi n _ [] [] 0 hn hl (Nat.zero_le _) (by rw [List.drop_zero]) (by simp)
  unfold decM
  rw [this]
  rfl
theorem ownN_bytesM (l : List UInt8) : ownN l = (bytesM l).length := by
  unfold ownN bytesM
  split
  · rename_i h
    unfold small at h
    simp only [Bool.and_eq_true, decide_eq_true_eq] at h
    simp [h.1]
  · rw [List.length_append, headL_length]
def nestSz (inner : List UInt8) (n i : Nat) : Nat := if i = n then inner.length else (nest inner (n - 1 - i)).length
section
variable {inner : List UInt8} {n : Nat} {its : List ItemL}
theorem nest_len (h : its.map said = nestS inner n) : its.length = n + 1 := by
  have := congrArg List.length h
  simpa [nestS] using this
theorem nest_list (h : its.map said = nestS inner n) (i : Nat) (hi : i < n) (hi' : i < its.length) : its[i].1 = true ∧ its[i].2.1 = 1 ∧ its[i].2.2.2.2 = [] := by
  have := congrArg (fun l => l[i]?) h
  simp only [List.getElem?_map, List.getElem?_eq_getElem hi', Option.map_some, nestS] at this
  rw [List.getElem?_append_left (by simpa using hi), List.getElem?_replicate, if_pos hi] at this
  injection this with this
  unfold said at this
  injection this with h1 h2
  injection h2 with h2 h3
  exact ⟨h1, h2, h3⟩
theorem nest_last (h : its.map said = nestS inner n) (hi' : n < its.length) : its[n].1 = false ∧ its[n].2.1 = 0 ∧ its[n].2.2.2.2 = inner := by
  have := congrArg (fun l => l[n]?) h
  simp only [List.getElem?_map, List.getElem?_eq_getElem hi', Option.map_some, nestS] at this
  rw [List.getElem?_append_right (by simp)] at this
  simp only [List.length_replicate, Nat.sub_self, List.getElem?_cons_zero] at this
  injection this with this
  unfold said at this
  injection this with h1 h2
  injection h2 with h2 h3
  exact ⟨h1, h2, h3⟩
theorem run_nest (h : its.map said = nestS inner n) : ∀ k, k ≤ n → ∃ sz, runE its ((down its.length).take (k + 1)) = some ([(nest inner k).length], sz) ∧ ∀ i, n - k ≤ i → i ≤ n → sz i = nestSz inner n i
  | 0, _ => by
    have hN := nest_len h
    obtain ⟨h1, h2, h3⟩ := nest_last h (by omega)
    rw [down_take its.length 0 n (by omega), List.take_zero]
    have := runE_some (its := its) (pre := []) (st := []) (sz := fun _ => 0) rfl ⟨n, by omega⟩
    rw [this]
    simp only [stepE, h1, h2, h3, Bool.false_eq_true, if_false, if_true, Option.map_some]
    refine ⟨_, by rw [ownN_bytesM]; rfl, fun i hi1 hi2 => ?_⟩
    obtain rfl : i = n := by omega
    simp [upd, nestSz]
  | k + 1, hk => by
    have hN := nest_len h
    obtain ⟨sz, hr, hsz⟩ := run_nest h k (by omega)
    obtain ⟨h1, h2, h3⟩ := nest_list h (n - k - 1) (by omega) (by omega)
    rw [down_take its.length (k + 1) (n - k - 1) (by omega)]
    have := runE_some hr ⟨n - k - 1, by omega⟩
    rw [this]
    have ht : topSum [(nest inner k).length] 1 = (nest inner k).length := by simp [topSum]
    simp only [stepE, h1, h2, h3, if_true, List.length_cons, List.length_nil]
    rw [if_pos (by simp)]
    simp only [Option.map_some, show (1 : Int).toNat = 1 from rfl, ht, Nat.zero_add, Nat.sub_self, List.take_zero, List.nil_append]
    rw [← headL_length 192 (nest inner k).length, ← List.length_append]
    refine ⟨_, rfl, fun i hi1 hi2 => ?_⟩
    unfold upd
    split
    · rename_i e
      subst e
      unfold nestSz
      rw [if_neg (by omega)]
      congr 2
      omega
    · rename_i e
      exact hsz i (by omega) hi2
theorem out_nest (h : its.map said = nestS inner n) (sz : Nat → Nat) (hsz : ∀ i, i ≤ n → sz i = nestSz inner n i) : ∀ k, k ≤ n →
    ((List.range' (n - k) (k + 1)).map fun i => match its[i]? with | some x => pieceE x (sz i) | none => []).flatten = nest inner k
  | 0, _ => by
    have hN := nest_len h
    obtain ⟨h1, h2, h3⟩ := nest_last h (by omega)
    simp only [Nat.sub_zero, List.range'_succ, List.range'_zero, List.map_cons, List.map_nil, List.flatten_cons, List.flatten_nil, List.append_nil]
    rw [List.getElem?_eq_getElem (by omega)]
    simp only [pieceE, h1, h3, Bool.false_eq_true, if_false]
    rw [hsz n (Nat.le_refl _)]
    simp [nestSz, nest, bytesM]
  | k + 1, hk => by
    have hN := nest_len h
    have ih := out_nest h sz hsz k (by omega)
    obtain ⟨h1, h2, h3⟩ := nest_list h (n - (k + 1)) (by omega) (by omega)
    rw [List.range'_succ, show n - (k + 1) + 1 = n - k by omega, List.map_cons, List.flatten_cons, ih, List.getElem?_eq_getElem (by omega)]
    simp only [pieceE, h1, if_true]
    rw [hsz _ (by omega)]
    unfold nestSz
    rw [if_neg (by omega), show n - 1 - (n - (k + 1)) = k by omega]
    rfl
theorem encM_nest (h : its.map said = nestS inner n) : encM its = some (nest inner n) := by
  have hN := nest_len h
  obtain ⟨sz, hr, hsz⟩ := run_nest h n (Nat.le_refl _)
  rw [List.take_of_length_le (by rw [down_length]; omega)] at hr
  unfold encM
  rw [hr]
  simp only
  have := out_nest h sz (fun i hi => hsz i (by omega) hi) n (Nat.le_refl _)
  unfold outE
  rw [Nat.sub_self] at this
  rw [hN, List.range_eq_range']
  exact congrArg some this
end
end Go.Proofs.YtfhindffmghlaaaDoor
/- A list's bytes: plain. -/
namespace Go.Proofs.YtfhindffmghlaaaDoor
/-- Own bytes with their head ahead. -/
def withM (kd : Nat) (l : List UInt8) : List UInt8 := headL kd l.length ++ l
theorem withM_length (kd : Nat) (l : List UInt8) : (withM kd l).length = wholeN l.length := by unfold withM; rw [List.length_append, headL_length]
end Go.Proofs.YtfhindffmghlaaaDoor
/- Items as trees: their rows, their bytes; what Decode answers is such a row. No walk. -/
namespace Go.Proofs.YtfhindffmghlaaaDoor
inductive It where
  | bytes (l : List UInt8)
  | list (xs : List It)
namespace It
mutual
def flat : It → List SaidI
  | .bytes l => [(false, 0, l)]
  | .list xs => (true, (xs.length : Int), []) :: flats xs
def flats : List It → List SaidI
  | [] => []
  | x :: xs => flat x ++ flats xs
end
mutual
def enc : It → List UInt8
  | .bytes l => bytesM l
  | .list xs => withM 192 (encs xs)
def encs : List It → List UInt8
  | [] => []
  | x :: xs => enc x ++ encs xs
end
end It
open It
theorem flats_append (a b : List It) : flats (a ++ b) = flats a ++ flats b := by
  induction a with
  | nil => rfl
  | cons x a ih => simp only [List.cons_append, flats, ih, List.append_assoc]
theorem encs_append (a b : List It) : encs (a ++ b) = encs a ++ encs b := by
  induction a with
  | nil => rfl
  | cons x a ih => simp only [List.cons_append, encs, ih, List.append_assoc]
theorem flat_pos (it : It) : 0 < it.flat.length := by cases it <;> simp [It.flat]
theorem withM_pos (kd : Nat) (l : List UInt8) : 0 < (withM kd l).length := by
  unfold withM; rw [List.length_append]; have := headL_pos kd l.length; omega
theorem enc_pos (it : It) : 0 < it.enc.length := by
  cases it with
  | bytes l => exact bytesM_pos l
  | list xs => exact withM_pos _ _
mutual
theorem flat_le (it : It) : it.flat.length ≤ it.enc.length := by
  cases it with
  | bytes l => have := bytesM_pos l; simp only [It.flat, It.enc, List.length_cons, List.length_nil]; omega
  | list xs =>
    have := flats_le xs
    have := headL_pos 192 (encs xs).length
    simp only [It.flat, It.enc, withM, List.length_cons, List.length_append]
    omega
theorem flats_le (xs : List It) : (flats xs).length ≤ (encs xs).length := by
  cases xs with
  | nil => simp [flats]
  | cons x xs =>
    have := flat_le x
    have := flats_le xs
    simp only [flats, encs, List.length_append]
    omega
end
/- Reading. -/
mutual
def parse (b : List UInt8) : Nat → Nat → Nat → Option (It × Nat)
  | 0, _, _ => none
  | k + 1, p, en =>
    if (readM b p en).2.2.2 ≠ 0 then none else
    if (readM b p en).1 then (parses b k (readM b p en).2.1 (readM b p en).2.2.1).map fun xs => (It.list xs, (readM b p en).2.2.1)
    else some (It.bytes ((b.take (readM b p en).2.2.1).drop (readM b p en).2.1), (readM b p en).2.2.1)
def parses (b : List UInt8) : Nat → Nat → Nat → Option (List It)
  | 0, _, _ => none
  | k + 1, p, to =>
    if to ≤ p then some [] else
    match parse b k p to with
    | none => none
    | some (x, q) => (parses b k q to).map fun xs => x :: xs
end
mutual
theorem parse_pos {b : List UInt8} : ∀ (k : Nat) {p en q : Nat} {it : It}, en ≤ b.length → parse b k p en = some (it, q) → p < q ∧ q ≤ en
  | 0, p, en, q, it, _, h => by simp [parse] at h
  | k + 1, p, en, q, it, hen, h => by
    unfold parse at h
    split at h
    · cases h
    rename_i hr
    have hr : (readM b p en).2.2.2 = 0 := by omega
    obtain ⟨h1, h2, h3, h4, h5, h6⟩ := readM_ok hr hen
    split at h
    · cases hx : parses b k (readM b p en).2.1 (readM b p en).2.2.1 with
      | none => rw [hx] at h; cases h
      | some xs =>
        rw [hx] at h
        simp only [Option.map_some, Option.some.injEq, Prod.mk.injEq] at h
        omega
    · simp only [Option.some.injEq, Prod.mk.injEq] at h
      omega
end
/-- Behind a whole item. -/
def after (b : List UInt8) (k : Nat) (L : List SaidI) (st : List (Nat × Nat)) (p en : Nat) : DecR :=
  match popM b.length p en st with
  | none => if p < b.length then ([], 58, p) else (L, 0, 0)
  | some (en', st') => decGo b k L st' p en'
theorem decGo_bytes {b : List UInt8} {k : Nat} {L : List SaidI} {st : List (Nat × Nat)} {p en : Nat} (h : (readM b p en).2.2.2 = 0) (hd : (readM b p en).1 = false) :
    decGo b (k + 1) L st p en = after b k (upL L st ++ [(false, 0, (b.take (readM b p en).2.2.1).drop (readM b p en).2.1)]) st (readM b p en).2.2.1 en := by
  rw [decGo, if_neg (by omega)]
  unfold after
  simp only [atN, enN, openN, newI, hd, Bool.false_eq_true, if_false]
  rfl
theorem decGo_list {b : List UInt8} {k : Nat} {L : List SaidI} {st : List (Nat × Nat)} {p en : Nat} (h : (readM b p en).2.2.2 = 0) (hd : (readM b p en).1 = true) :
    decGo b (k + 1) L st p en = after b k (upL L st ++ [(true, 0, [])]) ((L.length, (readM b p en).2.2.1) :: st) (readM b p en).2.1 (readM b p en).2.2.1 := by
  rw [decGo, if_neg (by omega)]
  unfold after
  simp only [atN, enN, openN, newI, hd, if_true]
  rfl
theorem decGo_err {b : List UInt8} {k : Nat} {L : List SaidI} {st : List (Nat × Nat)} {p en : Nat} (h : (readM b p en).2.2.2 ≠ 0) : decGo b (k + 1) L st p en = ([], (readM b p en).2.2.2, p) := by
  rw [decGo, if_pos h]
/-- The i-th item's count raised. -/
def bump (L : List SaidI) (i n : Nat) : List SaidI := L.modify i fun x => (x.1, x.2.1 + (n : Int), x.2.2)
theorem bump_zero (L : List SaidI) (i : Nat) : bump L i 0 = L := by
  unfold bump
  apply List.ext_getElem
  · simp
  · intro j h1 h2
    rw [List.getElem_modify]
    split <;> simp
theorem bump_up (L : List SaidI) (i n : Nat) : bump (L.modify i up) i n = bump L i (n + 1) := by
  unfold bump
  apply List.ext_getElem
  · simp
  · intro j h1 h2
    simp only [List.getElem_modify]
    split
    · simp only [up, Prod.mk.injEq, true_and, and_true]; omega
    · rfl
theorem bump_append (L M : List SaidI) (i n : Nat) (h : i < L.length) : bump (L ++ M) i n = bump L i n ++ M := by
  unfold bump
  apply List.ext_getElem
  · simp
  · intro j h1 h2
    rw [List.getElem_modify]
    by_cases hj : j < L.length
    · rw [List.getElem_append_left hj, List.getElem_append_left (by simpa using hj), List.getElem_modify]
    · rw [List.getElem_append_right (by omega), List.getElem_append_right (by simpa using Nat.le_of_not_lt hj), if_neg (by omega)]
      simp
theorem bump_length (L : List SaidI) (i n : Nat) : (bump L i n).length = L.length := by simp [bump]
theorem bump_last (L : List SaidI) (x : SaidI) (n : Nat) : bump (L ++ [x]) L.length n = L ++ [(x.1, x.2.1 + (n : Int), x.2.2)] := by
  unfold bump
  induction L with
  | nil => rfl
  | cons y L ih => rw [List.cons_append, List.length_cons, List.modify_succ_cons, ih]; rfl
theorem after_done {b : List UInt8} {k : Nat} {L : List SaidI} {st : List (Nat × Nat)} {i to : Nat} : after b k L ((i, to) :: st) to to = after b k L st to (endOf b.length st) := by
  unfold after
  rw [popM, if_neg (by omega)]
theorem after_go {b : List UInt8} {k : Nat} {L : List SaidI} {st : List (Nat × Nat)} {i to q : Nat} (h : q < to) : after b k L ((i, to) :: st) q to = decGo b k L ((i, to) :: st) q to := by
  unfold after
  rw [popM, if_pos h]
mutual
theorem dec_parse {b : List UInt8} : ∀ (f : Nat) {p en q k : Nat} {it : It} (L : List SaidI) (st : List (Nat × Nat)), en ≤ b.length → en = endOf b.length st → (∀ s ∈ st, s.1 < L.length) → parse b f p en = some (it, q) →
    decGo b (k + it.flat.length) L st p en = after b k (upL L st ++ it.flat) st q en
  | 0, p, en, q, k, it, L, st, _, _, _, h => by simp [parse] at h
  | f + 1, p, en, q, k, it, L, st, hen, hend, hst, h => by
    unfold parse at h
    split at h
    · cases h
    rename_i hr
    have hr : (readM b p en).2.2.2 = 0 := by omega
    obtain ⟨h1, h2, h3, h4, h5, h6⟩ := readM_ok hr hen
    split at h
    · rename_i hd
      cases hx : parses b f (readM b p en).2.1 (readM b p en).2.2.1 with
      | none => rw [hx] at h; cases h
      | some xs =>
        rw [hx] at h
        simp only [Option.map_some, Option.some.injEq, Prod.mk.injEq] at h
        obtain ⟨rfl, rfl⟩ := h
        have hlen : (upL L st ++ [((true, 0, []) : SaidI)]).length = L.length + 1 := by rw [List.length_append, upL_length]; rfl
        have := decs_parse f (k := k) (upL L st ++ [((true, 0, []) : SaidI)]) L.length st (p := (readM b p en).2.1) (to := (readM b p en).2.2.1) (by omega) h3 (by omega)
          (fun s hs => by have := hst s hs; omega) hx
        simp only [It.flat, List.length_cons]
        rw [show k + ((flats xs).length + 1) = (k + (flats xs).length) + 1 by omega, decGo_list hr hd, this]
        have hb := bump_last (upL L st) (true, 0, []) xs.length
        rw [upL_length] at hb
        rw [hb, ← hend]
        simp
    · rename_i hd
      simp only [Option.some.injEq, Prod.mk.injEq] at h
      obtain ⟨rfl, rfl⟩ := h
      exact decGo_bytes hr (by simpa using hd)
theorem decs_parse {b : List UInt8} : ∀ (f : Nat) {p to k : Nat} {xs : List It} (L : List SaidI) (i : Nat) (st : List (Nat × Nat)), to ≤ b.length → p ≤ to → i < L.length → (∀ s ∈ st, s.1 < L.length) → parses b f p to = some xs →
    after b (k + (flats xs).length) L ((i, to) :: st) p to = after b k (bump L i xs.length ++ flats xs) st to (endOf b.length st)
  | 0, p, to, k, xs, L, i, st, _, _, _, _, h => by simp [parses] at h
  | f + 1, p, to, k, xs, L, i, st, hto, hp, hi, hst, h => by
    unfold parses at h
    split at h
    · rename_i hle
      obtain rfl : p = to := by omega
      simp only [Option.some.injEq] at h
      subst h
      rw [after_done]
      simp [flats, bump_zero]
    · rename_i hle
      split at h
      · cases h
      rename_i x q hq
      have hpos := parse_pos f hto hq
      cases hx : parses b f q to with
      | none => rw [hx] at h; cases h
      | some ys =>
        rw [hx] at h
        simp only [Option.map_some, Option.some.injEq] at h
        subst h
        have hst2 : ∀ s ∈ ((i, to) :: st), s.1 < L.length := by
          intro s hs
          rcases List.mem_cons.1 hs with rfl | hs
          · exact hi
          · exact hst s hs
        rw [after_go (by omega)]
        simp only [flats, List.length_append]
        rw [show k + (x.flat.length + (flats ys).length) = (k + (flats ys).length) + x.flat.length by omega]
        rw [dec_parse f L ((i, to) :: st) hto rfl hst2 hq]
        have hl : (upL L ((i, to) :: st) ++ x.flat).length = L.length + x.flat.length := by rw [List.length_append, upL_length]
        rw [decs_parse f (upL L ((i, to) :: st) ++ x.flat) i st hto hpos.2 (by omega) (fun s hs => by have := hst s hs; omega) hx]
        rw [bump_append _ _ _ _ (by rw [upL_length]; exact hi)]
        show after b k (bump (L.modify i up) i ys.length ++ x.flat ++ flats ys) st to _ = _
        rw [bump_up, List.append_assoc]
        rfl
end
mutual
/-- What is no item is refused. -/
theorem dec_fail {b : List UInt8} : ∀ (f : Nat) {p en k : Nat} (L : List SaidI) (st : List (Nat × Nat)), en ≤ b.length → en = endOf b.length st → (∀ s ∈ st, s.1 < L.length) → 2 * (en - p) < f → en - p < k → parse b f p en = none →
    (decGo b k L st p en).2.1 ≠ 0
  | 0, p, en, k, L, st, _, _, _, hf, _, _ => by omega
  | f + 1, p, en, k, L, st, hen, hend, hst, hf, hk, h => by
    obtain ⟨k, rfl⟩ : ∃ j, k = j + 1 := ⟨k - 1, by omega⟩
    unfold parse at h
    split at h
    · rename_i hr
      rw [decGo_err hr]
      exact hr
    rename_i hr
    have hr : (readM b p en).2.2.2 = 0 := by omega
    obtain ⟨h1, h2, h3, h4, h5, h6⟩ := readM_ok hr hen
    split at h
    · rename_i hd
      have h7 := h6 hd
      cases hx : parses b f (readM b p en).2.1 (readM b p en).2.2.1 with
      | some xs => rw [hx] at h; cases h
      | none =>
        rw [decGo_list hr hd]
        have hlen : (upL L st ++ [((true, 0, []) : SaidI)]).length = L.length + 1 := by rw [List.length_append, upL_length]; rfl
        exact decs_fail f (upL L st ++ [((true, 0, []) : SaidI)]) L.length st (by omega) h3 (by omega) (fun s hs => by have := hst s hs; omega) (by omega) (by omega) hx
    · cases h
theorem decs_fail {b : List UInt8} : ∀ (f : Nat) {p to k : Nat} (L : List SaidI) (i : Nat) (st : List (Nat × Nat)), to ≤ b.length → p ≤ to → i < L.length → (∀ s ∈ st, s.1 < L.length) → 2 * (to - p) + 2 ≤ f → to - p < k → parses b f p to = none →
    (after b k L ((i, to) :: st) p to).2.1 ≠ 0
  | 0, p, to, k, L, i, st, _, _, _, _, hf, _, _ => by omega
  | f + 1, p, to, k, L, i, st, hto, hp, hi, hst, hf, hk, h => by
    unfold parses at h
    split at h
    · cases h
    rename_i hle
    have hst2 : ∀ s ∈ ((i, to) :: st), s.1 < L.length := by
      intro s hs
      rcases List.mem_cons.1 hs with rfl | hs
      · exact hi
      · exact hst s hs
    rw [after_go (by omega)]
    split at h
    · rename_i hq
      exact dec_fail f L ((i, to) :: st) hto rfl hst2 (by omega) hk hq
    · rename_i x q hq
      have hpos := parse_pos f hto hq
      cases hx : parses b f q to with
      | some ys => rw [hx] at h; cases h
      | none =>
        by_cases hkx : x.flat.length ≤ k
        · obtain ⟨k', rfl⟩ : ∃ j, k = j + x.flat.length := ⟨k - x.flat.length, by omega⟩
          rw [dec_parse f L ((i, to) :: st) hto rfl hst2 hq]
          have hl : (upL L ((i, to) :: st) ++ x.flat).length = L.length + x.flat.length := by rw [List.length_append, upL_length]
          have hfl := parse_flat f hto hq
          exact decs_fail f (upL L ((i, to) :: st) ++ x.flat) i st hto hpos.2 (by omega) (fun s hs => by have := hst s hs; omega) (by omega) (by omega) hx
        · have hfl := parse_flat f hto hq
          omega
/-- A row has no more items than its bytes. -/
theorem parse_flat {b : List UInt8} : ∀ (f : Nat) {p en q : Nat} {it : It}, en ≤ b.length → parse b f p en = some (it, q) → it.flat.length ≤ q - p
  | 0, p, en, q, it, _, h => by simp [parse] at h
  | f + 1, p, en, q, it, hen, h => by
    unfold parse at h
    split at h
    · cases h
    rename_i hr
    have hr : (readM b p en).2.2.2 = 0 := by omega
    obtain ⟨h1, h2, h3, h4, h5, h6⟩ := readM_ok hr hen
    split at h
    · rename_i hd
      have h7 := h6 hd
      cases hx : parses b f (readM b p en).2.1 (readM b p en).2.2.1 with
      | none => rw [hx] at h; cases h
      | some xs =>
        rw [hx] at h
        simp only [Option.map_some, Option.some.injEq, Prod.mk.injEq] at h
        obtain ⟨rfl, rfl⟩ := h
        have := parses_flat f (by omega) h3 hx
        simp only [It.flat, List.length_cons]
        omega
    · simp only [Option.some.injEq, Prod.mk.injEq] at h
      obtain ⟨rfl, rfl⟩ := h
      simp only [It.flat, List.length_cons, List.length_nil]
      omega
theorem parses_flat {b : List UInt8} : ∀ (f : Nat) {p to : Nat} {xs : List It}, to ≤ b.length → p ≤ to → parses b f p to = some xs → (flats xs).length ≤ to - p
  | 0, p, to, xs, _, _, h => by simp [parses] at h
  | f + 1, p, to, xs, hto, hp, h => by
    unfold parses at h
    split at h
    · simp only [Option.some.injEq] at h
      subst h
      simp [flats]
    rename_i hle
    split at h
    · cases h
    rename_i x q hq
    have hpos := parse_pos f hto hq
    have h1 := parse_flat f hto hq
    cases hx : parses b f q to with
    | none => rw [hx] at h; cases h
    | some ys =>
      rw [hx] at h
      simp only [Option.map_some, Option.some.injEq] at h
      subst h
      have h2 := parses_flat f hto hpos.2 hx
      simp only [flats, List.length_append]
      omega
end
/-- What the bytes are. -/
def itemOf (b : List UInt8) : Option It := match parse b (2 * b.length + 1) 0 b.length with
  | some (it, q) => if q < b.length then none else some it
  | none => none
theorem decM_some {b : List UInt8} {it : It} (h : itemOf b = some it) : decM b = (it.flat, 0, 0) := by
  unfold itemOf at h
  split at h
  · rename_i it' q hq
    split at h
    · cases h
    rename_i hq2
    simp only [Option.some.injEq] at h
    subst h
    have hf := parse_flat _ (Nat.le_refl _) hq
    have hp := parse_pos _ (Nat.le_refl _) hq
    obtain ⟨k, hk⟩ : ∃ k, b.length + 1 = k + it'.flat.length := ⟨b.length + 1 - it'.flat.length, by omega⟩
    unfold decM
    rw [hk, dec_parse _ [] [] (Nat.le_refl _) rfl (by simp) hq]
    unfold after
    simp only [popM]
    rw [if_neg hq2]
    rfl
  · cases h
theorem decM_none {b : List UInt8} (h : itemOf b = none) : (decM b).2.1 ≠ 0 := by
  unfold itemOf at h
  split at h
  · rename_i it' q hq
    split at h
    · rename_i hq2
      have hf := parse_flat _ (Nat.le_refl _) hq
      have hp := parse_pos _ (Nat.le_refl _) hq
      obtain ⟨k, hk⟩ : ∃ k, b.length + 1 = k + it'.flat.length := ⟨b.length + 1 - it'.flat.length, by omega⟩
      unfold decM
      rw [hk, dec_parse _ [] [] (Nat.le_refl _) rfl (by simp) hq]
      unfold after
      simp only [popM]
      rw [if_pos hq2]
      simp
    · cases h
  · rename_i hq
    unfold decM
    exact dec_fail _ [] [] (Nat.le_refl _) rfl (by simp) (by omega) (by omega) hq
end Go.Proofs.YtfhindffmghlaaaDoor
/- Tries as trees: the words. No walk. -/
namespace Go.Proofs.YtfhindffmghlaaaDoor
/-- A key's nibbles. -/
def nib (key : List UInt8) : List UInt8 := key.flatMap fun (x : UInt8) => [x >>> 4, x &&& 15]
inductive Tr where
  | nil
  | node (path : List UInt8) (kids : Nat → Tr) (value : List UInt8)
namespace Tr
def isNil : Tr → Bool
  | .nil => true
  | .node _ _ _ => false
end Tr
def noKids : Nat → Tr := fun _ => .nil
/-- How many nibbles two paths begin with alike. -/
def common : List UInt8 → List UInt8 → Nat
  | a :: l, b :: m => if a = b then common l m + 1 else 0
  | _, _ => 0
theorem common_le (a b : List UInt8) : common a b ≤ a.length ∧ common a b ≤ b.length := by
  induction a generalizing b with
  | nil => simp [common]
  | cons x a ih =>
    cases b with
    | nil => simp [common]
    | cons y b =>
      unfold common
      split
      · have := ih b; simp; omega
      · simp
/-- The node at which a path ends. -/
def findT : Tr → List UInt8 → Tr
  | .nil, _ => .nil
  | .node p ks v, path =>
    if p <+: path then
      match path.drop p.length with
      | [] => .node p ks v
      | x :: r => findT (ks x.toNat) r
    else .nil
def valueT : Tr → List UInt8
  | .nil => []
  | .node _ _ v => v
/-- The value of a key; none is []. -/
def getT (t : Tr) (key : List UInt8) : List UInt8 := valueT (findT t (nib key))
def putT : Tr → List UInt8 → List UInt8 → Tr
  | .nil, path, v => .node path noKids v
  | .node p ks val, path, v =>
    if common p path < p.length then
      match path.drop (common p path) with
      | [] => .node (p.take (common p path)) (upd noKids (p.getD (common p path) 0).toNat (.node (p.drop (common p path + 1)) ks val)) v
      | x :: r => .node (p.take (common p path)) (upd (upd noKids (p.getD (common p path) 0).toNat (.node (p.drop (common p path + 1)) ks val)) x.toNat (.node r noKids v)) []
    else
      match path.drop (common p path) with
      | [] => .node p ks v
      | x :: r => .node p (upd ks x.toNat (putT (ks x.toNat) r v)) val
/-- The kids that are there, by their nibbles. -/
def there (ks : Nat → Tr) : List Nat := (List.range 16).filter fun i => !(ks i).isNil
def foldT (p : List UInt8) (ks : Nat → Tr) (val : List UInt8) : Tr :=
  if val ≠ [] ∨ 1 < (there ks).length then .node p ks val else
  match there ks with
  | [] => .nil
  | i :: _ => match ks i with
    | .nil => .nil
    | .node kp kk kv => .node (p ++ UInt8.ofNat i :: kp) kk kv
def dropT : Tr → List UInt8 → Tr
  | .nil, _ => .nil
  | .node p ks val, path =>
    match path.drop p.length with
    | [] => foldT p ks []
    | x :: r => foldT p (upd ks x.toNat (dropT (ks x.toNat) r)) val
/-- Two nibbles a byte. -/
def pairUp : List UInt8 → List UInt8
  | a :: b :: r => (a <<< 4 ||| b) :: pairUp r
  | [a] => [a <<< 4]
  | [] => []
/-- A path as bytes, with a mark. -/
def written (path : List UInt8) (mark : UInt8) : List UInt8 :=
  if path.length % 2 = 1 then (32 * mark + (16 + path.headD 0)) :: pairUp path.tail else (32 * mark) :: pairUp path
section
variable (hash : List UInt8 → List UInt8)
/-- What stands for a node of these bytes. -/
def stands (b : List UInt8) : List UInt8 := if b.length < 32 then b else bytesM (hash b)
def leafK (ks : Nat → Tr) : Bool := (List.range 16).all fun i => (ks i).isNil
/-- A node's bytes, without and with the extension ahead. -/
def wrapT (p : List UInt8) (b : List UInt8) : List UInt8 := if p = [] then b else withM 192 (bytesM (written p 0) ++ stands hash b)
def encT : Tr → List UInt8
  | .nil => bytesM []
  | .node p ks v =>
    if leafK ks then withM 192 (bytesM (written p 1) ++ bytesM v)
    else wrapT hash p (withM 192 (((List.range 16).map fun i => stands hash (encT (ks i))).flatten ++ bytesM v))
def branchT (ks : Nat → Tr) (v : List UInt8) : List UInt8 := withM 192 (((List.range 16).map fun i => stands hash (encT hash (ks i))).flatten ++ bytesM v)
/-- Those of the nodes within that have a hash and are asked for: all, or those on a way. -/
def underT : Tr → Bool → Bool → List UInt8 → List (List UInt8)
  | .nil, _, _, _ => []
  | .node p ks v, all, on, path =>
    if leafK ks then [] else
      let on' := on && decide (p <+: path)
      let rest := path.drop p.length
      let kids := ((List.range 16).map fun x =>
        let go := on' && decide (0 < rest.length) && decide ((rest.headD 0).toNat = x)
        let c := encT hash (ks x)
        (if 32 ≤ c.length ∧ (all || go) then [c] else []) ++ underT (ks x) all go (if go then rest.tail else [])).flatten
      (if p ≠ [] ∧ 32 ≤ (branchT hash ks v).length ∧ (all || on') then [branchT hash ks v] else []) ++ kids
end
end Go.Proofs.YtfhindffmghlaaaDoor
/- slices.Clone of bytes; the string of bytes. -/
namespace Go.Proofs.YtfhindffmghlaaaDoor
open Go.RowKit
theorem own_empty (w : World) (t : TypeId) : (w.alloc (.cells #[] t)).ownsRow w.heap.size t 1 (.slice (some ⟨w.heap.size, 0, none⟩) 0 0) 0 [] :=
  ⟨rfl, .inr ⟨w.heap.size, 0, #[], rfl, Nat.le_refl _, heap_alloc_new w _, Nat.le_refl _, by simp [maxLen], rfl, rfl⟩⟩
theorem clone_calls (A : Option Addr) (c B : Nat) (l : List UInt8) (w : World) (hl : l.length ≤ 1099511627776) (hB : B ≤ w.heap.size) (hs : Seq w B A (bytes l)) :
    Calls Tryd.prog 54 #[.slice A l.length c] w fun e w' => ∃ (A' : Option Addr) (c' : Nat), e = .returned (.slice A' l.length c') ∧ w'.ownsRow w.heap.size 5 1 (.slice A' l.length c') l.length (bytes l) ∧ Below w.heap.size w w' := by
  cases A with
  | none =>
    have hl0 : l = [] := by
      cases l with
      | nil => rfl
      | cons x l => obtain ⟨ad, h, _⟩ := hs (by simp [bytes]); cases h
    subst hl0
    have hq := Lib.run_eql_slice_nil (P := Tryd.prog) w 24 5 none 0 c 0 0 Tryd.underlying24
    go_enter Tryd.func54, Tryd.ntmps54
    go_wp2_with fail
    go_ret
    exact ⟨none, 0, rfl, World.ownsRow_nil _ _ _ _, Below.refl _ _⟩
  | some a =>
    have HS := Lib.hid hs
    have hq := Lib.run_eql_slice_nil (P := Tryd.prog) w 24 5 (some a) l.length c 0 0 Tryd.underlying24
    clear hs
    go_enter Tryd.func54, Tryd.ntmps54
    go_wp2_with (first
      | (at_builtin; refine wpL_append rfl (.tmp 5) (.tmp 6) 24 rfl elByte rfl (own_empty w 5) rfl (by rw [bytes_length]; simp) (HS.out.alloc hB _) (bytes_one l) (by unfold maxLen; omega) (by omega) (by rw [size_alloc]; omega) ?_; intro A1 c1 w1 ho1 hg1 _; simp only [Nat.zero_add, List.nil_append] at ho1; have HO1 := Lib.hid ho1; have HB1 := Lib.hid (((Below.refl w.heap.size w).alloc (Nat.le_refl _) _).grown hg1 (by rw [size_alloc]; omega) (fun g hg => by simp [Value.ownBlock] at hg; omega)); clear ho1 hg1))
    go_ret
    exact ⟨A1, c1, by simp, HO1.out, HB1.out⟩
/-- What the string of some bytes is. -/
theorem run_str (A : Option Addr) (c B : Nat) (l : List UInt8) (w : World) (hs : Seq w B A (bytes l)) : (convert 24 9 (.slice A l.length c)).run Tryd.prog w = .ok (.string ⟨l.toArray⟩) w := by
  cases A with
  | none =>
    have hl0 : l = [] := by
      cases l with
      | nil => rfl
      | cons x l => obtain ⟨ad, h, _⟩ := hs (by simp [bytes]); cases h
    subst hl0
    show (convert 24 9 (.slice none 0 c)).run Tryd.prog w = _
    rw [run_convert_bytes_string w 24 9 5 none 0 c Tryd.underlying24 Tryd.underlying5 Tryd.underlying9]
    simp [Conv.bytesToString]
    rfl
  | some a =>
    exact run_convert_bytes_back w 24 9 5 a c l Tryd.underlying24 Tryd.underlying5 Tryd.underlying9 (fun j hj => by
      obtain ⟨ad, h, _, hc⟩ := hs.at_ (k := j) (by rw [bytes_length]; exact hj)
      injection h with h
      subst h
      rw [bytes_get] at hc
      exact hc)
end Go.Proofs.YtfhindffmghlaaaDoor
/- The program's Bytes; a call's answer in memory of its own. -/
namespace Go.Proofs.YtfhindffmghlaaaDoor
open Go.RowKit
theorem own_cap {w : World} {base n c : Nat} {e : TypeId} {size : Nat} {A : Option Addr} {xs : List Value} (h : w.ownsRow base e size (.slice A n c) n xs) : n ≤ c := by
  obtain ⟨A', c', e, h1, _⟩ := own_shape h
  injection e with _ _ e3
  omega
theorem own_capM {w : World} {base n c : Nat} {e : TypeId} {size : Nat} {A : Option Addr} {xs : List Value} (h : w.ownsRow base e size (.slice A n c) n xs) : c ≤ maxLen := by
  obtain ⟨A', c', e, _, h1⟩ := own_shape h
  injection e with _ _ e3
  omega
theorem Seq.piece {w : World} {B : Nat} {A : Option Addr} {ps : List Piece} (h : Seq w B A (pcs ps)) (k : Nat) (hk : k < ps.length) : ∃ ad, A = some ad ∧ ad.block < B ∧ w.cell? (ad.add k) = some (.slice ps[k].1 ps[k].2.2.length ps[k].2.1) := by
  obtain ⟨ad, e, hb, hc⟩ := h.at_ (k := k) (by simp [pcs]; exact hk)
  exact ⟨ad, e, hb, by rw [hc]; simp [pcs, pcV]⟩
theorem Seq.byte {w : World} {B : Nat} {A : Option Addr} {l : List UInt8} (h : Seq w B A (bytes l)) (k : Nat) (hk : k < l.length) : ∃ ad, A = some ad ∧ ad.block < B ∧ w.cell? (ad.add k) = some (.int .u8 (by8 l[k])) := by
  obtain ⟨ad, e, hb, hc⟩ := h.at_ (k := k) (by rw [bytes_length]; exact hk)
  exact ⟨ad, e, hb, by rw [hc, bytes_get]⟩
/-- A call's answer: bytes in memory of its own. -/
def Fresh (w : World) (l : List UInt8) (e : Ending) (w' : World) : Prop :=
  ∃ (A : Option Addr) (c : Nat), e = .returned (.slice A l.length c) ∧ w'.ownsRow w.heap.size 5 1 (.slice A l.length c) l.length (bytes l) ∧ Below w.heap.size w w'
theorem own_one (w : World) (x : UInt8) : (w.alloc (.cells #[.int .u8 (by8 x)] 5)).ownsRow w.heap.size 5 1 (.slice (some ⟨w.heap.size, 0, none⟩) 1 1) 1 (bytes [x]) :=
  ⟨rfl, .inr ⟨w.heap.size, 1, #[.int .u8 (by8 x)], rfl, Nat.le_refl _, heap_alloc_new w _, Nat.le_refl _, by simp [maxLen], rfl, rfl⟩⟩
set_option maxHeartbeats 1000000 in
set_option maxRecDepth 20000 in
theorem rlpBytes_calls (A : Option Addr) (c B : Nat) (l : List UInt8) (w : World) (hl : l.length ≤ 1099511627776) (hB : B ≤ w.heap.size) (hs : Seq w B A (bytes l)) :
    Calls Tryd.prog 78 #[.slice A l.length c] w (Fresh w (bytesM l)) := by
  have HS := Lib.hid hs
  have HLen := Lib.hid (headL_length 128 l.length)
  have HW := Lib.hid (wholeN_le l.length (by omega))
  by_cases h1 : l.length = 1
  · obtain ⟨x, rfl⟩ : ∃ x, l = [x] := List.length_eq_one_iff.1 h1
    obtain ⟨ad, rfl, _, hc0⟩ := hs.at_ (k := 0) (by simp [bytes])
    have hc0 : w.cell? (ad.add 0) = some (.int .u8 (by8 x)) := hc0
    have hadd : ad.add 0 = ad := by unfold Addr.add; simp
    rw [hadd] at hc0
    clear hs hadd h1
    by_cases hx : x.toNat < 128
    · have hsm : bytesM [x] = [x] := by
        have : small [x] = true := by unfold small; simp; exact hx
        unfold bytesM; rw [if_pos this]; rfl
      have HM := Lib.hid hsm
      have dx : decide (by8 x < 128) = true := by unfold by8; simp; omega
      clear hsm
      go_enter Tryd.func78, Tryd.ntmps78
      go_wp2_with fail
      go_ret
      unfold Fresh
      rw [HM.out]
      exact ⟨_, 1, rfl, own_one w x, (Below.refl _ _).alloc (Nat.le_refl _) _⟩
    · have hsm : bytesM [x] = headL 128 1 ++ [x] := by
        have : small [x] = false := by unfold small; simp; exact Nat.le_of_not_lt hx
        unfold bytesM; rw [if_neg (by rw [this]; simp)]; rfl
      have HM := Lib.hid hsm
      have dx : decide (by8 x < 128) = false := by unfold by8; simp; omega
      clear hsm HLen HW
      have HLen := Lib.hid (headL_length 128 1)
      have HW := Lib.hid (wholeN_le 1 (by omega))
      go_enter Tryd.func78, Tryd.ntmps78
      go_wp2_with (first
        | (go_at_call 103; refine (whole_calls 1 (by omega) w).mono ?_; rintro e1 w1 ⟨rfl, hb1⟩; have hs1 := hb1.size; have HB1 := Lib.hid hb1; have hw1 := HW.out; clear hb1)
        | (refine wpL_make rfl (.const (.int .i64 0)) (.tmp 18) 24 rfl Tryd.underlying24 infoByte rfl .i64 .i64 0 (wholeN 1) rfl rfl (Nat.zero_le _) (by omega) (by omega) ?_; have hm := own_made w1 5 (wholeN 1) (fun _ => .int .u8 0) (by unfold maxLen; omega); have HM1 := Lib.hid hm; clear hm)
        | (go_at_call 102; refine (head_calls w1.heap.size _ _ [] 128 1 (by omega) (by simp) _ HM1.out (by rw [size_alloc]; omega)).mono ?_; rintro e2 w2 ⟨A2, c2, rfl, ho2, hg2, _⟩; rw [List.nil_append] at ho2; have hs2 := hg2.size; rw [size_alloc] at hs2; have HO2 := Lib.hid ho2; have hbb := ((HB1.out.alloc hs1 (.cells (tab (wholeN 1) fun _ => .int .u8 0) 5)).grown hg2 (by rw [size_alloc]; omega) (fun g hg => by simp [Value.ownBlock] at hg; omega)); have HB2 := Lib.hid hbb; have hss := hbb.size; clear ho2 hg2 hbb; have hln := HLen.out)
        | (at_builtin; refine wpL_append rfl (.tmp 22) (.tmp 23) 24 rfl elByte rfl HO2.out rfl (by rw [bytes_length]; simp) (HS.out.below HB2.out hB) (bytes_one _) (by unfold maxLen; omega) (by omega) (by omega) ?_; intro A3 c3 w3 ho3 hg3 _; rw [← bytes_append] at ho3; have HO3 := Lib.hid (own_mono ho3 hs1); have HB3 := Lib.hid (HB2.out.grown hg3 hss (fun g hg => by have := (HO2.out.lt g hg).1; omega)); clear ho3 hg3))
      go_ret
      unfold Fresh
      rw [HM.out, List.length_append, List.length_singleton, HLen.out]
      exact ⟨A3, c3, rfl, by first | exact HO3.out | (have h := HO3.out; rw [HLen.out] at h; exact h), HB3.out⟩
  · have hsm : bytesM l = headL 128 l.length ++ l := by
      have : small l = false := by unfold small; rw [decide_eq_false h1]; rfl
      unfold bytesM; rw [if_neg (by rw [this]; simp)]
    have HM := Lib.hid hsm
    have d1 : decide ((l.length : Int) = 1) = false := by simp; omega
    clear hsm hs
    go_enter Tryd.func78, Tryd.ntmps78
    go_wp2_with (first
      | (go_at_call 103; refine (whole_calls l.length (by omega) w).mono ?_; rintro e1 w1 ⟨rfl, hb1⟩; have hs1 := hb1.size; have HB1 := Lib.hid hb1; have hw1 := HW.out; clear hb1)
      | (refine wpL_make rfl (.const (.int .i64 0)) (.tmp 18) 24 rfl Tryd.underlying24 infoByte rfl .i64 .i64 0 (wholeN l.length) rfl rfl (Nat.zero_le _) (by omega) (by omega) ?_; have hm := own_made w1 5 (wholeN l.length) (fun _ => .int .u8 0) (by unfold maxLen; omega); have HM1 := Lib.hid hm; clear hm)
      | (go_at_call 102; refine (head_calls w1.heap.size _ _ [] 128 l.length (by omega) (by simp) _ HM1.out (by rw [size_alloc]; omega)).mono ?_; rintro e2 w2 ⟨A2, c2, rfl, ho2, hg2, _⟩; rw [List.nil_append] at ho2; have hs2 := hg2.size; rw [size_alloc] at hs2; have HO2 := Lib.hid ho2; have hbb := ((HB1.out.alloc hs1 (.cells (tab (wholeN l.length) fun _ => .int .u8 0) 5)).grown hg2 (by rw [size_alloc]; omega) (fun g hg => by simp [Value.ownBlock] at hg; omega)); have HB2 := Lib.hid hbb; have hss := hbb.size; clear ho2 hg2 hbb; have hln := HLen.out)
      | (at_builtin; refine wpL_append rfl (.tmp 22) (.tmp 23) 24 rfl elByte rfl HO2.out rfl (by rw [bytes_length]; simp) (HS.out.below HB2.out hB) (bytes_one _) (by unfold maxLen; omega) (by omega) (by omega) ?_; intro A3 c3 w3 ho3 hg3 _; rw [← bytes_append] at ho3; have HO3 := Lib.hid (own_mono ho3 hs1); have HB3 := Lib.hid (HB2.out.grown hg3 hss (fun g hg => by have := (HO2.out.lt g hg).1; omega)); clear ho3 hg3))
    go_ret
    unfold Fresh
    rw [HM.out, List.length_append, HLen.out]
    exact ⟨A3, c3, rfl, by first | exact HO3.out | (have h := HO3.out; rw [HLen.out] at h; exact h), HB3.out⟩
theorem by8_beq (a b : UInt8) : (by8 a == by8 b) = (a == b) := by
  rw [Bool.eq_iff_iff, beq_iff_eq, beq_iff_eq]
  exact ⟨by8_inj, fun e => by rw [e]⟩
end Go.Proofs.YtfhindffmghlaaaDoor
/- Texts in memory: rows of slices of bytes, each of them and the row in memory of the call's own. -/
namespace Go.Proofs.YtfhindffmghlaaaDoor
open Go.RowKit
theorem infoText : (Tryd.prog.info? 24).map (fun i => (i.zero, i.size, i.bytes)) = some (some (.slice none 0 0), 1, 24) := by kernel_rfl
theorem elText : Elem Tryd.prog 25 24 1 24 := Elem.mk' Tryd.underlying25 infoText rfl (by decide)
def txt (p : Piece) : List UInt8 := p.2.2
def OwnP (w : World) (base : Nat) (p : Piece) : Prop := w.ownsRow base 5 1 (pcV p) p.2.2.length (bytes p.2.2)
theorem OwnP.seq {w : World} {base : Nat} {p : Piece} (h : OwnP w base p) : Seq w w.heap.size p.1 (bytes p.2.2) := Seq.of_own h
theorem OwnP.alloc {w : World} {base : Nat} {p : Piece} (h : OwnP w base p) (o : Obj) : OwnP (w.alloc o) base p := own_alloc h o
theorem OwnP.below {w w' : World} {base : Nat} {p : Piece} (h : OwnP w base p) (hb : Below w.heap.size w w') : OwnP w' base p := own_below' h hb
theorem OwnP.grown {w w' : World} {base base' : Nat} {p : Piece} {e' : TypeId} {s' n' : Nat} {v' : Value} {xs' : List Value} (h : OwnP w base p) (ho : w.ownsRow base' e' s' v' n' xs') (he : e' ≠ 5) (hg : w.grownBy w' v'.ownBlock) : OwnP w' base p :=
  own_grown h hg fun q hq e => own_two ho h he q e hq
/-- A row of texts. -/
def TextsIs (W : World) (base : Nat) (v : Value) (L : List (List UInt8)) : Prop := ∃ A c, ∃ ps : List Piece, v = .slice A L.length c ∧ ps.map txt = L ∧ W.ownsRow base 24 1 v L.length (pcs ps) ∧ ∀ p ∈ ps, OwnP W base p
theorem TextsIs.nil (W : World) (base : Nat) : TextsIs W base (.slice none 0 0) [] := ⟨none, 0, [], rfl, rfl, World.ownsRow_nil _ _ _ _, by simp⟩
section
variable {W W' : World} {base : Nat} {v : Value} {L : List (List UInt8)} {A : Option Addr} {n c : Nat}
theorem TextsIs.below (h : TextsIs W base v L) (hb : Below W.heap.size W W') : TextsIs W' base v L := by
  obtain ⟨A, c, ps, e, hl, h, ho⟩ := h
  exact ⟨A, c, ps, e, hl, own_below' h hb, fun x hx => own_below' (ho x hx) hb⟩
theorem TextsIs.mono {base' : Nat} (h : TextsIs W base v L) (hb : base' ≤ base) : TextsIs W base' v L := by
  obtain ⟨A, c, ps, e, hl, h, ho⟩ := h
  exact ⟨A, c, ps, e, hl, own_mono h hb, fun x hx => own_mono (ho x hx) hb⟩
theorem TextsIs.alloc (h : TextsIs W base v L) (o : Obj) : TextsIs (W.alloc o) base v L := h.below ((Below.refl _ _).alloc (Nat.le_refl _) _)
theorem TextsIs.shape (h : TextsIs W base v L) : ∃ A c, v = .slice A L.length c := by
  obtain ⟨A, c, ps, e, _⟩ := h
  exact ⟨A, c, e⟩
/-- What a read of it gives. -/
theorem TextsIs.at_ (h : TextsIs W base v L) : ∃ A c, ∃ ps : List Piece, v = .slice A ps.length c ∧ ps.length = L.length ∧ ps.map txt = L ∧ Seq W W.heap.size A (pcs ps) ∧ ∀ p ∈ ps, Seq W W.heap.size p.1 (bytes p.2.2) := by
  obtain ⟨A, c, ps, rfl, hl, h, ho⟩ := h
  have hn : ps.length = L.length := by rw [← hl, List.length_map]
  rw [← hn] at h ⊢
  exact ⟨A, c, ps, rfl, rfl, hl, Seq.of_own h, fun p hp => Seq.of_own (ho p hp)⟩
/-- Another row of another kind that grows. -/
theorem TextsIs.grown {base' : Nat} {e' : TypeId} {s' n' : Nat} {v' : Value} {xs' : List Value} (h : TextsIs W base v L) (ho : W.ownsRow base' e' s' v' n' xs') (he : e' ≠ 24) (he2 : e' ≠ 5) (hg : W.grownBy W' v'.ownBlock) : TextsIs W' base v L := by
  obtain ⟨A, c, ps, e, hl, h, ho'⟩ := h
  exact ⟨A, c, ps, e, hl, own_grown h hg fun q hq e => own_two ho h he q e hq, fun x hx => (ho' x hx).grown ho he2 hg⟩
/-- Two rows whose blocks are not one. -/
def Apart (v v' : Value) : Prop := ∀ q, v.ownBlock = some q → v'.ownBlock ≠ some q
theorem Apart.none_ (n c : Nat) (v' : Value) : Apart (.slice none n c) v' := fun q h => by simp [Value.ownBlock] at h
theorem Apart.symm {v v' : Value} (h : Apart v v') : Apart v' v := fun q h1 h2 => h q h2 h1
theorem Apart.step {v v' v2 : Value} (h : Apart v v') (hf : v2.ownBlock = v.ownBlock ∨ v2.ownBlock = some W.heap.size) (hl : ∀ q, v'.ownBlock = some q → q < W.heap.size) : Apart v2 v' := fun q h1 h2 => by
  rcases hf with hf | hf
  · rw [hf] at h1; exact h q h1 h2
  · rw [hf] at h1
    injection h1 with h1
    have := hl q h2
    omega
theorem TextsIs.lt (h : TextsIs W base v L) (q : Nat) (hq : v.ownBlock = some q) : base ≤ q ∧ q < W.heap.size := by
  obtain ⟨A, c, ps, e, hl, h, ho⟩ := h
  exact h.lt q hq
/-- Another row of texts that grows. -/
theorem TextsIs.grown2 {base' : Nat} {n' : Nat} {v' : Value} {xs' : List Value} (h : TextsIs W base v L) (ho : W.ownsRow base' 24 1 v' n' xs') (ha : Apart v v') (hg : W.grownBy W' v'.ownBlock) : TextsIs W' base v L := by
  obtain ⟨A, c, ps, e, hl, h, ho'⟩ := h
  exact ⟨A, c, ps, e, hl, own_grown h hg fun q hq e => ha q hq e, fun x hx => (ho' x hx).grown ho (by decide) hg⟩
/-- A text put behind the row. -/
theorem TextsIs.snoc {A1 : Option Addr} {c1 : Nat} {ps : List Piece} {p : Piece} (h : W.ownsRow base 24 1 (.slice A n c) n (pcs ps)) (hi : ∀ y ∈ ps, OwnP W base y) (hx : OwnP W base p) (hn : n = ps.length)
    (h2 : W'.ownsRow base 24 1 (.slice A1 (n + 1) c1) (n + 1) (pcs ps ++ [pcV p])) (hg : W.grownBy W' (Value.slice A n c).ownBlock) : TextsIs W' base (.slice A1 (n + 1) c1) (ps.map txt ++ [txt p]) := by
  refine ⟨A1, c1, ps ++ [p], by simp [hn], by simp, ?_, ?_⟩
  · rw [← pcs_snoc]
    have e : (ps.map txt ++ [txt p]).length = n + 1 := by simp [hn]
    rw [e]
    exact h2
  · intro y hy
    rcases List.mem_append.1 hy with hy | hy
    · exact (hi y hy).grown h (by decide) hg
    · rw [List.mem_singleton] at hy
      subst hy
      exact hx.grown h (by decide) hg
theorem TextsIs.open_ (h : TextsIs W base (.slice A n c) L) : n = L.length ∧ ∃ ps : List Piece, ps.map txt = L ∧ ps.length = n ∧ W.ownsRow base 24 1 (.slice A n c) n (pcs ps) ∧ ∀ p ∈ ps, OwnP W base p := by
  obtain ⟨A', c', ps, e, hl, h, ho⟩ := h
  injection e with e1 e2 e3
  subst e1 e2 e3
  exact ⟨rfl, ps, hl, by rw [← hl, List.length_map], h, ho⟩
end
theorem joinP_txt (ps : List Piece) : joinP ps = (ps.map txt).flatten := rfl
end Go.Proofs.YtfhindffmghlaaaDoor
