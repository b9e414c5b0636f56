/- The head of an item as the document reads it: the same as ours. No walk. -/
import Derived.Test.YtfhindffmghlaaaDoorG28
import Derived.Test.YtfhindffmghlaaaDoorG20
import Derived.Deep.LoopGhost
import Derived.Deep.CutRange
import Derived.Deep.CutBlock
import Derived.Test.YtfhindffmghlaaaDoorG19
set_option linter.unusedVariables false
set_option linter.unusedSimpArgs false
namespace Go.Proofs.YtfhindffmghlaaaDoor
open It
/-- What is left to ask once the number stands. -/
def lateM (b : List UInt8) (p en f n : Nat) : ReadR :=
  if en - f < n then (false, 0, 0, 50) else
  if (b.getD p 0).toNat = 129 ∧ (b.getD f 0).toNat < 128 then (false, 0, 0, 251) else (decide (192 ≤ (b.getD p 0).toNat), f, f + n, 0)
/-- A number that is read up to a bound. -/
def capN (v : Nat) : Nat := if 1125899906842624 < v then 1125899906842624 else v
theorem capN_le (v : Nat) : capN v ≤ 1125899906842624 := by unfold capN; split <;> omega
theorem capN_step (v y : Nat) : (if 1125899906842624 < 256 * capN v + y then 1125899906842624 else 256 * capN v + y) = capN (256 * v + y) := by
  unfold capN
  by_cases h1 : 1125899906842624 < v
  · rw [if_pos h1, if_pos (by omega), if_pos (by omega)]
  · rw [if_neg h1]
theorem readM_short {b : List UInt8} {p en : Nat} (h1 : p < en) (h2 : 128 ≤ (b.getD p 0).toNat) (h3 : (b.getD p 0).toNat % 64 ≤ 55) : readM b p en = lateM b p en (p + 1) ((b.getD p 0).toNat % 64) := by
  unfold readM lateM
  rw [if_neg (by omega), if_neg (by omega), if_neg (by omega)]
theorem readM_cut {b : List UInt8} {p en : Nat} (h1 : p < en) (h2 : 128 ≤ (b.getD p 0).toNat) (h3 : 55 < (b.getD p 0).toNat % 64) (h4 : en - (p + 1) < (b.getD p 0).toNat % 64 - 55) : readM b p en = (false, 0, 0, 50) := by
  unfold readM
  rw [if_neg (by omega), if_neg (by omega), if_pos h3, if_pos h4]
/-- The number behind a head. -/
def bigV (b : List UInt8) (p j : Nat) : Nat := valB ((b.drop (p + 1)).take j)
theorem bigV_succ {b : List UInt8} {p j : Nat} (h : p + 1 + j < b.length) : bigV b p (j + 1) = 256 * bigV b p j + (b.getD (p + 1 + j) 0).toNat := by
  unfold bigV
  rw [List.take_succ_eq_append_getElem (by rw [List.length_drop]; omega), valB_snoc, List.getElem_drop, getD_at (by omega)]
theorem readM_form {b : List UInt8} {p en : Nat} (hen : en ≤ b.length) (h1 : p < en) (h2 : 128 ≤ (b.getD p 0).toNat) (h3 : 55 < (b.getD p 0).toNat % 64) (h4 : (b.getD p 0).toNat % 64 - 55 ≤ en - (p + 1))
    (h5 : (b.getD (p + 1) 0).toNat = 0 ∨ capN (bigV b p ((b.getD p 0).toNat % 64 - 55)) < 56) : readM b p en = (false, 0, 0, 251) := by
  have h8 : (b.getD p 0).toNat % 64 - 55 ≤ 8 := by omega
  have hv := longV_val b (p + 1) _ h8 (by omega)
  unfold readM
  rw [if_neg (by omega), if_neg (by omega), if_pos h3, if_neg (by omega), if_pos]
  rw [hv]
  rcases h5 with h5 | h5
  · exact Or.inl h5
  · refine Or.inr ?_
    unfold capN bigV at h5
    split at h5 <;> omega
theorem readM_long {b : List UInt8} {p en : Nat} (hen : en ≤ b.length) (hb : b.length ≤ 1099511627776) (h1 : p < en) (h2 : 128 ≤ (b.getD p 0).toNat) (h3 : 55 < (b.getD p 0).toNat % 64) (h4 : (b.getD p 0).toNat % 64 - 55 ≤ en - (p + 1))
    (h5 : (b.getD (p + 1) 0).toNat ≠ 0) (h6 : 56 ≤ capN (bigV b p ((b.getD p 0).toNat % 64 - 55))) : readM b p en = lateM b p en (p + 1 + ((b.getD p 0).toNat % 64 - 55)) (capN (bigV b p ((b.getD p 0).toNat % 64 - 55))) := by
  have h8 : (b.getD p 0).toNat % 64 - 55 ≤ 8 := by omega
  have hv := longV_val b (p + 1) _ h8 (by omega)
  have hv' : (longV b (p + 1) ((b.getD p 0).toNat % 64 - 55)).toNat = bigV b p ((b.getD p 0).toNat % 64 - 55) := hv
  unfold readM lateM
  rw [if_neg (by omega), if_neg (by omega), if_pos h3, if_neg (by omega), hv']
  generalize bigV b p ((b.getD p 0).toNat % 64 - 55) = V at *
  have h56 : ¬ ((b.getD (p + 1) 0).toNat = 0 ∨ V ≤ 55) := by
    unfold capN at h6
    split at h6 <;> omega
  rw [if_neg h56]
  have h129 : ¬ ((b.getD p 0).toNat = 129 ∧ (b.getD (p + 1 + ((b.getD p 0).toNat % 64 - 55)) 0).toNat < 128) := by
    intro h
    omega
  rw [if_neg h129]
  unfold capN at *
  by_cases hc : 1125899906842624 < V
  · rw [if_pos hc, if_pos (by omega), if_pos (by omega)]
  · rw [if_neg hc]
/-- What one item's reading gives, told by its head. -/
theorem parse_head (b : List UInt8) (k p en : Nat) : parse b (k + 1) p en = if (readM b p en).2.2.2 ≠ 0 then none else
    if (readM b p en).1 then (parses b k (readM b p en).2.1 (readM b p en).2.2.1).map fun xs => (It.list xs, (readM b p en).2.2.1)
    else some (It.bytes ((b.take (readM b p en).2.2.1).drop (readM b p en).2.1), (readM b p en).2.2.1) := by rw [parse]
end Go.Proofs.YtfhindffmghlaaaDoor
/- The document's reading of one item: a tree is read as ours is. -/
namespace Go.Proofs.YtfhindffmghlaaaDoor
open Go.RowKit It
/-- What the reading of one item answers. -/
def OnePost (w : World) (r : Option (It × Nat)) (e : Ending) (w' : World) : Prop := match r with
  | none => ∃ (er : Nat) (pl : Int), (er = 50 ∨ er = 251) ∧ e = .returned (.tuple #[.slice none 0 0, .int .i64 0, .int .i64 er, .int .i64 pl]) ∧ Below w.heap.size w w'
  | some (it, q) => ∃ v, e = .returned (.tuple #[v, .int .i64 q, .int .i64 0, .int .i64 0]) ∧ RowIs w' w.heap.size v it.flat ∧ Below w.heap.size w w'
theorem parse_err {b : List UInt8} {p en e : Nat} (k : Nat) (h : readM b p en = (false, 0, 0, e)) (he : e ≠ 0) : parse b (k + 1) p en = none := by
  rw [parse_head, h, if_pos (by simpa using he)]
theorem parse_bytes {b : List UInt8} {p en f t : Nat} (k : Nat) (h : readM b p en = (false, f, t, 0)) : parse b (k + 1) p en = some (It.bytes ((b.take t).drop f), t) := by
  rw [parse_head, h, if_neg (by simp), if_neg (by simp)]
theorem parse_list {b : List UInt8} {p en f t : Nat} (k : Nat) (h : readM b p en = (true, f, t, 0)) : parse b (k + 1) p en = (parses b k f t).map fun xs => (It.list xs, t) := by
  rw [parse_head, h, if_neg (by simp), if_pos rfl]
theorem parses_none {b : List UInt8} {k p e2 : Nat} (h : ¬ e2 ≤ p) (h2 : parse b k p e2 = none) : parses b (k + 1) p e2 = none := by
  unfold parses
  rw [if_neg h, h2]
theorem parses_some {b : List UInt8} {k p e2 q : Nat} {it : It} (h : ¬ e2 ≤ p) (h2 : parse b k p e2 = some (it, q)) : parses b (k + 1) p e2 = (parses b k q e2).map fun xs => it :: xs := by
  conv => lhs; unfold parses
  rw [if_neg h, h2]
theorem parses_nil {b : List UInt8} {k p e2 : Nat} (h : e2 ≤ p) : parses b (k + 1) p e2 = some [] := by
  unfold parses
  rw [if_pos h]
/-- A row put behind a row. -/
theorem RowIs.app {W W' : World} {base n c c1 : Nat} {A A1 : Option Addr} {l m : List ItemL} (h : W.ownsRow base 109 3 (.slice A n c) n (itemsC l)) (hi : ∀ y ∈ l, OwnI W base y) (hm : ∀ y ∈ m, OwnI W base y) (hn : n = l.length)
    (h2 : W'.ownsRow base 109 3 (.slice A1 (n + m.length) c1) (n + m.length) (itemsC l ++ itemsC m)) (hg : W.grownBy W' (Value.slice A n c).ownBlock) : RowIs W' base (.slice A1 (n + m.length) c1) (l.map said ++ m.map said) := by
  refine ⟨A1, c1, l ++ m, by simp [hn], by simp, ?_, ?_⟩
  · rw [itemsC_append]
    have e : (l.map said ++ m.map said).length = n + m.length := by simp [hn]
    rw [e]
    exact h2
  · intro y hy
    rcases List.mem_append.1 hy with hy | hy
    · exact (hi y hy).grown h (by decide) hg
    · exact (hm y hy).grown h (by decide) hg
theorem itemsC_one (l : List ItemL) : ∀ u ∈ itemsC l, u.oneCell' = true := fun u hu => by
  obtain ⟨x, _, hx⟩ := List.mem_flatMap.1 hu
  simp only [itemC, List.mem_cons, List.not_mem_nil, or_false] at hx
  rcases hx with rfl | rfl | rfl <;> rfl
theorem OnePost.err {w w' : World} {b : List UInt8} {p en k er : Nat} {pl : Int} {e : Ending} (h : readM b p en = (false, 0, 0, er)) (h2 : er = 50 ∨ er = 251) (he : e = .returned (.tuple #[.slice none 0 0, .int .i64 0, .int .i64 er, .int .i64 pl])) (hb : Below w.heap.size w w') :
    OnePost w (parse b (k + 1) p en) e w' := by
  rw [parse_err k h (by omega)]
  exact ⟨er, pl, h2, he, hb⟩
set_option maxHeartbeats 2000000 in
set_option maxRecDepth 20000 in
theorem one_a (A : Option Addr) (c : Nat) (b : List UInt8) (k p en : Nat) (w : World) (h : en ≤ p) : Calls Tryd.prog 95 #[.slice A b.length c, .int .i64 p, .int .i64 en] w (OnePost w (parse b (k + 1) p en)) := by
  have hm : readM b p en = (false, 0, 0, 50) := by unfold readM; rw [if_pos h]
  have HM := Lib.hid hm
  have d1 : decide ((p : Int) ≥ (en : Int)) = true := decide_eq_true (by omega)
  clear hm
  go_enter Tryd.func95, Tryd.ntmps95
  go_wp2_with fail
  try rw [Exit.noGoto_ret]
  refine bodyPost_ret (results_tmp4 rfl _ _ _) rfl ?_
  exact OnePost.err HM.out (Or.inl rfl) rfl (Below.refl _ _)
set_option maxHeartbeats 2000000 in
set_option maxRecDepth 20000 in
theorem one_b (A : Option Addr) (c B : Nat) (b : List UInt8) (k p en : Nat) (w : World) (hl : b.length ≤ 1073741824) (hp : p < en) (hen : en ≤ b.length) (hs : Seq w B A (bytes b)) (hx : (b.getD p 0).toNat < 128) :
    Calls Tryd.prog 95 #[.slice A b.length c, .int .i64 p, .int .i64 en] w (OnePost w (parse b (k + 1) p en)) := by
  have hm : readM b p en = (false, p, p + 1, 0) := by unfold readM; rw [if_neg (by omega), if_pos hx]
  have hpb := parse_bytes k hm
  have hsl : (b.take (p + 1)).drop p = [b.getD p 0] := by
    rw [List.take_succ_eq_append_getElem (by omega), List.drop_append, List.drop_of_length_le (by rw [List.length_take]; omega), List.length_take, Nat.min_eq_left (by omega), getD_at (show p < b.length by omega)]
    simp
  rw [hsl] at hpb
  have d1 : decide ((p : Int) ≥ (en : Int)) = false := decide_eq_false (by omega)
  obtain ⟨ad, rfl, _, hc0⟩ := hs.at_ (k := p) (by rw [bytes_length]; omega)
  rw [bytes_get, ← getD_at (show p < b.length by omega)] at hc0
  generalize b.getD p 0 = x at *
  have q0 : w.cell? (ad.add p) = some (.int .u8 (by8 x)) := hc0
  have lp : (p : Int) < (b.length : Int) := by omega
  have d2 : decide ((by8 x) < 128) = true := by unfold by8; exact decide_eq_true (by omega)
  have ew : IntKind.i64.wrap (by8 x) = by8 x := by
    have := x.toNat_lt
    unfold by8
    exact IntWalk.i64_in _ (by omega)
  have HP := Lib.hid hpb
  clear hs hc0 hm hpb hsl
  go_enter Tryd.func95, Tryd.ntmps95
  go_wp2_with (at_builtin; first
    | ((refine wpL_append rfl (.tmp 36) (.tmp 41) 24 rfl elByte rfl (World.ownsRow_nil _ w.heap.size 5 1) rfl rfl (Seq.one_new _ _ _) (by simp [Value.oneCell']) (by unfold maxLen; omega) (by omega) (by rw [size_alloc]; omega) ?_; intro A7 c7 w7 ho7 hg7 _; simp only [Nat.zero_add, List.nil_append] at ho7; have hs7 := hg7.size; rw [size_alloc] at hs7; have hb7 := (((Below.refl w.heap.size w).alloc (Nat.le_refl _) _).grown hg7 (by rw [size_alloc]; omega) (fun g hg => by simp [Value.ownBlock] at hg)); have HO7 := Lib.hid ho7; have HB7 := Lib.hid hb7; clear ho7 hg7 hb7))
    | ((refine wpL_append rfl (.tmp 35) (.tmp 44) 105 rfl elItem rfl (World.ownsRow_nil _ w.heap.size 109 3) rfl rfl (Seq.of_blk (xs := [.bool false, .int .i64 0, .slice A7 1 c7]) (Blk.new' _ _ _ rfl) (Nat.lt_succ_self _)) (by simp [Value.oneCell']) (by unfold maxLen; omega) (by omega) (by rw [size_alloc]; omega) ?_; intro A9 c9 W9 ho9 hg9 _; have HO9 := Lib.hid ho9; have HG9 := Lib.hid hg9; clear ho9 hg9)))
  try rw [Exit.noGoto_ret]
  refine bodyPost_ret (results_tmp4 rfl _ _ _) rfl ?_
  rw [HP.out]
  have hO8 : (w7.alloc (.cells #[.bool false, .int .i64 0, .slice A7 1 c7] 109)).ownsRow w.heap.size 109 3 (.slice none 0 0) 0 (itemsC []) := World.ownsRow_nil _ _ _ _
  have hO7 := own_alloc HO7.out (.cells #[.bool false, .int .i64 0, .slice A7 1 c7] 109)
  have hfin := RowIs.snoc (x := (false, 0, A7, c7, [x])) hO8 (fun y hy => by cases hy) hO7 rfl HO9.out HG9.out
  exact ⟨_, by go_num, hfin, (HB7.out.alloc (by omega) _).grown HG9.out (by rw [size_alloc]; omega) (fun g hg => by simp [Value.ownBlock] at hg)⟩
theorem beqz (x : UInt8) : ((by8 x == (0 : Int)) = true ↔ x.toNat = 0) := by
  unfold by8
  simp
set_option maxHeartbeats 4000000 in
set_option maxRecDepth 20000 in
theorem one_c (A : Option Addr) (c B : Nat) (b : List UInt8) (k p en : Nat) (w : World) (hl : b.length ≤ 1073741824) (hc : b.length ≤ c) (hB : B ≤ w.heap.size) (hp : p < en) (hen : en ≤ b.length) (hfu : 2 * (en - p) < k + 1) (hs : Seq w B A (bytes b)) (hx : 128 ≤ (b.getD p 0).toNat)
    (ih : ∀ (m : Nat), m < k → ∀ (p en : Nat) (w : World), B ≤ w.heap.size → p ≤ b.length → en ≤ b.length → 2 * (en - p) < m → Seq w B A (bytes b) → Calls Tryd.prog 95 #[.slice A b.length c, .int .i64 p, .int .i64 en] w (OnePost w (parse b m p en))) :
    Calls Tryd.prog 95 #[.slice A b.length c, .int .i64 p, .int .i64 en] w (OnePost w (parse b (k + 1) p en)) := by
  have HIh := Lib.hid ih
  have HS := Lib.hid hs
  have d1 : decide ((p : Int) ≥ (en : Int)) = false := decide_eq_false (by omega)
  obtain ⟨ad, rfl, _, hc0⟩ := hs.at_ (k := p) (by rw [bytes_length]; omega)
  rw [bytes_get, ← getD_at (show p < b.length by omega)] at hc0
  have q0 : w.cell? (ad.add p) = some (.int .u8 (((b.getD p 0).toNat : Nat) : Int)) := hc0
  obtain ⟨x, hX⟩ : ∃ x, (b.getD p 0).toNat = x := ⟨_, rfl⟩
  have hx256 : x < 256 := by rw [← hX]; exact UInt8.toNat_lt _
  have hshort := readM_short (b := b) hp hx
  have hcut := readM_cut (b := b) hp hx
  have hform := readM_form hen hp hx
  have hlong := readM_long hen (by omega) hp hx
  rw [hX] at q0 hx hshort hcut hform hlong
  have HX := Lib.hid hX
  clear hX hc0 ih hs
  have lp : (p : Int) < (b.length : Int) := by omega
  have lp0 : (0 : Int) ≤ (p : Int) := by omega
  have d1b : decide (en ≤ p) = false := decide_eq_false (by omega)
  have d2 : decide ((x : Int) < 128) = false := decide_eq_false (by omega)
  have ew : IntKind.i64.wrap (x : Int) = (x : Int) := IntWalk.i64_in _ (by omega)
  obtain ⟨kd, hkd, hkx, hkn, hkk⟩ : ∃ kd : Nat, kd = (if 192 ≤ x then 192 else 128) ∧ kd ≤ x ∧ x - kd = x % 64 ∧ (kd = 128 ∨ kd = 192) := by
    refine ⟨_, rfl, ?_⟩
    split <;> omega
  obtain ⟨n, hn⟩ : ∃ n, x % 64 = n := ⟨_, rfl⟩
  have hn64 : n < 64 := by omega
  rw [hn] at hkn hshort hcut hform hlong
  have ekn : (x : Int) - (kd : Int) = (n : Int) := by omega
  have HShort := Lib.hid hshort
  have HCut := Lib.hid hcut
  have HForm := Lib.hid hform
  have HLong := Lib.hid hlong
  have HKd := Lib.hid hkd
  have H129 := Lib.hid (show x = 129 → n = 1 from fun h => by omega)
  have ep1 : IntKind.i64.wrap ((p : Int) + 1) = (p : Int) + 1 := IntWalk.i64_in _ (by omega)
  have wn : IntKind.i64.wrap (n : Int) = (n : Int) := IntWalk.i64_in _ (by omega)
  clear hshort hcut hform hlong hkd hn hkn
  go_enter Tryd.func95, Tryd.ntmps95
  go_upto_if 50 with fail
  go_cut [13] from 49 to 50 (fun v wx => v = .int .i64 kd ∧ w = wx)
  case first =>
    by_cases h192 : 192 ≤ x
    · have d3 : decide ((x : Int) ≥ 192) = true := decide_eq_true (by omega)
      have hk2 : kd = 192 := by rw [HKd.out, if_pos h192]
      subst hk2
      go_wp2_with fail
      go_meet
      case rel => exact ⟨rfl, rfl⟩
    · have d3 : decide ((x : Int) ≥ 192) = false := decide_eq_false (by omega)
      have hk2 : kd = 128 := by rw [HKd.out, if_neg h192]
      subst hk2
      go_wp2_with fail
      go_meet
      case rel => exact ⟨rfl, rfl⟩
  case rest =>
    obtain ⟨rfl, rfl⟩ := hcut
    clear ew d2 q0
    go_upto_if 57 with fail
    go_cut [14, 15] from 56 to 94 (fun v14 v15 wx => (∃ f n' : Nat, v14 = .int .i64 n' ∧ v15 = .int .i64 f ∧ p + 1 ≤ f ∧ f ≤ en ∧ n' ≤ 1125899906842624 ∧ (x = 129 → 1 ≤ n') ∧ readM b p en = lateM b p en f n') ∧ w = wx)
    case first =>
      by_cases h55 : 55 < n
      · have d57 : decide ((n : Int) > 55) = true := decide_eq_true (by omega)
        have d57b : decide (55 < n) = true := decide_eq_true h55
        have ek : IntKind.i64.wrap ((n : Int) - 55) = ((n - 55 : Nat) : Int) := by rw [IntWalk.i64_in _ (by omega)]; omega
        obtain ⟨kk, hkkn⟩ : ∃ kk, n - 55 = kk := ⟨_, rfl⟩
        have hkk8 : kk ≤ 8 := by omega
        rw [hkkn] at ek
        by_cases hck : en - (p + 1) < kk
        · have d64 : decide ((p : Int) + 1 + (kk : Int) > (en : Int)) = true := decide_eq_true (by omega)
          have hm := HCut.out h55 (by omega)
          have HM := Lib.hid hm
          clear hm hkkn
          go_wp2_with fail
          try rw [Exit.noGoto_ret]
          refine bodyPost_ret (results_tmp4 rfl _ _ _) rfl ?_
          exact OnePost.err HM.out (Or.inl rfl) rfl (Below.refl _ _)
        · have d64 : decide ((p : Int) + 1 + (kk : Int) > (en : Int)) = false := decide_eq_false (by omega)
          obtain ⟨ad1, had1, _, hc1⟩ := HS.out.at_ (k := p + 1) (by rw [bytes_length]; omega)
          injection had1 with had1
          subst had1
          rw [bytes_get, ← getD_at (show p + 1 < b.length by omega)] at hc1
          have q1 : w.cell? ⟨ad.block, ad.off + (p + 1), none⟩ = some (.int .u8 (((b.getD (p + 1) 0).toNat : Nat) : Int)) := (by have h := hc1; unfold Addr.add at h; rw [if_neg (by omega)] at h; exact h)
          have lp1 : (p : Int) + 1 < (b.length : Int) := by omega
          have lp2 : (0 : Int) ≤ (p : Int) + 1 := by omega
          have tp1 : ((p : Int) + 1).toNat = p + 1 := by omega
          have hfm := HForm.out h55 (by omega)
          have hlg := HLong.out h55 (by omega)
          rw [hkkn] at hfm hlg
          obtain ⟨y, hY⟩ : ∃ y, (b.getD (p + 1) 0).toNat = y := ⟨_, rfl⟩
          rw [hY] at q1 hfm hlg
          have HFm := Lib.hid hfm
          have HLg := Lib.hid hlg
          clear hc1 hY hfm hlg hkkn
          by_cases hy : y = 0
          · have d70 : ((y : Int) == 0) = true := by rw [hy]; rfl
            have hm := HFm.out (Or.inl hy)
            have HM := Lib.hid hm
            clear hm
            subst hy
            go_wp2_with fail
            try rw [Exit.noGoto_ret]
            refine bodyPost_ret (results_tmp4 rfl _ _ _) rfl ?_
            exact OnePost.err HM.out (Or.inr rfl) rfl (Below.refl _ _)
          · have d70 : ((y : Int) == 0) = false := by rw [beq_eq_false_iff_ne]; omega
            have d70b : (y == 0) = false := by rw [beq_eq_false_iff_ne]; omega
            go_wp2_with fail
            go_loopw [14, 17] (fun v i wr => (∃ j : Nat, j ≤ kk ∧ i = .int .i64 j ∧ v = .int .i64 ((capN (bigV b p j) : Nat) : Int)) ∧ w = wr) (fun _ i _ => kk - (intOf i).toNat)
            case atStart => exact ⟨⟨0, by omega, rfl, rfl⟩, rfl⟩
            case round =>
              obtain ⟨⟨j, hj, rfl, rfl⟩, rfl⟩ := hrel
              have hcl := capN_le (bigV b p j)
              by_cases hlt : j < kk
              · have dj : decide ((j : Int) < (kk : Int)) = true := decide_eq_true (by omega)
                have dj2 : decide (j < kk) = true := decide_eq_true hlt
                obtain ⟨ad2, had2, _, hcj⟩ := HS.out.at_ (k := p + 1 + j) (by rw [bytes_length]; omega)
                injection had2 with had2
                subst had2
                have hbs := bigV_succ (b := b) (p := p) (j := j) (by omega)
                rw [bytes_get, ← getD_at (show p + 1 + j < b.length by omega)] at hcj
                obtain ⟨z, hZ⟩ : ∃ z, (b.getD (p + 1 + j) 0).toNat = z := ⟨_, rfl⟩
                have hz : z < 256 := by rw [← hZ]; exact UInt8.toNat_lt _
                rw [hZ] at hbs
                have hqz : w.cell? (ad.add (p + 1 + j)) = some (.int .u8 (z : Int)) := by rw [← hZ]; exact hcj
                have hst := capN_step (bigV b p j) z
                rw [← hbs] at hst
                generalize capN (bigV b p j) = V at *
                have HSt := Lib.hid hst
                have ez : IntKind.i64.wrap (z : Int) = (z : Int) := IntWalk.i64_in _ (by omega)
                have e1 : IntKind.i64.wrap (256 * (V : Int)) = 256 * (V : Int) := IntWalk.i64_in _ (by omega)
                have e2 : IntKind.i64.wrap (256 * (V : Int) + (z : Int)) = ((256 * V + z : Nat) : Int) := by rw [IntWalk.i64_in _ (by omega)]; omega
                have tj1 : ((p : Int) + 1 + (j : Int)).toNat = p + 1 + j := by omega
                have lj1 : (p : Int) + 1 + (j : Int) < (b.length : Int) := by omega
                have lj2 : (0 : Int) ≤ (p : Int) + 1 + (j : Int) := by omega
                clear hbs hcj hZ hst
                by_cases hV : 1125899906842624 < 256 * V + z
                · have dV : decide (((256 * V + z : Nat) : Int) > 1125899906842624) = true := decide_eq_true (by omega)
                  have dV2 : decide (1125899906842624 < 256 * V + z) = true := decide_eq_true hV
                  have h2 := HSt.out
                  rw [if_pos hV] at h2
                  have H2 := Lib.hid h2
                  clear h2
                  go_wp2_with fail
                  exact ⟨⟨⟨j + 1, by omega, by go_num, congrArg (Value.int .i64) (by have := H2.out; omega)⟩, trivial⟩, by simp [intOf]; omega⟩
                · have dV : decide (((256 * V + z : Nat) : Int) > 1125899906842624) = false := decide_eq_false (by omega)
                  have dV2 : decide (1125899906842624 < 256 * V + z) = false := decide_eq_false hV
                  have h2 := HSt.out
                  rw [if_neg hV] at h2
                  have H2 := Lib.hid h2
                  clear h2
                  go_wp2_with fail
                  exact ⟨⟨⟨j + 1, by omega, by go_num, congrArg (Value.int .i64) (by have := H2.out; omega)⟩, trivial⟩, by simp [intOf]; omega⟩
              · have dj : decide ((j : Int) < (kk : Int)) = false := decide_eq_false (by omega)
                have dj2 : decide (j < kk) = false := decide_eq_false hlt
                obtain rfl : j = kk := by omega
                obtain ⟨V, hV⟩ : ∃ V, capN (bigV b p j) = V := ⟨_, rfl⟩
                have hfm := HFm.out
                have hlg := HLg.out hy
                rw [hV] at hfm hlg hcl ⊢
                by_cases h56 : V < 56
                · have d90 : decide ((V : Int) < 56) = true := decide_eq_true (by omega)
                  have d90b : decide (V < 56) = true := decide_eq_true h56
                  have hm := hfm (Or.inr h56)
                  have HM := Lib.hid hm
                  clear hm hfm hlg hV
                  go_wp2_with fail
                  try rw [Exit.noGoto_ret]
                  refine bodyPost_ret (results_tmp4 rfl _ _ _) rfl ?_
                  exact OnePost.err HM.out (Or.inr rfl) rfl (Below.refl _ _)
                · have d90 : decide ((V : Int) < 56) = false := decide_eq_false (by omega)
                  have d90b : decide (V < 56) = false := decide_eq_false h56
                  have hm := hlg (by omega)
                  have HM := Lib.hid hm
                  clear hm hfm hlg hV
                  go_wp2_with fail
                  go_meet
                  case rel => exact ⟨⟨p + 1 + j, V, rfl, by go_num, by omega, by omega, hcl, fun h => by have := H129.out h; omega, HM.out⟩, rfl⟩
      · have d57 : decide ((n : Int) > 55) = false := decide_eq_false (by omega)
        have d57b : decide (55 < n) = false := decide_eq_false h55
        have hm := HShort.out (by omega)
        have HM := Lib.hid hm
        clear hm
        go_wp2_with fail
        go_meet
        case rel => exact ⟨⟨p + 1, n, rfl, by go_num, by omega, by omega, by omega, fun h => by have := H129.out h; omega, HM.out⟩, rfl⟩
    case rest =>
      obtain ⟨⟨f, n', rfl, rfl, hpf, hfe, hn50, h129, hlate⟩, rfl⟩ := hcut
      clear HShort HCut HForm HLong H129 ekn wn hn64 ep1
      unfold lateM at hlate
      rw [HX.out] at hlate
      have ef : (f : Int) ≤ (en : Int) := by omega
      by_cases hbig : en - f < n'
      · rw [if_pos hbig] at hlate
        have HM := Lib.hid hlate
        have d99 : decide ((n' : Int) > (en : Int) - (f : Int)) = true := decide_eq_true (by omega)
        have d99b : decide ((en : Int) - (f : Int) < (n' : Int)) = true := decide_eq_true (by omega)
        clear hlate
        go_wp2_with fail
        try rw [Exit.noGoto_ret]
        refine bodyPost_ret (results_tmp4 rfl _ _ _) rfl ?_
        exact OnePost.err HM.out (Or.inl rfl) rfl (Below.refl _ _)
      · rw [if_neg hbig] at hlate
        have d99 : decide ((n' : Int) > (en : Int) - (f : Int)) = false := decide_eq_false (by omega)
        have d99b : decide ((en : Int) - (f : Int) < (n' : Int)) = false := decide_eq_false (by omega)
        obtain ⟨g, hg⟩ : ∃ g : Bool, g = decide (x = 129 ∧ (b.getD f 0).toNat < 128) := ⟨_, rfl⟩
        have HG := Lib.hid hg
        have HLate := Lib.hid hlate
        clear hg hlate
        go_upto_region 32 with fail
        go_cut [109] from 101 to 109 (fun v wx => v = .bool g ∧ w = wx)
        case first =>
          by_cases hx9 : x = 129
          · have d102 : ((x : Int) == 129) = true := by rw [hx9]; rfl
            have hn1 := h129 hx9
            obtain ⟨ad2, had2, _, hcj⟩ := HS.out.at_ (k := f) (by rw [bytes_length]; omega)
            injection had2 with had2
            subst had2
            rw [bytes_get, ← getD_at (show f < b.length by omega)] at hcj
            obtain ⟨z, hZ⟩ : ∃ z, (b.getD f 0).toNat = z := ⟨_, rfl⟩
            have hqz : w.cell? (ad.add f) = some (.int .u8 (z : Int)) := by rw [← hZ]; exact hcj
            have lf1 : (f : Int) < (b.length : Int) := by omega
            have hgz := HG.out
            rw [hZ] at hgz
            clear hcj hZ h129
            subst hx9
            by_cases hz : z < 128
            · have dz : decide ((z : Int) < 128) = true := decide_eq_true (by omega)
              have dz2 : decide (z < 128) = true := decide_eq_true hz
              have hg2 : g = true := by rw [hgz]; simp [hz]
              have HG2 := Lib.hid hg2
              clear hgz hg2
              go_wp2_with fail
              go_meet
              case rel => exact ⟨by rw [HG2.out], rfl⟩
            · have dz : decide ((z : Int) < 128) = false := decide_eq_false (by omega)
              have dz2 : decide (z < 128) = false := decide_eq_false hz
              have hg2 : g = false := by rw [hgz]; simp [hz]
              have HG2 := Lib.hid hg2
              clear hgz hg2
              go_wp2_with fail
              go_meet
              case rel => exact ⟨by rw [HG2.out], rfl⟩
          · have d102 : ((x : Int) == 129) = false := by rw [beq_eq_false_iff_ne]; omega
            have d102b : (x == 129) = false := by rw [beq_eq_false_iff_ne]; exact hx9
            have hg2 : g = false := by rw [HG.out]; simp [hx9]
            have HG2 := Lib.hid hg2
            clear hg2 h129
            go_wp2_with fail
            go_meet
            case rel => exact ⟨by rw [HG2.out], rfl⟩
        case rest =>
          obtain ⟨rfl, rfl⟩ := hcut
          clear h129
          cases g with
          | true =>
            have hm := HLate.out
            rw [if_pos (of_decide_eq_true HG.out.symm)] at hm
            have HM := Lib.hid hm
            clear hm
            go_wp2_with fail
            try rw [Exit.noGoto_ret]
            refine bodyPost_ret (results_tmp4 rfl _ _ _) rfl ?_
            exact OnePost.err HM.out (Or.inr rfl) rfl (Below.refl _ _)
          | false =>
            have hm := HLate.out
            rw [if_neg (of_decide_eq_false HG.out.symm)] at hm
            have HM := Lib.hid hm
            clear hm HLate HG
            rcases hkk with rfl | rfl
            · have hm := HM.out
              rw [decide_eq_false (show ¬ 192 ≤ x by intro h; have := HKd.out; rw [if_pos h] at this; omega)] at hm
              have hpb := parse_bytes k hm
              have hsq0 : Seq w B ((some ad).map (·.add f)) (bytes ((b.take (f + n')).drop f)) := by
                have := (HS.out.drop f).take (f + n' - f)
                rwa [show ((bytes b).drop f).take (f + n' - f) = bytes ((b.take (f + n')).drop f) by simp [bytes, List.drop_take]] at this
              have hsq1 : c = f → Seq w B (some ad) (bytes ((b.take (f + n')).drop f)) := fun e => by
                have : (b.take (f + n')).drop f = [] := by apply List.drop_eq_nil_of_le; simp; omega
                rw [this]
                exact Seq.none_
              have hll : ((b.take (f + n')).drop f).length = n' := by simp; omega
              generalize (b.take (f + n')).drop f = lb at *
              have HPb := Lib.hid hpb
              have HSq0 := Lib.hid hsq0
              have HSq1 := Lib.hid hsq1
              clear hm hpb hsq0 hsq1 HM
              subst hll
              by_cases hcf : c = f
              · subst hcf
                go_wp2_with (at_builtin; first
                  | (refine wpL_append rfl (.tmp 114) (.tmp 120) 24 rfl elByte rfl (World.ownsRow_nil w w.heap.size 5 1) rfl (by rw [bytes_length]; omega) (HSq1.out rfl) (bytes_one _) (by unfold maxLen; omega) (by omega) (Nat.le_refl _) ?_; intro A7 c7 w7 ho7 hg7 _; simp only [Nat.zero_add, List.nil_append, Nat.add_sub_cancel_left] at ho7; have hs7 := hg7.size; have hb7 := ((Below.refl w.heap.size w).grown hg7 (Nat.le_refl _) (fun g hg => by simp [Value.ownBlock] at hg)); have HO7 := Lib.hid ho7; have HB7 := Lib.hid hb7; clear ho7 hg7 hb7)
                  | (refine wpL_append rfl (.tmp 113) (.tmp 123) 105 rfl elItem rfl (World.ownsRow_nil _ w.heap.size 109 3) rfl rfl (Seq.of_blk (xs := [.bool false, .int .i64 0, .slice A7 lb.length c7]) (Blk.new' _ _ _ rfl) (Nat.lt_succ_self _)) (by simp [Value.oneCell']) (by unfold maxLen; omega) (by omega) (by rw [size_alloc]; omega) ?_; intro A9 c9 W9 ho9 hg9 _; have HO9 := Lib.hid ho9; have HG9 := Lib.hid hg9; clear ho9 hg9)
                  | fail)
                try rw [Exit.noGoto_ret]
                refine bodyPost_ret (results_tmp4 rfl _ _ _) rfl ?_
                rw [HPb.out]
                have hO8 : (w7.alloc (.cells #[.bool false, .int .i64 0, .slice A7 lb.length c7] 109)).ownsRow w.heap.size 109 3 (.slice none 0 0) 0 (itemsC []) := World.ownsRow_nil _ _ _ _
                have hO7 := own_alloc HO7.out (.cells #[.bool false, .int .i64 0, .slice A7 lb.length c7] 109)
                have hfin := RowIs.snoc (x := (false, 0, A7, c7, lb)) hO8 (fun y hy => by cases hy) hO7 rfl HO9.out HG9.out
                exact ⟨_, by go_num, hfin, (HB7.out.alloc (by omega) _).grown HG9.out (by rw [size_alloc]; omega) (fun g hg => by simp [Value.ownBlock] at hg)⟩
              · go_wp2_with (at_builtin; first
                  | (refine wpL_append rfl (.tmp 114) (.tmp 120) 24 rfl elByte rfl (World.ownsRow_nil w w.heap.size 5 1) rfl (by rw [bytes_length]; omega) HSq0.out (bytes_one _) (by unfold maxLen; omega) (by omega) (Nat.le_refl _) ?_; intro A7 c7 w7 ho7 hg7 _; simp only [Nat.zero_add, List.nil_append, Nat.add_sub_cancel_left] at ho7; have hs7 := hg7.size; have hb7 := ((Below.refl w.heap.size w).grown hg7 (Nat.le_refl _) (fun g hg => by simp [Value.ownBlock] at hg)); have HO7 := Lib.hid ho7; have HB7 := Lib.hid hb7; clear ho7 hg7 hb7)
                  | (refine wpL_append rfl (.tmp 113) (.tmp 123) 105 rfl elItem rfl (World.ownsRow_nil _ w.heap.size 109 3) rfl rfl (Seq.of_blk (xs := [.bool false, .int .i64 0, .slice A7 lb.length c7]) (Blk.new' _ _ _ rfl) (Nat.lt_succ_self _)) (by simp [Value.oneCell']) (by unfold maxLen; omega) (by omega) (by rw [size_alloc]; omega) ?_; intro A9 c9 W9 ho9 hg9 _; have HO9 := Lib.hid ho9; have HG9 := Lib.hid hg9; clear ho9 hg9)
                  | fail)
                try rw [Exit.noGoto_ret]
                refine bodyPost_ret (results_tmp4 rfl _ _ _) rfl ?_
                rw [HPb.out]
                have hO8 : (w7.alloc (.cells #[.bool false, .int .i64 0, .slice A7 lb.length c7] 109)).ownsRow w.heap.size 109 3 (.slice none 0 0) 0 (itemsC []) := World.ownsRow_nil _ _ _ _
                have hO7 := own_alloc HO7.out (.cells #[.bool false, .int .i64 0, .slice A7 lb.length c7] 109)
                have hfin := RowIs.snoc (x := (false, 0, A7, c7, lb)) hO8 (fun y hy => by cases hy) hO7 rfl HO9.out HG9.out
                exact ⟨_, by go_num, hfin, (HB7.out.alloc (by omega) _).grown HG9.out (by rw [size_alloc]; omega) (fun g hg => by simp [Value.ownBlock] at hg)⟩
            · have h192 : 192 ≤ x := by
                by_cases h : 192 ≤ x
                · exact h
                · have := HKd.out
                  rw [if_neg h] at this
                  omega
              have hm := HM.out
              rw [decide_eq_true h192] at hm
              have hpl := parse_list k hm
              obtain ⟨P, hP⟩ : ∃ P, parses b k f (f + n') = P := ⟨_, rfl⟩
              rw [hP] at hpl
              have HPl := Lib.hid hpl
              have HPP := Lib.hid hP
              have efn : ((f : Int) + (n' : Int)) = ((f + n' : Nat) : Int) := by omega
              clear hm hpl hP HM HKd
              go_wp2_with (at_builtin; first
                | (refine wpL_append rfl (.tmp 129) (.tmp 131) 105 rfl elItem rfl (World.ownsRow_nil _ w.heap.size 109 3) rfl rfl (Seq.of_blk (xs := [.bool true, .int .i64 0, .slice none 0 0]) (Blk.new' _ _ _ rfl) (Nat.lt_succ_self _)) (by simp [Value.oneCell']) (by unfold maxLen; omega) (by omega) (by rw [size_alloc]; omega) ?_; intro A9 c9 W9 ho9 hg9 _; have HO9 := Lib.hid ho9; have HG9 := Lib.hid hg9; clear ho9 hg9)
                | fail)
              have hrow0 : RowIs W9 w.heap.size (.slice A9 1 c9) ((true, (([] : List It).length : Int), []) :: flats []) := by
                have hO8 : (w.alloc (.cells #[.bool true, .int .i64 0, .slice none 0 0] 109)).ownsRow w.heap.size 109 3 (.slice none 0 0) 0 (itemsC []) := World.ownsRow_nil _ _ _ _
                exact RowIs.snoc (x := (true, 0, none, 0, [])) hO8 (fun y hy => by cases hy) (OwnI.none_ _ _ _ _) rfl HO9.out HG9.out
              have hbl0 : Below w.heap.size w W9 := ((Below.refl w.heap.size w).alloc (Nat.le_refl _) _).grown HG9.out (by rw [size_alloc]; omega) (fun g hg => by simp [Value.ownBlock] at hg)
              have HRow0 := Lib.hid hrow0
              have HBl0 := Lib.hid hbl0
              clear hrow0 hbl0 HO9 HG9
              go_loopw [11, 19, 20, 21, 22, 23] (fun v11 v19 _ _ _ _ wr => ∃ (xs : List It) (j gg : Nat), v19 = .int .i64 j ∧ f ≤ j ∧ j ≤ f + n' ∧ 2 * (f + n' - j) + 1 < gg ∧ gg ≤ k ∧ RowIs wr w.heap.size v11 ((true, (xs.length : Int), []) :: flats xs) ∧ (flats xs).length ≤ j - f ∧ xs.length ≤ j - f ∧ (parses b gg j (f + n')).map (xs ++ ·) = P ∧ Below w.heap.size w wr) (fun _ v19 _ _ _ _ _ => f + n' - (intOf v19).toNat)
              case atStart => exact ⟨[], f, k, rfl, by omega, by omega, by omega, by omega, HRow0.out, by simp [flats], by simp, by rw [HPP.out]; simp, HBl0.out⟩
              case round =>
                clear HRow0 HBl0
                obtain ⟨xs, j, gg, rfl, hfj, hjf, hgg, hgk, hrow, hfl, hxl, hps, hbl⟩ := hrel
                rename World => w2
                have hz2 := hbl.size
                have HBl := Lib.hid hbl
                have HPs := Lib.hid hps
                obtain ⟨gg, rfl⟩ : ∃ g, gg = g + 1 := ⟨gg - 1, by omega⟩
                by_cases hlt : j < f + n'
                · have dj : decide ((j : Int) < (f : Int) + (n' : Int)) = true := decide_eq_true (by omega)
                  have dj2 : decide ((j : Int) < ((f + n' : Nat) : Int)) = true := decide_eq_true (by omega)
                  have hcall := HIh.out gg (by omega) j (f + n') w2 (by omega) (by omega) (by omega) (by omega) (HS.out.below hbl hB)
                  have hnone : parse b gg j (f + n') = none → _ := fun h => parses_none (by omega) h
                  have hsome : ∀ it q, parse b gg j (f + n') = some (it, q) → _ := fun it q h => parses_some (by omega) h
                  have hpos : ∀ it q, parse b gg j (f + n') = some (it, q) → _ := fun it q h => parse_pos gg (show f + n' ≤ b.length by omega) h
                  have hpfl : ∀ it q, parse b gg j (f + n') = some (it, q) → _ := fun it q h => parse_flat gg (show f + n' ≤ b.length by omega) h
                  obtain ⟨A11, c11, L11, rfl, hs11, ho11, hi11⟩ := hrow
                  have hn11 : L11.length = (flats xs).length + 1 := by
                    have := congrArg List.length hs11
                    simpa using this
                  rw [List.length_cons] at ho11 ⊢
                  obtain ⟨N, hN⟩ : ∃ N, (flats xs).length + 1 = N := ⟨_, rfl⟩
                  rw [hN] at ho11 hn11 ⊢
                  have hNb : N ≤ j - f + 1 := by omega
                  have hN1 : 1 ≤ N := by omega
                  have HS11 := Lib.hid hs11
                  have HO11 := Lib.hid ho11
                  have HI11 := Lib.hid hi11
                  have HN11 := Lib.hid hn11
                  rw [← efn] at hcall
                  obtain ⟨r, hr⟩ : ∃ r, parse b gg j (f + n') = r := ⟨_, rfl⟩
                  rw [hr] at hcall
                  have HCall := Lib.hid hcall
                  clear hcall hs11 ho11 hi11 hn11 hN hbl hps efn
                  cases r with
                  | none =>
                    have hn := hnone hr
                    have hP0 := HPs.out
                    rw [hn] at hP0
                    have HP0 := Lib.hid hP0
                    clear hn hP0 hnone hsome hpos hpfl hr
                    go_wp2_with (first
                      | (go_at_call 95; (refine HCall.out.mono ?_; rintro e3 w3 ⟨er, pl, her, rfl, hb3⟩; have HB3 := Lib.hid hb3; clear hb3; have der : ((er : Int) == 0) = false := (by rw [beq_eq_false_iff_ne]; omega); have der2 : ((er : Int) != 0) = true := (by rw [bne_iff_ne]; omega); have HEr := Lib.hid her; have h0 : ¬ er = 0 := (by omega); have h0b : ¬ (er : Int) = 0 := (by omega); clear her))
                      | fail)
                    try rw [Exit.noGoto_ret]
                    refine bodyPost_ret (results_tmp4 rfl _ _ _) rfl ?_
                    rw [HPl.out, ← HP0.out]
                    exact ⟨er, pl, HEr.out, rfl, HBl.out.trans (HB3.out.mono hz2)⟩
                  | some iq =>
                    obtain ⟨it, q⟩ := iq
                    have hsm := hsome it q hr
                    obtain ⟨hq1, hq2⟩ := hpos it q hr
                    have hfl2 := hpfl it q hr
                    have HSm := Lib.hid hsm
                    clear hsm hnone hsome hpos hpfl hr
                    go_wp2_with (first
                      | (go_at_call 95; (refine HCall.out.mono ?_; rintro e3 w3 ⟨v3, rfl, ⟨A20, c20, its, rfl, hsd, ho20, hi20⟩, hb3⟩; have hz3 := hb3.size; have hil : its.length = it.flat.length := (by rw [← hsd, List.length_map]); have hil2 := Nat.le_of_eq hil; have hil3 := Nat.le_of_eq hil.symm; have HSd := Lib.hid hsd; have HO20 := Lib.hid ho20; have HI20 := Lib.hid hi20; have HIl := Lib.hid hil; have HB3 := Lib.hid (HBl.out.trans (hb3.mono hz2)); have HO11' := Lib.hid (own_below' HO11.out hb3); have HI11' := Lib.hid (show ∀ y ∈ L11, OwnI w3 w.heap.size y from fun y hy => own_below' (HI11.out y hy) hb3); clear hsd ho20 hi20 hil hb3))
                      | (at_builtin; (refine wpL_append rfl (.tmp 154) (.tmp 155) 105 rfl elItem rfl HO11'.out rfl (by rw [itemsC_length, HIl.out]) (Seq.of_own HO20.out) (itemsC_one _) (by unfold maxLen; omega) (by omega) (by omega) ?_; intro A9 c9 W9 ho9 hg9 _; have hap := RowIs.app (A1 := A9) (c1 := c9) HO11'.out HI11'.out (fun y hy => own_mono (HI20.out y hy) hz2) HN11.out.symm (by rw [HIl.out]; exact ho9) hg9; rw [HS11.out, HSd.out, HIl.out] at hap; obtain ⟨-, g, rfl, hg1, hg2, hcell0, hfr0, -, hbump⟩ := hap.bump (j := 0) (by simp); have hcell : W9.cell? ⟨g, 1, none⟩ = some (.int .i64 (xs.length : Int)) := hcell0; have hfr : W9.frozen? ⟨g, 1, none⟩ = false := hfr0; clear hcell0 hfr0; have HBump := Lib.hid hbump; have HB9 := Lib.hid (HB3.out.grown hg9 (Nat.le_trans hz2 hz3) (fun g hg => (HO11'.out.lt g hg).1)); have hz9 := hg9.size; have hNi : (0 : Int) < (N : Int) + (it.flat.length : Int) := (by omega); have hNi2 : ¬ ((N : Int) + (it.flat.length : Int) ≤ 0) := (by omega); have HG1 := Lib.hid hg1; clear ho9 hg9 hap hbump))
                      | fail)
                    have hb := HBump.out
                    have e1 : ((true, (xs.length : Int), []) :: flats xs ++ it.flat).modify 0 up = (true, ((xs ++ [it]).length : Int), []) :: flats (xs ++ [it]) := by
                      rw [flats_append]
                      simp [up, flats, List.modify]
                    rw [e1] at hb
                    refine ⟨⟨xs ++ [it], q, gg, rfl, by omega, by omega, by omega, by omega, hb, ?_, ?_, ?_, (Only.setCell _ _ _).below HB9.out HG1.out⟩, by simp [intOf]; omega⟩
                    · rw [flats_append, List.length_append]
                      simp only [flats, List.append_nil]
                      omega
                    · rw [List.length_append]
                      simp only [List.length_cons, List.length_nil]
                      omega
                    · rw [← HPs.out, HSm.out, Option.map_map]
                      congr 1
                      funext ys
                      simp
                · have dj : decide ((j : Int) < (f : Int) + (n' : Int)) = false := decide_eq_false (by omega)
                  have dj2 : decide ((j : Int) < ((f + n' : Nat) : Int)) = false := decide_eq_false (by omega)
                  obtain rfl : j = f + n' := by omega
                  have hP0 := HPs.out
                  rw [parses_nil (Nat.le_refl _)] at hP0
                  have HP0 := Lib.hid hP0
                  have HRow := Lib.hid hrow
                  obtain ⟨A11, c11, rfl⟩ := HRow.out.shape
                  clear hrow hps hP0 hbl efn
                  go_wp2_with fail
                  try rw [Exit.noGoto_ret]
                  refine bodyPost_ret (results_tmp4 rfl _ _ _) rfl ?_
                  have hfin : P = some xs := by rw [← HP0.out]; simp
                  rw [HPl.out, hfin]
                  exact ⟨_, by go_num, by rw [It.flat]; exact HRow.out, HBl.out⟩
theorem one_calls (A : Option Addr) (c B : Nat) (b : List UInt8) (hl : b.length ≤ 1073741824) (hc : b.length ≤ c) : ∀ (k p en : Nat) (w : World), B ≤ w.heap.size → p ≤ b.length → en ≤ b.length → 2 * (en - p) < k → Seq w B A (bytes b) →
    Calls Tryd.prog 95 #[.slice A b.length c, .int .i64 p, .int .i64 en] w (OnePost w (parse b k p en)) := by
  intro k
  induction k using Nat.strongRecOn with
  | _ k ih =>
    intro p en w hB hp hen hf hs
    obtain ⟨k, rfl⟩ : ∃ j, k = j + 1 := ⟨k - 1, by omega⟩
    by_cases h1 : en ≤ p
    · exact one_a A c b k p en w h1
    by_cases h2 : (b.getD p 0).toNat < 128
    · exact one_b A c B b k p en w hl (by omega) hen hs h2
    · exact one_c A c B b k p en w hl hc hB (by omega) hen hf hs (by omega) (fun m hm p en w h1 h2 h3 h4 h5 => ih m (by omega) p en w h1 h2 h3 h4 h5)
/-- What the document's Decode answers. -/
def DecPost (w : World) (r : Option It) (e : Ending) (w' : World) : Prop := match r with
  | none => ∃ (er : Nat) (pl : Int), er ≠ 0 ∧ e = .returned (.tuple #[.slice none 0 0, .int .i64 er, .int .i64 pl]) ∧ Below w.heap.size w w'
  | some it => ∃ v, e = .returned (.tuple #[v, .int .i64 0, .int .i64 0]) ∧ RowIs w' w.heap.size v it.flat ∧ Below w.heap.size w w'
end Go.Proofs.YtfhindffmghlaaaDoor
/- The document's Decode: as ours. -/
namespace Go.Proofs.YtfhindffmghlaaaDoor
open Go.RowKit It
theorem itemOf_some {b : List UInt8} {it : It} {q : Nat} (h : parse b (2 * b.length + 1) 0 b.length = some (it, q)) : itemOf b = if q < b.length then none else some it := by
  unfold itemOf
  rw [h]
theorem itemOf_none {b : List UInt8} (h : parse b (2 * b.length + 1) 0 b.length = none) : itemOf b = none := by
  unfold itemOf
  rw [h]
set_option maxHeartbeats 4000000 in
set_option maxRecDepth 20000 in
theorem refDecode_calls (A : Option Addr) (c B : Nat) (b : List UInt8) (w : World) (hl : b.length ≤ 1073741824) (hc : b.length ≤ c) (hB : B ≤ w.heap.size) (hs : Seq w B A (bytes b)) :
    Calls Tryd.prog 69 #[.slice A b.length c] w (DecPost w (itemOf b)) := by
  have hcall : Calls Tryd.prog 95 #[.slice A b.length c, .int .i64 0, .int .i64 b.length] w (OnePost w (parse b (2 * b.length + 1) 0 b.length)) := one_calls A c B b hl hc (2 * b.length + 1) 0 b.length w hB (by omega) (Nat.le_refl _) (by omega) hs
  obtain ⟨r, hr⟩ : ∃ r, parse b (2 * b.length + 1) 0 b.length = r := ⟨_, rfl⟩
  have hi1 : ∀ it q, r = some (it, q) → itemOf b = if q < b.length then none else some it := fun it q h => itemOf_some (hr.trans h)
  have hi2 : r = none → itemOf b = none := fun h => itemOf_none (hr.trans h)
  rw [hr] at hcall
  have HCall := Lib.hid hcall
  have HI1 := Lib.hid hi1
  have HI2 := Lib.hid hi2
  clear hcall hr hi1 hi2 hs
  cases r with
  | none =>
    have hI := HI2.out rfl
    have HI := Lib.hid hI
    clear hI HI1 HI2
    go_enter Tryd.func69, Tryd.ntmps69
    go_wp2_with (first
      | (go_at_call 95; (refine HCall.out.mono ?_; rintro e3 w3 ⟨er, pl, her, rfl, hb3⟩; have HB3 := Lib.hid hb3; clear hb3; have der : ((er : Int) == 0) = false := (by rw [beq_eq_false_iff_ne]; omega); have HEr := Lib.hid her; have h0 : ¬ er = 0 := (by omega); have h0b : ¬ (er : Int) = 0 := (by omega); clear her))
      | fail)
    try rw [Exit.noGoto_ret]
    refine bodyPost_ret (results_tmp3 rfl _ _ _) rfl ?_
    rw [HI.out]
    exact ⟨er, pl, h0, rfl, HB3.out⟩
  | some iq =>
    obtain ⟨it, q⟩ := iq
    have hI := HI1.out it q rfl
    clear HI1 HI2
    by_cases hq : q < b.length
    · rw [if_pos hq] at hI
      have HI := Lib.hid hI
      have dq : decide ((q : Int) < (b.length : Int)) = true := decide_eq_true (by omega)
      have dq2 : decide (q < b.length) = true := decide_eq_true hq
      clear hI
      go_enter Tryd.func69, Tryd.ntmps69
      go_wp2_with (first
        | (go_at_call 95; (refine HCall.out.mono ?_; rintro e3 w3 ⟨v3, rfl, hrow, hb3⟩; have HRow := Lib.hid hrow; have HB3 := Lib.hid hb3; clear hb3 hrow))
        | fail)
      try rw [Exit.noGoto_ret]
      refine bodyPost_ret (results_tmp3 rfl _ _ _) rfl ?_
      rw [HI.out]
      exact ⟨58, q, by omega, rfl, HB3.out⟩
    · rw [if_neg hq] at hI
      have HI := Lib.hid hI
      have dq : decide ((q : Int) < (b.length : Int)) = false := decide_eq_false (by omega)
      have dq2 : decide (q < b.length) = false := decide_eq_false hq
      clear hI
      go_enter Tryd.func69, Tryd.ntmps69
      go_wp2_with (first
        | (go_at_call 95; (refine HCall.out.mono ?_; rintro e3 w3 ⟨v3, rfl, hrow, hb3⟩; have HRow := Lib.hid hrow; have HB3 := Lib.hid hb3; clear hb3 hrow))
        | fail)
      try rw [Exit.noGoto_ret]
      refine bodyPost_ret (results_tmp3 rfl _ _ _) rfl ?_
      rw [HI.out]
      exact ⟨v3, rfl, HRow.out, HB3.out⟩
end Go.Proofs.YtfhindffmghlaaaDoor
