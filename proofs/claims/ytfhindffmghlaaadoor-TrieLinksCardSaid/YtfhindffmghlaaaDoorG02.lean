/- Heads: how many digits of base 256 a number has; the bytes of a head. -/
import Derived.Test.YtfhindffmghlaaaDoorG01
set_option linter.unusedVariables false
set_option linter.unusedSimpArgs false
namespace Go.Proofs.YtfhindffmghlaaaDoor
open Go.RowKit
/-- How many digits of base 256. -/
def nb (n : Nat) : Nat := if h : n = 0 then 0 else 1 + nb (n / 256)
termination_by n
decreasing_by omega
theorem nb_zero : nb 0 = 0 := by unfold nb; simp
theorem nb_pos {n : Nat} (h : n ≠ 0) : nb n = 1 + nb (n / 256) := by
  conv => lhs; unfold nb
  rw [dif_neg h]
theorem nb_div (k : Nat) : ∀ n, nb (n / 256 ^ k) = nb n - k := by
  induction k with
  | zero => intro n; simp
  | succ k ih =>
    intro n
    rw [Nat.pow_succ', ← Nat.div_div_eq_div_mul, ih (n / 256)]
    by_cases h : n = 0
    · subst h; simp [nb_zero]
    · rw [nb_pos h]; omega
theorem nb_eq_zero {n : Nat} : nb n = 0 ↔ n = 0 := by
  constructor
  · intro h
    by_cases e : n = 0
    · exact e
    · rw [nb_pos e] at h; omega
  · rintro rfl; exact nb_zero
/-- Digits are left just while k is below their number. -/
theorem nb_left (n k : Nat) : 0 < n / 256 ^ k ↔ k < nb n := by
  have h := nb_div k n
  constructor
  · intro h1
    have : nb (n / 256 ^ k) ≠ 0 := fun e => by have := nb_eq_zero.1 e; omega
    omega
  · intro h1
    have : n / 256 ^ k ≠ 0 := fun e => by rw [e, nb_zero] at h; omega
    exact Nat.pos_of_ne_zero this
theorem nb_le (n k : Nat) (h : n < 256 ^ k) : nb n ≤ k := by
  rcases Nat.lt_or_ge k (nb n) with h1 | h1
  · have := (nb_left n k).2 h1
    rw [Nat.div_eq_of_lt h] at this
    omega
  · exact h1
/-- How many bytes an item has whose own bytes are so many. -/
def wholeN (n : Nat) : Nat := if n ≤ 55 then 1 + n else 1 + nb n + n
/-- The highest k digits of those behind the first ones. -/
def beL (n : Nat) : Nat → List UInt8
  | 0 => []
  | k + 1 => UInt8.ofNat (n / 256 ^ k) :: beL n k
theorem beL_length (n k : Nat) : (beL n k).length = k := by induction k with
  | zero => rfl
  | succ k ih => simp [beL, ih]
def headL (kind n : Nat) : List UInt8 := if n ≤ 55 then [UInt8.ofNat (kind + n)] else UInt8.ofNat (kind + 55 + nb n) :: beL n (nb n)
theorem headL_length (kind n : Nat) : (headL kind n).length + n = wholeN n := by
  unfold headL wholeN
  split <;> simp [beL_length]
  omega
theorem u8_nat (n : Nat) : (n : Int) % 256 = by8 (UInt8.ofNat n) := by
  unfold by8
  rw [UInt8.toNat_ofNat']
  omega
theorem digit_at (n i : Nat) : (n : Int) / 2 ^ (8 * i) % 256 = by8 (UInt8.ofNat (n / 256 ^ i)) := by
  rw [← u8_nat, Int.natCast_ediv, Int.pow_mul, Int.natCast_pow]
  rfl
theorem whole_calls (n : Nat) (hn : n ≤ 281474976710656) (w : World) : Calls Tryd.prog 103 #[.int .i64 n] w fun e w' => e = .returned (.int .i64 (wholeN n)) ∧ Below w.heap.size w w' := by
  have h8 := nb_le n 7 (by omega)
  by_cases h : n ≤ 55
  · have d : decide ((n : Int) > 55) = false := by simp; omega
    have e : wholeN n = 1 + n := by unfold wholeN; rw [if_pos h]
    have HE := Lib.hid e
    clear e
    go_enter Tryd.func103, Tryd.ntmps103
    go_wp2_with fail
    go_ret
    exact ⟨by rw [HE.out]; rfl, Below.refl _ _⟩
  · have d : decide ((n : Int) > 55) = true := by simp; omega
    have e : wholeN n = 1 + nb n + n := by unfold wholeN; rw [if_neg h]
    have HE := Lib.hid e
    clear e
    go_enter Tryd.func103, Tryd.ntmps103
    go_wp2_with fail
    go_loopw [3, 4] (fun v x wr => ∃ k : Nat, k ≤ nb n ∧ v = .int .i64 ((1 + k : Nat) : Int) ∧ x = .int .i64 ((n / 256 ^ k : Nat) : Int) ∧ Below w.heap.size w wr) (fun v _ _ => 1 + nb n - (intOf v).toNat)
    case atStart => exact ⟨0, by omega, rfl, by simp, Below.refl _ _⟩
    case round =>
      obtain ⟨k, hk, rfl, rfl, hB⟩ := hrel
      have hl := nb_left n k
      have hdiv : n / 256 ^ (k + 1) = n / 256 ^ k / 256 := by rw [Nat.pow_succ, Nat.div_div_eq_div_mul]
      have hle : n / 256 ^ k ≤ n := Nat.div_le_self _ _
      by_cases hlt : k < nb n
      · have hp := hl.2 hlt
        have HD := Lib.hid hdiv
        have HB := Lib.hid hB
        clear hdiv hl hB
        generalize n / 256 ^ k = x at *
        have dx : decide ((x : Int) > 0) = true := by simp; omega
        go_wp2_with fail
        exact ⟨⟨k + 1, by omega, by go_num, by rw [HD.out]; rfl, HB.out⟩, by simp [intOf]; omega⟩
      · have hx : n / 256 ^ k = 0 := by
          rcases Nat.eq_zero_or_pos (n / 256 ^ k) with h1 | h1
          · exact h1
          · exact absurd (hl.1 h1) hlt
        obtain hkn : k = nb n := by omega
        have HK := Lib.hid hkn
        have HB := Lib.hid hB
        clear hB hdiv hl hle hkn
        rw [hx]
        go_wp2_with fail
        go_ret
        exact ⟨by rw [HE.out, ← HK.out]; rfl, HB.out⟩
theorem Below.grownAny {w w' : World} (h : Below w.heap.size w w') (row : Option Nat) : w.grownBy w' row := grown_below (grown_refl w row) h
theorem grown_via {w wr w4 : World} {row row2 : Option Nat} (h : w.grownBy wr row) (h2 : wr.grownBy w4 row2) (hr : row2 = row ∨ row2 = none ∨ ∃ q, row2 = some q ∧ w.heap.size ≤ q) : w.grownBy w4 row :=
  ⟨h2.os.trans h.os, h2.tape.trans h.tape, h2.output.trans h.output, Nat.le_trans h.size h2.size, fun k hk hne => (h2.block k (Nat.lt_of_lt_of_le hk h.size) (by
    rcases hr with e | e | ⟨q, e, hq⟩
    · rw [e]; exact hne
    · rw [e]; intro x; cases x
    · rw [e]; intro x; injection x with x; omega)).trans (h.block k hk hne)⟩
/-- Whose a row is behind some appends: the old one's, or new. -/
def OldOr (w : World) (A A' : Option Addr) : Prop := (Value.slice A' 0 0).ownBlock = (Value.slice A 0 0).ownBlock ∨ ∃ q, (Value.slice A' 0 0).ownBlock = some q ∧ w.heap.size ≤ q
theorem ownB (A : Option Addr) (n c : Nat) : (Value.slice A n c).ownBlock = (Value.slice A 0 0).ownBlock := by cases A <;> rfl
theorem OldOr.refl (w : World) (A : Option Addr) : OldOr w A A := Or.inl rfl
theorem OldOr.step {w wr : World} {A A1 A2 : Option Addr} {n c m d : Nat} (h : OldOr w A A1) (hs : w.heap.size ≤ wr.heap.size) (hf : (Value.slice A2 n c).ownBlock = (Value.slice A1 m d).ownBlock ∨ (Value.slice A2 n c).ownBlock = some wr.heap.size) : OldOr w A A2 := by
  rw [ownB A2, ownB A1] at hf
  rcases hf with hf | hf
  · rcases h with h | ⟨q, h, hq⟩
    · exact Or.inl (hf.trans h)
    · exact Or.inr ⟨q, hf.trans h, hq⟩
  · exact Or.inr ⟨_, hf, hs⟩
theorem OldOr.via {w wr w4 : World} {A A1 : Option Addr} {n c m d : Nat} (h : OldOr w A A1) (hg : w.grownBy wr (Value.slice A n c).ownBlock) (h2 : wr.grownBy w4 (Value.slice A1 m d).ownBlock) : w.grownBy w4 (Value.slice A n c).ownBlock := by
  refine grown_via hg h2 ?_
  rw [ownB A, ownB A1]
  rcases h with h | ⟨q, h, hq⟩
  · exact Or.inl h
  · exact Or.inr (Or.inr ⟨q, h, hq⟩)
set_option maxHeartbeats 1000000 in
set_option maxRecDepth 20000 in
theorem head_calls (base : Nat) (A : Option Addr) (c : Nat) (l : List UInt8) (kd n : Nat) (hn : n ≤ 281474976710656) (hll : l.length ≤ 70368744177664) (w : World) (ho : w.ownsRow base 5 1 (.slice A l.length c) l.length (bytes l)) (hb : base ≤ w.heap.size) :
    Calls Tryd.prog 102 #[.slice A l.length c, .int .u8 (by8 (UInt8.ofNat kd)), .int .i64 n] w fun e w' => ∃ (A' : Option Addr) (c' : Nat), e = .returned (.slice A' (l ++ headL kd n).length c') ∧
      w'.ownsRow base 5 1 (.slice A' (l ++ headL kd n).length c') (l ++ headL kd n).length (bytes (l ++ headL kd n)) ∧ w.grownBy w' (Value.slice A l.length c).ownBlock ∧
      OldOr w A A' := by
  have h8 := nb_le n 7 (by omega)
  have HO := Lib.hid ho
  clear ho
  by_cases h : n ≤ 55
  · have d : decide ((n : Int) ≤ 55) = true := by simp; omega
    obtain ⟨y, hy⟩ : ∃ y, UInt8.ofNat (kd + n) = y := ⟨_, rfl⟩
    have e : headL kd n = [y] := by unfold headL; rw [if_pos h, hy]
    have HE := Lib.hid e
    have em : (by8 (UInt8.ofNat kd) + (n : Int)) % 256 = by8 y := by
      rw [← hy, ← u8_nat, ← u8_nat]
      omega
    clear e hy
    go_enter Tryd.func102, Tryd.ntmps102
    go_wp2_with (first
      | (at_builtin; refine wpL_append rfl (.tmp 11) (.tmp 16) 24 rfl elByte rfl (HO.out.alloc _) rfl rfl (Seq.one_new _ _ _) (by simp [Value.oneCell']) (by unfold maxLen; omega) (by omega) (by rw [size_alloc]; omega) ?_; intro A4 c4 w4 ho4 hg4 hf4; have HO4 := Lib.hid ho4; have HG4 := Lib.hid hg4; have HF4 := Lib.hid hf4; clear ho4 hg4 hf4))
    go_ret
    have hfin : l ++ headL kd n = l ++ [y] := by rw [HE.out]
    have ho4 := HO4.out
    rw [bytes_snoc] at ho4
    rw [hfin]
    exact ⟨A4, c4, by rw [List.length_append]; rfl, by rw [List.length_append]; exact ho4, grown_via (Below.grownAny ((Below.refl w.heap.size w).alloc (Nat.le_refl _) _) _) HG4.out (Or.inl rfl), (OldOr.refl w A).step (by rw [size_alloc]; omega) HF4.out⟩
  · have d : decide ((n : Int) ≤ 55) = false := by simp; omega
    obtain ⟨y, hy⟩ : ∃ y, UInt8.ofNat (kd + 55 + nb n) = y := ⟨_, rfl⟩
    have e : headL kd n = y :: beL n (nb n) := by unfold headL; rw [if_neg h, hy]
    have HE := Lib.hid e
    have HY := Lib.hid hy
    clear e hy
    have hn1 : 1 ≤ nb n := by rw [nb_pos (by omega)]; omega
    go_enter Tryd.func102, Tryd.ntmps102
    go_wp2_with fail
    go_loopw [7, 8] (fun v x wr => ∃ k : Nat, k ≤ nb n ∧ 1 ≤ k ∧ v = .int .i64 k ∧ x = .int .i64 ((n / 256 ^ k : Nat) : Int) ∧ Below w.heap.size w wr) (fun v _ _ => 1 + nb n - (intOf v).toNat)
    case atStart => exact ⟨1, hn1, by omega, rfl, by simp, Below.refl _ _⟩
    case round =>
      obtain ⟨k, hk, hk1, rfl, rfl, hB⟩ := hrel
      have hl := nb_left n k
      have hdiv : n / 256 ^ (k + 1) = n / 256 ^ k / 256 := by rw [Nat.pow_succ, Nat.div_div_eq_div_mul]
      have hle : n / 256 ^ k ≤ n := Nat.div_le_self _ _
      by_cases hlt : k < nb n
      · have hp := hl.2 hlt
        have HD := Lib.hid hdiv
        have HB := Lib.hid hB
        clear hdiv hl hB
        generalize n / 256 ^ k = x at *
        have dx : decide ((x : Int) > 0) = true := by simp; omega
        go_wp2_with fail
        exact ⟨⟨k + 1, by omega, by omega, by go_num, by rw [HD.out]; rfl, HB.out⟩, by simp [intOf]; omega⟩
      · have hx : n / 256 ^ k = 0 := by
          rcases Nat.eq_zero_or_pos (n / 256 ^ k) with h1 | h1
          · exact h1
          · exact absurd (hl.1 h1) hlt
        obtain hkn : k = nb n := by omega
        have HK := Lib.hid hkn
        have HB := Lib.hid hB
        clear hB hdiv hl hle
        have hs1 := HB.out.size
        have em : (by8 (UInt8.ofNat kd) + 55 + (k : Int)) % 256 = by8 y := by
          rw [← HY.out, ← u8_nat, ← u8_nat]
          omega
        clear hkn
        rw [hx]
        go_wp2_with (first
          | (at_builtin; refine wpL_append rfl (.tmp 26) (.tmp 32) 24 rfl elByte rfl ((own_below' HO.out HB.out).alloc _) rfl rfl (Seq.one_new _ _ _) (by simp [Value.oneCell']) (by unfold maxLen; omega) (by omega) (by rw [size_alloc]; omega) ?_; intro A4 c4 w4 ho4 hg4 hf4; have HO4 := Lib.hid ho4; have HG4 := Lib.hid hg4; have HF4 := Lib.hid hf4; clear ho4 hg4 hf4))
        have ho4 := HO4.out
        rw [bytes_snoc] at ho4
        have hg1 := grown_via (Below.grownAny (HB.out.alloc hs1 _) (Value.slice A l.length c).ownBlock) HG4.out (Or.inl rfl)
        have hf1 := (OldOr.refl w A).step (by rw [size_alloc]; omega) HF4.out
        have hz4 := HG4.out.size
        rw [size_alloc] at hz4
        have HO5 := Lib.hid ho4
        have HG5 := Lib.hid hg1
        have HF5 := Lib.hid hf1
        clear ho4 hg1 hf1 HO4 HG4 HF4
        go_loopw [0, 7] (fun b v wq => ∃ (j : Nat) (D : List UInt8) (A1 : Option Addr) (c1 : Nat), j ≤ nb n ∧ v = .int .i64 ((j : Int) - 1) ∧ D.length + j = l.length + 1 + nb n ∧ D ++ beL n j = l ++ headL kd n ∧ b = .slice A1 D.length c1 ∧
          wq.ownsRow base 5 1 (.slice A1 D.length c1) D.length (bytes D) ∧ w.grownBy wq (Value.slice A l.length c).ownBlock ∧ OldOr w A A1) (fun _ v _ => (intOf v + 1).toNat)
        case atStart =>
          refine ⟨nb n, l ++ [y], A4, c4, by omega, by rw [HK.out], by simp, by rw [HE.out]; simp, by rw [List.length_append]; rfl, by rw [List.length_append]; exact HO5.out, HG5.out, HF5.out⟩
        case round =>
          clear HO5 HG5 HF5
          obtain ⟨j, D, A1, c1, hj, rfl, hlen, hD, rfl, hown, hG, hF⟩ := hrel
          cases j with
          | zero =>
            have hD' : D = l ++ headL kd n := by rw [← hD]; simp [beL]
            have HO6 := Lib.hid hown
            have HG6 := Lib.hid hG
            have HF6 := Lib.hid hF
            have HD := Lib.hid hD'
            clear hown hG hF hD hD'
            go_wp2_with fail
            go_ret
            rw [← HD.out]
            exact ⟨A1, c1, rfl, HO6.out, HG6.out, HF6.out⟩
          | succ i =>
            rw [show (((i + 1 : Nat) : Int) - 1) = (i : Int) by omega]
            have hsz := hG.size
            have HO6 := Lib.hid hown
            have HG6 := Lib.hid hG
            have HF6 := Lib.hid hF
            have HD := Lib.hid hD
            clear hown hG hF hD
            obtain ⟨z, hz⟩ : ∃ z, UInt8.ofNat (n / 256 ^ i) = z := ⟨_, rfl⟩
            have em2 := digit_at n i
            rw [hz] at em2
            have HZ := Lib.hid hz
            clear hz
            go_wp2_with (first
              | (at_builtin; refine wpL_append rfl (.tmp 40) (.tmp 46) 24 rfl elByte rfl (HO6.out.alloc _) rfl rfl (Seq.one_new _ _ _) (by simp [Value.oneCell']) (by unfold maxLen; omega) (by omega) (by rw [size_alloc]; omega) ?_; intro A7 c7 w7 ho7 hg7 hf7; have HO7 := Lib.hid ho7; have HG7 := Lib.hid hg7; have HF7 := Lib.hid hf7; clear ho7 hg7 hf7))
            have hstep : beL n (i + 1) = z :: beL n i := by rw [← HZ.out]; rfl
            have ho7 := HO7.out
            rw [bytes_snoc] at ho7
            exact ⟨⟨i, D ++ [z], A7, c7, by omega, rfl, by rw [List.length_append, List.length_singleton]; omega, by rw [← HD.out, hstep]; simp, by rw [List.length_append]; rfl, by rw [List.length_append]; exact ho7,
              HF6.out.via HG6.out (grown_via (Below.grownAny ((Below.refl wr.heap.size wr).alloc (Nat.le_refl _) _) _) HG7.out (Or.inl rfl)), HF6.out.step (wr := wr.alloc _) (by rw [size_alloc]; omega) HF7.out⟩, by simp [intOf]⟩
end Go.Proofs.YtfhindffmghlaaaDoor
/- Items in memory; the stack of open lengths; the last of them taken off. -/
namespace Go.Proofs.YtfhindffmghlaaaDoor
open Go.RowKit
abbrev ItemL := Bool × Int × Piece
def itemC (x : ItemL) : List Value := [.bool x.1, .int .i64 x.2.1, pcV x.2.2]
def ItemsAt (w : World) (B : Nat) (A : Option Addr) (l : List ItemL) : Prop := ∀ j (h : j < l.length), ∃ ad, A = some ad ∧ ad.block < B ∧ ∀ i, i < 3 → w.cell? (ad.add (j * 3 + i)) = (itemC l[j])[i]?
theorem ItemsAt.below {w w' : World} {B B' : Nat} {A : Option Addr} {l : List ItemL} (h : ItemsAt w B A l) (hb : Below B' w w') (hB : B ≤ B') : ItemsAt w' B A l := fun j hj => by
  obtain ⟨ad, rfl, hlt, hc⟩ := h j hj
  exact ⟨ad, rfl, hlt, fun i hi => by rw [← hc i hi]; exact hb.cell (by rw [block_add]; omega)⟩
theorem ItemsAt.get {w : World} {B : Nat} {A : Option Addr} {l : List ItemL} (h : ItemsAt w B A l) (j : Nat) (hj : j < l.length) : ∃ ad, A = some ad ∧ ad.block < B ∧ w.cell? (ad.add (j * 3)) = some (.bool l[j].1) ∧
    w.cell? ⟨(ad.add (j * 3)).block, (ad.add (j * 3)).off + 1, none⟩ = some (.int .i64 l[j].2.1) ∧ w.cell? ⟨(ad.add (j * 3)).block, (ad.add (j * 3)).off + 2, none⟩ = some (.slice l[j].2.2.1 l[j].2.2.2.2.length l[j].2.2.2.1) := by
  obtain ⟨ad, e, hlt, hc⟩ := h j hj
  refine ⟨ad, e, hlt, hc 0 (by omega), ?_, ?_⟩
  · have := hc 1 (by omega)
    rw [← add_add'] at this
    exact this
  · have := hc 2 (by omega)
    rw [← add_add'] at this
    exact this
def nums (l : List Nat) : List Value := l.map fun n : Nat => .int .i64 (n : Int)
theorem nums_length (l : List Nat) : (nums l).length = l.length := by simp [nums]
theorem nums_append (a b : List Nat) : nums (a ++ b) = nums a ++ nums b := by simp [nums]
theorem nums_take (l : List Nat) (k : Nat) : nums (l.take k) = (nums l).take k := by simp [nums]
theorem infoInt : (Tryd.prog.info? 3).map (fun i => (i.zero, i.size, i.bytes)) = some (some (.int .i64 0), 1, 8) := by kernel_rfl
theorem elInt : Elem Tryd.prog 31 3 1 8 := Elem.mk' Tryd.underlying31 infoInt rfl (by decide)
/-- A row cut short is a row. -/
theorem own_short {w : World} {base : Nat} {e : TypeId} {A : Option Addr} {n c : Nat} {xs : List Value} (h : w.ownsRow base e 1 (.slice A n c) n xs) (k : Nat) (hk : k ≤ n) (hc : 0 < n) : w.ownsRow base e 1 (.slice A k c) k (xs.take k) := by
  obtain ⟨h1, h2⟩ := h
  refine ⟨by rw [List.length_take]; omega, ?_⟩
  rcases h2 with ⟨h2, h3⟩ | ⟨g, cap, cur, hv, hg, hh, hnc, hcm, hcs, htake⟩
  · omega
  · injection hv with e1 e2 e3
    subst e1 e3
    refine .inr ⟨g, c, cur, rfl, hg, hh, by omega, hcm, hcs, ?_⟩
    rw [← htake, List.take_take, Nat.mul_one, Nat.mul_one, Nat.min_eq_left hk]
def topSum (st : List Nat) (k : Nat) : Nat := (st.drop (st.length - k)).sum
theorem topSum_zero (st : List Nat) : topSum st 0 = 0 := by unfold topSum; rw [Nat.sub_zero, List.drop_length]; rfl
theorem topSum_succ (st : List Nat) (k : Nat) (h : k < st.length) : topSum st (k + 1) = topSum st k + st[st.length - (k + 1)]'(by omega) := by
  unfold topSum
  rw [List.drop_eq_getElem_cons (show st.length - (k + 1) < st.length by omega), show st.length - (k + 1) + 1 = st.length - k by omega, List.sum_cons]
  omega
theorem topSum_le (st : List Nat) (k : Nat) : topSum st k ≤ st.sum := by
  unfold topSum
  conv => rhs; rw [← List.take_append_drop (st.length - k) st, List.sum_append]
  omega
set_option maxHeartbeats 1000000 in
set_option maxRecDepth 20000 in
theorem take_calls (base b : Nat) (A : Option Addr) (c : Nat) (st : List Nat) (n : Int) (hs : st.sum ≤ 281474976710656) (hl : st.length ≤ 281474976710656) (w : World) (hb : Blk w b 31 #[.slice A st.length c])
    (ho : w.ownsRow base 3 1 (.slice A st.length c) st.length (nums st)) :
    Calls Tryd.prog 122 #[.int .i64 n, .pointer (some ⟨b, 0, none⟩)] w fun e w' =>
      ((0 ≤ n ∧ n ≤ st.length ∧ e = .returned (.tuple #[.int .i64 (topSum st n.toNat), .bool true]) ∧ Blk w' b 31 #[.slice A (st.length - n.toNat) c]) ∨
       ((n < 0 ∨ (st.length : Int) < n) ∧ e = .returned (.tuple #[.int .i64 0, .bool false]) ∧ Blk w' b 31 #[.slice A st.length c])) ∧ Only b w w' := by
  have HB := Lib.hid hb
  have HO := Lib.hid ho
  have hcell : w.cell? ⟨b, 0, none⟩ = some (.slice A st.length c) := hb.cell 0
  clear hb ho
  by_cases hn : n < 0
  · have d1 : decide (n < 0) = true := by simpa using hn
    go_enter Tryd.func122, Tryd.ntmps122
    go_wp2_with fail
    go_ret2
    exact ⟨Or.inr ⟨Or.inl hn, rfl, HB.out⟩, Only.refl _ _⟩
  · have d1 : decide (n < 0) = false := by simp; omega
    obtain ⟨k, rfl⟩ := Int.eq_ofNat_of_zero_le (show 0 ≤ n by omega)
    by_cases hk : (st.length : Int) < k
    · have d2 : decide ((k : Int) > (st.length : Int)) = true := by simp; omega
      go_enter Tryd.func122, Tryd.ntmps122
      go_wp2_with fail
      go_ret2
      first | exact ⟨Or.inr ⟨rfl, HB.out⟩, Only.refl _ _⟩ | exact ⟨Or.inr ⟨Or.inr hk, rfl, HB.out⟩, Only.refl _ _⟩
    · have d2 : decide ((k : Int) > (st.length : Int)) = false := by simp; omega
      go_enter Tryd.func122, Tryd.ntmps122
      go_wp2_with fail
      go_loopw [3, 14] (fun s i wr => ∃ j : Nat, j ≤ k ∧ i = .int .i64 j ∧ s = .int .i64 (topSum st j) ∧ Only b w wr ∧ Blk wr b 31 #[.slice A (st.length - j) c]) (fun _ i _ => k - (intOf i).toNat)
      case atStart => exact ⟨0, by omega, rfl, by rw [topSum_zero]; rfl, Only.refl _ _, by rw [Nat.sub_zero]; exact HB.out⟩
      case round =>
        obtain ⟨j, hj, rfl, rfl, hOn, hB⟩ := hrel
        have hc1 : wr.cell? ⟨b, 0, none⟩ = some (.slice A (st.length - j) c) := hB.cell 0
        have hf1 := hB.frozen 0
        have HOn := Lib.hid hOn
        have HB1 := Lib.hid hB
        clear hcell hOn hB
        by_cases hlt : j < k
        · have dj : decide ((j : Int) < (k : Int)) = true := by simp; omega
          have hts := topSum_succ st j (by omega)
          have htl := topSum_le st (j + 1)
          obtain ⟨g, rfl, hg1, hg2, hgc, hgm⟩ := own_form HO.out (by omega)
          have hgb : g ≠ b := fun e => by
            obtain ⟨cur, h1⟩ := own_blk (own_mono HO.out (Nat.le_refl base)) g rfl
            exact Blk.ne (e ▸ h1) HB.out (by decide) rfl
          have hce := (own_only HO.out HOn.out (by simp [Value.ownBlock]; exact hgb)).cellAt (st.length - (j + 1)) (by omega)
          rw [List.getElem?_eq_getElem (by rw [nums_length]; omega)] at hce
          simp only [nums, List.getElem_map] at hce
          have HTS := Lib.hid hts
          have hx1 : topSum st j + st[st.length - (j + 1)]'(by omega) ≤ 281474976710656 := by omega
          clear hts htl
          generalize st[st.length - (j + 1)]'(by omega) = x at *
          have e2 : IntKind.i64.wrap (((st.length - j : Nat) : Int) - 1) = ((st.length - (j + 1) : Nat) : Int) := by rw [IntWalk.i64_in _ (by omega)]; omega
          have l1 : ((st.length - (j + 1) : Nat) : Int) < ((st.length - j : Nat) : Int) := by omega
          have l2 : ((st.length - (j + 1) : Nat) : Int) ≤ (c : Int) := by omega
          generalize hm : topSum st j = s at *
          generalize hp : st.length - j = p at *
          generalize hq : st.length - (j + 1) = q at *
          have HQ := Lib.hid hq
          clear hp hq hm
          go_wp2_with fail
          exact ⟨⟨j + 1, by omega, by go_num, by rw [HTS.out]; rfl, HOn.out.trans (Only.setCell _ ⟨b, 0, none⟩ _), by rw [HQ.out]; exact HB1.out.set_ 0 _⟩, by simp [intOf]; omega⟩
        · have dj : decide ((j : Int) < (k : Int)) = false := by simp; omega
          obtain hjk : j = k := by omega
          have HJ := Lib.hid hjk
          clear hjk
          go_wp2_with fail
          go_ret2
          exact ⟨Or.inl ⟨by omega, by omega, by rw [Int.toNat_natCast, ← HJ.out]; rfl, by rw [Int.toNat_natCast, ← HJ.out]; exact HB1.out⟩, HOn.out⟩
end Go.Proofs.YtfhindffmghlaaaDoor
/- Rows of items in memory: their cells. -/
namespace Go.Proofs.YtfhindffmghlaaaDoor
open Go.RowKit
def itemsC (l : List ItemL) : List Value := l.flatMap itemC
theorem itemsC_length (l : List ItemL) : (itemsC l).length = l.length * 3 := by
  induction l with
  | nil => rfl
  | cons x l ih => simp only [itemsC, List.flatMap_cons, List.length_append, List.length_cons] at *; rw [ih]; simp [itemC]; omega
theorem itemsC_append (a b : List ItemL) : itemsC (a ++ b) = itemsC a ++ itemsC b := by simp [itemsC]
theorem itemsC_get (l : List ItemL) (j i : Nat) (hj : j < l.length) (hi : i < 3) : (itemsC l)[j * 3 + i]? = (itemC l[j])[i]? := by
  induction l generalizing j with
  | nil => simp at hj
  | cons x l ih =>
    have e : itemsC (x :: l) = itemC x ++ itemsC l := rfl
    rw [e]
    cases j with
    | zero => rw [List.getElem?_append_left (by simp [itemC]; omega), Nat.zero_mul, Nat.zero_add]; rfl
    | succ j =>
      rw [List.getElem?_append_right (by simp [itemC]; omega)]
      have : (j + 1) * 3 + i - (itemC x).length = j * 3 + i := by simp [itemC]; omega
      rw [this, ih j (by simpa using hj)]
      rfl
theorem ItemsAt.of_own {w : World} {base : Nat} {A : Option Addr} {n c : Nat} {l : List ItemL} (h : w.ownsRow base 109 3 (.slice A n c) n (itemsC l)) : ItemsAt w w.heap.size A l := fun j hj => by
  have hs := Seq.of_own h
  have hl := itemsC_length l
  obtain ⟨ad, e, hlt, hc⟩ := hs (by omega)
  refine ⟨ad, e, hlt, fun i hi => ?_⟩
  rw [hc (j * 3 + i) (by omega), ← itemsC_get l j i hj hi, List.getElem?_eq_getElem (by omega)]
theorem infoItem : (Tryd.prog.info? 109).map (fun i => (i.zero, i.size, i.bytes)) = some (some (.agg #[.bool false, .int .i64 0, .slice none 0 0]), 3, 40) := by kernel_rfl
theorem elItem : Elem Tryd.prog 105 109 3 40 := Elem.mk' Tryd.underlying105 infoItem rfl (by decide)
/-- What an item says, wherever its bytes lie. -/
def said (x : ItemL) : Bool × Int × List UInt8 := (x.1, x.2.1, x.2.2.2.2)
def OwnI (w : World) (base : Nat) (x : ItemL) : Prop := w.ownsRow base 5 1 (pcV x.2.2) x.2.2.2.2.length (bytes x.2.2.2.2)
theorem OwnI.seq {w : World} {base : Nat} {x : ItemL} (h : OwnI w base x) : Seq w w.heap.size x.2.2.1 (bytes x.2.2.2.2) := Seq.of_own h
theorem own_alloc {w : World} {base : Nat} {e : TypeId} {size n : Nat} {v : Value} {xs : List Value} (h : w.ownsRow base e size v n xs) (o : Obj) : (w.alloc o).ownsRow base e size v n xs :=
  own_below' h ((Below.refl w.heap.size w).alloc (Nat.le_refl _) o)
end Go.Proofs.YtfhindffmghlaaaDoor
/- read: the head of an item that is read. -/
namespace Go.Proofs.YtfhindffmghlaaaDoor
open Go.RowKit
theorem results_tmp4 {fn : Func} {t u v x : Tmp} (h : fn.results = #[.tmp t, .tmp u, .tmp v, .tmp x]) (tmps : Array Value) (P : Program) (w : World) :
    (results fn tmps).run P w = .ok (.tuple #[tmps.getD t undef, tmps.getD u undef, tmps.getD v undef, tmps.getD x undef]) w := by
  simp [results, h]
theorem and63 : ∀ c : Fin 256, bits .and .i64 (c.val : Int) 63 = ((c.val % 64 : Nat) : Int) := by decide +kernel
/-- The number that k bytes are. -/
def longV (b : List UInt8) (f : Nat) : Nat → BitVec 64
  | 0 => 0#64
  | k + 1 => longV b f k <<< 8 ||| ext (b.getD (f + k) 0)
abbrev ReadR := Bool × Nat × Nat × Nat
def readM (b : List UInt8) (p en : Nat) : ReadR :=
  if en ≤ p then (false, 0, 0, 50) else
  if (b.getD p 0).toNat < 128 then (false, p, p + 1, 0) else
  if 55 < (b.getD p 0).toNat % 64 then
    if en - (p + 1) < (b.getD p 0).toNat % 64 - 55 then (false, 0, 0, 50) else
    if (b.getD (p + 1) 0).toNat = 0 ∨ (longV b (p + 1) ((b.getD p 0).toNat % 64 - 55)).toNat ≤ 55 then (false, 0, 0, 251) else
    if en - (p + 1 + ((b.getD p 0).toNat % 64 - 55)) < (longV b (p + 1) ((b.getD p 0).toNat % 64 - 55)).toNat then (false, 0, 0, 50) else
      (decide (192 ≤ (b.getD p 0).toNat), p + 1 + ((b.getD p 0).toNat % 64 - 55), p + 1 + ((b.getD p 0).toNat % 64 - 55) + (longV b (p + 1) ((b.getD p 0).toNat % 64 - 55)).toNat, 0)
  else if en - (p + 1) < (b.getD p 0).toNat % 64 then (false, 0, 0, 50) else
  if (b.getD p 0).toNat = 129 ∧ (b.getD (p + 1) 0).toNat < 128 then (false, 0, 0, 251) else
    (decide (192 ≤ (b.getD p 0).toNat), p + 1, p + 1 + (b.getD p 0).toNat % 64, 0)
def readV (r : ReadR) : Value := .tuple #[.bool r.1, .int .i64 r.2.1, .int .i64 r.2.2.1, .int .i64 r.2.2.2]
set_option maxHeartbeats 2000000 in
set_option maxRecDepth 20000 in
theorem read_calls (A : Option Addr) (c B : Nat) (b : List UInt8) (p en : Nat) (hl : b.length ≤ 1099511627776) (hc : b.length ≤ c) (hen : en ≤ b.length) (hp : p ≤ 1099511627776) (w : World) (hs : Seq w B A (bytes b)) (hB : B ≤ w.heap.size) :
    Calls Tryd.prog 105 #[.slice A b.length c, .int .i64 p, .int .i64 en] w fun e w' => e = .returned (readV (readM b p en)) ∧ Below w.heap.size w w' := by
  have HS := Lib.hid hs
  clear hs
  have hB0 : Below w.heap.size w w := Below.refl _ _
  by_cases h1 : en ≤ p
  · have d1 : decide ((p : Int) ≥ (en : Int)) = true := decide_eq_true (by omega)
    have hm : readM b p en = (false, 0, 0, 50) := by unfold readM; rw [if_pos h1]
    rw [hm]
    clear hm
    go_enter Tryd.func105, Tryd.ntmps105
    go_wp2_with fail
    refine bodyPost_ret (results_tmp4 rfl _ _ _) rfl ?_
    exact ⟨rfl, hB0⟩
  have d1 : decide ((p : Int) ≥ (en : Int)) = false := decide_eq_false (by omega)
  obtain ⟨ad, rfl, _, hc0⟩ := HS.out.at_ (k := p) (by rw [bytes_length]; omega)
  have hx : b.getD p 0 = b[p]'(by omega) := by rw [List.getD_eq_getElem?_getD, List.getElem?_eq_getElem (by omega)]; rfl
  rw [bytes_get, ← hx] at hc0
  have hxl := (b.getD p 0).toNat_lt
  have hq0 : w.cell? (ad.add p) = some (.int .u8 ((b.getD p 0).toNat : Int)) := hc0
  have lp : (p : Int) < (b.length : Int) := by omega
  obtain ⟨r, hr⟩ : ∃ r, readM b p en = r := ⟨_, rfl⟩
  have hrm := hr
  unfold readM at hrm
  rw [if_neg h1] at hrm
  rw [hr]
  clear hc0 hx hr
  generalize hX : (b.getD p 0).toNat = x at *
  clear hX
  by_cases h2 : x < 128
  · rw [if_pos h2] at hrm
    have HR := Lib.hid hrm
    clear hrm
    have d2 : decide ((x : Int) < 128) = true := decide_eq_true (by omega)
    go_enter Tryd.func105, Tryd.ntmps105
    go_wp2_with fail
    refine bodyPost_ret (results_tmp4 rfl _ _ _) rfl ?_
    rw [← HR.out]
    exact ⟨rfl, hB0⟩
  rw [if_neg h2] at hrm
  have ha := and63 ⟨x, hxl⟩
  simp only at ha
  have d2 : decide ((x : Int) < 128) = false := decide_eq_false (by omega)
  obtain ⟨n, hn⟩ : ∃ n, x % 64 = n := ⟨_, rfl⟩
  have hn64 : n < 64 := by omega
  have hdeep : decide ((x : Int) ≥ 192) = decide (192 ≤ x) := by
    by_cases h : 192 ≤ x
    · rw [decide_eq_true h, decide_eq_true (by omega)]
    · rw [decide_eq_false h, decide_eq_false (by omega)]
  rw [hn] at ha hrm
  by_cases h3 : 55 < n
  · rw [if_pos h3] at hrm
    have d3 : decide ((n : Int) > 55) = true := decide_eq_true (by omega)
    obtain ⟨k, hk⟩ : ∃ k, n - 55 = k := ⟨_, rfl⟩
    rw [hk] at hrm
    have ek : IntKind.i64.wrap ((n : Int) - 55) = (k : Int) := by rw [IntWalk.i64_in _ (by omega)]; omega
    by_cases h4 : en - (p + 1) < k
    · rw [if_pos h4] at hrm
      have HR := Lib.hid hrm
      have d4 : decide ((k : Int) > (en : Int) - ((p : Int) + 1)) = true := decide_eq_true (by omega)
      clear hrm hn hk
      go_enter Tryd.func105, Tryd.ntmps105
      go_wp2_with fail
      refine bodyPost_ret (results_tmp4 rfl _ _ _) rfl ?_
      rw [← HR.out]
      exact ⟨rfl, hB0⟩
    · rw [if_neg h4] at hrm
      have d4 : decide ((k : Int) > (en : Int) - ((p : Int) + 1)) = false := decide_eq_false (by omega)
      have hk1 : 1 ≤ k := by omega
      have hk8 : k ≤ 8 := by omega
      obtain ⟨ad2, he, _, hc1⟩ := HS.out.at_ (k := p + 1) (by rw [bytes_length]; omega)
      injection he with he
      subst he
      have hx1 : b.getD (p + 1) 0 = b[p + 1]'(by omega) := by rw [List.getD_eq_getElem?_getD, List.getElem?_eq_getElem (by omega)]; rfl
      rw [bytes_get, ← hx1] at hc1
      have hq1 : w.cell? ⟨ad.block, ad.off + (p + 1), none⟩ = some (.int .u8 ((b.getD (p + 1) 0).toNat : Int)) := (by have h := hc1; unfold Addr.add at h; rw [if_neg (by omega)] at h; exact h)
      clear hc1 hx1
      have hyl := (b.getD (p + 1) 0).toNat_lt
      generalize hY : (b.getD (p + 1) 0).toNat = y at *
      clear hY
      have HRm := Lib.hid hrm
      have lp1 : (p : Int) + 1 ≤ (b.length : Int) := by omega
      have lpk : (p : Int) + 1 + (k : Int) ≤ (c : Int) := by omega
      have lp1' : (p : Int) + 1 < (b.length : Int) := by omega
      have tp1 : ((p : Int) + 1).toNat = p + 1 := by omega
      have hc1 : ¬ c = p + 1 := by omega
      clear hrm hn hk
      go_enter Tryd.func105, Tryd.ntmps105
      go_wp2_with fail
      go_loopw [13, 15, 51] (fun v _ i wr => ∃ j : Nat, j ≤ k ∧ i = .int .i64 j ∧ v = .int .u64 (u64 (longV b (p + 1) j)) ∧ Below w.heap.size w wr) (fun _ _ i _ => k - (intOf i).toNat)
      case atStart => exact ⟨0, by omega, rfl, rfl, hB0⟩
      case round =>
        obtain ⟨j, hj, rfl, rfl, hBr⟩ := hrel
        by_cases hlt : j < k
        · have dj : decide ((j : Int) < (k : Int)) = true := decide_eq_true (by omega)
          have lj : (j : Int) < (k : Int) := by omega
          obtain ⟨ad2, he, hadb, hcj⟩ := HS.out.at_ (k := p + 1 + j) (by rw [bytes_length]; omega)
          injection he with he
          subst he
          have hxj : b.getD (p + 1 + j) 0 = b[p + 1 + j]'(by omega) := by rw [List.getD_eq_getElem?_getD, List.getElem?_eq_getElem (by omega)]; rfl
          rw [bytes_get, ← hxj] at hcj
          have hst : longV b (p + 1) (j + 1) = longV b (p + 1) j <<< 8 ||| ext (b.getD (p + 1 + j) 0) := rfl
          generalize b.getD (p + 1 + j) 0 = z at *
          have hcz : wr.cell? (ad.add (p + 1 + j)) = some (.int .u8 (by8 z)) := (hBr.cell (p := ad.add (p + 1 + j)) (by rw [block_add]; omega)).trans hcj
          have HSt := Lib.hid hst
          have hsh := bv_shl (longV b (p + 1) j) 8
          rw [show (2 : Int) ^ 8 = 256 from rfl] at hsh
          have HB := Lib.hid hBr
          have had : ad.add (p + 1 + j) = ⟨ad.block, ad.off + (p + 1) + j, none⟩ := by
            unfold Addr.add
            rw [if_neg (by omega), Nat.add_assoc ad.off (p + 1) j]
          rw [had] at hcz
          clear hcj hxj hst hBr had
          go_wp2_with fail
          exact ⟨⟨j + 1, by omega, by go_num, by rw [HSt.out], HB.out⟩, by simp [intOf]; omega⟩
        · have dj : decide ((j : Int) < (k : Int)) = false := decide_eq_false (by omega)
          obtain hjk : j = k := by omega
          have hq1r : wr.cell? ⟨ad.block, ad.off + (p + 1), none⟩ = some (.int .u8 (y : Int)) := (hBr.cell (p := ⟨ad.block, ad.off + (p + 1), none⟩) (show ad.block < w.heap.size by omega)).trans hq1
          obtain ⟨V, hV⟩ : ∃ V, longV b (p + 1) k = V := ⟨_, rfl⟩
          rw [hjk, hV]
          have hrm := HRm.out
          rw [hV] at hrm
          have hu : u64 V = (V.toNat : Int) := rfl
          rw [hu]
          generalize V.toNat = v at *
          have HB := Lib.hid hBr
          clear hBr hV hu HRm hjk hq1
          have ew : IntKind.u64.wrap ((en : Int) - ((p : Int) + 1 + (k : Int))) = ((en - (p + 1 + k) : Nat) : Int) := by rw [IntKind.wrap_u64]; omega
          by_cases h5 : y = 0 ∨ v ≤ 55
          · rw [if_pos h5] at hrm
            have HR := Lib.hid hrm
            clear hrm
            have hg : (((y : Int) == 0) = true) ∨ (((y : Int) == 0) = false ∧ decide ((v : Int) ≤ 55) = true) := by
              by_cases h6 : y = 0
              · exact Or.inl (by rw [beq_iff_eq]; omega)
              · exact Or.inr ⟨by rw [beq_eq_false_iff_ne]; omega, decide_eq_true (by omega)⟩
            clear h5
            rcases hg with g1 | ⟨g1, g2⟩
            all_goals
              go_wp2_with fail
              refine bodyPost_ret (results_tmp4 rfl _ _ _) rfl ?_
              rw [← HR.out]
              exact ⟨rfl, HB.out⟩
          · rw [if_neg h5] at hrm
            have g1 : ((y : Int) == 0) = false := by rw [beq_eq_false_iff_ne]; omega
            have g2 : decide ((v : Int) ≤ 55) = false := decide_eq_false (by omega)
            clear h5
            by_cases h6 : en - (p + 1 + k) < v
            · rw [if_pos h6] at hrm
              have HR := Lib.hid hrm
              clear hrm
              have g3 : decide ((v : Int) > ((en - (p + 1 + k) : Nat) : Int)) = true := decide_eq_true (by omega)
              go_wp2_with fail
              refine bodyPost_ret (results_tmp4 rfl _ _ _) rfl ?_
              rw [← HR.out]
              exact ⟨rfl, HB.out⟩
            · rw [if_neg h6] at hrm
              have HR := Lib.hid hrm
              clear hrm
              have g3 : decide ((v : Int) > ((en - (p + 1 + k) : Nat) : Int)) = false := decide_eq_false (by omega)
              have hv40 : v ≤ 1099511627776 := by omega
              go_wp2_with fail
              refine bodyPost_ret (results_tmp4 rfl _ _ _) rfl ?_
              rw [← HR.out]
              exact ⟨rfl, HB.out⟩
  · rw [if_neg h3] at hrm
    have d3 : decide ((n : Int) > 55) = false := decide_eq_false (by omega)
    by_cases h4 : en - (p + 1) < n
    · rw [if_pos h4] at hrm
      have HR := Lib.hid hrm
      have d4 : decide ((n : Int) > (en : Int) - ((p : Int) + 1)) = true := decide_eq_true (by omega)
      clear hrm hn
      go_enter Tryd.func105, Tryd.ntmps105
      go_wp2_with fail
      refine bodyPost_ret (results_tmp4 rfl _ _ _) rfl ?_
      rw [← HR.out]
      exact ⟨rfl, hB0⟩
    · rw [if_neg h4] at hrm
      have d4 : decide ((n : Int) > (en : Int) - ((p : Int) + 1)) = false := decide_eq_false (by omega)
      by_cases h5 : x = 129
      · have hn1 : n = 1 := by omega
        obtain ⟨ad2, he, _, hc1⟩ := HS.out.at_ (k := p + 1) (by rw [bytes_length]; omega)
        injection he with he
        subst he
        have hx1 : b.getD (p + 1) 0 = b[p + 1]'(by omega) := by rw [List.getD_eq_getElem?_getD, List.getElem?_eq_getElem (by omega)]; rfl
        rw [bytes_get, ← hx1] at hc1
        have hq1 : w.cell? ⟨ad.block, ad.off + (p + 1), none⟩ = some (.int .u8 ((b.getD (p + 1) 0).toNat : Int)) := (by have h := hc1; unfold Addr.add at h; rw [if_neg (by omega)] at h; exact h)
        clear hc1 hx1
        generalize hY : (b.getD (p + 1) 0).toNat = y at *
        clear hY
        have lp1 : (p : Int) + 1 < (b.length : Int) := by omega
        have tp1 : ((p : Int) + 1).toNat = p + 1 := by omega
        by_cases h6 : y < 128
        · rw [if_pos ⟨h5, h6⟩] at hrm
          have HR := Lib.hid hrm
          have d6 : decide ((y : Int) < 128) = true := decide_eq_true (by omega)
          clear hrm hn
          have d5 : ((x : Int) == 129) = true := by rw [beq_iff_eq]; omega
          clear h5 hn1
          go_enter Tryd.func105, Tryd.ntmps105
          go_wp2_with fail
          refine bodyPost_ret (results_tmp4 rfl _ _ _) rfl ?_
          rw [← HR.out]
          exact ⟨rfl, hB0⟩
        · rw [if_neg (fun h => h6 h.2)] at hrm
          have HR := Lib.hid hrm
          have d6 : decide ((y : Int) < 128) = false := decide_eq_false (by omega)
          clear hrm hn
          have d5 : ((x : Int) == 129) = true := by rw [beq_iff_eq]; omega
          clear h5 hn1
          go_enter Tryd.func105, Tryd.ntmps105
          go_wp2_with fail
          refine bodyPost_ret (results_tmp4 rfl _ _ _) rfl ?_
          rw [← HR.out]
          exact ⟨rfl, hB0⟩
      · rw [if_neg (fun h => h5 h.1)] at hrm
        have HR := Lib.hid hrm
        have d5 : ((x : Int) == 129) = false := by rw [beq_eq_false_iff_ne]; omega
        clear hrm hn
        go_enter Tryd.func105, Tryd.ntmps105
        go_wp2_with fail
        refine bodyPost_ret (results_tmp4 rfl _ _ _) rfl ?_
        rw [← HR.out]
        exact ⟨rfl, hB0⟩
end Go.Proofs.YtfhindffmghlaaaDoor
