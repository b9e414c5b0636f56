/- Heads: how many digits of base 256 a number has; the bytes of a head. -/
import Derived.Test.YtnghneoggiolgaaDoorRBytes
namespace Go.Proofs.YtnghneoggiolgaaDoor
open Go.RowKit
/-- How many digits of base 256. -/
def nb (n : Nat) : Nat := if h : n = 0 then 0 else 1 + nb (n / 256)
termination_by n
decreasing_by omega
theorem nb_zero : nb 0 = 0 := by unfold nb; simp
theorem nb_pos {n : Nat} (h : n ≠ 0) : nb n = 1 + nb (n / 256) := by
  conv => lhs; unfold nb
  rw [dif_neg h]
theorem nb_div (k : Nat) : ∀ n, nb (n / 256 ^ k) = nb n - k := by
  induction k with
  | zero => intro n; simp
  | succ k ih =>
    intro n
    rw [Nat.pow_succ', ← Nat.div_div_eq_div_mul, ih (n / 256)]
    by_cases h : n = 0
    · subst h; simp [nb_zero]
    · rw [nb_pos h]; omega
theorem nb_eq_zero {n : Nat} : nb n = 0 ↔ n = 0 := by
  constructor
  · intro h
    by_cases e : n = 0
    · exact e
    · rw [nb_pos e] at h; omega
  · rintro rfl; exact nb_zero
/-- Digits are left just while k is below their number. -/
theorem nb_left (n k : Nat) : 0 < n / 256 ^ k ↔ k < nb n := by
  have h := nb_div k n
  constructor
  · intro h1
    have : nb (n / 256 ^ k) ≠ 0 := fun e => by have := nb_eq_zero.1 e; omega
    omega
  · intro h1
    have : n / 256 ^ k ≠ 0 := fun e => by rw [e, nb_zero] at h; omega
    exact Nat.pos_of_ne_zero this
theorem nb_le (n k : Nat) (h : n < 256 ^ k) : nb n ≤ k := by
  rcases Nat.lt_or_ge k (nb n) with h1 | h1
  · have := (nb_left n k).2 h1
    rw [Nat.div_eq_of_lt h] at this
    omega
  · exact h1
/-- How many bytes an item has whose own bytes are so many. -/
def wholeN (n : Nat) : Nat := if n ≤ 55 then 1 + n else 1 + nb n + n
/-- The highest k digits of those behind the first ones. -/
def beL (n : Nat) : Nat → List UInt8
  | 0 => []
  | k + 1 => UInt8.ofNat (n / 256 ^ k) :: beL n k
theorem beL_length (n k : Nat) : (beL n k).length = k := by induction k with
  | zero => rfl
  | succ k ih => simp [beL, ih]
def headL (kind n : Nat) : List UInt8 := if n ≤ 55 then [UInt8.ofNat (kind + n)] else UInt8.ofNat (kind + 55 + nb n) :: beL n (nb n)
theorem headL_length (kind n : Nat) : (headL kind n).length + n = wholeN n := by
  unfold headL wholeN
  split <;> simp [beL_length]
  omega
theorem u8_nat (n : Nat) : (n : Int) % 256 = by8 (UInt8.ofNat n) := by
  unfold by8
  rw [UInt8.toNat_ofNat']
  omega
theorem digit_at (n i : Nat) : (n : Int) / 2 ^ (8 * i) % 256 = by8 (UInt8.ofNat (n / 256 ^ i)) := by
  rw [← u8_nat, Int.natCast_ediv, Int.pow_mul, Int.natCast_pow]
  rfl
theorem whole_calls (n : Nat) (hn : n ≤ 281474976710656) (w : World) : Calls Tryd.prog 28 #[.int .i64 n] w fun e w' => e = .returned (.int .i64 (wholeN n)) ∧ Below w.heap.size w w' := by
  have h8 := nb_le n 7 (by omega)
  by_cases h : n ≤ 55
  · have d : decide ((n : Int) > 55) = false := by simp; omega
    have e : wholeN n = 1 + n := by unfold wholeN; rw [if_pos h]
    have HE := Lib.hid e
    clear e
    go_enter Tryd.func28, Tryd.ntmps28
    go_wp2_with fail
    go_ret
    exact ⟨by rw [HE.out]; rfl, Below.refl _ _⟩
  · have d : decide ((n : Int) > 55) = true := by simp; omega
    have e : wholeN n = 1 + nb n + n := by unfold wholeN; rw [if_neg h]
    have HE := Lib.hid e
    clear e
    go_enter Tryd.func28, Tryd.ntmps28
    go_wp2_with fail
    go_loopw [3, 4] (fun v x wr => ∃ k : Nat, k ≤ nb n ∧ v = .int .i64 ((1 + k : Nat) : Int) ∧ x = .int .i64 ((n / 256 ^ k : Nat) : Int) ∧ Below w.heap.size w wr) (fun v _ _ => 1 + nb n - (intOf v).toNat)
    case atStart => exact ⟨0, by omega, rfl, by simp, Below.refl _ _⟩
    case round =>
      obtain ⟨k, hk, rfl, rfl, hB⟩ := hrel
      have hl := nb_left n k
      have hdiv : n / 256 ^ (k + 1) = n / 256 ^ k / 256 := by rw [Nat.pow_succ, Nat.div_div_eq_div_mul]
      have hle : n / 256 ^ k ≤ n := Nat.div_le_self _ _
      by_cases hlt : k < nb n
      · have hp := hl.2 hlt
        have HD := Lib.hid hdiv
        have HB := Lib.hid hB
        clear hdiv hl hB
        generalize n / 256 ^ k = x at *
        have dx : decide ((x : Int) > 0) = true := by simp; omega
        go_wp2_with fail
        exact ⟨⟨k + 1, by omega, by go_num, by rw [HD.out]; rfl, HB.out⟩, by simp [intOf]; omega⟩
      · have hx : n / 256 ^ k = 0 := by
          rcases Nat.eq_zero_or_pos (n / 256 ^ k) with h1 | h1
          · exact h1
          · exact absurd (hl.1 h1) hlt
        obtain hkn : k = nb n := by omega
        have HK := Lib.hid hkn
        have HB := Lib.hid hB
        clear hB hdiv hl hle hkn
        rw [hx]
        go_wp2_with fail
        go_ret
        exact ⟨by rw [HE.out, ← HK.out]; rfl, HB.out⟩
theorem Below.grownAny {w w' : World} (h : Below w.heap.size w w') (row : Option Nat) : w.grownBy w' row := grown_below (grown_refl w row) h
theorem grown_via {w wr w4 : World} {row row2 : Option Nat} (h : w.grownBy wr row) (h2 : wr.grownBy w4 row2) (hr : row2 = row ∨ row2 = none ∨ ∃ q, row2 = some q ∧ w.heap.size ≤ q) : w.grownBy w4 row :=
  ⟨h2.os.trans h.os, h2.tape.trans h.tape, h2.output.trans h.output, Nat.le_trans h.size h2.size, fun k hk hne => (h2.block k (Nat.lt_of_lt_of_le hk h.size) (by
    rcases hr with e | e | ⟨q, e, hq⟩
    · rw [e]; exact hne
    · rw [e]; intro x; cases x
    · rw [e]; intro x; injection x with x; omega)).trans (h.block k hk hne)⟩
/-- Whose a row is behind some appends: the old one's, or new. -/
def OldOr (w : World) (A A' : Option Addr) : Prop := (Value.slice A' 0 0).ownBlock = (Value.slice A 0 0).ownBlock ∨ ∃ q, (Value.slice A' 0 0).ownBlock = some q ∧ w.heap.size ≤ q
theorem ownB (A : Option Addr) (n c : Nat) : (Value.slice A n c).ownBlock = (Value.slice A 0 0).ownBlock := by cases A <;> rfl
theorem OldOr.refl (w : World) (A : Option Addr) : OldOr w A A := Or.inl rfl
theorem OldOr.step {w wr : World} {A A1 A2 : Option Addr} {n c m d : Nat} (h : OldOr w A A1) (hs : w.heap.size ≤ wr.heap.size) (hf : (Value.slice A2 n c).ownBlock = (Value.slice A1 m d).ownBlock ∨ (Value.slice A2 n c).ownBlock = some wr.heap.size) : OldOr w A A2 := by
  rw [ownB A2, ownB A1] at hf
  rcases hf with hf | hf
  · rcases h with h | ⟨q, h, hq⟩
    · exact Or.inl (hf.trans h)
    · exact Or.inr ⟨q, hf.trans h, hq⟩
  · exact Or.inr ⟨_, hf, hs⟩
theorem OldOr.via {w wr w4 : World} {A A1 : Option Addr} {n c m d : Nat} (h : OldOr w A A1) (hg : w.grownBy wr (Value.slice A n c).ownBlock) (h2 : wr.grownBy w4 (Value.slice A1 m d).ownBlock) : w.grownBy w4 (Value.slice A n c).ownBlock := by
  refine grown_via hg h2 ?_
  rw [ownB A, ownB A1]
  rcases h with h | ⟨q, h, hq⟩
  · exact Or.inl h
  · exact Or.inr (Or.inr ⟨q, h, hq⟩)
set_option maxHeartbeats 1000000 in
theorem head_calls (base : Nat) (A : Option Addr) (c : Nat) (l : List UInt8) (kd n : Nat) (hn : n ≤ 281474976710656) (hll : l.length ≤ 70368744177664) (w : World) (ho : w.ownsRow base 5 1 (.slice A l.length c) l.length (bytes l)) (hb : base ≤ w.heap.size) :
    Calls Tryd.prog 27 #[.slice A l.length c, .int .u8 (by8 (UInt8.ofNat kd)), .int .i64 n] w fun e w' => ∃ (A' : Option Addr) (c' : Nat), e = .returned (.slice A' (l ++ headL kd n).length c') ∧
      w'.ownsRow base 5 1 (.slice A' (l ++ headL kd n).length c') (l ++ headL kd n).length (bytes (l ++ headL kd n)) ∧ w.grownBy w' (Value.slice A l.length c).ownBlock ∧
      OldOr w A A' := by
  have h8 := nb_le n 7 (by omega)
  have HO := Lib.hid ho
  clear ho
  by_cases h : n ≤ 55
  · have d : decide ((n : Int) ≤ 55) = true := by simp; omega
    obtain ⟨y, hy⟩ : ∃ y, UInt8.ofNat (kd + n) = y := ⟨_, rfl⟩
    have e : headL kd n = [y] := by unfold headL; rw [if_pos h, hy]
    have HE := Lib.hid e
    have em : (by8 (UInt8.ofNat kd) + (n : Int)) % 256 = by8 y := by
      rw [← hy, ← u8_nat, ← u8_nat]
      omega
    clear e hy
    go_enter Tryd.func27, Tryd.ntmps27
    go_wp2_with (first
      | (at_builtin; refine wpL_append rfl (.tmp 11) (.tmp 16) 26 rfl elByte rfl (HO.out.alloc _) rfl rfl (Seq.one_new _ _ _) (by simp [Value.oneCell']) (by unfold maxLen; omega) (by omega) (by rw [size_alloc]; omega) ?_; intro A4 c4 w4 ho4 hg4 hf4; have HO4 := Lib.hid ho4; have HG4 := Lib.hid hg4; have HF4 := Lib.hid hf4; clear ho4 hg4 hf4))
    go_ret
    have hfin : l ++ headL kd n = l ++ [y] := by rw [HE.out]
    have ho4 := HO4.out
    rw [bytes_snoc] at ho4
    rw [hfin]
    exact ⟨A4, c4, by rw [List.length_append]; rfl, by rw [List.length_append]; exact ho4, grown_via (Below.grownAny ((Below.refl w.heap.size w).alloc (Nat.le_refl _) _) _) HG4.out (Or.inl rfl), (OldOr.refl w A).step (by rw [size_alloc]; omega) HF4.out⟩
  · have d : decide ((n : Int) ≤ 55) = false := by simp; omega
    obtain ⟨y, hy⟩ : ∃ y, UInt8.ofNat (kd + 55 + nb n) = y := ⟨_, rfl⟩
    have e : headL kd n = y :: beL n (nb n) := by unfold headL; rw [if_neg h, hy]
    have HE := Lib.hid e
    have HY := Lib.hid hy
    clear e hy
    have hn1 : 1 ≤ nb n := by rw [nb_pos (by omega)]; omega
    go_enter Tryd.func27, Tryd.ntmps27
    go_wp2_with fail
    go_loopw [7, 8] (fun v x wr => ∃ k : Nat, k ≤ nb n ∧ 1 ≤ k ∧ v = .int .i64 k ∧ x = .int .i64 ((n / 256 ^ k : Nat) : Int) ∧ Below w.heap.size w wr) (fun v _ _ => 1 + nb n - (intOf v).toNat)
    case atStart => exact ⟨1, hn1, by omega, rfl, by simp, Below.refl _ _⟩
    case round =>
      obtain ⟨k, hk, hk1, rfl, rfl, hB⟩ := hrel
      have hl := nb_left n k
      have hdiv : n / 256 ^ (k + 1) = n / 256 ^ k / 256 := by rw [Nat.pow_succ, Nat.div_div_eq_div_mul]
      have hle : n / 256 ^ k ≤ n := Nat.div_le_self _ _
      by_cases hlt : k < nb n
      · have hp := hl.2 hlt
        have HD := Lib.hid hdiv
        have HB := Lib.hid hB
        clear hdiv hl hB
        generalize n / 256 ^ k = x at *
        have dx : decide ((x : Int) > 0) = true := by simp; omega
        go_wp2_with fail
        exact ⟨⟨k + 1, by omega, by omega, by go_num, by rw [HD.out]; rfl, HB.out⟩, by simp [intOf]; omega⟩
      · have hx : n / 256 ^ k = 0 := by
          rcases Nat.eq_zero_or_pos (n / 256 ^ k) with h1 | h1
          · exact h1
          · exact absurd (hl.1 h1) hlt
        obtain hkn : k = nb n := by omega
        have HK := Lib.hid hkn
        have HB := Lib.hid hB
        clear hB hdiv hl hle
        have hs1 := HB.out.size
        have em : (by8 (UInt8.ofNat kd) + 55 + (k : Int)) % 256 = by8 y := by
          rw [← HY.out, ← u8_nat, ← u8_nat]
          omega
        clear hkn
        rw [hx]
        go_wp2_with (first
          | (at_builtin; refine wpL_append rfl (.tmp 26) (.tmp 32) 26 rfl elByte rfl ((own_below' HO.out HB.out).alloc _) rfl rfl (Seq.one_new _ _ _) (by simp [Value.oneCell']) (by unfold maxLen; omega) (by omega) (by rw [size_alloc]; omega) ?_; intro A4 c4 w4 ho4 hg4 hf4; have HO4 := Lib.hid ho4; have HG4 := Lib.hid hg4; have HF4 := Lib.hid hf4; clear ho4 hg4 hf4))
        have ho4 := HO4.out
        rw [bytes_snoc] at ho4
        have hg1 := grown_via (Below.grownAny (HB.out.alloc hs1 _) (Value.slice A l.length c).ownBlock) HG4.out (Or.inl rfl)
        have hf1 := (OldOr.refl w A).step (by rw [size_alloc]; omega) HF4.out
        have hz4 := HG4.out.size
        rw [size_alloc] at hz4
        have HO5 := Lib.hid ho4
        have HG5 := Lib.hid hg1
        have HF5 := Lib.hid hf1
        clear ho4 hg1 hf1 HO4 HG4 HF4
        go_loopw [0, 7] (fun b v wq => ∃ (j : Nat) (D : List UInt8) (A1 : Option Addr) (c1 : Nat), j ≤ nb n ∧ v = .int .i64 ((j : Int) - 1) ∧ D.length + j = l.length + 1 + nb n ∧ D ++ beL n j = l ++ headL kd n ∧ b = .slice A1 D.length c1 ∧
          wq.ownsRow base 5 1 (.slice A1 D.length c1) D.length (bytes D) ∧ w.grownBy wq (Value.slice A l.length c).ownBlock ∧ OldOr w A A1) (fun _ v _ => (intOf v + 1).toNat)
        case atStart =>
          refine ⟨nb n, l ++ [y], A4, c4, by omega, by rw [HK.out], by simp, by rw [HE.out]; simp, by rw [List.length_append]; rfl, by rw [List.length_append]; exact HO5.out, HG5.out, HF5.out⟩
        case round =>
          clear HO5 HG5 HF5
          obtain ⟨j, D, A1, c1, hj, rfl, hlen, hD, rfl, hown, hG, hF⟩ := hrel
          cases j with
          | zero =>
            have hD' : D = l ++ headL kd n := by rw [← hD]; simp [beL]
            have HO6 := Lib.hid hown
            have HG6 := Lib.hid hG
            have HF6 := Lib.hid hF
            have HD := Lib.hid hD'
            clear hown hG hF hD hD'
            go_wp2_with fail
            go_ret
            rw [← HD.out]
            exact ⟨A1, c1, rfl, HO6.out, HG6.out, HF6.out⟩
          | succ i =>
            rw [show (((i + 1 : Nat) : Int) - 1) = (i : Int) by omega]
            have hsz := hG.size
            have HO6 := Lib.hid hown
            have HG6 := Lib.hid hG
            have HF6 := Lib.hid hF
            have HD := Lib.hid hD
            clear hown hG hF hD
            obtain ⟨z, hz⟩ : ∃ z, UInt8.ofNat (n / 256 ^ i) = z := ⟨_, rfl⟩
            have em2 := digit_at n i
            rw [hz] at em2
            have HZ := Lib.hid hz
            clear hz
            go_wp2_with (first
              | (at_builtin; refine wpL_append rfl (.tmp 40) (.tmp 46) 26 rfl elByte rfl (HO6.out.alloc _) rfl rfl (Seq.one_new _ _ _) (by simp [Value.oneCell']) (by unfold maxLen; omega) (by omega) (by rw [size_alloc]; omega) ?_; intro A7 c7 w7 ho7 hg7 hf7; have HO7 := Lib.hid ho7; have HG7 := Lib.hid hg7; have HF7 := Lib.hid hf7; clear ho7 hg7 hf7))
            have hstep : beL n (i + 1) = z :: beL n i := by rw [← HZ.out]; rfl
            have ho7 := HO7.out
            rw [bytes_snoc] at ho7
            exact ⟨⟨i, D ++ [z], A7, c7, by omega, rfl, by rw [List.length_append, List.length_singleton]; omega, by rw [← HD.out, hstep]; simp, by rw [List.length_append]; rfl, by rw [List.length_append]; exact ho7,
              HF6.out.via HG6.out (grown_via (Below.grownAny ((Below.refl wr.heap.size wr).alloc (Nat.le_refl _) _) _) HG7.out (Or.inl rfl)), HF6.out.step (wr := wr.alloc _) (by rw [size_alloc]; omega) HF7.out⟩, by simp [intOf]⟩
end Go.Proofs.YtnghneoggiolgaaDoor
