/- Numbers out of their bytes. No walk. -/
import Derived.Test.YtfhindffmghlaaaDoorG05
import Derived.Test.YtfhindffmghlaaaDoorG12
set_option linter.unusedVariables false
set_option linter.unusedSimpArgs false
namespace Go.Proofs.YtfhindffmghlaaaDoor
open Go.RowKit
/-- Leading bytes of one kind struck off. -/
def trimM (x : UInt8) (l : List UInt8) : List UInt8 := l.dropWhile (· == x)
/-- A number's bytes. -/
def numM (S : Nat → BitVec 64) : List UInt8 := bytesM (trimM 0 (listOf (wordS S) 32))
def valB (l : List UInt8) : Nat := l.foldl (fun a b => 256 * a + b.toNat) 0
theorem valB_snoc (l : List UInt8) (x : UInt8) : valB (l ++ [x]) = 256 * valB l + x.toNat := by simp [valB]
theorem valB_trim (l : List UInt8) : valB (trimM 0 l) = valB l := by
  induction l with
  | nil => rfl
  | cons x l ih =>
    unfold trimM
    by_cases h : x = 0
    · subst h
      rw [List.dropWhile_cons_of_pos (by simp)]
      exact ih
    · rw [List.dropWhile_cons_of_neg (by simpa using h)]
theorem trim_head (l : List UInt8) (h : 0 < (trimM 0 l).length) : (trimM 0 l)[0] ≠ 0 := by
  induction l with
  | nil => simp [trimM] at h
  | cons x l ih =>
    by_cases hx : x = 0
    · subst hx
      have e : trimM 0 ((0 : UInt8) :: l) = trimM 0 l := by unfold trimM; rw [List.dropWhile_cons_of_pos (by simp)]
      simp only [e] at h ⊢
      exact ih h
    · have e : trimM 0 (x :: l) = x :: l := by unfold trimM; rw [List.dropWhile_cons_of_neg (by simpa using hx)]
      simp only [e]
      exact hx
theorem trim_len (S : Nat → BitVec 64) : (trimM 0 (listOf (wordS S) 32)).length ≤ 32 := by
  have := (List.dropWhile_sublist (l := listOf (wordS S) 32) (· == (0 : UInt8))).length_le
  rw [listOf_length] at this
  exact this
/-- The i-th lane of a number. -/
def laneN (N : Nat) (i : Nat) : BitVec 64 := BitVec.ofNat 64 (N / 2 ^ (64 * i))
theorem laneN_toNat (N i : Nat) : (laneN N i).toNat = N / 2 ^ (64 * i) % 2 ^ 64 := by unfold laneN; rw [BitVec.toNat_ofNat]
theorem or_low (x y : Nat) (hy : y < 256) : x * 256 % 18446744073709551616 ||| y = (x * 256 + y) % 18446744073709551616 := by
  have e : x * 256 % 18446744073709551616 = (x % 72057594037927936) <<< 8 := by
    rw [Nat.shiftLeft_eq]; omega
  rw [e, ← Nat.shiftLeft_add_eq_or_of_lt (show y < 2 ^ 8 from hy), Nat.shiftLeft_eq]
  omega
theorem lane_zero (N : Nat) (b : UInt8) : laneN (256 * N + b.toNat) 0 = (laneN N 0 <<< 8) ||| BitVec.ofNat 64 b.toNat := by
  have hb := b.toNat_lt
  apply BitVec.eq_of_toNat_eq
  rw [BitVec.toNat_or, BitVec.toNat_shiftLeft, laneN_toNat, laneN_toNat, BitVec.toNat_ofNat, Nat.shiftLeft_eq]
  have h1 : b.toNat % 2 ^ 64 = b.toNat := Nat.mod_eq_of_lt (by omega)
  rw [h1]
  have := or_low (N % 2 ^ 64) b.toNat (by omega)
  simp only [Nat.mul_zero, Nat.pow_zero, Nat.div_one] at *
  rw [show (2 : Nat) ^ 64 = 18446744073709551616 from rfl] at *
  rw [show (2 : Nat) ^ 8 = 256 from rfl, this]
  omega
theorem lane_succ (N : Nat) (b : UInt8) (i : Nat) : laneN (256 * N + b.toNat) (i + 1) = (laneN N (i + 1) <<< 8) ||| (laneN N i >>> 56) := by
  have hb := b.toNat_lt
  apply BitVec.eq_of_toNat_eq
  rw [BitVec.toNat_or, BitVec.toNat_shiftLeft, BitVec.toNat_ushiftRight, laneN_toNat, laneN_toNat, laneN_toNat, Nat.shiftLeft_eq, Nat.shiftRight_eq_div_pow]
  have e1 : N / 2 ^ (64 * (i + 1)) = N / 2 ^ (64 * i) / 18446744073709551616 := by
    rw [Nat.mul_add, Nat.pow_add, Nat.div_div_eq_div_mul]
  have e2 : (256 * N + b.toNat) / 2 ^ (64 * (i + 1)) = N / 2 ^ (64 * i) / 72057594037927936 := by
    have : 64 * (i + 1) = 8 + 64 * i + 56 := by omega
    rw [this, Nat.pow_add, Nat.pow_add, ← Nat.div_div_eq_div_mul, ← Nat.div_div_eq_div_mul]
    congr 2
    omega
  rw [e1, e2]
  generalize N / 2 ^ (64 * i) = M
  rw [show (2 : Nat) ^ 64 = 18446744073709551616 from rfl, show (2 : Nat) ^ 8 = 256 from rfl, show (2 : Nat) ^ 56 = 72057594037927936 from rfl]
  have := or_low (M / 18446744073709551616 % 18446744073709551616) (M % 18446744073709551616 / 72057594037927936) (by omega)
  rw [this]
  omega
def by8L (x : BitVec 64) : List UInt8 := (List.range 8).map fun j => low (x >>> ((7 - j) * 8))
theorem word_chunks (S : Nat → BitVec 64) : listOf (wordS S) 32 = by8L (S 3) ++ by8L (S 2) ++ by8L (S 1) ++ by8L (S 0) := rfl
theorem low_toNat (x : BitVec 64) (k : Nat) : (low (x >>> k)).toNat = x.toNat / 2 ^ k % 256 := by
  unfold low
  rw [UInt8.toNat_ofNat', BitVec.toNat_ushiftRight, Nat.shiftRight_eq_div_pow]
theorem fold_chunk (x : BitVec 64) (a : Nat) : (by8L x).foldl (fun a b => 256 * a + b.toNat) a = a * 18446744073709551616 + x.toNat := by
  have hx := x.isLt
  have e : by8L x = [low (x >>> 56), low (x >>> 48), low (x >>> 40), low (x >>> 32), low (x >>> 24), low (x >>> 16), low (x >>> 8), low (x >>> 0)] := rfl
  rw [e]
  simp only [List.foldl_cons, List.foldl_nil, low_toNat]
  omega
theorem valB_word (S : Nat → BitVec 64) : valB (listOf (wordS S) 32) = (((S 3).toNat * 18446744073709551616 + (S 2).toNat) * 18446744073709551616 + (S 1).toNat) * 18446744073709551616 + (S 0).toNat := by
  unfold valB
  rw [word_chunks, List.foldl_append, List.foldl_append, List.foldl_append, fold_chunk, fold_chunk, fold_chunk, fold_chunk, Nat.zero_mul, Nat.zero_add]
theorem lane_word (S : Nat → BitVec 64) (i : Nat) (hi : i < 4) : laneN (valB (listOf (wordS S) 32)) i = S i := by
  have h0 := (S 0).isLt
  have h1 := (S 1).isLt
  have h2 := (S 2).isLt
  have h3 := (S 3).isLt
  apply BitVec.eq_of_toNat_eq
  rw [laneN_toNat, valB_word]
  match i, hi with
  | 0, _ => simp only [Nat.mul_zero, Nat.pow_zero, Nat.div_one]; omega
  | 1, _ => simp only [Nat.mul_one]; omega
  | 2, _ => rw [show (2 : Nat) ^ (64 * 2) = 18446744073709551616 * 18446744073709551616 from rfl, ← Nat.div_div_eq_div_mul]; omega
  | 3, _ => rw [show (2 : Nat) ^ (64 * 3) = 18446744073709551616 * 18446744073709551616 * 18446744073709551616 from rfl, ← Nat.div_div_eq_div_mul, ← Nat.div_div_eq_div_mul]; omega
theorem decM_bytesM (l : List UInt8) (h : l.length ≤ 1048576) : decM (bytesM l) = ([(false, 0, l)], 0, 0) := decM_nest l 0 h (by omega)
theorem numM_inj {S T : Nat → BitVec 64} (h : numM S = numM T) (i : Nat) (hi : i < 4) : S i = T i := by
  have h1 := decM_bytesM (trimM 0 (listOf (wordS S) 32)) (by have := trim_len S; omega)
  have h2 := decM_bytesM (trimM 0 (listOf (wordS T) 32)) (by have := trim_len T; omega)
  unfold numM at h
  rw [h, h2] at h1
  have e : trimM 0 (listOf (wordS T) 32) = trimM 0 (listOf (wordS S) 32) := by simpa using h1
  have e2 := congrArg valB e
  rw [valB_trim, valB_trim] at e2
  rw [← lane_word S i hi, ← lane_word T i hi, e2]
theorem wordS_congr {S T : Nat → BitVec 64} (h : ∀ i, i < 4 → S i = T i) : listOf (wordS S) 32 = listOf (wordS T) 32 := by
  rw [word_chunks, word_chunks, h 0 (by omega), h 1 (by omega), h 2 (by omega), h 3 (by omega)]
def sameW (S T : Nat → BitVec 64) : Bool := (List.range 4).all fun i => S i == T i
theorem sameW_iff (S T : Nat → BitVec 64) : sameW S T = true ↔ ∀ i, i < 4 → S i = T i := by
  unfold sameW
  rw [List.all_eq_true]
  simp
theorem numM_same (S T : Nat → BitVec 64) : (numM S == numM T) = sameW S T := by
  rw [Bool.eq_iff_iff, beq_iff_eq, sameW_iff]
  constructor
  · exact numM_inj
  · intro h
    unfold numM
    rw [wordS_congr h]
end Go.Proofs.YtfhindffmghlaaaDoor
