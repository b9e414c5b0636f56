/- Plain laws: a byte laid down bit by bit; a byte read bit by bit; the padded bytes are what the program's Sum lays down. -/
import Derived.Test.YtfidjeoeaeghhaaDoorSpPad
namespace Go.Proofs.YtfidjeoeaeghhaaDoor
open Go.RowKit
/-- The lowest j bits of a byte. -/
def pb (x : UInt8) (j : Nat) : BitVec 64 := BitVec.ofNat 64 (x.toNat % 2 ^ j)
def layP (S : Nat → BitVec 64) (a : Nat) (x : UInt8) (j : Nat) : Nat → BitVec 64 := upd S (a / 8) (S (a / 8) ^^^ pb x j <<< (a % 8 * 8))
theorem layP_zero (S : Nat → BitVec 64) (a : Nat) (x : UInt8) : layP S a x 0 = S := by
  funext i
  unfold layP upd pb
  split
  · rename_i h; subst h; simp [Nat.mod_one]
  · rfl
theorem layP_all (S : Nat → BitVec 64) (a : Nat) (x : UInt8) : layP S a x 8 = layS S a x := by
  unfold layP layS pb ext
  rw [show (2 : Nat) ^ 8 = 256 from rfl, Nat.mod_eq_of_lt x.toNat_lt]
theorem pb_bit (x : UInt8) (j z : Nat) (hz : z < 64) : (pb x j).getLsbD z = (decide (z < j) && x.toNat.testBit z) := by
  unfold pb
  rw [BitVec.getLsbD_ofNat, Nat.testBit_mod_two_pow]
  simp [hz]
theorem testBit_num (n j : Nat) : n.testBit j = decide (n / 2 ^ j % 2 = 1) := by
  rw [Nat.testBit_eq_decide_div_mod_eq]
theorem bools2 : ∀ a b : Bool, ((if a then 1 else 0) + (if b then 1 else 0)) % 2 = if (a ^^ b) then 1 else (0 : Nat) := by decide
theorem layP_step (S : Nat → BitVec 64) (a : Nat) (x : UInt8) (j : Nat) (hj : j < 8) :
    tab 1600 (upd (bitsV (layP S a x j)) (8 * a + j) (.int .i64 (((bitN (layP S a x j) (8 * a + j) + x.toNat / 2 ^ j % 2) % 2 : Nat) : Int))) = tab 1600 (bitsV (layP S a x (j + 1))) := by
  refine tab_congr fun i hi => ?_
  have e0 : ∀ q, i / 64 = a / 8 → bitN (layP S a x q) i = if ((S (a / 8)).getLsbD (i % 64) ^^ (decide (a % 8 * 8 ≤ i % 64) && (decide (i % 64 - a % 8 * 8 < q) && x.toNat.testBit (i % 64 - a % 8 * 8)))) then 1 else 0 := by
    intro q h
    unfold bitN layP upd
    rw [h, if_pos rfl, BitVec.getLsbD_xor, BitVec.getLsbD_shiftLeft, pb_bit _ _ _ (by omega)]
    simp only [show i % 64 < 64 by omega, decide_true, Bool.true_and]
    by_cases h2 : i % 64 < a % 8 * 8
    · simp [h2, show ¬ a % 8 * 8 ≤ i % 64 by omega]
    · simp [h2, show a % 8 * 8 ≤ i % 64 by omega]
  have hb : bitN (layP S a x (j + 1)) i = if i = 8 * a + j then (bitN (layP S a x j) (8 * a + j) + x.toNat / 2 ^ j % 2) % 2 else bitN (layP S a x j) i := by
    by_cases hl : i / 64 = a / 8
    · by_cases hij : i = 8 * a + j
      · rw [if_pos hij, ← hij, e0 _ hl, e0 _ hl]
        have hz : i % 64 - a % 8 * 8 = j := by omega
        have hle : a % 8 * 8 ≤ i % 64 := by omega
        have hr : x.toNat / 2 ^ j % 2 = if x.toNat.testBit j then 1 else 0 := by
          rw [testBit_num]
          by_cases h : x.toNat / 2 ^ j % 2 = 1
          · simp [h]
          · simp [h]; omega
        rw [hz, hr, bools2]
        simp [hle]
      · rw [if_neg hij, e0 _ hl, e0 _ hl]
        have : (decide (a % 8 * 8 ≤ i % 64) && (decide (i % 64 - a % 8 * 8 < j + 1) && x.toNat.testBit (i % 64 - a % 8 * 8))) = (decide (a % 8 * 8 ≤ i % 64) && (decide (i % 64 - a % 8 * 8 < j) && x.toNat.testBit (i % 64 - a % 8 * 8))) := by
          by_cases h1 : a % 8 * 8 ≤ i % 64
          · have : decide (i % 64 - a % 8 * 8 < j + 1) = decide (i % 64 - a % 8 * 8 < j) := by
              rw [decide_eq_decide]; omega
            rw [this]
          · simp [h1]
        rw [this]
    · rw [if_neg (by omega)]
      unfold bitN layP upd
      rw [if_neg hl, if_neg hl]
  unfold upd bitsV
  rw [hb]
  split <;> rfl
theorem low_toNat (x : BitVec 64) : (low x).toNat = x.toNat % 256 := by
  unfold low
  rw [UInt8.toNat_ofNat']
theorem byte_bit (P : Nat → BitVec 64) (i j : Nat) (hj : j < 8) : bitN P (8 * i + j) = (byteOf P i).toNat / 2 ^ j % 2 := by
  unfold byteOf bitN
  rw [low_toNat, show (8 * i + j) / 64 = i / 8 by omega, show (8 * i + j) % 64 = i % 8 * 8 + j by omega]
  have h1 : (P (i / 8)).getLsbD (i % 8 * 8 + j) = (P (i / 8) >>> (i % 8 * 8)).toNat.testBit j := by
    rw [← BitVec.getLsbD_ushiftRight]; rfl
  rw [h1]
  generalize (P (i / 8) >>> (i % 8 * 8)).toNat = m
  have h2 : (m % 256).testBit j = m.testBit j := by
    rw [show (256 : Nat) = 2 ^ 8 from rfl, Nat.testBit_mod_two_pow]; simp [hj]
  rw [← h2, testBit_num]
  by_cases h : m % 256 / 2 ^ j % 2 = 1
  · simp [h]
  · simp [h]; omega
theorem stepS_snd (s : (Nat → BitVec 64) × Nat) (b : UInt8) (h : s.2 < 136) : (stepS s b).2 = (s.2 + 1) % 136 := by
  unfold stepS
  by_cases e : s.2 + 1 = 136
  · rw [if_pos e, e]
  · rw [if_neg e]; simp only; omega
theorem writeS_snd (l : List UInt8) : ∀ s : (Nat → BitVec 64) × Nat, s.2 < 136 → (writeS s l).2 = (s.2 + l.length) % 136 := by
  induction l with
  | nil => intro s hs; simp only [writeS, List.foldl_nil, List.length_nil, Nat.add_zero]; omega
  | cons b l ih =>
    intro s hs
    show (writeS (stepS s b) l).2 = _
    rw [ih _ (stepS_lt hs b), stepS_snd s b hs, List.length_cons]
    omega
theorem layS_zero (S : Nat → BitVec 64) (a : Nat) : layS S a 0 = S := by
  rw [← layP_all]
  have : layP S a 0 8 = layP S a 0 0 := by unfold layP pb; simp
  rw [this, layP_zero]
theorem writeS_zeros (S : Nat → BitVec 64) (z : Nat) : ∀ n, n + z < 136 → writeS (S, n) (List.replicate z 0) = (S, n + z) := by
  induction z with
  | zero => intro n _; rfl
  | succ z ih =>
    intro n hn
    show writeS (stepS (S, n) 0) (List.replicate z 0) = _
    have : stepS (S, n) 0 = (S, n + 1) := by unfold stepS; rw [if_neg (by simp; omega)]; simp [layS_zero]
    rw [this, ih (n + 1) (by omega)]
    congr 1
    omega
theorem layS_129 (S : Nat → BitVec 64) : layS S 135 129 = layS (layS S 135 1) 135 128 := by
  funext i
  unfold layS upd
  by_cases h : i = 135 / 8
  · simp only [if_pos h, if_pos trivial]
    rw [BitVec.xor_assoc]
    rfl
  · simp only [if_neg h]
/-- What is laid down with the padding is what Sum permutes last. -/
theorem writeS_pad (l : List UInt8) : writeS (zeroS, 0) (padL l) = (permS (layS (layS (writeS (zeroS, 0) l).1 (writeS (zeroS, 0) l).2 1) 135 128), 0) := by
  unfold padL
  rw [writeS_append]
  have hn := writeS_snd l (zeroS, 0) (by simp)
  simp only [Nat.zero_add] at hn
  generalize writeS (zeroS, 0) l = T at *
  obtain ⟨S, n⟩ := T
  simp only at hn
  unfold padTail
  by_cases hz : zerosN l.length = 0
  · rw [if_pos hz]
    have hn2 : n = 135 := by unfold zerosN at hz; omega
    subst hn2
    show stepS (S, 135) 129 = _
    unfold stepS
    rw [if_pos rfl, layS_129]
  · rw [if_neg hz]
    have hn3 : n + zerosN l.length = 135 := by unfold zerosN at hz ⊢; omega
    show writeS (stepS (S, n) 1) _ = _
    have h1 : stepS (S, n) 1 = (layS S n 1, n + 1) := by unfold stepS; rw [if_neg (by simp; omega)]
    rw [h1, writeS_append, writeS_zeros _ _ _ (by omega)]
    show stepS (_, n + 1 + (zerosN l.length - 1)) 128 = _
    rw [show n + 1 + (zerosN l.length - 1) = 135 by omega]
    unfold stepS
    rw [if_pos rfl]
theorem hash_pad (l : List UInt8) (i : Nat) : byteOf (writeS (zeroS, 0) (padL l)).1 i = hashS l i := by rw [writeS_pad]; rfl
end Go.Proofs.YtfidjeoeaeghhaaDoor
