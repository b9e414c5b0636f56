/- Plain law: all rounds together are one to one: the same Permute comes of the same state alone. -/
import Derived.Test.YtfidjeoeaeghhaaDoorSpRefB
import Derived.Test.YtfidjeoeaeghhaaDoorSpPermute
namespace Go.Proofs.YtfidjeoeaeghhaaDoor
open Go.RowKit
/-- The columns' sums, bit by bit: from one step to the step twice as wide. -/
def S3 (f : Nat → Nat → Bool) (a b d x z : Nat) : Bool := f (x + a) z ^^ (f (x + b) z ^^ f (x + d) z)
theorem cols_twice (f : Nat → Nat → Bool) (a b d k : Nat) (h : ∀ x z, f x z = (S3 f a b d x z ^^ S3 f a b d x (z + k))) (x z : Nat) :
    f x z = (S3 f (2 * a) (2 * b) (2 * d) x z ^^ S3 f (2 * a) (2 * b) (2 * d) x (z + 2 * k)) := by
  have key : ∀ y, (S3 f a b d (x + a) y ^^ (S3 f a b d (x + b) y ^^ S3 f a b d (x + d) y)) = S3 f (2 * a) (2 * b) (2 * d) x y := by
    intro y
    unfold S3
    rw [show x + a + a = x + 2 * a by omega, show x + b + b = x + 2 * b by omega, show x + d + d = x + 2 * d by omega, show x + b + a = x + a + b by omega, show x + d + a = x + a + d by omega, show x + d + b = x + b + d by omega]
    generalize f (x + 2 * a) y = p1
    generalize f (x + 2 * b) y = p2
    generalize f (x + 2 * d) y = p3
    generalize f (x + a + b) y = p4
    generalize f (x + a + d) y = p5
    generalize f (x + b + d) y = p6
    revert p1 p2 p3 p4 p5 p6
    decide
  have e : ∀ y, S3 f a b d x y = (S3 f (2 * a) (2 * b) (2 * d) x y ^^ S3 f (2 * a) (2 * b) (2 * d) x (y + k)) := by
    intro y
    rw [← key y, ← key (y + k)]
    conv => lhs; unfold S3
    rw [h (x + a) y, h (x + b) y, h (x + d) y]
    generalize S3 f a b d (x + a) y = p1
    generalize S3 f a b d (x + b) y = p2
    generalize S3 f a b d (x + d) y = p3
    generalize S3 f a b d (x + a) (y + k) = p4
    generalize S3 f a b d (x + b) (y + k) = p5
    generalize S3 f a b d (x + d) (y + k) = p6
    revert p1 p2 p3 p4 p5 p6
    decide
  rw [h x z, e z, e (z + k), show z + k + k = z + 2 * k by omega]
  generalize S3 f (2 * a) (2 * b) (2 * d) x z = p1
  generalize S3 f (2 * a) (2 * b) (2 * d) x (z + k) = p2
  generalize S3 f (2 * a) (2 * b) (2 * d) x (z + 2 * k) = p3
  revert p1 p2 p3
  decide
theorem cols_zero (f : Nat → Nat → Bool) (hx : ∀ x z, f (x + 5) z = f x z) (hz : ∀ x z, f x (z + 64) = f x z) (h : ∀ x z, f x z = (f (x + 4) z ^^ f (x + 1) (z + 63))) (x z : Nat) : f x z = false := by
  have h1 : ∀ x z, f x z = (S3 f 1 4 3 x z ^^ S3 f 1 4 3 x (z + 63)) := by
    intro x z
    have e1 := h (x + 1) z
    have e2 := h (x + 2) z
    have e3 := h (x + 3) z
    have e4 := h (x + 4) z
    have e0 := h x z
    rw [show x + 1 + 4 = x + 5 by omega, hx, show x + 1 + 1 = x + 2 by omega] at e1
    rw [show x + 2 + 4 = x + 1 + 5 by omega, hx, show x + 2 + 1 = x + 3 by omega] at e2
    rw [show x + 3 + 4 = x + 2 + 5 by omega, hx, show x + 3 + 1 = x + 4 by omega] at e3
    rw [show x + 4 + 4 = x + 3 + 5 by omega, hx, show x + 4 + 1 = x + 5 by omega, hx] at e4
    unfold S3
    generalize f x z = p0 at *
    generalize f (x + 1) z = p1 at *
    generalize f (x + 2) z = p2 at *
    generalize f (x + 3) z = p3 at *
    generalize f (x + 4) z = p4 at *
    generalize f x (z + 63) = q0 at *
    generalize f (x + 1) (z + 63) = q1 at *
    generalize f (x + 2) (z + 63) = q2 at *
    generalize f (x + 3) (z + 63) = q3 at *
    generalize f (x + 4) (z + 63) = q4 at *
    clear h hx hz
    revert e0 e1 e2 e3 e4
    revert p0 p1 p2 p3 p4 q0 q1 q2 q3 q4
    decide
  have h2 := cols_twice f _ _ _ _ h1
  have h3 := cols_twice f _ _ _ _ h2
  have h4 := cols_twice f _ _ _ _ h3
  have h5 := cols_twice f _ _ _ _ h4
  have h6 := cols_twice f _ _ _ _ h5
  have h7 := cols_twice f _ _ _ _ h6
  have hz2 : ∀ n x z, f x (z + 64 * n) = f x z := by
    intro n
    induction n with
    | zero => intro x z; rfl
    | succ n ih => intro x z; rw [show z + 64 * (n + 1) = z + 64 * n + 64 by omega, hz, ih]
  rw [h7 x z]
  unfold S3
  rw [show z + 2 * (2 * (2 * (2 * (2 * (2 * 63))))) = z + 64 * 63 by omega, hz2, hz2, hz2]
  simp
theorem rot_inj {a b : BitVec 64} {r : Nat} (hr : r < 64) (h : a.rotateLeft r = b.rotateLeft r) : a = b := by
  apply BitVec.eq_of_getLsbD_eq
  intro z hz
  have e : (a.rotateLeft r).getLsbD ((z + r) % 64) = (b.rotateLeft r).getLsbD ((z + r) % 64) := by rw [h]
  rw [rot_bit _ _ _ hr (Nat.mod_lt _ (by omega)), rot_bit _ _ _ hr (Nat.mod_lt _ (by omega)), show ((z + r) % 64 + 64 - r) % 64 = z by omega] at e
  exact e
theorem src_of_dest : ∀ i, i < 25 → src (dest i) = i ∧ dest i < 25 := by decide
theorem moved_inj {A B : Nat → BitVec 64} (h : ∀ i, i < 25 → movedS A i = movedS B i) (i : Nat) (hi : i < 25) : A i = B i := by
  have h1 := h (dest i) (src_of_dest i hi).2
  unfold movedS at h1
  rw [(src_of_dest i hi).1] at h1
  exact rot_inj (turnsN_lt i) h1
theorem chi_bits : ∀ a0 a1 a2 a3 a4 b0 b1 b2 b3 b4 : Bool, (a0 ^^ (a2 && !a1)) = (b0 ^^ (b2 && !b1)) → (a1 ^^ (a3 && !a2)) = (b1 ^^ (b3 && !b2)) → (a2 ^^ (a4 && !a3)) = (b2 ^^ (b4 && !b3)) →
    (a3 ^^ (a0 && !a4)) = (b3 ^^ (b0 && !b4)) → (a4 ^^ (a1 && !a0)) = (b4 ^^ (b1 && !b0)) → a0 = b0 ∧ a1 = b1 ∧ a2 = b2 ∧ a3 = b3 ∧ a4 = b4 := by decide +kernel
theorem bent_bit (A : Nat → BitVec 64) (r x y v : Nat) (hr : x < 5) (hy : y = (x + 1) % 5) (hv : v = (x + 2) % 5) (z : Nat) (hz : z < 64) :
    (bentS A (5 * r + x)).getLsbD z = ((A (5 * r + x)).getLsbD z ^^ ((A (5 * r + v)).getLsbD z && !(A (5 * r + y)).getLsbD z)) := by
  unfold bentS
  rw [BitVec.getLsbD_xor, BitVec.getLsbD_and, BitVec.getLsbD_not, show 5 * r + x - (5 * r + x) % 5 + (5 * r + x + 2) % 5 = 5 * r + v by omega, show 5 * r + x - (5 * r + x) % 5 + (5 * r + x + 1) % 5 = 5 * r + y by omega]
  simp [hz]
theorem bent_inj {A B : Nat → BitVec 64} (h : ∀ i, i < 25 → bentS A i = bentS B i) (i : Nat) (hi : i < 25) : A i = B i := by
  apply BitVec.eq_of_getLsbD_eq
  intro z hz
  have hh : ∀ x, x < 5 → (bentS A (5 * (i / 5) + x)).getLsbD z = (bentS B (5 * (i / 5) + x)).getLsbD z := fun x hx => by rw [h _ (by omega)]
  have g0 := hh 0 (by omega)
  have g1 := hh 1 (by omega)
  have g2 := hh 2 (by omega)
  have g3 := hh 3 (by omega)
  have g4 := hh 4 (by omega)
  rw [bent_bit A _ 0 1 2 (by omega) rfl rfl z hz, bent_bit B _ 0 1 2 (by omega) rfl rfl z hz] at g0
  rw [bent_bit A _ 1 2 3 (by omega) rfl rfl z hz, bent_bit B _ 1 2 3 (by omega) rfl rfl z hz] at g1
  rw [bent_bit A _ 2 3 4 (by omega) rfl rfl z hz, bent_bit B _ 2 3 4 (by omega) rfl rfl z hz] at g2
  rw [bent_bit A _ 3 4 0 (by omega) rfl rfl z hz, bent_bit B _ 3 4 0 (by omega) rfl rfl z hz] at g3
  rw [bent_bit A _ 4 0 1 (by omega) rfl rfl z hz, bent_bit B _ 4 0 1 (by omega) rfl rfl z hz] at g4
  obtain ⟨r0, r1, r2, r3, r4⟩ := chi_bits _ _ _ _ _ _ _ _ _ _ g0 g1 g2 g3 g4
  have hd : i = 5 * (i / 5) + i % 5 := by omega
  have hm : i % 5 < 5 := Nat.mod_lt _ (by omega)
  generalize i / 5 = r at *
  generalize i % 5 = x at *
  subst hd
  match x, hm with
  | 0, _ => exact r0
  | 1, _ => exact r1
  | 2, _ => exact r2
  | 3, _ => exact r3
  | 4, _ => exact r4
theorem spread_bit (A : Nat → BitVec 64) (i z : Nat) (hz : z < 64) : (spreadS A i).getLsbD z = ((A i).getLsbD z ^^ ((colX A ((i + 4) % 5)).getLsbD z ^^ (colX A ((i + 1) % 5)).getLsbD ((z + 63) % 64))) := by
  unfold spreadS
  rw [BitVec.getLsbD_xor, BitVec.getLsbD_xor, rot1_bit _ _ hz]
theorem spread_inj {A B : Nat → BitVec 64} (h : ∀ i, i < 25 → spreadS A i = spreadS B i) (i : Nat) (hi : i < 25) : A i = B i := by
  have hb : ∀ i z, i < 25 → ((A i).getLsbD (z % 64) ^^ (B i).getLsbD (z % 64)) = (((colX A ((i + 4) % 5)).getLsbD (z % 64) ^^ (colX B ((i + 4) % 5)).getLsbD (z % 64)) ^^ ((colX A ((i + 1) % 5)).getLsbD ((z + 63) % 64) ^^ (colX B ((i + 1) % 5)).getLsbD ((z + 63) % 64))) := by
    intro i z hi
    have e : (spreadS A i).getLsbD (z % 64) = (spreadS B i).getLsbD (z % 64) := by rw [h i hi]
    rw [spread_bit _ _ _ (Nat.mod_lt _ (by omega)), spread_bit _ _ _ (Nat.mod_lt _ (by omega)), show (z % 64 + 63) % 64 = (z + 63) % 64 by omega] at e
    generalize (A i).getLsbD (z % 64) = p1 at *
    generalize (B i).getLsbD (z % 64) = p2 at *
    generalize (colX A ((i + 4) % 5)).getLsbD (z % 64) = p3 at *
    generalize (colX B ((i + 4) % 5)).getLsbD (z % 64) = p4 at *
    generalize (colX A ((i + 1) % 5)).getLsbD ((z + 63) % 64) = p5 at *
    generalize (colX B ((i + 1) % 5)).getLsbD ((z + 63) % 64) = p6 at *
    clear h
    revert e
    revert p1 p2 p3 p4 p5 p6
    decide
  have hf := cols_zero (fun x z => (colX A (x % 5)).getLsbD (z % 64) ^^ (colX B (x % 5)).getLsbD (z % 64)) (fun x z => by simp) (fun x z => by simp) (by
    intro x z
    have b0 := hb (x % 5) z (by omega)
    have b1 := hb (x % 5 + 5) z (by omega)
    have b2 := hb (x % 5 + 10) z (by omega)
    have b3 := hb (x % 5 + 15) z (by omega)
    have b4 := hb (x % 5 + 20) z (by omega)
    rw [show (x % 5 + 4) % 5 = (x + 4) % 5 by omega, show (x % 5 + 1) % 5 = (x + 1) % 5 by omega] at b0
    rw [show (x % 5 + 5 + 4) % 5 = (x + 4) % 5 by omega, show (x % 5 + 5 + 1) % 5 = (x + 1) % 5 by omega] at b1
    rw [show (x % 5 + 10 + 4) % 5 = (x + 4) % 5 by omega, show (x % 5 + 10 + 1) % 5 = (x + 1) % 5 by omega] at b2
    rw [show (x % 5 + 15 + 4) % 5 = (x + 4) % 5 by omega, show (x % 5 + 15 + 1) % 5 = (x + 1) % 5 by omega] at b3
    rw [show (x % 5 + 20 + 4) % 5 = (x + 4) % 5 by omega, show (x % 5 + 20 + 1) % 5 = (x + 1) % 5 by omega] at b4
    show ((colX A (x % 5)).getLsbD (z % 64) ^^ (colX B (x % 5)).getLsbD (z % 64)) = (((colX A ((x + 4) % 5)).getLsbD (z % 64) ^^ (colX B ((x + 4) % 5)).getLsbD (z % 64)) ^^ ((colX A ((x + 1) % 5)).getLsbD ((z + 63) % 64) ^^ (colX B ((x + 1) % 5)).getLsbD ((z + 63) % 64)))
    generalize ((colX A ((x + 4) % 5)).getLsbD (z % 64) ^^ (colX B ((x + 4) % 5)).getLsbD (z % 64)) = u at *
    generalize ((colX A ((x + 1) % 5)).getLsbD ((z + 63) % 64) ^^ (colX B ((x + 1) % 5)).getLsbD ((z + 63) % 64)) = v at *
    unfold colX
    simp only [BitVec.getLsbD_xor]
    generalize (A (x % 5)).getLsbD (z % 64) = p0 at *
    generalize (A (x % 5 + 5)).getLsbD (z % 64) = p1 at *
    generalize (A (x % 5 + 10)).getLsbD (z % 64) = p2 at *
    generalize (A (x % 5 + 15)).getLsbD (z % 64) = p3 at *
    generalize (A (x % 5 + 20)).getLsbD (z % 64) = p4 at *
    generalize (B (x % 5)).getLsbD (z % 64) = q0 at *
    generalize (B (x % 5 + 5)).getLsbD (z % 64) = q1 at *
    generalize (B (x % 5 + 10)).getLsbD (z % 64) = q2 at *
    generalize (B (x % 5 + 15)).getLsbD (z % 64) = q3 at *
    generalize (B (x % 5 + 20)).getLsbD (z % 64) = q4 at *
    clear hb h
    have hsum : (p0 ^^ p1 ^^ p2 ^^ p3 ^^ p4 ^^ (q0 ^^ q1 ^^ q2 ^^ q3 ^^ q4)) = ((p0 ^^ q0) ^^ (p1 ^^ q1) ^^ (p2 ^^ q2) ^^ (p3 ^^ q3) ^^ (p4 ^^ q4)) := by
      clear b0 b1 b2 b3 b4 u v
      revert p0 p1 p2 p3 p4 q0 q1 q2 q3 q4
      decide +kernel
    rw [hsum, b0, b1, b2, b3, b4]
    clear hsum b0 b1 b2 b3 b4
    revert u v
    decide)
  apply BitVec.eq_of_getLsbD_eq
  intro z hz
  have e := hb i z hi
  have e1 : ((colX A ((i + 4) % 5)).getLsbD (z % 64) ^^ (colX B ((i + 4) % 5)).getLsbD (z % 64)) = false := hf (i + 4) z
  have e2 : ((colX A ((i + 1) % 5)).getLsbD ((z + 63) % 64) ^^ (colX B ((i + 1) % 5)).getLsbD ((z + 63) % 64)) = false := hf (i + 1) (z + 63)
  rw [e1, e2, Nat.mod_eq_of_lt hz] at e
  revert e
  generalize (A i).getLsbD z = p1
  generalize (B i).getLsbD z = p2
  revert p1 p2
  decide
theorem round_inj (k : Nat) {A B : Nat → BitVec 64} (h : ∀ i, i < 25 → roundS k A i = roundS k B i) (i : Nat) (hi : i < 25) : A i = B i := by
  refine spread_inj (moved_inj (bent_inj ?_)) i hi
  intro j hj
  have e := h j hj
  unfold roundS upd at e
  by_cases h0 : j = 0
  · subst h0
    rw [if_pos rfl, if_pos rfl] at e
    exact (BitVec.xor_left_inj _).1 e
  · rw [if_neg h0, if_neg h0] at e
    exact e
theorem rounds_inj (n : Nat) : ∀ {A B : Nat → BitVec 64}, (∀ i, i < 25 → roundsS n A i = roundsS n B i) → ∀ i, i < 25 → A i = B i := by
  induction n with
  | zero => exact fun h => h
  | succ n ih => exact fun h => ih (round_inj n h)
theorem perm_inj {A B : Nat → BitVec 64} (h : ∀ i, i < 25 → permS A i = permS B i) : ∀ i, i < 25 → A i = B i := rounds_inj 24 h
end Go.Proofs.YtfidjeoeaeghhaaDoor
