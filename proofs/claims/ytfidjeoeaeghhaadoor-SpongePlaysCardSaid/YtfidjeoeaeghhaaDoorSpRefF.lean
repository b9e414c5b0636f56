/- The document's own sponge: the fifth thing of a round, and all rounds: they are what the program's rounds are. -/
import Derived.Test.YtfidjeoeaeghhaaDoorSpRefE
import Derived.Test.YtfidjeoeaeghhaaDoorSpPermute
namespace Go.Proofs.YtfidjeoeaeghhaaDoor
open Go.RowKit
/-- The register as a number: its bit j is the register's bit j. -/
def stepM (m : Nat) : Nat := if m / 128 % 2 = 1 then (2 * m ^^^ 0x71) % 256 else 2 * m % 256
def regM : Nat → Nat
  | 0 => 1
  | i + 1 => stepM (regM i)
theorem stepM_bits : ∀ (m : Fin 256) (j : Fin 8), stepM m.val / 2 ^ j.val % 2 =
    if m.val / 2 ^ 7 % 2 = 1 then (if j.val = 0 then 1 else if j.val = 4 ∨ j.val = 5 ∨ j.val = 6 then 1 - m.val / 2 ^ (j.val - 1) % 2 else m.val / 2 ^ (j.val - 1) % 2) else (if j.val = 0 then 0 else m.val / 2 ^ (j.val - 1) % 2) := by decide +kernel
theorem regM_lt (i : Nat) : regM i < 256 := by
  cases i with
  | zero => decide
  | succ i => unfold regM stepM; split <;> omega
theorem regF_eq (i : Nat) : ∀ j, j < 8 → regF i j = regM i / 2 ^ j % 2 := by
  induction i with
  | zero =>
    intro j hj
    have : ∀ j : Fin 8, regF 0 j.val = regM 0 / 2 ^ j.val % 2 := by decide
    exact this ⟨j, hj⟩
  | succ i ih =>
    intro j hj
    have h := stepM_bits ⟨regM i, regM_lt i⟩ ⟨j, hj⟩
    simp only at h
    show _ = stepM (regM i) / 2 ^ j % 2
    rw [h]
    show (if regF i 7 = 1 then _ else _) = _
    rw [ih 7 (by omega), ih (j - 1) (by omega)]
/-- The round's constant, as far as its first j bits are laid. -/
def mk (k : Nat) : Nat → BitVec 64
  | 0 => 0
  | j + 1 => mk k j ^^^ (if regM (j + 7 * k) % 2 = 1 then 1#64 <<< (2 ^ j - 1) else 0)
theorem mk_all (k : Nat) (hk : k < 24) : mk k 7 = marksN k := by
  have : ∀ k : Fin 24, mk k.val 7 = marksN k.val := by decide +kernel
  exact this ⟨k, hk⟩
theorem mk_bools : ∀ a b : Bool, ((if a then 1 else 0) + (if b then 1 else 0)) % 2 = if (a ^^ b) then 1 else (0 : Nat) := by decide
def withMark (A : Nat → BitVec 64) (k j : Nat) : Nat → BitVec 64 := upd A 0 (A 0 ^^^ mk k j)
theorem one_shift (p i : Nat) (hp : p < 64) (hi : i < 64) : (1#64 <<< p).getLsbD i = decide (i = p) := by
  rw [BitVec.getLsbD_shiftLeft]
  by_cases h : i = p
  · subst h; simp [hi]
  · rcases Nat.lt_or_ge i p with h2 | h2
    · simp [h, h2]
    · have : i - p ≠ 0 := by omega
      simp [h, show ¬ i < p by omega, BitVec.getLsbD_one, this]
theorem withMark_step (A : Nat → BitVec 64) (k j : Nat) (hj : j < 7) :
    tab 1600 (upd (bitsV (withMark A k j)) (2 ^ j - 1) (.int .i64 (((bitN (withMark A k j) (2 ^ j - 1) + regF (j + 7 * k) 0) % 2 : Nat) : Int))) = tab 1600 (bitsV (withMark A k (j + 1))) := by
  have hp : 2 ^ j - 1 < 64 := by
    have : ∀ j : Fin 7, 2 ^ j.val - 1 < 64 := by decide
    exact this ⟨j, hj⟩
  rw [regF_eq _ 0 (by omega), Nat.pow_zero, Nat.div_one]
  refine tab_congr fun i hi => ?_
  have hb : bitN (withMark A k (j + 1)) i = if i = 2 ^ j - 1 then (bitN (withMark A k j) (2 ^ j - 1) + regM (j + 7 * k) % 2) % 2 else bitN (withMark A k j) i := by
    by_cases h0 : i / 64 = 0
    · have hi64 : i < 64 := by omega
      have e0 : ∀ q, bitN (withMark A k q) i = if (A 0 ^^^ mk k q).getLsbD i then 1 else 0 := fun q => by
        unfold bitN withMark upd
        rw [h0, if_pos rfl, Nat.mod_eq_of_lt hi64]
      rw [e0]
      have e1 : (A 0 ^^^ mk k (j + 1)).getLsbD i = ((A 0 ^^^ mk k j).getLsbD i ^^ (decide (i = 2 ^ j - 1) && decide (regM (j + 7 * k) % 2 = 1))) := by
        show (A 0 ^^^ (mk k j ^^^ _)).getLsbD i = _
        rw [← BitVec.xor_assoc, BitVec.getLsbD_xor]
        congr 1
        split
        · rename_i h; rw [one_shift _ _ hp hi64]; simp [h]
        · rename_i h; simp [h]
      rw [e1]
      by_cases hij : i = 2 ^ j - 1
      · rw [if_pos hij]
        have e2 := e0 j
        rw [hij] at e2 ⊢
        rw [e2]
        have hr : regM (j + 7 * k) % 2 = if decide (regM (j + 7 * k) % 2 = 1) then 1 else 0 := by
          split
          · rename_i h; simpa using h
          · rename_i h; simp at h; omega
        rw [decide_eq_true rfl, Bool.true_and]
        generalize decide (regM (j + 7 * k) % 2 = 1) = b at *
        rw [hr]
        exact (mk_bools _ b).symm
      · rw [if_neg hij, decide_eq_false hij, Bool.false_and, Bool.xor_false, e0]
    · rw [if_neg (by omega)]
      unfold bitN withMark upd
      rw [if_neg h0, if_neg h0]
  unfold upd bitsV
  rw [hb]
  split <;> rfl
set_option maxHeartbeats 1000000 in
set_option maxRecDepth 100000 in
theorem marked_calls (A : Nat → BitVec 64) (k g c : Nat) (hk : k < 24) (w : World) (hg : g < w.heap.size) (hrow : ∀ j, j < 168 → w.cell? ⟨g, j, none⟩ = some (num (regF j 0))) :
    Calls Tryd.prog 42 #[.agg (tab 1600 (bitsV A)), .int .i64 (k : Int), .slice (some ⟨g, 0, none⟩) 168 c] w fun e w' => e = .returned (.agg (tab 1600 (bitsV (upd A 0 (A 0 ^^^ marksN k))))) ∧ Below w.heap.size w w' := by
  have HR := Lib.hid hrow
  clear hrow
  go_enter Tryd.func42, Tryd.ntmps42
  go_wp2_with (first
    | (refine wpL_alloc rfl 62 rfl (tab 1600 fun _ => .int .i64 0) (by kernel_rfl) ?_))
  go_loopw [7, 8] (fun z i wr => ∃ j : Nat, j ≤ 7 ∧ i = .int .i64 j ∧ z = .int .i64 ((2 ^ j : Nat) : Int) ∧ Blk wr w.heap.size 62 (tab 1600 (bitsV (withMark A k j))) ∧ Below w.heap.size w wr ∧ ∃ V, Blk wr (w.heap.size + 1) 62 (tab 1600 V)) (fun _ i _ => 7 - (intOf i).toNat)
  case atStart =>
    refine ⟨0, by omega, rfl, rfl, ((Blk.new w _ _).alloc _).same (tab_congr fun i _ => ?_), ((Below.refl _ _).alloc (Nat.le_refl _) _).alloc (by simp) _, ⟨fun _ => .int .i64 0, Blk.new' _ _ _ (by simp)⟩⟩
    unfold bitsV bitN withMark upd
    by_cases h : i / 64 = 0
    · simp [h, mk]
    · simp [h]
  case round =>
    obtain ⟨j, hj, rfl, rfl, hA, hB, V, hV⟩ := hrel
    by_cases hlt : j < 7
    · have dj : decide ((j : Int) < 7) = true := by simp; omega
      have hp : 2 ^ j ≤ 64 ∧ 1 ≤ 2 ^ j := by
        have : ∀ j : Fin 7, 2 ^ j.val ≤ 64 ∧ 1 ≤ 2 ^ j.val := by decide
        exact this ⟨j, hlt⟩
      have Hs := Lib.hid (withMark_step A k j hlt)
      have Hp := Lib.hid (show 2 * 2 ^ j = 2 ^ (j + 1) by rw [Nat.pow_succ]; omega)
      generalize 2 ^ j = p at *
      obtain ⟨hp1, hp2⟩ := hp
      have c0 := hA.bit (p - 1) (by omega)
      have f0 := hA.frozen (p - 1)
      have c1 : wr.cell? ⟨g, j + 7 * k, none⟩ = some (.int .i64 (regF (j + 7 * k) 0 : Int)) := (hB.cell (p := ⟨g, _, none⟩) hg).trans (HR.out _ (by omega))
      have b0 := bitN_le (withMark A k j) (p - 1)
      have b1 : (regF (j + 7 * k) 0 : Int) ≤ 1 := by have := regF_le (j + 7 * k) 0; omega
      have e1 : IntKind.i64.wrap ((p : Int) - 1) = (p : Int) - 1 := IntWalk.i64_in _ (by omega)
      have n1 : (0 : Int) ≤ (p : Int) - 1 := by omega
      have n2 : (1 : Int) ≤ (p : Int) := by omega
      have t1 : ((p : Int) - 1).toNat = p - 1 := by omega
      have l1 : (p : Int) - 1 < 1600 := by omega
      have e2 : IntKind.i64.wrap (7 * (k : Int)) = 7 * (k : Int) := IntWalk.i64_in _ (by omega)
      have e3 : IntKind.i64.wrap ((j : Int) + 7 * (k : Int)) = (j : Int) + 7 * (k : Int) := IntWalk.i64_in _ (by omega)
      have n3 : (0 : Int) ≤ (j : Int) + 7 * (k : Int) := by omega
      have t3 : ((j : Int) + 7 * (k : Int)).toNat = j + 7 * k := by omega
      have l3 : (j : Int) + 7 * (k : Int) < 168 := by omega
      have e4 : IntKind.i64.wrap ((bitN (withMark A k j) (p - 1) : Int) + (regF (j + 7 * k) 0 : Int)) = (bitN (withMark A k j) (p - 1) : Int) + (regF (j + 7 * k) 0 : Int) := IntWalk.i64_in _ (by omega)
      have r4 : ((bitN (withMark A k j) (p - 1) : Int) + (regF (j + 7 * k) 0 : Int)).tmod 2 = (((bitN (withMark A k j) (p - 1) + regF (j + 7 * k) 0) % 2 : Nat) : Int) := by
        rw [Int.tmod_eq_emod_of_nonneg (by omega)]; norm_cast
      have HA := Lib.hid hA
      have HV := Lib.hid hV
      have HB := Lib.hid hB
      clear hA hV hB
      go_wp2_with fail
      go_still_tail 18, (by kernel_rfl)
      change wpList _ _ _ _ _ wr.drew
      clear e1 n1 n2 t1 l1 e2 e3 n3 t3 l3 e4 r4 c1 b0 b1
      go_wp2_with fail
      refine ⟨⟨j + 1, by omega, by go_num, ?_, ?_, (HB.out.setCell (by simp) _).drew, V, (HV.out.far (by simp) _).drew⟩, by simp [intOf]; omega⟩
      · rw [← Hp.out]; go_num
      · have e : (((bitN (withMark A k j) (p - 1) : Int) + (regF (j + 7 * k) 0 : Int)) % 2) = (((bitN (withMark A k j) (p - 1) + regF (j + 7 * k) 0) % 2 : Nat) : Int) := by norm_cast
        rw [e]
        exact ((HA.out.put _ _).same Hs.out).drew
    · have dj : decide ((j : Int) < 7) = false := by simp; omega
      have HA := Lib.hid (hA.same (tab_congr (T := bitsV (upd A 0 (A 0 ^^^ marksN k))) fun i _ => by rw [← mk_all k hk, show j = 7 by omega]; rfl))
      have HV := Lib.hid hV
      clear hA hV
      go_wp2_with (first
        | (refine wpL_load rfl 62 (.tmp 3) rfl (n := 1600) 0 rfl _ HA.out (by omega) Tryd.underlying62 rfl (by kernel_rfl) ?_)
        | (refine wpL_store rfl 62 (.tmp 6) (.tmp 33) rfl 0 rfl rfl HV.out (by omega) (by kernel_rfl) (fun _ => rfl) ?_))
      refine ret_cell rfl rfl _ (HV.out.setRow.same ?_) Tryd.underlying62 rfl (by kernel_rfl) rfl ⟨rfl, below_setRow hB (by omega) _⟩
      rw [over_whole]
      exact tab_congr fun i _ => by simp
end Go.Proofs.YtfidjeoeaeghhaaDoor
