/- A block of 136 bytes laid into the state lane by lane, and permuted: it is what writing the block does. -/
import Derived.Test.YtfidjeoeaeghhaaDoorSpRefP
import Derived.Test.YtfidjeoeaeghhaaDoorWordsC
namespace Go.Proofs.YtfidjeoeaeghhaaDoor
open Go.RowKit
def layF (S : Nat → BitVec 64) (b : Nat → UInt8) : Nat → (Nat → BitVec 64)
  | 0 => S
  | m + 1 => layS (layF S b m) m (b m)
def nbm (b : Nat → UInt8) (s : Nat) : Nat → BitVec 64
  | 0 => 0#64
  | m + 1 => nbm b s m <<< 8 ||| ext (b (s + (7 - m)))
theorem or_xor8 (x : BitVec 64) (b : UInt8) : x <<< 8 ||| ext b = x <<< 8 ^^^ ext b := by
  apply BitVec.eq_of_getLsbD_eq
  intro z hz
  rw [BitVec.getLsbD_or, BitVec.getLsbD_xor, BitVec.getLsbD_shiftLeft]
  by_cases h : z < 8
  · simp [h]
  · have : (ext b).getLsbD z = false := by
      unfold ext
      rw [BitVec.getLsbD_ofNat]
      have hb := b.toNat_lt
      rw [Nat.testBit_lt_two_pow (Nat.lt_of_lt_of_le hb (Nat.pow_le_pow_right (by omega) (by omega)))]
      simp
    simp [this]
theorem upd_upd (S : Nat → BitVec 64) (i : Nat) (u v : BitVec 64) : upd (upd S i u) i v = upd S i v := by
  funext j; unfold upd; split <;> rfl
theorem upd_at (S : Nat → BitVec 64) (i : Nat) (u : BitVec 64) : upd S i u i = u := by unfold upd; rw [if_pos rfl]
theorem layS_at (S : Nat → BitVec 64) (i j : Nat) (hj : j < 8) (b : UInt8) (u : BitVec 64) : layS (upd S i u) (8 * i + j) b = upd S i (u ^^^ ext b <<< (j * 8)) := by
  unfold layS
  rw [show (8 * i + j) / 8 = i by omega, show (8 * i + j) % 8 = j by omega, upd_upd, upd_at]
theorem upd_self (S : Nat → BitVec 64) (i : Nat) : upd S i (S i) = S := by
  funext j; unfold upd; split
  · rename_i h; rw [h]
  · rfl
theorem layF_lane (S : Nat → BitVec 64) (b : Nat → UInt8) (i : Nat) : upd (layF S b (8 * i)) i (layF S b (8 * i) i ^^^ nbm b (8 * i) 8) = layF S b (8 * (i + 1)) := by
  have h : layF S b (8 * (i + 1)) = layS (layS (layS (layS (layS (layS (layS (layS (upd (layF S b (8 * i)) i (layF S b (8 * i) i)) (8 * i + 0) (b (8 * i + 0))) (8 * i + 1) (b (8 * i + 1))) (8 * i + 2) (b (8 * i + 2))) (8 * i + 3) (b (8 * i + 3))) (8 * i + 4) (b (8 * i + 4))) (8 * i + 5) (b (8 * i + 5))) (8 * i + 6) (b (8 * i + 6))) (8 * i + 7) (b (8 * i + 7)) := by
    rw [upd_self]
    rfl
  rw [h]
  generalize layF S b (8 * i) = T
  rw [layS_at _ _ _ (by omega), layS_at _ _ _ (by omega), layS_at _ _ _ (by omega), layS_at _ _ _ (by omega), layS_at _ _ _ (by omega), layS_at _ _ _ (by omega), layS_at _ _ _ (by omega), layS_at _ _ _ (by omega)]
  congr 1
  have e : nbm b (8 * i) 8 = (((((((0#64 <<< 8 ||| ext (b (8 * i + 7))) <<< 8 ||| ext (b (8 * i + 6))) <<< 8 ||| ext (b (8 * i + 5))) <<< 8 ||| ext (b (8 * i + 4))) <<< 8 ||| ext (b (8 * i + 3))) <<< 8 ||| ext (b (8 * i + 2))) <<< 8 ||| ext (b (8 * i + 1))) <<< 8 ||| ext (b (8 * i + 0)) := rfl
  rw [e]
  simp only [or_xor8]
  clear e
  generalize ext (b (8 * i + 0)) = b0
  generalize ext (b (8 * i + 1)) = b1
  generalize ext (b (8 * i + 2)) = b2
  generalize ext (b (8 * i + 3)) = b3
  generalize ext (b (8 * i + 4)) = b4
  generalize ext (b (8 * i + 5)) = b5
  generalize ext (b (8 * i + 6)) = b6
  generalize ext (b (8 * i + 7)) = b7
  generalize T i = t
  simp only [BitVec.shiftLeft_xor_distrib, ← BitVec.shiftLeft_add, BitVec.zero_shiftLeft, BitVec.zero_xor]
  simp only [Nat.reduceAdd, Nat.reduceMul, BitVec.shiftLeft_zero]
  apply BitVec.eq_of_getLsbD_eq
  intro z _
  simp only [BitVec.getLsbD_xor]
  generalize (b7 <<< 56).getLsbD z = c7
  generalize (b6 <<< 48).getLsbD z = c6
  generalize (b5 <<< 40).getLsbD z = c5
  generalize (b4 <<< 32).getLsbD z = c4
  generalize (b3 <<< 24).getLsbD z = c3
  generalize (b2 <<< 16).getLsbD z = c2
  generalize (b1 <<< 8).getLsbD z = c1
  generalize b0.getLsbD z = c0
  generalize t.getLsbD z = d
  revert c0 c1 c2 c3 c4 c5 c6 c7 d
  decide +kernel
theorem writeS_layF (S : Nat → BitVec 64) (l : List UInt8) (h : 136 ≤ l.length) : ∀ m, m < 136 → writeS (S, 0) (l.take m) = (layF S (fun j => l.getD j 0) m, m) := by
  intro m
  induction m with
  | zero => intro _; rfl
  | succ m ih =>
    intro hm
    rw [writeS_take _ _ _ (by omega), ih (by omega)]
    unfold stepS
    rw [if_neg (by simp only; omega)]
    simp only [layF]
    rw [List.getD_eq_getElem?_getD, List.getElem?_eq_getElem (by omega)]
    rfl
theorem writeS_block (S : Nat → BitVec 64) (l : List UInt8) (h : 136 ≤ l.length) : writeS (S, 0) (l.take 136) = (permS (layF S (fun j => l.getD j 0) 136), 0) := by
  rw [writeS_take _ _ 135 (by omega), writeS_layF S l h 135 (by omega)]
  unfold stepS
  rw [if_pos rfl, show layF S (fun j => l.getD j 0) 136 = layS (layF S (fun j => l.getD j 0) 135) 135 (l.getD 135 0) from rfl]
  rw [List.getD_eq_getElem?_getD, List.getElem?_eq_getElem (by omega), Option.getD_some]
set_option maxHeartbeats 2000000 in
theorem laid_calls (S : Nat → BitVec 64) (A : Option Addr) (c B : Nat) (l : List UInt8) (p : Nat) (hp : p + 136 ≤ l.length) (hl : l.length ≤ 1099511627776) (w : World) (hs : Seq w B A (bytes l)) (hB : B ≤ w.heap.size) (hT : Tables w) :
    Calls Tryd.prog 27 #[.agg (tab 25 (lanes S)), .slice A l.length c, .int .i64 p] w fun e w' => e = .returned (.agg (tab 25 (lanes (writeS (S, 0) ((l.drop p).take 136)).1))) ∧ Below w.heap.size w w' := by
  rw [writeS_block S (l.drop p) (by rw [List.length_drop]; omega)]
  have hbe : ∀ j, j < 136 → (l.drop p).getD j 0 = l.getD (p + j) 0 := fun j _ => by simp [List.getD_eq_getElem?_getD]
  generalize hb : (fun j => (l.drop p).getD j 0) = b
  have hbv : ∀ j (h : j < 136), b j = l[p + j]'(by omega) := fun j h => by rw [← hb]; simp only; rw [hbe j h, List.getD_eq_getElem?_getD, List.getElem?_eq_getElem (by omega)]; rfl
  have h2 := hT.size
  have HS := Lib.hid hs
  have HT := Lib.hid hT
  have HBv := Lib.hid hbv
  clear hs hT hb hbe hbv
  go_enter Tryd.func27, Tryd.ntmps27
  go_wp2_with (first
    | (refine wpL_alloc rfl 23 rfl (tab 25 fun _ => .int .u64 0) (by kernel_rfl) ?_))
  go_loopw [7] (fun i wr => ∃ k : Nat, k ≤ 17 ∧ i = .int .i64 k ∧ Below w.heap.size w wr ∧ Blk wr w.heap.size 23 (tab 25 (lanes (layF S b (8 * k)))) ∧ ∃ V, Blk wr (w.heap.size + 1) 23 (tab 25 V)) (fun i _ => 17 - (intOf i).toNat)
  case atStart => exact ⟨0, by omega, rfl, ((Below.refl _ _).alloc (Nat.le_refl _) _).alloc (by simp) _, (Blk.new _ _ _).alloc _, _, Blk.new' _ _ _ (by simp)⟩
  case round =>
    obtain ⟨k, hk, rfl, hBl, hA, V, hV⟩ := hrel
    have hgl := hV.lt
    by_cases hlt : k < 17
    · have dk : decide ((k : Int) < 17) = true := by simp; omega
      have lk : (k : Int) < 17 := by omega
      have HA := Lib.hid hA
      have HB := Lib.hid hBl
      have HV := Lib.hid hV
      clear hA hBl hV
      go_wp2_with fail
      go_loopw [8, 9] (fun n z w5 => ∃ (m : Nat), m ≤ 8 ∧ z = .int .i64 ((7 : Int) - m) ∧ n = .int .u64 (u64 (nbm b (8 * k) m)) ∧ Below w.heap.size w w5 ∧ Blk w5 w.heap.size 23 (tab 25 (lanes (layF S b (8 * k)))) ∧ Blk w5 (w.heap.size + 1) 23 (tab 25 V)) (fun _ z _ => (intOf z + 1).toNat)
      case atStart => exact ⟨0, by omega, rfl, rfl, HB.out, HA.out, HV.out⟩
      case round =>
        clear HA HB HV
        obtain ⟨m, hm, rfl, rfl, hBl, hA, hV⟩ := hrel
        by_cases hlm : m < 8
        · obtain ⟨q, hq⟩ : ∃ q, m + q = 7 := ⟨7 - m, by omega⟩
          rw [show ((7 : Int) - (m : Int)) = (q : Int) by omega]
          have dq : decide ((q : Int) ≥ 0) = true := by simp
          obtain ⟨ad, rfl, hadb, hcell⟩ := (HS.out.below hBl hB).at_ (k := p + (8 * k + q)) (by rw [bytes_length]; omega)
          rw [bytes_get, ← HBv.out (8 * k + q) (by omega)] at hcell
          have t1 : ((p : Int) + 8 * (k : Int) + (q : Int)).toNat = p + (8 * k + q) := by omega
          have hst : nbm b (8 * k) (m + 1) = nbm b (8 * k) m <<< 8 ||| ext (b (8 * k + q)) := by rw [nbm, show 7 - m = q by omega]
          have HSt := Lib.hid hst
          have hsh := bv_shl (nbm b (8 * k) m) 8
          rw [show (2 : Int) ^ 8 = 256 from rfl] at hsh
          have HA := Lib.hid hA
          have HB := Lib.hid hBl
          have HV := Lib.hid hV
          clear hA hBl hV hst
          go_wp2_with fail
          refine ⟨⟨m + 1, by omega, by congr 1; omega, by rw [HSt.out], HB.out, HA.out, HV.out⟩, by simp [intOf]⟩
        · have hm8 : m = 8 := by omega
          rw [show ((7 : Int) - (m : Int)) = -1 by omega, hm8]
          have c0 : wr.cell? ⟨w.heap.size, k, none⟩ = some (.int .u64 (u64 (layF S b (8 * k) k))) := hA.at_ k (by omega)
          have f0 := hA.frozen k
          have HA := Lib.hid hA
          have HB := Lib.hid hBl
          have HV := Lib.hid hV
          have hwz := hBl.size
          clear hA hBl hV hm8
          go_wp2_with fail
          refine ⟨⟨k + 1, by omega, by go_num, HB.out.setCell (by simp) _, ?_, V, HV.out.far (by simp) _⟩, by simp [intOf]; omega⟩
          exact (HA.out.put _ _).same (by rw [← layF_lane]; exact tab_congr fun i _ => by unfold upd lanes; by_cases h : i = k <;> simp [h])
    · have dk : decide ((k : Int) < 17) = false := by simp; omega
      have hk17 : k = 17 := by omega
      rw [show 8 * k = 136 by omega] at hA
      have HA := Lib.hid hA
      have HB := Lib.hid hBl
      have HV := Lib.hid hV
      have hwz := hBl.size
      clear hA hBl hV hk17
      go_wp2_with (first
        | (refine wpL_load0 rfl 23 (.tmp 3) rfl rfl _ HA.out Tryd.underlying23 rfl (by kernel_rfl) ?_))
      refine (permute_calls _ wr (HT.out.below HB.out h2)).mono ?_
      rintro e w1 ⟨rfl, hb1⟩
      have HV1 := Lib.hid (HV.out.below hb1 hgl)
      have HB1 := Lib.hid (HB.out.trans (hb1.mono hwz))
      clear hb1
      go_wp2_with (first
        | (refine wpL_store rfl 23 (.tmp 6) (.tmp 39) rfl 0 rfl rfl HV1.out (by omega) (by kernel_rfl) (fun _ => rfl) ?_))
      exact ret_cell rfl rfl _ (HV1.out.setRow.same (over_whole _ _ _)) Tryd.underlying23 rfl (by kernel_rfl) rfl ⟨rfl, below_setRow HB1.out (by omega) _⟩
end Go.Proofs.YtfidjeoeaeghhaaDoor
