/- The document's Bytes, List, Number. -/
import Derived.Test.YtnghneoggiolgaaDoorRListP
namespace Go.Proofs.YtnghneoggiolgaaDoor
open Go.RowKit
theorem bytes_cons (x : UInt8) (l : List UInt8) : bytes [x] ++ bytes l = bytes (x :: l) := rfl
set_option maxHeartbeats 1000000 in
theorem digits_calls (n : Nat) (hn : n ≤ 281474976710656) (w : World) : Calls Tryd.prog 37 #[.int .i64 n] w (Fresh w (beL n (nb n))) := by
  have h8 := nb_le n 7 (by omega)
  go_enter Tryd.func37, Tryd.ntmps37
  go_wp2_with fail
  go_loopw [0, 3] (fun x v wr => ∃ (k : Nat) (A : Option Addr) (c : Nat), k ≤ nb n ∧ x = .int .i64 ((n / 256 ^ k : Nat) : Int) ∧ v = .slice A k c ∧ wr.ownsRow w.heap.size 5 1 (.slice A k c) k (bytes (beL n k)) ∧ Below w.heap.size w wr) (fun _ v _ => nb n - lenV v)
  case atStart => exact ⟨0, none, 0, by omega, by simp, rfl, World.ownsRow_nil _ _ _ _, Below.refl _ _⟩
  case round =>
    obtain ⟨k, A1, c1, hk, rfl, rfl, hown, hB⟩ := hrel
    have hl := nb_left n k
    have hdiv : n / 256 ^ (k + 1) = n / 256 ^ k / 256 := by rw [Nat.pow_succ, Nat.div_div_eq_div_mul]
    have hle : n / 256 ^ k ≤ n := Nat.div_le_self _ _
    have hsz := hB.size
    have HO := Lib.hid hown
    have HB := Lib.hid hB
    clear hown hB
    by_cases hlt : k < nb n
    · have hp := hl.2 hlt
      have HD := Lib.hid hdiv
      have hbe : beL n (k + 1) = UInt8.ofNat (n / 256 ^ k) :: beL n k := rfl
      have hz := u8_nat (n / 256 ^ k)
      generalize UInt8.ofNat (n / 256 ^ k) = z at *
      generalize n / 256 ^ k = x at *
      have HBe := Lib.hid hbe
      have hbl := beL_length n k
      have HBl := Lib.hid hbl
      clear hdiv hl hbe hbl
      have dx : decide ((x : Int) > 0) = true := by simp; omega
      go_wp2_with (first
        | (at_builtin; first
          | ((refine wpL_append rfl (.tmp 7) (.tmp 11) 26 rfl elByte rfl (World.ownsRow_nil _ wr.heap.size 5 1) rfl rfl (Seq.one_new _ _ _) (by simp [Value.oneCell']) (by unfold maxLen; omega) (by omega) (by rw [size_alloc]; omega) ?_; intro A7 c7 w7 ho7 hg7 hf7; simp only [Nat.zero_add, List.nil_append] at ho7; have hs7 := hg7.size; rw [size_alloc] at hs7; have hb7 := (((Below.refl wr.heap.size wr).alloc (Nat.le_refl _) _).grown hg7 (by rw [size_alloc]; omega) (fun g hg => by simp [Value.ownBlock] at hg)); have HO7 := Lib.hid ho7; have HB7 := Lib.hid hb7; have HS7 := Lib.hid ((Seq.of_own HO.out).below hb7 (Nat.le_refl _)); clear ho7 hg7 hf7 hb7))
          | ((refine wpL_append rfl (.tmp 13) (.tmp 14) 26 rfl elByte rfl HO7.out rfl (by rw [bytes_length, HBl.out]; simp) HS7.out (bytes_one _) (by unfold maxLen; omega) (by omega) (by omega) ?_; intro A8 c8 w8 ho8 hg8 _; have ho8' := own_mono ho8 (Nat.le_trans hsz (Nat.le_refl _)); have HO8 := Lib.hid ho8'; have HB8 := Lib.hid (HB.out.trans ((HB7.out.grown hg8 (by omega) (fun g hg => (HO7.out.lt g hg).1)).mono hsz)); clear ho8 ho8' hg8))))
      have ho8 := HO8.out
      rw [show ([Value.int .u8 (by8 z)] ++ bytes (beL n k)) = bytes (beL n (k + 1)) by rw [HBe.out]; rfl] at ho8
      exact ⟨⟨k + 1, A8, c8, by omega, by rw [HD.out]; rfl, by rw [Nat.add_comm], by rw [Nat.add_comm] at ho8; exact ho8, HB8.out⟩, by simp [lenV]; omega⟩
    · have hx : n / 256 ^ k = 0 := by
        rcases Nat.eq_zero_or_pos (n / 256 ^ k) with h1 | h1
        · exact h1
        · exact absurd (hl.1 h1) hlt
      obtain hkn : k = nb n := by omega
      have HK := Lib.hid hkn
      clear hdiv hl hle hkn
      rw [hx]
      go_wp2_with fail
      go_ret
      unfold Fresh
      rw [beL_length, ← HK.out]
      exact ⟨A1, c1, rfl, HO.out, HB.out⟩
set_option maxHeartbeats 1000000 in
theorem with_calls (A : Option Addr) (c B : Nat) (l : List UInt8) (kd : Nat) (hkd : kd ≤ 200) (w : World) (hl : l.length ≤ 1099511627776) (hB : B ≤ w.heap.size) (hs : Seq w B A (bytes l)) :
    Calls Tryd.prog 29 #[.int .i64 kd, .slice A l.length c] w (Fresh w (withM kd l)) := by
  have HS := Lib.hid hs
  clear hs
  by_cases h : l.length ≤ 55
  · have d : decide ((l.length : Int) ≤ 55) = true := by simp; omega
    obtain ⟨y, hy⟩ : ∃ y, UInt8.ofNat (kd + l.length) = y := ⟨_, rfl⟩
    have e : withM kd l = y :: l := by unfold withM headL; rw [if_pos h, hy]; rfl
    have HE := Lib.hid e
    have em : ((kd : Int) + (l.length : Int)) % 256 = by8 y := by
      rw [← hy, ← u8_nat]
      omega
    clear e hy
    go_enter Tryd.func29, Tryd.ntmps29
    go_wp2_with (first
      | (at_builtin; first
        | ((refine wpL_append rfl (.tmp 12) (.tmp 17) 26 rfl elByte rfl (World.ownsRow_nil _ w.heap.size 5 1) rfl rfl (Seq.one_new _ _ _) (by simp [Value.oneCell']) (by unfold maxLen; omega) (by omega) (by rw [size_alloc]; omega) ?_; intro A4 c4 w4 ho4 hg4 _; simp only [Nat.zero_add, List.nil_append] at ho4; have hs4 := hg4.size; rw [size_alloc] at hs4; have hb4 := (((Below.refl w.heap.size w).alloc (Nat.le_refl _) _).grown hg4 (by rw [size_alloc]; omega) (fun g hg => by simp [Value.ownBlock] at hg)); have HO4 := Lib.hid ho4; have HB4 := Lib.hid hb4; clear ho4 hg4 hb4))
        | ((refine wpL_append rfl (.tmp 33) (.tmp 34) 26 rfl elByte rfl HO4.out rfl (by rw [bytes_length]; simp) (HS.out.below HB4.out hB) (bytes_one _) (by unfold maxLen; omega) (by omega) (by omega) ?_; intro A8 c8 w8 ho8 hg8 _; have HO8 := Lib.hid ho8; have HB8 := Lib.hid (HB4.out.grown hg8 (by omega) (fun g hg => (HO4.out.lt g hg).1)); clear ho8 hg8))))
    go_ret
    have ho8 := HO8.out
    rw [show (kd : Int) + (l.length : Int) = by8 y by rw [← em]; omega] at ho8
    rw [show ([Value.int .u8 (by8 y)] ++ bytes l) = bytes (y :: l) from rfl] at ho8
    unfold Fresh
    rw [HE.out, List.length_cons]
    exact ⟨A8, c8, by rw [Nat.add_comm]; rfl, by rw [Nat.add_comm] at ho8; exact ho8, HB8.out⟩
  · have d : decide ((l.length : Int) ≤ 55) = false := by simp; omega
    have h8 := nb_le l.length 7 (by omega)
    obtain ⟨y, hy⟩ : ∃ y, UInt8.ofNat (kd + 55 + nb l.length) = y := ⟨_, rfl⟩
    have e : withM kd l = y :: (beL l.length (nb l.length) ++ l) := by unfold withM headL; rw [if_neg h, hy]; rfl
    have HE := Lib.hid e
    have hbl := beL_length l.length (nb l.length)
    have HBl := Lib.hid hbl
    have em : ((kd : Int) + 55 + (nb l.length : Int)) % 256 = by8 y := by
      rw [← hy, ← u8_nat]
      omega
    have hdg := fun w => digits_calls l.length (by omega) w
    clear e hy hbl
    generalize beL l.length (nb l.length) = D at *
    generalize nb l.length = m at *
    have HDg := Lib.hid hdg
    clear hdg
    go_enter Tryd.func29, Tryd.ntmps29
    go_wp2_with (first
      | (go_at_call 37; refine (HDg.out w).mono ?_; unfold Fresh; rw [HBl.out]; rintro e1 w1 ⟨A1, c1, rfl, ho1, hb1⟩; have hs1 := hb1.size; have HO1 := Lib.hid ho1; have HB1 := Lib.hid hb1; clear ho1 hb1)
      | (at_builtin; first
        | ((refine wpL_append rfl (.tmp 21) (.tmp 28) 26 rfl elByte rfl (World.ownsRow_nil _ w1.heap.size 5 1) rfl rfl (Seq.one_new _ _ _) (by simp [Value.oneCell']) (by unfold maxLen; omega) (by omega) (by rw [size_alloc]; omega) ?_; intro A4 c4 w4 ho4 hg4 _; simp only [Nat.zero_add, List.nil_append] at ho4; have hs4 := hg4.size; rw [size_alloc] at hs4; have hb4 := (((Below.refl w1.heap.size w1).alloc (Nat.le_refl _) _).grown hg4 (by rw [size_alloc]; omega) (fun g hg => by simp [Value.ownBlock] at hg)); have HO4 := Lib.hid ho4; have HB4 := Lib.hid hb4; have HS4 := Lib.hid ((Seq.of_own HO1.out).below hb4 (Nat.le_refl _)); clear ho4 hg4 hb4))
        | ((refine wpL_append rfl (.tmp 30) (.tmp 31) 26 rfl elByte rfl HO4.out rfl (by rw [bytes_length, HBl.out]; simp) HS4.out (bytes_one _) (by unfold maxLen; omega) (by omega) (by omega) ?_; intro A7 c7 w7 ho7 hg7 _; have hs7 := hg7.size; have HO7 := Lib.hid ho7; have HB7 := Lib.hid (HB4.out.grown hg7 (by omega) (fun g hg => (HO4.out.lt g hg).1)); clear ho7 hg7))
        | ((refine wpL_append rfl (.tmp 33) (.tmp 34) 26 rfl elByte rfl HO7.out rfl (by rw [bytes_length]; simp) (HS.out.below (HB1.out.trans (HB7.out.mono hs1)) hB) (bytes_one _) (by unfold maxLen; omega) (by omega) (by omega) ?_; intro A8 c8 w8 ho8 hg8 _; have HO8 := Lib.hid ho8; have HB8 := Lib.hid (HB1.out.trans ((HB7.out.grown hg8 (by omega) (fun g hg => (HO7.out.lt g hg).1)).mono hs1)); clear ho8 hg8))))
    go_ret
    have ho8 := HO8.out
    rw [show ([Value.int .u8 (by8 y)] ++ bytes D ++ bytes l) = bytes (y :: (D ++ l)) by rw [List.append_assoc, ← bytes_append]; rfl] at ho8
    have hle : (y :: (D ++ l)).length = 1 + m + l.length := by rw [List.length_cons, List.length_append, HBl.out]; omega
    unfold Fresh
    rw [HE.out, hle]
    exact ⟨A8, c8, rfl, own_mono ho8 hs1, HB8.out⟩
theorem withM_bytes {l : List UInt8} (h : small l = false) : withM 128 l = bytesM l := by unfold withM bytesM; rw [if_neg (by rw [h]; simp)]
set_option maxHeartbeats 1000000 in
theorem refBytes_calls (A : Option Addr) (c B : Nat) (l : List UInt8) (w : World) (hl : l.length ≤ 1099511627776) (hB : B ≤ w.heap.size) (hs : Seq w B A (bytes l)) :
    Calls Tryd.prog 14 #[.slice A l.length c] w (Fresh w (bytesM l)) := by
  have HS := Lib.hid hs
  by_cases h1 : l.length = 1
  · obtain ⟨x, rfl⟩ : ∃ x, l = [x] := List.length_eq_one_iff.1 h1
    obtain ⟨ad, rfl, _, hc0⟩ := hs.at_ (k := 0) (by simp [bytes])
    have hc0 : w.cell? (ad.add 0) = some (.int .u8 (by8 x)) := hc0
    have hadd : ad.add 0 = ad := by unfold Addr.add; simp
    rw [hadd] at hc0
    clear hs hadd h1
    by_cases hx : x.toNat < 128
    · have hsm : bytesM [x] = [x] := by
        have : small [x] = true := by unfold small; simp; exact hx
        unfold bytesM; rw [if_pos this]; rfl
      have HM := Lib.hid hsm
      have dx : decide (by8 x < 128) = true := by unfold by8; simp; omega
      clear hsm
      go_enter Tryd.func14, Tryd.ntmps14
      go_wp2_with (at_builtin; ((refine wpL_append rfl (.tmp 13) (.tmp 17) 26 rfl elByte rfl (World.ownsRow_nil _ w.heap.size 5 1) rfl rfl (Seq.one_new _ _ _) (by simp [Value.oneCell']) (by unfold maxLen; omega) (by omega) (by rw [size_alloc]; omega) ?_; intro A4 c4 w4 ho4 hg4 _; simp only [Nat.zero_add, List.nil_append] at ho4; have hb4 := (((Below.refl w.heap.size w).alloc (Nat.le_refl _) _).grown hg4 (by rw [size_alloc]; omega) (fun g hg => by simp [Value.ownBlock] at hg)); have HO4 := Lib.hid ho4; have HB4 := Lib.hid hb4; clear ho4 hg4 hb4)))
      go_ret
      unfold Fresh
      rw [HM.out]
      exact ⟨A4, c4, rfl, HO4.out, HB4.out⟩
    · have hsm : small [x] = false := by unfold small; simp; exact Nat.le_of_not_lt hx
      have HM := Lib.hid (withM_bytes hsm)
      have dx : decide (by8 x < 128) = false := by unfold by8; simp; omega
      clear hsm
      go_enter Tryd.func14, Tryd.ntmps14
      go_wp2_with (go_at_call 29; refine (with_calls (some ad) c B [x] 128 (by omega) w hl hB HS.out).mono ?_; rw [HM.out]; rintro e1 w1 ⟨A1, c1, rfl, ho1, hb1⟩; have HO1 := Lib.hid ho1; have HB1 := Lib.hid hb1; clear ho1 hb1)
      go_ret
      exact ⟨A1, c1, rfl, HO1.out, HB1.out⟩
  · have hsm : small l = false := by unfold small; rw [decide_eq_false h1]; rfl
    have HM := Lib.hid (withM_bytes hsm)
    have d1 : decide ((l.length : Int) = 1) = false := by simp; omega
    clear hsm hs
    go_enter Tryd.func14, Tryd.ntmps14
    go_wp2_with (go_at_call 29; refine (with_calls A c B l 128 (by omega) w hl hB HS.out).mono ?_; rw [HM.out]; rintro e1 w1 ⟨A1, c1, rfl, ho1, hb1⟩; have HO1 := Lib.hid ho1; have HB1 := Lib.hid hb1; clear ho1 hb1)
    go_ret
    exact ⟨A1, c1, rfl, HO1.out, HB1.out⟩
set_option maxHeartbeats 1000000 in
theorem refList_calls (A : Option Addr) (c B : Nat) (ps : List Piece) (w : World) (hps : ps.length ≤ 1099511627776) (hj : (joinP ps).length ≤ 1099511627776) (hB : B ≤ w.heap.size) (hs : Seq w B A (pcs ps)) (hp : ∀ q ∈ ps, Seq w B q.1 (bytes q.2.2)) :
    Calls Tryd.prog 16 #[.slice A ps.length c] w (Fresh w (withM 192 (joinP ps))) := by
  have HS := Lib.hid hs
  have HP := Lib.hid hp
  clear hs hp
  go_enter Tryd.func16, Tryd.ntmps16
  go_wp2_with fail
  go_loopw [3, 4] (fun v i wr => ∃ (k : Nat) (A1 : Option Addr) (c1 : Nat), k ≤ ps.length ∧ i = .int .i64 k ∧ v = .slice A1 (joinP (ps.take k)).length c1 ∧ wr.ownsRow w.heap.size 5 1 (.slice A1 (joinP (ps.take k)).length c1) (joinP (ps.take k)).length (bytes (joinP (ps.take k))) ∧ Below w.heap.size w wr) (fun _ i _ => ps.length - (intOf i).toNat)
  case atStart => exact ⟨0, none, 0, by omega, rfl, rfl, World.ownsRow_nil _ _ _ _, Below.refl _ _⟩
  case round =>
    obtain ⟨k, A1, c1, hk, rfl, rfl, hown, hBl⟩ := hrel
    have hsz := hBl.size
    have hle := joinP_le ps k
    by_cases hlt : k < ps.length
    · have dk : decide ((k : Int) < (ps.length : Int)) = true := by simp; omega
      have lk : (k : Int) < (ps.length : Int) := by omega
      obtain ⟨ad, rfl, _, hc0⟩ := (HS.out.below hBl hB).piece k hlt
      have hq := (HP.out _ (List.getElem_mem hlt)).below hBl hB
      have htk := joinP_take ps k hlt
      have hle2 := joinP_le ps (k + 1)
      rw [htk, List.length_append] at hle2
      generalize ps[k] = q at *
      obtain ⟨Aq, cq, lq⟩ := q
      simp only at hc0 hq htk hle2
      have HTk := Lib.hid htk
      have HO := Lib.hid hown
      have HB := Lib.hid hBl
      have HQ := Lib.hid hq
      clear hown hBl hq htk
      generalize joinP (ps.take k) = L at *
      go_wp2_with (at_builtin; ((refine wpL_append rfl (.tmp 11) (.tmp 15) 26 rfl elByte rfl HO.out rfl (by rw [bytes_length]; simp) HQ.out (bytes_one _) (by unfold maxLen; omega) (by omega) hsz ?_; intro A4 c4 w4 ho4 hg4 _; rw [← bytes_append] at ho4; have HO4 := Lib.hid ho4; have HB4 := Lib.hid (HB.out.grown hg4 hsz (fun g hg => (HO.out.lt g hg).1)); clear ho4 hg4)))
      exact ⟨⟨k + 1, A4, c4, by omega, by go_num, by rw [HTk.out, List.length_append], by rw [HTk.out, List.length_append]; exact HO4.out, HB4.out⟩, by simp [intOf]; omega⟩
    · have dk : decide ((k : Int) < (ps.length : Int)) = false := by simp; omega
      obtain hkn : k = ps.length := by omega
      have hjt : joinP (ps.take k) = joinP ps := by rw [hkn, List.take_length]
      rw [hjt] at hown ⊢
      have HO := Lib.hid hown
      have HB := Lib.hid hBl
      clear hown hBl hjt hkn
      go_wp2_with (go_at_call 29; refine (with_calls A1 c1 _ (joinP ps) 192 (by omega) wr hj (Nat.le_refl _) (Seq.of_own HO.out)).mono ?_; rintro e1 w1 ⟨A2, c2, rfl, ho1, hb1⟩; have HO1 := Lib.hid ho1; have HB1 := Lib.hid hb1; clear ho1 hb1)
      go_ret
      exact ⟨A2, c2, rfl, own_mono HO1.out hsz, HB.out.trans (HB1.out.mono hsz)⟩
/-- A word's digits of base 256, the lowest first. -/
def digS (S : Nat → BitVec 64) (i : Nat) : Nat := (S (i / 8)).toNat / 256 ^ (i % 8) % 256
theorem digS_lt (S : Nat → BitVec 64) (i : Nat) : digS S i < 256 := Nat.mod_lt _ (by omega)
theorem digS_word (S : Nat → BitVec 64) (i : Nat) : UInt8.ofNat (digS S (31 - i)) = wordS S i := by
  unfold wordS low digS
  apply UInt8.toNat_inj.1
  rw [UInt8.toNat_ofNat', UInt8.toNat_ofNat', BitVec.toNat_ushiftRight, Nat.shiftRight_eq_div_pow, Nat.mul_comm, Nat.pow_mul]
  simp
theorem infoRow : (Tryd.prog.info? 3).map (fun i => (i.zero, i.size, i.bytes)) = some (some (.int .i64 0), 1, 8) := by kernel_rfl
theorem elRow : Elem Tryd.prog 75 3 1 8 := Elem.mk' Tryd.underlying75 infoRow rfl (by decide)
def digL (S : Nat → BitVec 64) (k : Nat) : List Nat := (List.range k).map (digS S)
theorem digL_length (S : Nat → BitVec 64) (k : Nat) : (digL S k).length = k := by simp [digL]
theorem digL_succ (S : Nat → BitVec 64) (k : Nat) : digL S (k + 1) = digL S k ++ [digS S k] := by simp [digL, List.range_succ]
set_option maxHeartbeats 1000000 in
theorem of_calls (S : Nat → BitVec 64) (w : World) : Calls Tryd.prog 38 #[.agg (tab 4 (lanes S))] w fun e w' => ∃ (A : Option Addr) (c : Nat), e = .returned (.slice A 32 c) ∧ w'.ownsRow w.heap.size 3 1 (.slice A 32 c) 32 (nums (digL S 32)) ∧ Below w.heap.size w w' := by
  go_enter Tryd.func38, Tryd.ntmps38
  go_wp2_with fail
  go_loopw [3, 4] (fun v i wr => ∃ (k : Nat) (A1 : Option Addr) (c1 : Nat), k ≤ 32 ∧ i = .int .i64 k ∧ v = .slice A1 k c1 ∧ wr.ownsRow (w.heap.size + 1) 3 1 (.slice A1 k c1) k (nums (digL S k)) ∧ Below w.heap.size w wr ∧ Blk wr w.heap.size 24 (tab 4 (lanes S)) ∧ w.heap.size + 1 ≤ wr.heap.size) (fun _ i _ => 32 - (intOf i).toNat)
  case atStart => exact ⟨0, none, 0, by omega, rfl, rfl, World.ownsRow_nil _ _ _ _, (Below.refl _ _).alloc (Nat.le_refl _) _, Blk.new _ _ _, by rw [size_alloc]; omega⟩
  case round =>
    obtain ⟨k, A1, c1, hk, rfl, rfl, hown, hBl, hX, hsz⟩ := hrel
    have HO := Lib.hid hown
    have HB := Lib.hid hBl
    have HX := Lib.hid hX
    clear hown hBl hX
    by_cases hlt : k < 32
    · have dk : decide ((k : Int) < 32) = true := by simp; omega
      have hl1 := HX.out.lane (k / 8) (by omega)
      unfold u64 at hl1
      have hds : digS S k = (S (k / 8)).toNat / 256 ^ (k % 8) % 256 := rfl
      have hlt64 := (S (k / 8)).isLt
      have HDs := Lib.hid hds
      clear hds
      generalize (S (k / 8)).toNat = x at *
      go_wp2_with fail
      obtain ⟨wo, rfl⟩ : ∃ wo : World, wo = wr := ⟨_, rfl⟩
      go_loop [5, 6] (fun v i => ∃ q : Nat, q ≤ k % 8 ∧ i = .int .i64 q ∧ v = .int .u64 ((x / 256 ^ q : Nat) : Int)) (fun _ i => k % 8 - (intOf i).toNat)
      case atStart => exact ⟨0, by omega, rfl, by simp⟩
      case round =>
        obtain ⟨q, hq, rfl, rfl⟩ := hrel
        by_cases hqk : q < k % 8
        · have dq : decide ((q : Int) < (k : Int) % 8) = true := by simp; omega
          have hdiv : x / 256 ^ (q + 1) = x / 256 ^ q / 256 := by rw [Nat.pow_succ, Nat.div_div_eq_div_mul]
          have HD := Lib.hid hdiv
          have hle : x / 256 ^ q ≤ x := Nat.div_le_self _ _
          clear hdiv
          generalize x / 256 ^ q = y at *
          have ew : IntKind.u64.wrap ((y : Int) / 256) = ((y / 256 : Nat) : Int) := by rw [IntKind.wrap_u64]; omega
          clear hle
          go_wp2_with fail
          go_round
          case rel => exact ⟨q + 1, by omega, by go_num, by rw [HD.out]; rfl⟩
          case measure => simp [intOf]; omega
        · have dq : decide ((q : Int) < (k : Int) % 8) = false := by simp; omega
          obtain hqe : q = k % 8 := by omega
          have hle : x / 256 ^ q ≤ x := Nat.div_le_self _ _
          rw [← hqe] at HDs
          clear hqe
          generalize x / 256 ^ q = y at *
          obtain ⟨z, hz⟩ : ∃ z : Nat, y % 256 = z := ⟨_, rfl⟩
          have hz1 : z < 256 := by omega
          have ew : IntKind.u64.wrap ((y : Int) % 256) = (z : Int) := by rw [IntKind.wrap_u64]; omega
          have ew2 : ((y : Int) % 256) = (z : Int) := by omega
          rw [hz] at HDs
          clear hle hz
          have HLs := Lib.hid (digL_succ S k)
          go_wp2_with (at_builtin; ((refine wpL_append rfl (.tmp 23) (.tmp 27) 75 rfl elRow rfl (own_alloc HO.out _) rfl rfl (Seq.one_new _ _ _) (by simp [Value.oneCell']) (by unfold maxLen; omega) (by omega) (by rw [size_alloc]; omega) ?_; intro A4 c4 w4 ho4 hg4 _; have hs4 := hg4.size; rw [size_alloc] at hs4; have HO4 := Lib.hid ho4; have HB4 := Lib.hid ((HB.out.alloc (by omega) _).grown hg4 (by rw [size_alloc]; omega) (fun g hg => by have := (HO.out.lt g hg).1; omega)); have HX4 := Lib.hid ((HX.out.alloc _).grownRow hg4 (fun e => by have := (HO.out.lt _ e).1; omega)); clear ho4 hg4)))
          have ho4 := HO4.out
          rw [show nums (digL S k) ++ [.int .i64 (z : Int)] = nums (digL S (k + 1)) by rw [HLs.out, HDs.out, nums_append]; rfl] at ho4
          exact ⟨⟨k + 1, A4, c4, by omega, by go_num, rfl, ho4, HB4.out, HX4.out, by omega⟩, by simp [intOf]; omega⟩
    · have dk : decide ((k : Int) < 32) = false := by simp; omega
      obtain rfl : k = 32 := by omega
      go_wp2_with fail
      go_ret
      exact ⟨A1, c1, rfl, own_mono HO.out (by omega), HB.out⟩
theorem nums_get (l : List Nat) (k : Nat) (h : k < l.length) (h' : k < (nums l).length) : (nums l)[k] = .int .i64 (l[k] : Int) := by simp [nums]
set_option maxHeartbeats 1000000 in
theorem refWord_calls (S : Nat → BitVec 64) (w : World) : Calls Tryd.prog 30 #[.agg (tab 4 (lanes S))] w fun e w' => e = .returned (.agg (tab 32 (hashV (wordS S)))) ∧ Below w.heap.size w w' := by
  go_enter Tryd.func30, Tryd.ntmps30
  go_wp2_with (first
    | (refine wpL_alloc rfl 50 rfl (tab 32 fun _ => .int .u8 0) (by kernel_rfl) ?_)
    | (refine wpL_load0 rfl 24 (.tmp 1) rfl rfl _ ((Blk.new _ _ _).alloc _) Tryd.underlying24 rfl (by kernel_rfl) ?_)
    | (go_at_call 38; go_loud (refine (of_calls S _).mono ?_; rintro e1 w1 ⟨A1, c1, rfl, ho1, hb1⟩; have hs1 := hb1.size; rw [size_alloc, size_alloc] at hs1; have HR1 := Lib.hid ((Blk.new' (g := w.heap.size + 1) (w.alloc (.cells (tab 4 (lanes S)) 24)) 50 (tab 32 fun _ => .int .u8 0) (by rw [size_alloc])).below hb1 (by rw [size_alloc, size_alloc]; omega)); have HO1 := Lib.hid ho1; have HB1 := Lib.hid ((((Below.refl w.heap.size w).alloc (Nat.le_refl _) _).alloc (by rw [size_alloc]; omega) _).trans (hb1.mono (by rw [size_alloc, size_alloc]; omega))); clear ho1 hb1)))
  go_loopw [5] (fun i wr => ∃ k : Nat, k ≤ 32 ∧ i = .int .i64 k ∧ Below w.heap.size w wr ∧ w1.heap.size + 1 ≤ wr.heap.size ∧ Blk wr (w.heap.size + 1) 50 (tab 32 fun _ => .int .u8 0) ∧ wr.ownsRow w.heap.size 3 1 (.slice A1 32 c1) 32 (nums (digL S 32)) ∧
      Blk wr w1.heap.size 50 (tab 32 (hashV fun j => if j < k then wordS S j else 0))) (fun i _ => 32 - (intOf i).toNat)
  case atStart => exact ⟨0, by omega, rfl, HB1.out.alloc (by omega) _, by rw [size_alloc]; omega, (HR1.out.alloc _).same rfl, own_mono (own_alloc HO1.out _) (by rw [size_alloc, size_alloc]; omega), (Blk.new _ _ _).same (tab_congr fun i _ => by simp [hashV, by8])⟩
  case round =>
    obtain ⟨k, hk, rfl, hB, hsz, hR, hO, hH⟩ := hrel
    have HB := Lib.hid hB
    have HR := Lib.hid hR
    have HO := Lib.hid hO
    have HH := Lib.hid hH
    clear hB hR hO hH HB1 HR1 HO1
    by_cases hlt : k < 32
    · have dk : decide ((k : Int) < 32) = true := by simp; omega
      have lk : (k : Int) < 32 := by omega
      obtain ⟨q, hq⟩ : ∃ q : Nat, (31 : Int) - (k : Int) = (q : Int) := ⟨31 - k, by omega⟩
      have hq31 : q ≤ 31 := by omega
      have lq : (q : Int) < 32 := by omega
      have hqk : 31 - k = q := by omega
      have hdw := digS_word S k
      rw [hqk] at hdw
      obtain ⟨ad, rfl, _, hc1⟩ := (Seq.of_own HO.out).at_ (k := q) (by rw [nums_length, digL_length]; omega)
      rw [nums_get _ q (by rw [digL_length]; omega)] at hc1
      have hdg : (digL S 32)[q]'(by rw [digL_length]; omega) = digS S q := by simp [digL]
      rw [hdg] at hc1
      have hlt8 := digS_lt S q
      have HDw := Lib.hid hdw
      clear hdw hdg
      generalize digS S q = z at *
      have hw8 := wrap_nat8 z hlt8
      have hz8 : (z : Int) % 256 = by8 (UInt8.ofNat z) := u8_nat z
      have hz9 : (z : Int) = by8 (UInt8.ofNat z) := by rw [← hz8]; omega
      generalize UInt8.ofNat z = y at *
      have HQ := Lib.hid hqk
      clear hqk hz9
      have c2 := HH.out.at_ k hlt
      have f2 := HH.out.frozen k
      go_wp2_with fail
      refine ⟨⟨k + 1, by omega, by go_num, HB.out.setCell (by simp; omega) _, by rw [size_setCell]; omega, HR.out.far (by simp; omega) _, own_only HO.out (Only.setCell _ ⟨w1.heap.size, k, none⟩ _) (fun e => by obtain ⟨cur, hb⟩ := own_blk HO.out _ e; exact Blk.ne hb HH.out (by decide) rfl), ?_⟩, by simp [intOf]; omega⟩
      refine (HH.out.put k _).same ?_
      first | rw [hashV_upd] | (rw [show (z : Int) = by8 y by omega, hashV_upd])
      refine tab_congr fun i _ => ?_
      unfold hashV upd
      by_cases h : i = k
      · subst h; simp [HDw.out]
      · by_cases h' : i < k
        · simp [h, h', show i < k + 1 by omega]
        · simp [h, h', show ¬ i < k + 1 by omega]
    · have dk : decide ((k : Int) < 32) = false := by simp; omega
      have HF := Lib.hid (HH.out.same (tab_congr (T := hashV (wordS S)) fun i hi => by simp [hashV, show i < k by omega]))
      go_wp2_with (first
        | (refine wpL_load rfl 50 (.tmp 4) rfl (n := 32) 0 rfl _ HF.out (by omega) Tryd.underlying50 rfl (by kernel_rfl) ?_)
        | (refine wpL_store rfl 50 (.tmp 2) (.tmp 20) rfl 0 rfl rfl HR.out (by omega) (by kernel_rfl) (fun _ => rfl) ?_))
      refine ret_cell rfl rfl _ (HR.out.setRow.same ?_) Tryd.underlying50 rfl (by kernel_rfl) rfl ⟨rfl, below_setRow HB.out (by omega) _⟩
      rw [over_whole]
      exact tab_congr fun i _ => by simp
theorem trimM_drop (x : UInt8) : ∀ (l : List UInt8) (k : Nat), (∀ j, j < k → l[j]? = some x) → trimM x l = trimM x (l.drop k)
  | _, 0, _ => by rw [List.drop_zero]
  | [], k + 1, h => by have := h 0 (by omega); simp at this
  | y :: l, k + 1, h => by
    have h0 := h 0 (by omega)
    simp only [List.getElem?_cons_zero, Option.some.injEq] at h0
    subst h0
    have := trimM_drop y l k (fun j hj => by have := h (j + 1) (by omega); simpa using this)
    unfold trimM at this ⊢
    rw [List.dropWhile_cons_of_pos (by simp), List.drop_succ_cons, this]
theorem listOf_drop (h : Nat → UInt8) (n k : Nat) (hk : k < n) : (listOf h n).drop k = h k :: (listOf h n).drop (k + 1) := by
  rw [List.drop_eq_getElem_cons (by rw [listOf_length]; exact hk)]
  simp [listOf]
set_option maxHeartbeats 1000000 in
theorem refNumber_calls (S : Nat → BitVec 64) (w : World) : Calls Tryd.prog 15 #[.agg (tab 4 (lanes S))] w (Fresh w (numM S)) := by
  have HNm := Lib.hid (show numM S = bytesM (trimM 0 (listOf (wordS S) 32)) from rfl)
  go_enter Tryd.func15, Tryd.ntmps15
  go_wp2_with (first
    | (refine wpL_alloc rfl 50 rfl (tab 32 fun _ => .int .u8 0) (by kernel_rfl) ?_)
    | (refine wpL_load0 rfl 24 (.tmp 1) rfl rfl _ (Blk.new _ _ _) Tryd.underlying24 rfl (by kernel_rfl) ?_)
    | (go_at_call 30; refine (refWord_calls S _).mono ?_; rintro e1 w1 ⟨rfl, hb1⟩; have HB1 := Lib.hid (((Below.refl w.heap.size w).alloc (Nat.le_refl _) _).trans (hb1.mono (by rw [size_alloc]; omega))); have hs1 := hb1.size; rw [size_alloc] at hs1; clear hb1)
    | (refine wpL_storeA rfl 50 (.tmp 3) (.tmp 7) rfl 0 rfl rfl (Blk.new _ _ _) (by omega) (by kernel_rfl) (fun _ => rfl) ?_; intro w2 ho2 hk2; have HK2 := Lib.hid (hk2.same (over_whole _ _ _)); have HB2 := Lib.hid (ho2.below (HB1.out.alloc (by omega) _) (by omega)); have hs2 := Nat.le_of_eq ho2.size.symm; rw [size_alloc] at hs2; clear ho2 hk2))
  generalize wordS S = H at *
  go_loop [4] (fun i => ∃ k : Nat, k ≤ 32 ∧ i = .int .i64 k ∧ ∀ j, j < k → H j = 0) (fun i => 32 - (intOf i).toNat)
  case atStart => exact ⟨0, by omega, rfl, fun j hj => by omega⟩
  case round =>
    obtain ⟨k, hk, rfl, hz⟩ := hrel
    have HZ := Lib.hid hz
    clear hz
    by_cases h1 : k < 32 ∧ H k = 0
    · obtain ⟨hlt, h0⟩ := h1
      have dk : decide ((k : Int) < 32) = true := by simp; omega
      have lk : (k : Int) < 32 := by omega
      have c2 : w2.cell? ⟨w1.heap.size, k, none⟩ = some (.int .u8 (by8 (H k))) := HK2.out.at_ k hlt
      have d2 : (by8 (H k) == 0) = true := by rw [h0]; rfl
      have HH0 := Lib.hid h0
      clear h0
      go_wp2_with fail
      go_round
      case rel => exact ⟨k + 1, by omega, by go_num, fun j hj => by
        by_cases e : j = k
        · rw [e]; exact HH0.out
        · exact HZ.out j (by omega)⟩
      case measure => simp [intOf]; omega
    · have htr : trimM 0 (listOf H 32) = (listOf H 32).drop k := by
        rw [trimM_drop 0 (listOf H 32) k (fun j hj => by have := HZ.out j hj; rw [List.getElem?_eq_getElem (by rw [listOf_length]; omega)]; simp [listOf, this])]
        by_cases h2 : k < 32
        · rw [listOf_drop H 32 k h2]
          unfold trimM
          rw [List.dropWhile_cons_of_neg (by simpa using fun e => h1 ⟨h2, e⟩)]
        · rw [List.drop_eq_nil_of_le (by rw [listOf_length]; omega)]
          rfl
      have HTr := Lib.hid htr
      clear htr
      have hexit : (k < 32 ∧ (by8 (H k) == 0) = false ∧ decide ((k : Int) < 32) = true) ∨ decide ((k : Int) < 32) = false := by
        by_cases h2 : k < 32
        · refine Or.inl ⟨h2, ?_, by simp; omega⟩
          rw [show (0 : Int) = by8 0 from rfl, by8_beq]
          simpa using fun e => h1 ⟨h2, e⟩
        · exact Or.inr (by simp; omega)
      clear h1
      rcases hexit with ⟨hlt, d2, dk⟩ | dk
      · have lk : (k : Int) < 32 := by omega
        have c2 : w2.cell? ⟨w1.heap.size, k, none⟩ = some (.int .u8 (by8 (H k))) := HK2.out.at_ k hlt
        go_wp2_with fail
        go_loopw [4, 5] (fun i v wr => ∃ (m : Nat) (A1 : Option Addr) (c1 : Nat), k ≤ m ∧ m ≤ 32 ∧ i = .int .i64 m ∧ v = .slice A1 (m - k) c1 ∧ wr.ownsRow w2.heap.size 5 1 (.slice A1 (m - k) c1) (m - k) (bytes (((listOf H 32).drop k).take (m - k))) ∧ Below w2.heap.size w2 wr) (fun i _ _ => 32 - (intOf i).toNat)
        case atStart => exact ⟨k, none, 0, Nat.le_refl _, hk, rfl, by rw [Nat.sub_self], by rw [Nat.sub_self, List.take_zero]; exact World.ownsRow_nil _ _ _ _, Below.refl _ _⟩
        case round =>
          obtain ⟨m, A1, c1, hkm, hm, rfl, rfl, hown, hBl⟩ := hrel
          have hsz := hBl.size
          have HO := Lib.hid hown
          have HBl := Lib.hid hBl
          have hcm : m < 32 → wr.cell? ⟨w1.heap.size, m, none⟩ = some (.int .u8 (by8 (H m))) := fun h => (HK2.out.below hBl (by omega)).at_ m h
          clear hown hBl
          by_cases hltm : m < 32
          · have dm : decide ((m : Int) < 32) = true := by simp; omega
            have lm : (m : Int) < 32 := by omega
            have c3 := hcm hltm
            have htk : ((listOf H 32).drop k).take (m + 1 - k) = ((listOf H 32).drop k).take (m - k) ++ [H m] := by
              rw [show m + 1 - k = (m - k) + 1 by omega, List.take_succ_eq_append_getElem (by rw [List.length_drop, listOf_length]; omega), List.getElem_drop]
              simp [listOf, show k + (m - k) = m by omega]
            have HTk := Lib.hid htk
            have e1 : m - k + 1 = m + 1 - k := by omega
            have HE1 := Lib.hid e1
            clear hcm htk e1
            generalize H m = x at *
            generalize hq : m - k = q at *
            have hq32 : q ≤ 32 := by omega
            have HQ := Lib.hid hq
            clear hq
            go_wp2_with (at_builtin; ((refine wpL_append rfl (.tmp 22) (.tmp 26) 26 rfl elByte rfl (own_alloc HO.out _) rfl rfl (Seq.one_new _ _ _) (by simp [Value.oneCell']) (by unfold maxLen; omega) (by omega) (by rw [size_alloc]; omega) ?_; intro A4 c4 w4 ho4 hg4 _; have hs4 := hg4.size; rw [size_alloc] at hs4; have HO4 := Lib.hid ho4; have HB4 := Lib.hid ((HBl.out.alloc (by omega) _).grown hg4 (by rw [size_alloc]; omega) (fun g hg => by have := (HO.out.lt g hg).1; omega)); clear ho4 hg4)))
            have ho4 := HO4.out
            rw [bytes_snoc, ← HTk.out, HE1.out] at ho4
            exact ⟨⟨m + 1, A4, c4, by omega, by omega, by go_num, by rw [HE1.out], ho4, HB4.out⟩, by simp [intOf]; omega⟩
          · have dm : decide ((m : Int) < 32) = false := by simp; omega
            obtain hm32 : m = 32 := by omega
            have hfin : ((listOf H 32).drop k).take (m - k) = trimM 0 (listOf H 32) := by
              rw [HTr.out, List.take_of_length_le (by rw [List.length_drop, listOf_length]; omega)]
            have hlen : m - k = (trimM 0 (listOf H 32)).length := by rw [HTr.out, List.length_drop, listOf_length, hm32]
            have hl32 : (trimM 0 (listOf H 32)).length ≤ 32 := by omega
            have ho := HO.out
            rw [hfin, hlen] at ho
            rw [hlen]
            have HO1 := Lib.hid ho
            clear hfin hlen hm32 ho hcm HTr
            generalize trimM 0 (listOf H 32) = L at *
            go_wp2_with (go_at_call 14; refine (refBytes_calls A1 c1 _ L wr (by omega) (Nat.le_refl _) (Seq.of_own HO1.out)).mono ?_; rintro e3 w3 ⟨A2, c2', rfl, ho3, hb3⟩; have HO3 := Lib.hid ho3; have HB3 := Lib.hid hb3; clear ho3 hb3)
            go_ret
            unfold Fresh
            rw [HNm.out]
            exact ⟨A2, c2', rfl, own_mono HO3.out (by omega), HB2.out.trans ((HBl.out.trans (HB3.out.mono hsz)).mono (by omega))⟩
      · go_wp2_with fail
        go_loopw [4, 5] (fun i v wr => ∃ (m : Nat) (A1 : Option Addr) (c1 : Nat), k ≤ m ∧ m ≤ 32 ∧ i = .int .i64 m ∧ v = .slice A1 (m - k) c1 ∧ wr.ownsRow w2.heap.size 5 1 (.slice A1 (m - k) c1) (m - k) (bytes (((listOf H 32).drop k).take (m - k))) ∧ Below w2.heap.size w2 wr) (fun i _ _ => 32 - (intOf i).toNat)
        case atStart => exact ⟨k, none, 0, Nat.le_refl _, hk, rfl, by rw [Nat.sub_self], by rw [Nat.sub_self, List.take_zero]; exact World.ownsRow_nil _ _ _ _, Below.refl _ _⟩
        case round =>
          obtain ⟨m, A1, c1, hkm, hm, rfl, rfl, hown, hBl⟩ := hrel
          have hsz := hBl.size
          have HO := Lib.hid hown
          have HBl := Lib.hid hBl
          have hcm : m < 32 → wr.cell? ⟨w1.heap.size, m, none⟩ = some (.int .u8 (by8 (H m))) := fun h => (HK2.out.below hBl (by omega)).at_ m h
          clear hown hBl
          by_cases hltm : m < 32
          · have dm : decide ((m : Int) < 32) = true := by simp; omega
            have lm : (m : Int) < 32 := by omega
            have c3 := hcm hltm
            have htk : ((listOf H 32).drop k).take (m + 1 - k) = ((listOf H 32).drop k).take (m - k) ++ [H m] := by
              rw [show m + 1 - k = (m - k) + 1 by omega, List.take_succ_eq_append_getElem (by rw [List.length_drop, listOf_length]; omega), List.getElem_drop]
              simp [listOf, show k + (m - k) = m by omega]
            have HTk := Lib.hid htk
            have e1 : m - k + 1 = m + 1 - k := by omega
            have HE1 := Lib.hid e1
            clear hcm htk e1
            generalize H m = x at *
            generalize hq : m - k = q at *
            have hq32 : q ≤ 32 := by omega
            have HQ := Lib.hid hq
            clear hq
            go_wp2_with (at_builtin; ((refine wpL_append rfl (.tmp 22) (.tmp 26) 26 rfl elByte rfl (own_alloc HO.out _) rfl rfl (Seq.one_new _ _ _) (by simp [Value.oneCell']) (by unfold maxLen; omega) (by omega) (by rw [size_alloc]; omega) ?_; intro A4 c4 w4 ho4 hg4 _; have hs4 := hg4.size; rw [size_alloc] at hs4; have HO4 := Lib.hid ho4; have HB4 := Lib.hid ((HBl.out.alloc (by omega) _).grown hg4 (by rw [size_alloc]; omega) (fun g hg => by have := (HO.out.lt g hg).1; omega)); clear ho4 hg4)))
            have ho4 := HO4.out
            rw [bytes_snoc, ← HTk.out, HE1.out] at ho4
            exact ⟨⟨m + 1, A4, c4, by omega, by omega, by go_num, by rw [HE1.out], ho4, HB4.out⟩, by simp [intOf]; omega⟩
          · have dm : decide ((m : Int) < 32) = false := by simp; omega
            obtain hm32 : m = 32 := by omega
            have hfin : ((listOf H 32).drop k).take (m - k) = trimM 0 (listOf H 32) := by
              rw [HTr.out, List.take_of_length_le (by rw [List.length_drop, listOf_length]; omega)]
            have hlen : m - k = (trimM 0 (listOf H 32)).length := by rw [HTr.out, List.length_drop, listOf_length, hm32]
            have hl32 : (trimM 0 (listOf H 32)).length ≤ 32 := by omega
            have ho := HO.out
            rw [hfin, hlen] at ho
            rw [hlen]
            have HO1 := Lib.hid ho
            clear hfin hlen hm32 ho hcm HTr
            generalize trimM 0 (listOf H 32) = L at *
            go_wp2_with (go_at_call 14; refine (refBytes_calls A1 c1 _ L wr (by omega) (Nat.le_refl _) (Seq.of_own HO1.out)).mono ?_; rintro e3 w3 ⟨A2, c2', rfl, ho3, hb3⟩; have HO3 := Lib.hid ho3; have HB3 := Lib.hid hb3; clear ho3 hb3)
            go_ret
            unfold Fresh
            rw [HNm.out]
            exact ⟨A2, c2', rfl, own_mono HO3.out (by omega), HB2.out.trans ((HBl.out.trans (HB3.out.mono hsz)).mono (by omega))⟩
end Go.Proofs.YtnghneoggiolgaaDoor
