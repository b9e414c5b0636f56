/- The program's List. -/
import Derived.Test.YtfhindffmghlaaaDoorG05
import Derived.Test.YtfhindffmghlaaaDoorG11
import Derived.Test.YtfhindffmghlaaaDoorG13
set_option linter.unusedVariables false
set_option linter.unusedSimpArgs false
namespace Go.Proofs.YtfhindffmghlaaaDoor
open Go.RowKit
set_option maxHeartbeats 1000000 in
set_option maxRecDepth 20000 in
theorem rlpList_calls (A : Option Addr) (c B : Nat) (ps : List Piece) (w : World) (hps : ps.length ≤ 1099511627776) (hj : (joinP ps).length ≤ 1099511627776) (hB : B ≤ w.heap.size) (hs : Seq w B A (pcs ps)) (hp : ∀ q ∈ ps, Seq w B q.1 (bytes q.2.2)) :
    Calls Tryd.prog 80 #[.slice A ps.length c] w (Fresh w (withM 192 (joinP ps))) := by
  have HS := Lib.hid hs
  have HP := Lib.hid hp
  have hwl := wholeN_le (joinP ps).length (by omega)
  have HLen := Lib.hid (headL_length 192 (joinP ps).length)
  have HWm := Lib.hid (show withM 192 (joinP ps) = headL 192 (joinP ps).length ++ joinP ps from rfl)
  clear hs hp
  go_enter Tryd.func80, Tryd.ntmps80
  go_wp2_with fail
  go_loop [3, 11] (fun s i => ∃ k : Nat, k ≤ ps.length ∧ i = .int .i64 k ∧ s = .int .i64 ((joinP (ps.take k)).length : Int)) (fun _ i => ps.length - (intOf i).toNat)
  case atStart => exact ⟨0, by omega, rfl, rfl⟩
  case round =>
    obtain ⟨k, hk, rfl, rfl⟩ := hrel
    by_cases hlt : k < ps.length
    · have dk : decide ((k : Int) < (ps.length : Int)) = true := by simp; omega
      have lk : (k : Int) < (ps.length : Int) := by omega
      obtain ⟨ad, rfl, _, hc0⟩ := HS.out.piece k hlt
      have htk := joinP_take ps k hlt
      have hle2 := joinP_le ps (k + 1)
      rw [htk, List.length_append] at hle2
      generalize ps[k] = q at *
      obtain ⟨Aq, cq, lq⟩ := q
      simp only at hc0 htk hle2
      have HTk := Lib.hid htk
      clear htk
      generalize joinP (ps.take k) = L at *
      go_wp2_with fail
      go_round
      case rel => exact ⟨k + 1, by omega, by go_num, by rw [HTk.out, List.length_append]; rfl⟩
      case measure => simp [intOf]; omega
    · have dk : decide ((k : Int) < (ps.length : Int)) = false := by simp; omega
      obtain hkn : k = ps.length := by omega
      have hjt : joinP (ps.take k) = joinP ps := by rw [hkn, List.take_length]
      rw [hjt]
      clear hjt hkn
      have hw1 : ((joinP ps).length : Int) ≤ 1099511627776 := by omega
      generalize hJ : (joinP ps).length = J at *
      have HJ := Lib.hid hJ
      clear hJ
      go_wp2_with (first
        | (go_at_call 103; refine (whole_calls J (by omega) w).mono ?_; rintro e1 w1 ⟨rfl, hb1⟩; have hs1 := hb1.size; have HB1 := Lib.hid hb1; clear hb1)
        | (refine wpL_make rfl (.const (.int .i64 0)) (.tmp 21) 24 rfl Tryd.underlying24 infoByte rfl .i64 .i64 0 (wholeN J) rfl rfl (Nat.zero_le _) (by omega) (by omega) ?_; have hm := own_made w1 5 (wholeN J) (fun _ => .int .u8 0) (by unfold maxLen; omega); have HM1 := Lib.hid hm; clear hm)
        | (go_at_call 102; refine (head_calls w1.heap.size _ _ [] 192 J (by omega) (by simp) _ HM1.out (by rw [size_alloc]; omega)).mono ?_; rintro e2 w2 ⟨A2, c2, rfl, ho2, hg2, _⟩; rw [List.nil_append] at ho2; have hs2 := hg2.size; rw [size_alloc] at hs2; have HO2 := Lib.hid ho2; have hbb := ((HB1.out.alloc hs1 (.cells (tab (wholeN J) fun _ => .int .u8 0) 5)).grown hg2 (by rw [size_alloc]; omega) (fun g hg => by simp [Value.ownBlock] at hg; omega)); have HB2 := Lib.hid hbb; have hss := hbb.size; clear ho2 hg2 hbb))
      have hln := HLen.out
      have hln2 : (headL 192 J).length ≤ 9 := by omega
      have HLn := Lib.hid hln
      clear hln
      generalize headL 192 J = H0 at *
      go_loopw [6, 27] (fun v i wr => ∃ (m : Nat) (A1 : Option Addr) (c1 : Nat), m ≤ ps.length ∧ i = .int .i64 m ∧ v = .slice A1 (H0 ++ joinP (ps.take m)).length c1 ∧ wr.ownsRow w1.heap.size 5 1 (.slice A1 (H0 ++ joinP (ps.take m)).length c1) (H0 ++ joinP (ps.take m)).length (bytes (H0 ++ joinP (ps.take m))) ∧ Below w.heap.size w wr ∧ w1.heap.size ≤ wr.heap.size) (fun _ i _ => ps.length - (intOf i).toNat)
      case atStart => exact ⟨0, A2, c2, by omega, rfl, by simp [joinP], by simpa [joinP] using HO2.out, HB2.out, by omega⟩
      case round =>
        clear HO2 HB2
        obtain ⟨m, A1, c1, hm, rfl, rfl, hown, hBl, hsz⟩ := hrel
        have hsz0 := hBl.size
        have hle := joinP_le ps m
        rw [HJ.out] at hle
        by_cases hlt : m < ps.length
        · have dm : decide ((m : Int) < (ps.length : Int)) = true := by simp; omega
          have lm : (m : Int) < (ps.length : Int) := by omega
          obtain ⟨ad, rfl, _, hc0⟩ := (HS.out.below hBl hB).piece m hlt
          have hq := (HP.out _ (List.getElem_mem hlt)).below hBl hB
          have htk := joinP_take ps m hlt
          have hle2 := joinP_le ps (m + 1)
          rw [htk, List.length_append, HJ.out] at hle2
          generalize ps[m] = q at *
          obtain ⟨Aq, cq, lq⟩ := q
          simp only at hc0 hq htk hle2
          have hL2 : (H0 ++ joinP (ps.take m)).length = H0.length + (joinP (ps.take m)).length := by rw [List.length_append]
          have HTk := Lib.hid (show H0 ++ joinP (ps.take (m + 1)) = (H0 ++ joinP (ps.take m)) ++ lq by rw [htk, List.append_assoc])
          have hL3 : (H0 ++ joinP (ps.take m)).length ≤ 9 + (joinP (ps.take m)).length := by omega
          have HO := Lib.hid hown
          have HB := Lib.hid hBl
          have HQ := Lib.hid hq
          clear hown hBl hq htk hL2
          generalize H0 ++ joinP (ps.take m) = L at *
          go_wp2_with (at_builtin; ((refine wpL_append rfl (.tmp 31) (.tmp 32) 24 rfl elByte rfl HO.out rfl (by rw [bytes_length]; simp) HQ.out (bytes_one _) (by unfold maxLen; omega) (by omega) hsz ?_; intro A4 c4 w4 ho4 hg4 _; rw [← bytes_append] at ho4; have hs4 := hg4.size; have HO4 := Lib.hid ho4; have HB4 := Lib.hid (HB.out.grown hg4 hsz0 (fun g hg => Nat.le_trans hs1 (HO.out.lt g hg).1)); clear ho4 hg4)))
          exact ⟨⟨m + 1, A4, c4, by omega, by go_num, by rw [HTk.out, List.length_append], by rw [HTk.out, List.length_append]; exact HO4.out, HB4.out, by omega⟩, by simp [intOf]; omega⟩
        · have dm : decide ((m : Int) < (ps.length : Int)) = false := by simp; omega
          obtain hmn : m = ps.length := by omega
          have hjt : joinP (ps.take m) = joinP ps := by rw [hmn, List.take_length]
          rw [hjt] at hown ⊢
          have HO := Lib.hid hown
          have HB := Lib.hid hBl
          clear hown hBl hjt hmn
          go_wp2_with fail
          go_ret
          unfold Fresh
          rw [HWm.out]
          exact ⟨A1, c1, rfl, own_mono HO.out hs1, HB.out⟩
end Go.Proofs.YtfhindffmghlaaaDoor
/- stands. -/
namespace Go.Proofs.YtfhindffmghlaaaDoor
open Go.RowKit
/-- A hash's bytes. -/
def hashL (l : List UInt8) : List UInt8 := listOf (hashS l) 32
theorem hashL_length (l : List UInt8) : (hashL l).length = 32 := listOf_length _ _
/-- Bytes of the call's own, or of what it was handed. -/
def Given (w : World) (base : Nat) (b : List UInt8) (e : Ending) (w' : World) : Prop :=
  ∃ q : Piece, e = .returned (pcV q) ∧ q.2.2 = b ∧ OwnP w' base q ∧ Below w.heap.size w w'
set_option maxHeartbeats 1000000 in
set_option maxRecDepth 20000 in
theorem stands_calls (base : Nat) (q : Piece) (w : World) (hT : Tables w) (hb : base ≤ w.heap.size) (hl : q.2.2.length ≤ 1099511627776) (h : OwnP w base q) :
    Calls Tryd.prog 83 #[pcV q] w (Given w base (stands hashL q.2.2)) := by
  obtain ⟨A, c, b⟩ := q
  have hl : b.length ≤ 1099511627776 := hl
  unfold pcV
  have H := Lib.hid h
  have HT := Lib.hid hT
  have hst : stands hashL b = if b.length < 32 then b else bytesM (hashL b) := rfl
  have HSt := Lib.hid hst
  clear h hT hst
  by_cases hlt : b.length < 32
  · have dl : decide ((b.length : Int) < 32) = true := decide_eq_true (by omega)
    have hs := HSt.out
    rw [if_pos hlt] at hs
    have HS := Lib.hid hs
    clear hs HSt
    go_enter Tryd.func83, Tryd.ntmps83
    go_wp2_with fail
    go_ret
    exact ⟨(A, c, b), rfl, HS.out.symm, H.out, Below.refl _ _⟩
  · have dl : decide ((b.length : Int) < 32) = false := decide_eq_false (by omega)
    have hs := HSt.out
    rw [if_neg hlt] at hs
    have HS := Lib.hid hs
    have hba := (Below.refl w.heap.size w).alloc (Nat.le_refl _) (.cells #[.slice A b.length c] 24)
    have hsum := sumF_calls (some ⟨w.heap.size, 0, none⟩) 1 (w.alloc (.cells #[.slice A b.length c] 24)).heap.size [(A, c, b)] (w.alloc (.cells #[.slice A b.length c] 24)) (HT.out.below hba HT.out.size) (by simp) (Seq.of_blk (xs := [.slice A b.length c]) (Blk.new _ _ _) (by rw [size_alloc]; exact Nat.lt_succ_self _)) (Nat.le_refl _) (fun p hp => by
      have e : p = (A, c, b) := by simpa using hp
      subst e
      exact ⟨Seq.of_own (H.out.below hba), by show b.length ≤ _; omega⟩)
    rw [show joinP [(A, c, b)] = b from by simp [joinP]] at hsum
    have HSum := Lib.hid hsum
    have HBa := Lib.hid hba
    clear hs HSt hsum hba
    go_enter Tryd.func83, Tryd.ntmps83
    go_wp2_with (first
      | (refine wpL_alloc rfl 23 rfl (tab 32 fun _ => .int .u8 0) (by kernel_rfl) ?_)
      | (go_at_call 18; refine HSum.out.mono ?_; rintro e1 w1 ⟨rfl, hb1⟩; have hb1' := HBa.out.trans (hb1.mono HBa.out.size); have hs1 := hb1'.size; have HB1 := Lib.hid hb1'; clear hb1 hb1')
      | (refine wpL_storeA rfl 23 (.tmp 3) (.tmp 10) rfl 0 rfl rfl (Blk.new _ _ _) (by omega) (by kernel_rfl) (fun _ => rfl) ?_; intro w2 ho2 hk2; have HO2 := Lib.hid ho2; have hk2' := hk2.same (over_whole _ _ _); have HQ2 := Lib.hid (Seq.of_array hk2' (Blk.lt hk2')); have hs2 := Nat.le_of_eq ho2.size.symm; rw [size_alloc] at hs2; clear ho2 hk2 hk2')
      | (go_at_call 78; have hrb := rlpBytes_calls (some ⟨w1.heap.size, 0, none⟩) 32 w2.heap.size (hashL b) w2 (by rw [hashL_length]; omega) (Nat.le_refl _) HQ2.out; rw [hashL_length] at hrb; refine hrb.mono ?_; clear hrb; rintro e3 w3 ⟨A3, c3, rfl, ho3, hb3⟩; have HO3 := Lib.hid ho3; have HB3 := Lib.hid hb3; clear ho3 hb3))
    go_ret
    have hb2 : Below w.heap.size w w2 := HO2.out.below (HB1.out.alloc hs1 _) hs1
    exact ⟨(A3, c3, bytesM (hashL b)), rfl, HS.out.symm, own_mono HO3.out (by omega), hb2.trans (HB3.out.mono (by omega))⟩
end Go.Proofs.YtfhindffmghlaaaDoor
