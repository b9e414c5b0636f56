/- The program's List. -/
import Derived.Test.YtnghneoggiolgaaDoorRParts
namespace Go.Proofs.YtnghneoggiolgaaDoor
open Go.RowKit
/-- Own bytes with their head ahead. -/
def withM (kd : Nat) (l : List UInt8) : List UInt8 := headL kd l.length ++ l
theorem withM_length (kd : Nat) (l : List UInt8) : (withM kd l).length = wholeN l.length := by unfold withM; rw [List.length_append, headL_length]
set_option maxHeartbeats 1000000 in
theorem rlpList_calls (A : Option Addr) (c B : Nat) (ps : List Piece) (w : World) (hps : ps.length ≤ 1099511627776) (hj : (joinP ps).length ≤ 1099511627776) (hB : B ≤ w.heap.size) (hs : Seq w B A (pcs ps)) (hp : ∀ q ∈ ps, Seq w B q.1 (bytes q.2.2)) :
    Calls Tryd.prog 13 #[.slice A ps.length c] w (Fresh w (withM 192 (joinP ps))) := by
  have HS := Lib.hid hs
  have HP := Lib.hid hp
  have hwl := wholeN_le (joinP ps).length (by omega)
  have HLen := Lib.hid (headL_length 192 (joinP ps).length)
  have HWm := Lib.hid (show withM 192 (joinP ps) = headL 192 (joinP ps).length ++ joinP ps from rfl)
  clear hs hp
  go_enter Tryd.func13, Tryd.ntmps13
  go_wp2_with fail
  go_loop [3, 11] (fun s i => ∃ k : Nat, k ≤ ps.length ∧ i = .int .i64 k ∧ s = .int .i64 ((joinP (ps.take k)).length : Int)) (fun _ i => ps.length - (intOf i).toNat)
  case atStart => exact ⟨0, by omega, rfl, rfl⟩
  case round =>
    obtain ⟨k, hk, rfl, rfl⟩ := hrel
    by_cases hlt : k < ps.length
    · have dk : decide ((k : Int) < (ps.length : Int)) = true := by simp; omega
      have lk : (k : Int) < (ps.length : Int) := by omega
      obtain ⟨ad, rfl, _, hc0⟩ := HS.out.piece k hlt
      have htk := joinP_take ps k hlt
      have hle2 := joinP_le ps (k + 1)
      rw [htk, List.length_append] at hle2
      generalize ps[k] = q at *
      obtain ⟨Aq, cq, lq⟩ := q
      simp only at hc0 htk hle2
      have HTk := Lib.hid htk
      clear htk
      generalize joinP (ps.take k) = L at *
      go_wp2_with fail
      go_round
      case rel => exact ⟨k + 1, by omega, by go_num, by rw [HTk.out, List.length_append]; rfl⟩
      case measure => simp [intOf]; omega
    · have dk : decide ((k : Int) < (ps.length : Int)) = false := by simp; omega
      obtain hkn : k = ps.length := by omega
      have hjt : joinP (ps.take k) = joinP ps := by rw [hkn, List.take_length]
      rw [hjt]
      clear hjt hkn
      have hw1 : ((joinP ps).length : Int) ≤ 1099511627776 := by omega
      generalize hJ : (joinP ps).length = J at *
      have HJ := Lib.hid hJ
      clear hJ
      go_wp2_with (first
        | (go_at_call 28; refine (whole_calls J (by omega) w).mono ?_; rintro e1 w1 ⟨rfl, hb1⟩; have hs1 := hb1.size; have HB1 := Lib.hid hb1; clear hb1)
        | (refine wpL_make rfl (.const (.int .i64 0)) (.tmp 21) 26 rfl Tryd.underlying26 infoByte rfl .i64 .i64 0 (wholeN J) rfl rfl (Nat.zero_le _) (by omega) (by omega) ?_; have hm := own_made w1 5 (wholeN J) (fun _ => .int .u8 0) (by unfold maxLen; omega); have HM1 := Lib.hid hm; clear hm)
        | (go_at_call 27; refine (head_calls w1.heap.size _ _ [] 192 J (by omega) (by simp) _ HM1.out (by rw [size_alloc]; omega)).mono ?_; rintro e2 w2 ⟨A2, c2, rfl, ho2, hg2, _⟩; rw [List.nil_append] at ho2; have hs2 := hg2.size; rw [size_alloc] at hs2; have HO2 := Lib.hid ho2; have hbb := ((HB1.out.alloc hs1 (.cells (tab (wholeN J) fun _ => .int .u8 0) 5)).grown hg2 (by rw [size_alloc]; omega) (fun g hg => by simp [Value.ownBlock] at hg; omega)); have HB2 := Lib.hid hbb; have hss := hbb.size; clear ho2 hg2 hbb))
      have hln := HLen.out
      have hln2 : (headL 192 J).length ≤ 9 := by omega
      have HLn := Lib.hid hln
      clear hln
      generalize headL 192 J = H0 at *
      go_loopw [6, 27] (fun v i wr => ∃ (m : Nat) (A1 : Option Addr) (c1 : Nat), m ≤ ps.length ∧ i = .int .i64 m ∧ v = .slice A1 (H0 ++ joinP (ps.take m)).length c1 ∧ wr.ownsRow w1.heap.size 5 1 (.slice A1 (H0 ++ joinP (ps.take m)).length c1) (H0 ++ joinP (ps.take m)).length (bytes (H0 ++ joinP (ps.take m))) ∧ Below w.heap.size w wr ∧ w1.heap.size ≤ wr.heap.size) (fun _ i _ => ps.length - (intOf i).toNat)
      case atStart => exact ⟨0, A2, c2, by omega, rfl, by simp [joinP], by simpa [joinP] using HO2.out, HB2.out, by omega⟩
      case round =>
        clear HO2 HB2
        obtain ⟨m, A1, c1, hm, rfl, rfl, hown, hBl, hsz⟩ := hrel
        have hsz0 := hBl.size
        have hle := joinP_le ps m
        rw [HJ.out] at hle
        by_cases hlt : m < ps.length
        · have dm : decide ((m : Int) < (ps.length : Int)) = true := by simp; omega
          have lm : (m : Int) < (ps.length : Int) := by omega
          obtain ⟨ad, rfl, _, hc0⟩ := (HS.out.below hBl hB).piece m hlt
          have hq := (HP.out _ (List.getElem_mem hlt)).below hBl hB
          have htk := joinP_take ps m hlt
          have hle2 := joinP_le ps (m + 1)
          rw [htk, List.length_append, HJ.out] at hle2
          generalize ps[m] = q at *
          obtain ⟨Aq, cq, lq⟩ := q
          simp only at hc0 hq htk hle2
          have hL2 : (H0 ++ joinP (ps.take m)).length = H0.length + (joinP (ps.take m)).length := by rw [List.length_append]
          have HTk := Lib.hid (show H0 ++ joinP (ps.take (m + 1)) = (H0 ++ joinP (ps.take m)) ++ lq by rw [htk, List.append_assoc])
          have hL3 : (H0 ++ joinP (ps.take m)).length ≤ 9 + (joinP (ps.take m)).length := by omega
          have HO := Lib.hid hown
          have HB := Lib.hid hBl
          have HQ := Lib.hid hq
          clear hown hBl hq htk hL2
          generalize H0 ++ joinP (ps.take m) = L at *
          go_wp2_with (at_builtin; ((refine wpL_append rfl (.tmp 31) (.tmp 32) 26 rfl elByte rfl HO.out rfl (by rw [bytes_length]; simp) HQ.out (bytes_one _) (by unfold maxLen; omega) (by omega) hsz ?_; intro A4 c4 w4 ho4 hg4 _; rw [← bytes_append] at ho4; have hs4 := hg4.size; have HO4 := Lib.hid ho4; have HB4 := Lib.hid (HB.out.grown hg4 hsz0 (fun g hg => Nat.le_trans hs1 (HO.out.lt g hg).1)); clear ho4 hg4)))
          exact ⟨⟨m + 1, A4, c4, by omega, by go_num, by rw [HTk.out, List.length_append], by rw [HTk.out, List.length_append]; exact HO4.out, HB4.out, by omega⟩, by simp [intOf]; omega⟩
        · have dm : decide ((m : Int) < (ps.length : Int)) = false := by simp; omega
          obtain hmn : m = ps.length := by omega
          have hjt : joinP (ps.take m) = joinP ps := by rw [hmn, List.take_length]
          rw [hjt] at hown ⊢
          have HO := Lib.hid hown
          have HB := Lib.hid hBl
          clear hown hBl hjt hmn
          go_wp2_with fail
          go_ret
          unfold Fresh
          rw [HWm.out]
          exact ⟨A1, c1, rfl, own_mono HO.out hs1, HB.out⟩
end Go.Proofs.YtnghneoggiolgaaDoor
