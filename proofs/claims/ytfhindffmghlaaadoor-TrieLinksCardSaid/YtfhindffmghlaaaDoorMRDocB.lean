/- The document's Bytes, List. -/
import Derived.Test.YtfhindffmghlaaaDoorG14
set_option linter.unusedVariables false
set_option linter.unusedSimpArgs false
namespace Go.Proofs.YtfhindffmghlaaaDoor
open Go.RowKit
theorem bytes_cons (x : UInt8) (l : List UInt8) : bytes [x] ++ bytes l = bytes (x :: l) := rfl
set_option maxHeartbeats 1000000 in
set_option maxRecDepth 20000 in
theorem digits_calls (n : Nat) (hn : n ≤ 281474976710656) (w : World) : Calls Tryd.prog 121 #[.int .i64 n] w (Fresh w (beL n (nb n))) := by
  have h8 := nb_le n 7 (by omega)
  go_enter Tryd.func121, Tryd.ntmps121
  go_wp2_with fail
  go_loopw [0, 3] (fun x v wr => ∃ (k : Nat) (A : Option Addr) (c : Nat), k ≤ nb n ∧ x = .int .i64 ((n / 256 ^ k : Nat) : Int) ∧ v = .slice A k c ∧ wr.ownsRow w.heap.size 5 1 (.slice A k c) k (bytes (beL n k)) ∧ Below w.heap.size w wr) (fun _ v _ => nb n - lenV v)
  case atStart => exact ⟨0, none, 0, by omega, by simp, rfl, World.ownsRow_nil _ _ _ _, Below.refl _ _⟩
  case round =>
    obtain ⟨k, A1, c1, hk, rfl, rfl, hown, hB⟩ := hrel
    have hl := nb_left n k
    have hdiv : n / 256 ^ (k + 1) = n / 256 ^ k / 256 := by rw [Nat.pow_succ, Nat.div_div_eq_div_mul]
    have hle : n / 256 ^ k ≤ n := Nat.div_le_self _ _
    have hsz := hB.size
    have HO := Lib.hid hown
    have HB := Lib.hid hB
    clear hown hB
    by_cases hlt : k < nb n
    · have hp := hl.2 hlt
      have HD := Lib.hid hdiv
      have hbe : beL n (k + 1) = UInt8.ofNat (n / 256 ^ k) :: beL n k := rfl
      have hz := u8_nat (n / 256 ^ k)
      generalize UInt8.ofNat (n / 256 ^ k) = z at *
      generalize n / 256 ^ k = x at *
      have HBe := Lib.hid hbe
      have hbl := beL_length n k
      have HBl := Lib.hid hbl
      clear hdiv hl hbe hbl
      have dx : decide ((x : Int) > 0) = true := by simp; omega
      go_wp2_with (first
        | (at_builtin; first
          | ((refine wpL_append rfl (.tmp 7) (.tmp 11) 24 rfl elByte rfl (World.ownsRow_nil _ wr.heap.size 5 1) rfl rfl (Seq.one_new _ _ _) (by simp [Value.oneCell']) (by unfold maxLen; omega) (by omega) (by rw [size_alloc]; omega) ?_; intro A7 c7 w7 ho7 hg7 hf7; simp only [Nat.zero_add, List.nil_append] at ho7; have hs7 := hg7.size; rw [size_alloc] at hs7; have hb7 := (((Below.refl wr.heap.size wr).alloc (Nat.le_refl _) _).grown hg7 (by rw [size_alloc]; omega) (fun g hg => by simp [Value.ownBlock] at hg)); have HO7 := Lib.hid ho7; have HB7 := Lib.hid hb7; have HS7 := Lib.hid ((Seq.of_own HO.out).below hb7 (Nat.le_refl _)); clear ho7 hg7 hf7 hb7))
          | ((refine wpL_append rfl (.tmp 13) (.tmp 14) 24 rfl elByte rfl HO7.out rfl (by rw [bytes_length, HBl.out]; simp) HS7.out (bytes_one _) (by unfold maxLen; omega) (by omega) (by omega) ?_; intro A8 c8 w8 ho8 hg8 _; have ho8' := own_mono ho8 (Nat.le_trans hsz (Nat.le_refl _)); have HO8 := Lib.hid ho8'; have HB8 := Lib.hid (HB.out.trans ((HB7.out.grown hg8 (by omega) (fun g hg => (HO7.out.lt g hg).1)).mono hsz)); clear ho8 ho8' hg8))))
      have ho8 := HO8.out
      rw [show ([Value.int .u8 (by8 z)] ++ bytes (beL n k)) = bytes (beL n (k + 1)) by rw [HBe.out]; rfl] at ho8
      exact ⟨⟨k + 1, A8, c8, by omega, by rw [HD.out]; rfl, by rw [Nat.add_comm], by rw [Nat.add_comm] at ho8; exact ho8, HB8.out⟩, by simp [lenV]; omega⟩
    · have hx : n / 256 ^ k = 0 := by
        rcases Nat.eq_zero_or_pos (n / 256 ^ k) with h1 | h1
        · exact h1
        · exact absurd (hl.1 h1) hlt
      obtain hkn : k = nb n := by omega
      have HK := Lib.hid hkn
      clear hdiv hl hle hkn
      rw [hx]
      go_wp2_with fail
      go_ret
      unfold Fresh
      rw [beL_length, ← HK.out]
      exact ⟨A1, c1, rfl, HO.out, HB.out⟩
set_option maxHeartbeats 1000000 in
set_option maxRecDepth 20000 in
theorem with_calls (A : Option Addr) (c B : Nat) (l : List UInt8) (kd : Nat) (hkd : kd ≤ 200) (w : World) (hl : l.length ≤ 1099511627776) (hB : B ≤ w.heap.size) (hs : Seq w B A (bytes l)) :
    Calls Tryd.prog 116 #[.int .i64 kd, .slice A l.length c] w (Fresh w (withM kd l)) := by
  have HS := Lib.hid hs
  clear hs
  by_cases h : l.length ≤ 55
  · have d : decide ((l.length : Int) ≤ 55) = true := by simp; omega
    obtain ⟨y, hy⟩ : ∃ y, UInt8.ofNat (kd + l.length) = y := ⟨_, rfl⟩
    have e : withM kd l = y :: l := by unfold withM headL; rw [if_pos h, hy]; rfl
    have HE := Lib.hid e
    have em : ((kd : Int) + (l.length : Int)) % 256 = by8 y := by
      rw [← hy, ← u8_nat]
      omega
    clear e hy
    go_enter Tryd.func116, Tryd.ntmps116
    go_wp2_with (first
      | (at_builtin; first
        | ((refine wpL_append rfl (.tmp 12) (.tmp 17) 24 rfl elByte rfl (World.ownsRow_nil _ w.heap.size 5 1) rfl rfl (Seq.one_new _ _ _) (by simp [Value.oneCell']) (by unfold maxLen; omega) (by omega) (by rw [size_alloc]; omega) ?_; intro A4 c4 w4 ho4 hg4 _; simp only [Nat.zero_add, List.nil_append] at ho4; have hs4 := hg4.size; rw [size_alloc] at hs4; have hb4 := (((Below.refl w.heap.size w).alloc (Nat.le_refl _) _).grown hg4 (by rw [size_alloc]; omega) (fun g hg => by simp [Value.ownBlock] at hg)); have HO4 := Lib.hid ho4; have HB4 := Lib.hid hb4; clear ho4 hg4 hb4))
        | ((refine wpL_append rfl (.tmp 33) (.tmp 34) 24 rfl elByte rfl HO4.out rfl (by rw [bytes_length]; simp) (HS.out.below HB4.out hB) (bytes_one _) (by unfold maxLen; omega) (by omega) (by omega) ?_; intro A8 c8 w8 ho8 hg8 _; have HO8 := Lib.hid ho8; have HB8 := Lib.hid (HB4.out.grown hg8 (by omega) (fun g hg => (HO4.out.lt g hg).1)); clear ho8 hg8))))
    go_ret
    have ho8 := HO8.out
    rw [show (kd : Int) + (l.length : Int) = by8 y by rw [← em]; omega] at ho8
    rw [show ([Value.int .u8 (by8 y)] ++ bytes l) = bytes (y :: l) from rfl] at ho8
    unfold Fresh
    rw [HE.out, List.length_cons]
    exact ⟨A8, c8, by rw [Nat.add_comm]; rfl, by rw [Nat.add_comm] at ho8; exact ho8, HB8.out⟩
  · have d : decide ((l.length : Int) ≤ 55) = false := by simp; omega
    have h8 := nb_le l.length 7 (by omega)
    obtain ⟨y, hy⟩ : ∃ y, UInt8.ofNat (kd + 55 + nb l.length) = y := ⟨_, rfl⟩
    have e : withM kd l = y :: (beL l.length (nb l.length) ++ l) := by unfold withM headL; rw [if_neg h, hy]; rfl
    have HE := Lib.hid e
    have hbl := beL_length l.length (nb l.length)
    have HBl := Lib.hid hbl
    have em : ((kd : Int) + 55 + (nb l.length : Int)) % 256 = by8 y := by
      rw [← hy, ← u8_nat]
      omega
    have hdg := fun w => digits_calls l.length (by omega) w
    clear e hy hbl
    generalize beL l.length (nb l.length) = D at *
    generalize nb l.length = m at *
    have HDg := Lib.hid hdg
    clear hdg
    go_enter Tryd.func116, Tryd.ntmps116
    go_wp2_with (first
      | (go_at_call 121; refine (HDg.out w).mono ?_; unfold Fresh; rw [HBl.out]; rintro e1 w1 ⟨A1, c1, rfl, ho1, hb1⟩; have hs1 := hb1.size; have HO1 := Lib.hid ho1; have HB1 := Lib.hid hb1; clear ho1 hb1)
      | (at_builtin; first
        | ((refine wpL_append rfl (.tmp 21) (.tmp 28) 24 rfl elByte rfl (World.ownsRow_nil _ w1.heap.size 5 1) rfl rfl (Seq.one_new _ _ _) (by simp [Value.oneCell']) (by unfold maxLen; omega) (by omega) (by rw [size_alloc]; omega) ?_; intro A4 c4 w4 ho4 hg4 _; simp only [Nat.zero_add, List.nil_append] at ho4; have hs4 := hg4.size; rw [size_alloc] at hs4; have hb4 := (((Below.refl w1.heap.size w1).alloc (Nat.le_refl _) _).grown hg4 (by rw [size_alloc]; omega) (fun g hg => by simp [Value.ownBlock] at hg)); have HO4 := Lib.hid ho4; have HB4 := Lib.hid hb4; have HS4 := Lib.hid ((Seq.of_own HO1.out).below hb4 (Nat.le_refl _)); clear ho4 hg4 hb4))
        | ((refine wpL_append rfl (.tmp 30) (.tmp 31) 24 rfl elByte rfl HO4.out rfl (by rw [bytes_length, HBl.out]; simp) HS4.out (bytes_one _) (by unfold maxLen; omega) (by omega) (by omega) ?_; intro A7 c7 w7 ho7 hg7 _; have hs7 := hg7.size; have HO7 := Lib.hid ho7; have HB7 := Lib.hid (HB4.out.grown hg7 (by omega) (fun g hg => (HO4.out.lt g hg).1)); clear ho7 hg7))
        | ((refine wpL_append rfl (.tmp 33) (.tmp 34) 24 rfl elByte rfl HO7.out rfl (by rw [bytes_length]; simp) (HS.out.below (HB1.out.trans (HB7.out.mono hs1)) hB) (bytes_one _) (by unfold maxLen; omega) (by omega) (by omega) ?_; intro A8 c8 w8 ho8 hg8 _; have HO8 := Lib.hid ho8; have HB8 := Lib.hid (HB1.out.trans ((HB7.out.grown hg8 (by omega) (fun g hg => (HO7.out.lt g hg).1)).mono hs1)); clear ho8 hg8))))
    go_ret
    have ho8 := HO8.out
    rw [show ([Value.int .u8 (by8 y)] ++ bytes D ++ bytes l) = bytes (y :: (D ++ l)) by rw [List.append_assoc, ← bytes_append]; rfl] at ho8
    have hle : (y :: (D ++ l)).length = 1 + m + l.length := by rw [List.length_cons, List.length_append, HBl.out]; omega
    unfold Fresh
    rw [HE.out, hle]
    exact ⟨A8, c8, rfl, own_mono ho8 hs1, HB8.out⟩
theorem withM_bytes {l : List UInt8} (h : small l = false) : withM 128 l = bytesM l := by unfold withM bytesM; rw [if_neg (by rw [h]; simp)]
set_option maxHeartbeats 1000000 in
set_option maxRecDepth 20000 in
theorem refBytes_calls (A : Option Addr) (c B : Nat) (l : List UInt8) (w : World) (hl : l.length ≤ 1099511627776) (hB : B ≤ w.heap.size) (hs : Seq w B A (bytes l)) :
    Calls Tryd.prog 97 #[.slice A l.length c] w (Fresh w (bytesM l)) := by
  have HS := Lib.hid hs
  by_cases h1 : l.length = 1
  · obtain ⟨x, rfl⟩ : ∃ x, l = [x] := List.length_eq_one_iff.1 h1
    obtain ⟨ad, rfl, _, hc0⟩ := hs.at_ (k := 0) (by simp [bytes])
    have hc0 : w.cell? (ad.add 0) = some (.int .u8 (by8 x)) := hc0
    have hadd : ad.add 0 = ad := by unfold Addr.add; simp
    rw [hadd] at hc0
    clear hs hadd h1
    by_cases hx : x.toNat < 128
    · have hsm : bytesM [x] = [x] := by
        have : small [x] = true := by unfold small; simp; exact hx
        unfold bytesM; rw [if_pos this]; rfl
      have HM := Lib.hid hsm
      have dx : decide (by8 x < 128) = true := by unfold by8; simp; omega
      clear hsm
      go_enter Tryd.func97, Tryd.ntmps97
      go_wp2_with (at_builtin; ((refine wpL_append rfl (.tmp 13) (.tmp 17) 24 rfl elByte rfl (World.ownsRow_nil _ w.heap.size 5 1) rfl rfl (Seq.one_new _ _ _) (by simp [Value.oneCell']) (by unfold maxLen; omega) (by omega) (by rw [size_alloc]; omega) ?_; intro A4 c4 w4 ho4 hg4 _; simp only [Nat.zero_add, List.nil_append] at ho4; have hb4 := (((Below.refl w.heap.size w).alloc (Nat.le_refl _) _).grown hg4 (by rw [size_alloc]; omega) (fun g hg => by simp [Value.ownBlock] at hg)); have HO4 := Lib.hid ho4; have HB4 := Lib.hid hb4; clear ho4 hg4 hb4)))
      go_ret
      unfold Fresh
      rw [HM.out]
      exact ⟨A4, c4, rfl, HO4.out, HB4.out⟩
    · have hsm : small [x] = false := by unfold small; simp; exact Nat.le_of_not_lt hx
      have HM := Lib.hid (withM_bytes hsm)
      have dx : decide (by8 x < 128) = false := by unfold by8; simp; omega
      clear hsm
      go_enter Tryd.func97, Tryd.ntmps97
      go_wp2_with (go_at_call 116; refine (with_calls (some ad) c B [x] 128 (by omega) w hl hB HS.out).mono ?_; rw [HM.out]; rintro e1 w1 ⟨A1, c1, rfl, ho1, hb1⟩; have HO1 := Lib.hid ho1; have HB1 := Lib.hid hb1; clear ho1 hb1)
      go_ret
      exact ⟨A1, c1, rfl, HO1.out, HB1.out⟩
  · have hsm : small l = false := by unfold small; rw [decide_eq_false h1]; rfl
    have HM := Lib.hid (withM_bytes hsm)
    have d1 : decide ((l.length : Int) = 1) = false := by simp; omega
    clear hsm hs
    go_enter Tryd.func97, Tryd.ntmps97
    go_wp2_with (go_at_call 116; refine (with_calls A c B l 128 (by omega) w hl hB HS.out).mono ?_; rw [HM.out]; rintro e1 w1 ⟨A1, c1, rfl, ho1, hb1⟩; have HO1 := Lib.hid ho1; have HB1 := Lib.hid hb1; clear ho1 hb1)
    go_ret
    exact ⟨A1, c1, rfl, HO1.out, HB1.out⟩
set_option maxHeartbeats 1000000 in
set_option maxRecDepth 20000 in
theorem refList_calls (A : Option Addr) (c B : Nat) (ps : List Piece) (w : World) (hps : ps.length ≤ 1099511627776) (hj : (joinP ps).length ≤ 1099511627776) (hB : B ≤ w.heap.size) (hs : Seq w B A (pcs ps)) (hp : ∀ q ∈ ps, Seq w B q.1 (bytes q.2.2)) :
    Calls Tryd.prog 98 #[.slice A ps.length c] w (Fresh w (withM 192 (joinP ps))) := by
  have HS := Lib.hid hs
  have HP := Lib.hid hp
  clear hs hp
  go_enter Tryd.func98, Tryd.ntmps98
  go_wp2_with fail
  go_loopw [3, 4] (fun v i wr => ∃ (k : Nat) (A1 : Option Addr) (c1 : Nat), k ≤ ps.length ∧ i = .int .i64 k ∧ v = .slice A1 (joinP (ps.take k)).length c1 ∧ wr.ownsRow w.heap.size 5 1 (.slice A1 (joinP (ps.take k)).length c1) (joinP (ps.take k)).length (bytes (joinP (ps.take k))) ∧ Below w.heap.size w wr) (fun _ i _ => ps.length - (intOf i).toNat)
  case atStart => exact ⟨0, none, 0, by omega, rfl, rfl, World.ownsRow_nil _ _ _ _, Below.refl _ _⟩
  case round =>
    obtain ⟨k, A1, c1, hk, rfl, rfl, hown, hBl⟩ := hrel
    have hsz := hBl.size
    have hle := joinP_le ps k
    by_cases hlt : k < ps.length
    · have dk : decide ((k : Int) < (ps.length : Int)) = true := by simp; omega
      have lk : (k : Int) < (ps.length : Int) := by omega
      obtain ⟨ad, rfl, _, hc0⟩ := (HS.out.below hBl hB).piece k hlt
      have hq := (HP.out _ (List.getElem_mem hlt)).below hBl hB
      have htk := joinP_take ps k hlt
      have hle2 := joinP_le ps (k + 1)
      rw [htk, List.length_append] at hle2
      generalize ps[k] = q at *
      obtain ⟨Aq, cq, lq⟩ := q
      simp only at hc0 hq htk hle2
      have HTk := Lib.hid htk
      have HO := Lib.hid hown
      have HB := Lib.hid hBl
      have HQ := Lib.hid hq
      clear hown hBl hq htk
      generalize joinP (ps.take k) = L at *
      go_wp2_with (at_builtin; ((refine wpL_append rfl (.tmp 11) (.tmp 15) 24 rfl elByte rfl HO.out rfl (by rw [bytes_length]; simp) HQ.out (bytes_one _) (by unfold maxLen; omega) (by omega) hsz ?_; intro A4 c4 w4 ho4 hg4 _; rw [← bytes_append] at ho4; have HO4 := Lib.hid ho4; have HB4 := Lib.hid (HB.out.grown hg4 hsz (fun g hg => (HO.out.lt g hg).1)); clear ho4 hg4)))
      exact ⟨⟨k + 1, A4, c4, by omega, by go_num, by rw [HTk.out, List.length_append], by rw [HTk.out, List.length_append]; exact HO4.out, HB4.out⟩, by simp [intOf]; omega⟩
    · have dk : decide ((k : Int) < (ps.length : Int)) = false := by simp; omega
      obtain hkn : k = ps.length := by omega
      have hjt : joinP (ps.take k) = joinP ps := by rw [hkn, List.take_length]
      rw [hjt] at hown ⊢
      have HO := Lib.hid hown
      have HB := Lib.hid hBl
      clear hown hBl hjt hkn
      go_wp2_with (go_at_call 116; refine (with_calls A1 c1 _ (joinP ps) 192 (by omega) wr hj (Nat.le_refl _) (Seq.of_own HO.out)).mono ?_; rintro e1 w1 ⟨A2, c2, rfl, ho1, hb1⟩; have HO1 := Lib.hid ho1; have HB1 := Lib.hid hb1; clear ho1 hb1)
      go_ret
      exact ⟨A2, c2, rfl, own_mono HO1.out hsz, HB.out.trans (HB1.out.mono hsz)⟩
end Go.Proofs.YtfhindffmghlaaaDoor
