/- Bytes, List and Number of the program: what they answer. -/
import Derived.Test.YtnghneoggiolgaaDoorRPure
import Derived.Test.YtnghneoggiolgaaDoorRSmall
import Derived.Test.YtnghneoggiolgaaDoorRWord
import Derived.Test.YtnghneoggiolgaaDoorRNumPure
namespace Go.Proofs.YtnghneoggiolgaaDoor
open Go.RowKit
theorem own_cap {w : World} {base n c : Nat} {e : TypeId} {size : Nat} {A : Option Addr} {xs : List Value} (h : w.ownsRow base e size (.slice A n c) n xs) : n ≤ c := by
  obtain ⟨A', c', e, h1, _⟩ := own_shape h
  injection e with _ _ e3
  omega
theorem Seq.piece {w : World} {B : Nat} {A : Option Addr} {ps : List Piece} (h : Seq w B A (pcs ps)) (k : Nat) (hk : k < ps.length) : ∃ ad, A = some ad ∧ ad.block < B ∧ w.cell? (ad.add k) = some (.slice ps[k].1 ps[k].2.2.length ps[k].2.1) := by
  obtain ⟨ad, e, hb, hc⟩ := h.at_ (k := k) (by simp [pcs]; exact hk)
  exact ⟨ad, e, hb, by rw [hc]; simp [pcs, pcV]⟩
theorem Seq.byte {w : World} {B : Nat} {A : Option Addr} {l : List UInt8} (h : Seq w B A (bytes l)) (k : Nat) (hk : k < l.length) : ∃ ad, A = some ad ∧ ad.block < B ∧ w.cell? (ad.add k) = some (.int .u8 (by8 l[k])) := by
  obtain ⟨ad, e, hb, hc⟩ := h.at_ (k := k) (by rw [bytes_length]; exact hk)
  exact ⟨ad, e, hb, by rw [hc, bytes_get]⟩
/-- A call's answer: bytes in memory of its own. -/
def Fresh (w : World) (l : List UInt8) (e : Ending) (w' : World) : Prop :=
  ∃ (A : Option Addr) (c : Nat), e = .returned (.slice A l.length c) ∧ w'.ownsRow w.heap.size 5 1 (.slice A l.length c) l.length (bytes l) ∧ Below w.heap.size w w'
theorem own_one (w : World) (x : UInt8) : (w.alloc (.cells #[.int .u8 (by8 x)] 5)).ownsRow w.heap.size 5 1 (.slice (some ⟨w.heap.size, 0, none⟩) 1 1) 1 (bytes [x]) :=
  ⟨rfl, .inr ⟨w.heap.size, 1, #[.int .u8 (by8 x)], rfl, Nat.le_refl _, heap_alloc_new w _, Nat.le_refl _, by simp [maxLen], rfl, rfl⟩⟩
set_option maxHeartbeats 1000000 in
theorem rlpBytes_calls (A : Option Addr) (c B : Nat) (l : List UInt8) (w : World) (hl : l.length ≤ 1099511627776) (hB : B ≤ w.heap.size) (hs : Seq w B A (bytes l)) :
    Calls Tryd.prog 12 #[.slice A l.length c] w (Fresh w (bytesM l)) := by
  have HS := Lib.hid hs
  have HLen := Lib.hid (headL_length 128 l.length)
  have HW := Lib.hid (wholeN_le l.length (by omega))
  by_cases h1 : l.length = 1
  · obtain ⟨x, rfl⟩ : ∃ x, l = [x] := List.length_eq_one_iff.1 h1
    obtain ⟨ad, rfl, _, hc0⟩ := hs.at_ (k := 0) (by simp [bytes])
    have hc0 : w.cell? (ad.add 0) = some (.int .u8 (by8 x)) := hc0
    have hadd : ad.add 0 = ad := by unfold Addr.add; simp
    rw [hadd] at hc0
    clear hs hadd h1
    by_cases hx : x.toNat < 128
    · have hsm : bytesM [x] = [x] := by
        have : small [x] = true := by unfold small; simp; exact hx
        unfold bytesM; rw [if_pos this]; rfl
      have HM := Lib.hid hsm
      have dx : decide (by8 x < 128) = true := by unfold by8; simp; omega
      clear hsm
      go_enter Tryd.func12, Tryd.ntmps12
      go_wp2_with fail
      go_ret
      unfold Fresh
      rw [HM.out]
      exact ⟨_, 1, rfl, own_one w x, (Below.refl _ _).alloc (Nat.le_refl _) _⟩
    · have hsm : bytesM [x] = headL 128 1 ++ [x] := by
        have : small [x] = false := by unfold small; simp; exact Nat.le_of_not_lt hx
        unfold bytesM; rw [if_neg (by rw [this]; simp)]; rfl
      have HM := Lib.hid hsm
      have dx : decide (by8 x < 128) = false := by unfold by8; simp; omega
      clear hsm HLen HW
      have HLen := Lib.hid (headL_length 128 1)
      have HW := Lib.hid (wholeN_le 1 (by omega))
      go_enter Tryd.func12, Tryd.ntmps12
      go_wp2_with (first
        | (go_at_call 28; refine (whole_calls 1 (by omega) w).mono ?_; rintro e1 w1 ⟨rfl, hb1⟩; have hs1 := hb1.size; have HB1 := Lib.hid hb1; have hw1 := HW.out; clear hb1)
        | (refine wpL_make rfl (.const (.int .i64 0)) (.tmp 18) 26 rfl Tryd.underlying26 infoByte rfl .i64 .i64 0 (wholeN 1) rfl rfl (Nat.zero_le _) (by omega) (by omega) ?_; have hm := own_made w1 5 (wholeN 1) (fun _ => .int .u8 0) (by unfold maxLen; omega); have HM1 := Lib.hid hm; clear hm)
        | (go_at_call 27; refine (head_calls w1.heap.size _ _ [] 128 1 (by omega) (by simp) _ HM1.out (by rw [size_alloc]; omega)).mono ?_; rintro e2 w2 ⟨A2, c2, rfl, ho2, hg2, _⟩; rw [List.nil_append] at ho2; have hs2 := hg2.size; rw [size_alloc] at hs2; have HO2 := Lib.hid ho2; have hbb := ((HB1.out.alloc hs1 (.cells (tab (wholeN 1) fun _ => .int .u8 0) 5)).grown hg2 (by rw [size_alloc]; omega) (fun g hg => by simp [Value.ownBlock] at hg; omega)); have HB2 := Lib.hid hbb; have hss := hbb.size; clear ho2 hg2 hbb; have hln := HLen.out)
        | (at_builtin; refine wpL_append rfl (.tmp 22) (.tmp 23) 26 rfl elByte rfl HO2.out rfl (by rw [bytes_length]; simp) (HS.out.below HB2.out hB) (bytes_one _) (by unfold maxLen; omega) (by omega) (by omega) ?_; intro A3 c3 w3 ho3 hg3 _; rw [← bytes_append] at ho3; have HO3 := Lib.hid (own_mono ho3 hs1); have HB3 := Lib.hid (HB2.out.grown hg3 hss (fun g hg => by have := (HO2.out.lt g hg).1; omega)); clear ho3 hg3))
      go_ret
      unfold Fresh
      rw [HM.out, List.length_append, List.length_singleton, HLen.out]
      exact ⟨A3, c3, rfl, by first | exact HO3.out | (have h := HO3.out; rw [HLen.out] at h; exact h), HB3.out⟩
  · have hsm : bytesM l = headL 128 l.length ++ l := by
      have : small l = false := by unfold small; rw [decide_eq_false h1]; rfl
      unfold bytesM; rw [if_neg (by rw [this]; simp)]
    have HM := Lib.hid hsm
    have d1 : decide ((l.length : Int) = 1) = false := by simp; omega
    clear hsm hs
    go_enter Tryd.func12, Tryd.ntmps12
    go_wp2_with (first
      | (go_at_call 28; refine (whole_calls l.length (by omega) w).mono ?_; rintro e1 w1 ⟨rfl, hb1⟩; have hs1 := hb1.size; have HB1 := Lib.hid hb1; have hw1 := HW.out; clear hb1)
      | (refine wpL_make rfl (.const (.int .i64 0)) (.tmp 18) 26 rfl Tryd.underlying26 infoByte rfl .i64 .i64 0 (wholeN l.length) rfl rfl (Nat.zero_le _) (by omega) (by omega) ?_; have hm := own_made w1 5 (wholeN l.length) (fun _ => .int .u8 0) (by unfold maxLen; omega); have HM1 := Lib.hid hm; clear hm)
      | (go_at_call 27; refine (head_calls w1.heap.size _ _ [] 128 l.length (by omega) (by simp) _ HM1.out (by rw [size_alloc]; omega)).mono ?_; rintro e2 w2 ⟨A2, c2, rfl, ho2, hg2, _⟩; rw [List.nil_append] at ho2; have hs2 := hg2.size; rw [size_alloc] at hs2; have HO2 := Lib.hid ho2; have hbb := ((HB1.out.alloc hs1 (.cells (tab (wholeN l.length) fun _ => .int .u8 0) 5)).grown hg2 (by rw [size_alloc]; omega) (fun g hg => by simp [Value.ownBlock] at hg; omega)); have HB2 := Lib.hid hbb; have hss := hbb.size; clear ho2 hg2 hbb; have hln := HLen.out)
      | (at_builtin; refine wpL_append rfl (.tmp 22) (.tmp 23) 26 rfl elByte rfl HO2.out rfl (by rw [bytes_length]; simp) (HS.out.below HB2.out hB) (bytes_one _) (by unfold maxLen; omega) (by omega) (by omega) ?_; intro A3 c3 w3 ho3 hg3 _; rw [← bytes_append] at ho3; have HO3 := Lib.hid (own_mono ho3 hs1); have HB3 := Lib.hid (HB2.out.grown hg3 hss (fun g hg => by have := (HO2.out.lt g hg).1; omega)); clear ho3 hg3))
    go_ret
    unfold Fresh
    rw [HM.out, List.length_append, HLen.out]
    exact ⟨A3, c3, rfl, by first | exact HO3.out | (have h := HO3.out; rw [HLen.out] at h; exact h), HB3.out⟩
theorem by8_inj {a b : UInt8} (e : by8 a = by8 b) : a = b := by
  unfold by8 at e
  exact UInt8.toNat_inj.1 (by omega)
theorem by8_beq (a b : UInt8) : (by8 a == by8 b) = (a == b) := by
  rw [Bool.eq_iff_iff, beq_iff_eq, beq_iff_eq]
  exact ⟨by8_inj, fun e => by rw [e]⟩
/-- A cut-out of a slice that is read. -/
def Part (w : World) (B : Nat) (l : List UInt8) (e : Ending) (w' : World) : Prop := ∃ (A : Option Addr) (c : Nat), e = .returned (.slice A l.length c) ∧ Seq w B A (bytes l) ∧ w' = w
set_option maxHeartbeats 1000000 in
theorem trimByte_calls (A : Option Addr) (c B : Nat) (l : List UInt8) (x : UInt8) (w : World) (hc : l.length ≤ c) (hl : c ≤ maxLen) (hs : Seq w B A (bytes l)) :
    Calls Tryd.prog 33 #[.slice A l.length c, .int .u8 (by8 x)] w (Part w B (trimM x l)) := by
  unfold maxLen at hl
  have HS := Lib.hid hs
  clear hs
  go_enter Tryd.func33, Tryd.ntmps33
  go_wp2_with fail
  go_loop [0] (fun v => ∃ (A1 : Option Addr) (c1 : Nat) (l1 : List UInt8), v = .slice A1 l1.length c1 ∧ l1.length ≤ c1 ∧ c1 ≤ 9223372036854775807 ∧ Seq w B A1 (bytes l1) ∧ trimM x l1 = trimM x l) (fun v => lenV v)
  case atStart => exact ⟨A, c, l, rfl, hc, hl, HS.out, rfl⟩
  case round =>
    clear HS
    obtain ⟨A1, c1, l1, rfl, hc1, hm1, hs1, ht1⟩ := hrel
    have HT := Lib.hid ht1
    clear ht1
    cases l1 with
    | nil =>
      have hfin : trimM x l = [] := by rw [← HT.out]; rfl
      have HF := Lib.hid hfin
      clear hfin hs1
      go_wp2_with fail
      go_ret
      unfold Part
      rw [HF.out]
      exact ⟨none, 0, rfl, Seq.none_, rfl⟩
    | cons y r =>
      obtain ⟨ad, rfl, _, hc0⟩ := hs1.at_ (k := 0) (by simp [bytes])
      have hc0 : w.cell? (ad.add 0) = some (.int .u8 (by8 y)) := hc0
      have hadd : ad.add 0 = ad := by unfold Addr.add; simp
      rw [hadd] at hc0
      have hcut := hs1.cut (k := 1) (cap := c1) (n := (y :: r).length) (by rw [bytes_length]) hc1
      have HS := Lib.hid hs1
      have HC := Lib.hid hcut
      clear hs1 hcut hadd
      by_cases hy : y = x
      · have dy : (by8 y == by8 x) = true := by rw [by8_beq]; simpa using hy
        have hn : trimM x (y :: r) = trimM x r := by unfold trimM; rw [List.dropWhile_cons_of_pos (by simpa using hy)]
        have HN := Lib.hid hn
        clear hn hy
        by_cases h1 : c1 = 1
        · subst h1
          go_wp2_with fail
          go_round
          case rel => exact ⟨_, _, r, rfl, by simp at hc1 ⊢; omega, by omega, by have := HC.out; rw [if_pos rfl] at this; exact this, by rw [← HN.out, HT.out]⟩
          case measure => simp [lenV]
        · go_wp2_with fail
          go_round
          case rel => exact ⟨_, _, r, rfl, by simp at hc1 ⊢; omega, by omega, by have := HC.out; rw [if_neg h1] at this; exact this, by rw [← HN.out, HT.out]⟩
          case measure => simp [lenV]
      · have dy : (by8 y == by8 x) = false := by rw [by8_beq]; simpa using hy
        have hn : trimM x (y :: r) = y :: r := by unfold trimM; rw [List.dropWhile_cons_of_neg (by simpa using hy)]
        have HN := Lib.hid (hn.symm.trans HT.out)
        clear hn hy
        go_wp2_with fail
        go_ret
        unfold Part
        rw [← HN.out]
        exact ⟨some ad, c1, rfl, HS.out, rfl⟩
set_option maxHeartbeats 1000000 in
set_option maxRecDepth 40000 in
theorem trim_calls (A : Option Addr) (c B : Nat) (l : List UInt8) (w : World) (hc : l.length ≤ c) (hl : c ≤ maxLen) (hs : Seq w B A (bytes l)) :
    Calls Tryd.prog 24 #[.slice A l.length c, .string ⟨#[0]⟩] w (Part w B (trimM 0 l)) := by
  unfold maxLen at hl
  have HS := Lib.hid hs
  clear hs
  cases l with
  | nil =>
    go_enter Tryd.func24, Tryd.ntmps24
    go_wp2_with fail
    go_ret
    exact ⟨none, 0, rfl, Seq.none_, rfl⟩
  | cons x r =>
    have HL := Lib.hid hl
    have HC := Lib.hid hc
    clear hl hc
    go_enter Tryd.func24, Tryd.ntmps24
    go_wp2_with (go_at_call 33; refine (trimByte_calls A c B (x :: r) 0 w HC.out (by unfold maxLen; exact HL.out) HS.out).mono ?_; rintro e1 w1 ⟨A1, c1, rfl, hs1, rfl⟩; have HS1 := Lib.hid hs1; clear hs1)
    go_ret
    exact ⟨A1, c1, rfl, HS1.out, rfl⟩
set_option maxHeartbeats 1000000 in
theorem rlpNumber_calls (S : Nat → BitVec 64) (w : World) : Calls Tryd.prog 7 #[.agg (tab 4 (lanes S))] w (Fresh w (numM S)) := by
  have hlt : (trimM 0 (listOf (wordS S) 32)).length ≤ 1099511627776 := by
    have := (List.dropWhile_sublist (l := listOf (wordS S) 32) (· == (0 : UInt8))).length_le
    rw [listOf_length] at this
    unfold trimM
    omega
  have HL := Lib.hid hlt
  clear hlt
  go_enter Tryd.func7, Tryd.ntmps7
  go_wp2_with (first
    | (refine wpL_alloc rfl 50 rfl (tab 32 fun _ => .int .u8 0) (by kernel_rfl) ?_)
    | (refine wpL_load0 rfl 24 (.tmp 1) rfl rfl _ (Blk.new _ _ _) Tryd.underlying24 rfl (by kernel_rfl) ?_)
    | (go_at_call 23; refine (wordBytes_calls S _).mono ?_; rintro e1 w1 ⟨rfl, hb1⟩; have HB1 := Lib.hid (((Below.refl w.heap.size w).alloc (Nat.le_refl _) _).trans (hb1.mono (by rw [size_alloc]; omega))); have hs1 := hb1.size; rw [size_alloc] at hs1; clear hb1)
    | (refine wpL_storeA rfl 50 (.tmp 3) (.tmp 5) rfl 0 rfl rfl (Blk.new _ _ _) (by omega) (by kernel_rfl) (fun _ => rfl) ?_; intro w2 ho2 hk2; have HO2 := Lib.hid ho2; have hk2' := hk2.same (over_whole _ _ _); have HQ2 := Lib.hid (Seq.of_array hk2' (Blk.lt hk2')); have hs2 := Nat.le_of_eq ho2.size.symm; rw [size_alloc] at hs2; clear ho2 hk2 hk2')
    | (go_at_call 24; refine (trim_calls _ 32 _ (listOf (wordS S) 32) w2 (by rw [listOf_length]; exact Nat.le_refl _) (by unfold maxLen; omega) HQ2.out).mono ?_; rintro e3 w3 ⟨A3, c3, rfl, hq3, rfl⟩; have HQ3 := Lib.hid hq3; clear hq3)
    | (go_at_call 12; refine (rlpBytes_calls A3 c3 _ _ w3 HL.out (Nat.le_refl _) HQ3.out).mono ?_; rintro e4 w4 ⟨A4, c4, rfl, ho4, hb4⟩; have HO4 := Lib.hid ho4; have HB4 := Lib.hid hb4; clear ho4 hb4))
  go_ret
  exact ⟨A4, c4, rfl, own_mono HO4.out (by omega), (HO2.out.below (HB1.out.alloc (by omega) _) (by omega)).trans (HB4.out.mono (by omega))⟩
end Go.Proofs.YtnghneoggiolgaaDoor
