/- Bytes with marks behind them; are they whole. -/
import Derived.Test.YtnghneoggiolgaaDoorRTexts
import Derived.StillTailTactics
namespace Go.Proofs.YtnghneoggiolgaaDoor
open Go.RowKit
def marks9 : List UInt8 := [171, 172, 173, 174, 175, 176, 177, 178, 179]
set_option maxHeartbeats 1000000 in
theorem lent_calls (A : Option Addr) (c B : Nat) (l : List UInt8) (w : World) (hl : l.length ≤ 1099511627776) (hs : Seq w B A (bytes l)) :
    Calls Tryd.prog 11 #[.slice A l.length c] w fun e w' =>
      ∃ (A' : Option Addr) (c' : Nat), e = .returned (.slice A' (l.length + 9) c') ∧ w'.ownsRow w.heap.size 5 1 (.slice A' (l.length + 9) c') (l.length + 9) (bytes (l ++ marks9)) ∧ Below w.heap.size w w' := by
  have HS := Lib.hid hs
  clear hs
  go_enter Tryd.func11, Tryd.ntmps11
  go_wp2_with (first
    | (go_at_call 9; refine (own_calls A c B l w hl HS.out).mono ?_; rintro e1 w1 ⟨A1, c1, rfl, ho1, hb1⟩; have hs1 := hb1.size; have HO1 := Lib.hid ho1; have HB1 := Lib.hid hb1; clear ho1 hb1)
    | (at_builtin; refine wpL_append rfl (.tmp 4) (.tmp 5) 26 rfl elByte rfl (own_alloc HO1.out _) rfl rfl (Seq.of_blk (xs := bytes marks9) (Blk.new' _ _ _ rfl) (Nat.lt_succ_self _)) (bytes_one _) (by unfold maxLen; omega) (by omega) (by rw [size_alloc]; omega) ?_; intro A3 c3 w3 ho3 hg3 _; rw [← bytes_append] at ho3; have HO3 := Lib.hid ho3; have HB3 := Lib.hid ((HB1.out.alloc hs1 _).grown hg3 (by rw [size_alloc]; omega) (fun g hg => (HO1.out.lt g hg).1)); clear ho3 hg3))
  go_ret
  exact ⟨A3, c3, rfl, HO3.out, HB3.out⟩
theorem mark9_at (j : Nat) (h : j < 9) : marks9[j]'(by simpa [marks9] using h) = UInt8.ofNat (171 + j) := by
  match j, h with
  | 0, _ | 1, _ | 2, _ | 3, _ | 4, _ | 5, _ | 6, _ | 7, _ | 8, _ => rfl
set_option maxHeartbeats 1000000 in
theorem whole_calls9 (A : Option Addr) (c B : Nat) (A2 : Option Addr) (c2 B2 : Nat) (l : List UInt8) (w : World) (hl : l.length ≤ 1099511627776) (hs : Seq w B A (bytes (l ++ marks9))) (hs2 : Seq w B2 A2 (bytes l)) :
    Calls Tryd.prog 17 #[.slice A (l.length + 9) c, .slice A2 l.length c2] w fun e w' => e = .returned (.bool true) ∧ ∃ m, w' = w.drewN m := by
  have HS := Lib.hid hs
  have HS2 := Lib.hid hs2
  have hN : (l ++ marks9).length = l.length + 9 := by rw [List.length_append]; rfl
  have HN := Lib.hid hN
  clear hs hs2 hN
  go_enter Tryd.func17, Tryd.ntmps17
  go_wp2_with fail
  go_loopw [5] (fun i wr => ∃ k : Nat, k ≤ l.length + 9 ∧ i = .int .i64 k ∧ ∃ m, wr = w.drewN m) (fun i _ => l.length + 9 - (intOf i).toNat)
  case atStart => exact ⟨0, by omega, rfl, 0, rfl⟩
  case round =>
    obtain ⟨k, hk, rfl, m, hm⟩ := hrel
    have hsA : Seq wr B A (bytes (l ++ marks9)) := by rw [hm]; exact HS.out.drewN m
    have hsB : Seq wr B2 A2 (bytes l) := by rw [hm]; exact HS2.out.drewN m
    have HM := Lib.hid hm
    clear hm
    by_cases hlt : k < l.length + 9
    · have dk : decide ((k : Int) < ((l.length + 9 : Nat) : Int)) = true := by simp; omega
      have lk : (k : Int) < ((l.length + 9 : Nat) : Int) := by omega
      obtain ⟨ad, rfl, _, hc1⟩ := hsA.byte k (by rw [HN.out]; exact hlt)
      by_cases hkl : k < l.length
      · obtain ⟨ad2, rfl, _, hc2⟩ := hsB.byte k hkl
        rw [List.getElem_append_left hkl] at hc1
        generalize l[k] = x at *
        have dl : decide ((k : Int) < (l.length : Int)) = true := by simp; omega
        have ll : (k : Int) < (l.length : Int) := by omega
        have dg : decide ((k : Int) ≥ (l.length : Int)) = false := decide_eq_false (by omega)
        have dg2 : decide (l.length ≤ k) = false := decide_eq_false (by omega)
        have hne : (by8 x != by8 x) = false := by simp
        clear hsA hsB
        go_wp2_with fail
        go_quiet (fail)
        go_wp2_with fail
        exact ⟨⟨k + 1, by omega, by go_num, m + nq, by rw [HM.out, World.drewN_drewN]⟩, by simp [intOf]; omega⟩
      · obtain ⟨j, hkj⟩ : ∃ j, k = l.length + j := ⟨k - l.length, by omega⟩
        have hj : j < 9 := by omega
        have hget : (l ++ marks9)[k]'(by rw [HN.out]; exact hlt) = UInt8.ofNat (171 + j) := by
          rw [List.getElem_append_right (by omega), ← mark9_at j hj]
          congr 1
          omega
        rw [hget] at hc1
        have em := u8_nat (171 + j)
        rw [Int.natCast_add] at em
        have em2 : IntKind.u8.wrap (171 + (j : Int)) = by8 (UInt8.ofNat (171 + j)) := by rw [IntKind.wrap_u8']; exact em
        generalize UInt8.ofNat (171 + j) = x at *
        have dl : decide ((k : Int) < (l.length : Int)) = false := decide_eq_false (by omega)
        have dg : decide ((k : Int) ≥ (l.length : Int)) = true := decide_eq_true (by omega)
        have dg2 : decide (l.length ≤ k) = true := decide_eq_true (by omega)
        have hne : (by8 x != by8 x) = false := by simp
        have e3 : IntKind.i64.wrap (171 + (k : Int)) = 171 + (k : Int) := IntWalk.i64_in _ (by omega)
        have e4 : IntKind.i64.wrap (171 + (k : Int) - (l.length : Int)) = 171 + (j : Int) := by rw [IntWalk.i64_in _ (by omega)]; omega
        clear hkj
        clear hget em hsA hsB
        go_wp2_with fail
        go_quiet (fail)
        go_wp2_with fail
        exact ⟨⟨k + 1, by omega, by go_num, m + nq, by rw [HM.out, World.drewN_drewN]⟩, by simp [intOf]; omega⟩
    · have dk : decide ((k : Int) < ((l.length + 9 : Nat) : Int)) = false := by simp; omega
      go_wp2_with fail
      go_ret
      exact ⟨rfl, m, HM.out⟩
end Go.Proofs.YtnghneoggiolgaaDoor
