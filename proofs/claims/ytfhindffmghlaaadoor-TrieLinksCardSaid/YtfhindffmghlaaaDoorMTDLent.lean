/- lent and whole of the statements of chapter 26: bytes with marks behind them. -/
import Derived.Test.YtfhindffmghlaaaDoorG18
import Derived.Test.YtfhindffmghlaaaDoorG17
import Derived.BigQuiet
set_option linter.unusedVariables false
set_option linter.unusedSimpArgs false
namespace Go.Proofs.YtfhindffmghlaaaDoor
open Go.RowKit
/-- The marks. -/
def marks5 : List UInt8 := [171, 172, 173, 174, 175]
theorem mark_at (l : List UInt8) (k : Nat) (hk : k < 5) (h : l.length + k < (l ++ marks5).length) : by8 ((l ++ marks5)[l.length + k]) = 171 + (k : Int) := by
  rw [List.getElem_append_right (by omega)]
  simp only [Nat.add_sub_cancel_left]
  match k, hk with
  | 0, _ => rfl
  | 1, _ => rfl
  | 2, _ => rfl
  | 3, _ => rfl
  | 4, _ => rfl
attribute [local irreducible] Calls in
set_option maxHeartbeats 4000000 in
set_option maxRecDepth 20000 in
theorem lent_calls (A : Option Addr) (c B : Nat) (l : List UInt8) (w : World) (hl : l.length ≤ 1099511627776) (hs : Seq w B A (bytes l)) :
    Calls Tryd.prog 45 #[.slice A l.length c] w fun e w' => ∃ (A' : Option Addr) (c' : Nat), e = .returned (.slice A' (l.length + 5) c') ∧ w'.ownsRow w.heap.size 5 1 (.slice A' (l.length + 5) c') (l.length + 5) (bytes (l ++ marks5)) ∧ Below w.heap.size w w' := by
  have HS := Lib.hid hs
  clear hs
  go_enter Tryd.func45, Tryd.ntmps45
  go_wp2_with (first
    | (go_at_call 19; (refine (ownL_calls A c B l w (by omega) HS.out).mono ?_; rintro e1 w1 ⟨A1, c1, rfl, ho1, hb1⟩; have hz1 := hb1.size; have HO1 := Lib.hid ho1; have HB1 := Lib.hid hb1; clear ho1 hb1))
    | (at_builtin; (refine wpL_append rfl (.tmp 4) (.tmp 5) 24 rfl elByte rfl (own_alloc HO1.out _) rfl rfl (Seq.of_blk (xs := bytes marks5) (Blk.new' _ _ _ rfl) (Nat.lt_succ_self _)) (bytes_one _) (by unfold maxLen; omega) (by omega) (by rw [size_alloc]; omega) ?_; intro A7 c7 w7 ho7 hg7 _; rw [← bytes_append] at ho7; have HO7 := Lib.hid ho7; have HB7 := Lib.hid ((HB1.out.alloc hz1 _).grown hg7 (by rw [size_alloc]; omega) (fun g hg => (HO1.out.lt g hg).1)); clear ho7 hg7))
    | fail)
  go_ret
  exact ⟨A7, c7, rfl, HO7.out, HB7.out⟩
attribute [local irreducible] Calls in
set_option maxHeartbeats 4000000 in
set_option maxRecDepth 20000 in
theorem wholeL_calls (A : Option Addr) (c : Nat) (l : List UInt8) (A2 : Option Addr) (c2 : Nat) (w : World) (hl : l.length ≤ 1099511627776) (hs : Seq w w.heap.size A (bytes (l ++ marks5))) (hs2 : Seq w w.heap.size A2 (bytes l)) :
    Calls Tryd.prog 47 #[.slice A (l.length + 5) c, .slice A2 l.length c2] w fun e w' => e = .returned (.bool true) ∧ ∃ m, w' = w.drewN m := by
  have HS := Lib.hid hs
  have HS2 := Lib.hid hs2
  have hml : (l ++ marks5).length = l.length + 5 := by rw [List.length_append]; rfl
  have HMl := Lib.hid hml
  obtain ⟨T, hT⟩ : ∃ T, l.length + 5 = T := ⟨_, rfl⟩
  rw [hT]
  have hT1 : T ≤ l.length + 5 := by omega
  have hT2 : l.length + 5 ≤ T := by omega
  clear hs hs2 hml hT
  go_enter Tryd.func47, Tryd.ntmps47
  go_wp2_with fail
  go_loopw [5] (fun v wr => ∃ i m : Nat, i ≤ T ∧ v = .int .i64 i ∧ wr = w.drewN m) (fun v _ => T - (intOf v).toNat)
  case atStart => exact ⟨0, 0, by omega, rfl, rfl⟩
  case round =>
    obtain ⟨i, m, hi, rfl, hw⟩ := hrel
    rename World => w1
    have hbl : Below w.heap.size w w1 := by rw [hw]; exact below_drewN (Below.refl _ _) m
    have HW := Lib.hid hw
    clear hw
    have hz1 := hbl.size
    have HBl := Lib.hid hbl
    by_cases hlt : i < T
    · have di : decide ((i : Int) < (T : Int)) = true := decide_eq_true (by omega)
      have di2 : decide (i < T) = true := decide_eq_true hlt
      have li : (i : Int) < (T : Int) := by omega
      obtain ⟨ad, rfl, _, q0⟩ := (HS.out.below hbl (Nat.le_refl _)).at_ (k := i) (by rw [bytes_length, HMl.out]; omega)
      rw [bytes_get] at q0
      by_cases hil : i < l.length
      · have dl : decide ((i : Int) < (l.length : Int)) = true := decide_eq_true (by omega)
        have dl2 : decide (i < l.length) = true := decide_eq_true hil
        have dg : decide ((i : Int) ≥ (l.length : Int)) = false := decide_eq_false (by omega)
        have dg2 : decide (l.length ≤ i) = false := decide_eq_false (by omega)
        have li2 : (i : Int) < (l.length : Int) := by omega
        obtain ⟨ad2, rfl, _, q1⟩ := (HS2.out.below hbl (Nat.le_refl _)).byte i hil
        rw [show (l ++ marks5)[i]'(by rw [HMl.out]; omega) = l[i] from List.getElem_append_left hil] at q0
        generalize l[i] = x at *
        have hxx : (by8 x != by8 x) = false := by simp
        clear hbl
        go_upto_region 4 with fail
        go_quiet (fail)
        go_wp2_with fail
        exact ⟨⟨i + 1, m + nq, by omega, by go_num, by rw [HW.out, World.drewN_drewN]⟩, by simp [intOf]; omega⟩
      · have dl : decide ((i : Int) < (l.length : Int)) = false := decide_eq_false (by omega)
        have dl2 : decide (i < l.length) = false := decide_eq_false hil
        have dg : decide ((i : Int) ≥ (l.length : Int)) = true := decide_eq_true (by omega)
        have dg2 : decide (l.length ≤ i) = true := decide_eq_true (by omega)
        obtain ⟨k, hik⟩ : ∃ k, i = l.length + k := ⟨i - l.length, by omega⟩
        have hm := mark_at l k (by omega) (by rw [HMl.out]; omega)
        have q0' : w1.cell? (ad.add i) = some (.int .u8 (171 + (k : Int))) := by
          rw [q0]
          simp only [hik]
          exact congrArg some (congrArg (Value.int .u8) hm)
        clear q0 hbl hm
        generalize l.length = n at *
        have e1 : IntKind.i64.wrap (171 + (i : Int)) = 171 + (i : Int) := IntWalk.i64_in _ (by omega)
        have e2 : IntKind.i64.wrap (171 + (i : Int) - (n : Int)) = 171 + (k : Int) := by rw [IntWalk.i64_in _ (by omega)]; omega
        have e3 : IntKind.u8.wrap (171 + (k : Int)) = 171 + (k : Int) := by rw [IntKind.wrap_u8']; omega
        have e4 : 171 + (i : Int) - (n : Int) = 171 + (k : Int) := by omega
        have e5 : (171 + (k : Int)) % 256 = 171 + (k : Int) := by omega
        clear hik
        go_upto_region 4 with fail
        go_quiet (fail)
        go_wp2_with fail
        exact ⟨⟨i + 1, m + nq, by omega, by go_num, by rw [HW.out, World.drewN_drewN]⟩, by simp [intOf]; omega⟩
    · have di : decide ((i : Int) < (T : Int)) = false := decide_eq_false (by omega)
      have di2 : decide (i < T) = false := decide_eq_false hlt
      clear hbl
      go_wp2_with fail
      go_ret
      exact ⟨rfl, m, HW.out⟩
end Go.Proofs.YtfhindffmghlaaaDoor
