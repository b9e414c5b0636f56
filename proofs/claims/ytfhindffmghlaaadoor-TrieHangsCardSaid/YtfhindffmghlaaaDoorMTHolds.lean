/- holds: do 32 bytes stand in a text? -/
import Derived.Test.YtfhindffmghlaaaDoorG18
import Derived.Test.YtfhindffmghlaaaDoorMTClash
import Derived.Deep.QuietTactic
import Derived.BigQuiet
set_option linter.unusedVariables false
set_option linter.unusedSimpArgs false
namespace Go.Proofs.YtfhindffmghlaaaDoor
open Go.RowKit
/-- Do the bytes stand at a place? -/
def StandsAt (f : Nat → UInt8) (text : List UInt8) (n : Nat) : Prop := ∀ j, j < 32 → text[n + j]? = some (f j)
theorem infix_at {f : Nat → UInt8} {text : List UInt8} (h : listOf f 32 <:+: text) : ∃ n, n + 32 ≤ text.length ∧ StandsAt f text n := by
  obtain ⟨a, b, rfl⟩ := h
  have hl : (listOf f 32).length = 32 := by simp [listOf]
  refine ⟨a.length, by simp [hl], fun j hj => ?_⟩
  rw [List.append_assoc, List.getElem?_append_right (by omega), Nat.add_sub_cancel_left, List.getElem?_append_left (by omega)]
  exact listOf_get f 32 j hj
def HoldsPost (w : World) (f : Nat → UInt8) (text : List UInt8) (e : Ending) (w' : World) : Prop := ∃ r : Bool, e = .returned (.bool r) ∧ (listOf f 32 <:+: text → r = true) ∧ Below w.heap.size w w'
set_option maxHeartbeats 4000000 in
set_option maxRecDepth 20000 in
theorem holds_calls (f : Nat → UInt8) (A : Option Addr) (c : Nat) (text : List UInt8) (w : World) (hl : text.length ≤ 1099511627776) (hs : Seq w w.heap.size A (bytes text)) :
    Calls Tryd.prog 31 #[.slice A text.length c, .agg (tab 32 (hashV f))] w (HoldsPost w f text) := by
  have hb1 := (Below.refl w.heap.size w).alloc (Nat.le_refl _) (.cells (tab 32 (hashV f)) 23)
  have hx1 : Blk (w.alloc (.cells (tab 32 (hashV f)) 23)) w.heap.size 23 (tab 32 (hashV f)) := Blk.new _ _ _
  have HS := Lib.hid hs
  have HB1 := Lib.hid hb1
  have HX1 := Lib.hid hx1
  clear hs hb1 hx1
  go_enter Tryd.func31, Tryd.ntmps31
  go_wp2_with fail
  go_loopw [5, 6] (fun i _ wr => ∃ n : Nat, n ≤ text.length + 1 ∧ i = .int .i64 n ∧ (∀ j, j < n → ¬ StandsAt f text j) ∧ Blk wr w.heap.size 23 (tab 32 (hashV f)) ∧ Below w.heap.size w wr) (fun i _ _ => text.length + 1 - (intOf i).toNat)
  case atStart => exact ⟨0, by omega, rfl, fun j h => absurd h (by omega), HX1.out, HB1.out⟩
  case round =>
    obtain ⟨n, hn, rfl, hno, hx, hbl⟩ := hrel
    have HNo := Lib.hid hno
    have HX := Lib.hid hx
    have HBl := Lib.hid hbl
    clear hno hx hbl HX1 HB1
    have e32 : IntKind.i64.wrap ((n : Int) + 32) = (n : Int) + 32 := IntWalk.i64_in _ (by omega)
    by_cases hlt : n + 32 ≤ text.length
    · have d1 : decide ((n : Int) + 32 ≤ (text.length : Int)) = true := decide_eq_true (by omega)
      go_wp2_with fail
      go_loopw [6] (fun v wr => ∃ k : Nat, k ≤ 32 ∧ v = .int .i64 k ∧ (∀ j, j < k → text[n + j]? = some (f j)) ∧ Blk wr w.heap.size 23 (tab 32 (hashV f)) ∧ Below w.heap.size w wr) (fun v _ => 32 - (intOf v).toNat)
      case atStart => exact ⟨0, by omega, rfl, fun j h => absurd h (by omega), HX.out, HBl.out⟩
      case round =>
        obtain ⟨k, hk, rfl, hst, hx2, hbl2⟩ := hrel
        have HSt := Lib.hid hst
        have HX2 := Lib.hid hx2
        have HBl2 := Lib.hid hbl2
        clear hst hx2 hbl2
        by_cases hk32 : k < 32
        · have dk : decide ((k : Int) < 32) = true := decide_eq_true (by omega)
          have nk : ((k : Int) == 32) = false := by simp; omega
          obtain ⟨m, hm⟩ : ∃ m, n + k = m := ⟨_, rfl⟩
          have em : IntKind.i64.wrap ((n : Int) + (k : Int)) = (m : Int) := by rw [IntWalk.i64_in _ (by omega)]; omega
          have hml : m < text.length := by omega
          have lm : (m : Int) < (text.length : Int) := by omega
          have lm0 : (0 : Int) ≤ (m : Int) := by omega
          obtain ⟨ad, rfl, _, q0⟩ := (HS.out.below HBl2.out (Nat.le_refl _)).byte m hml
          have r0 := HX2.out.at_ k hk32
          have hg := List.getElem?_eq_getElem hml
          have HG := Lib.hid hg
          have HM := Lib.hid hm
          clear hg hm
          generalize text[m] = x at *
          unfold hashV at r0
          by_cases he : x = f k
          · have dx : ((by8 x : Int) == by8 (f k)) = true := by rw [he]; simp
            have HE := Lib.hid he
            clear he
            go_upto_region 5 with fail
            go_quiet (fail)
            go_wp2_with fail
            have hbd := below_drewN (Below.refl wr.heap.size wr) nq
            refine ⟨⟨k + 1, by omega, by go_num, fun j hj => ?_, HX2.out.below hbd HX2.out.lt, HBl2.out.trans (hbd.mono HBl2.out.size)⟩, by simp [intOf]; omega⟩
            rcases Nat.lt_or_ge j k with h | h
            · exact HSt.out j h
            · obtain rfl : j = k := by omega
              rw [HM.out, HG.out, HE.out]
          · have dx : ((by8 x : Int) == by8 (f k)) = false := by
              rw [beq_eq_false_iff_ne]
              exact fun e => he (by8_inj e)
            have HE := Lib.hid he
            clear he
            go_upto_region 5 with fail
            go_quiet (fail)
            go_wp2_with fail
            have hbd := below_drewN (Below.refl wr.heap.size wr) nq
            refine ⟨⟨n + 1, by omega, by go_num, fun j hj => ?_, HX2.out.below hbd HX2.out.lt, HBl2.out.trans (hbd.mono HBl2.out.size)⟩, by simp [intOf]; omega⟩
            rcases Nat.lt_or_ge j n with h | h
            · exact HNo.out j h
            · obtain rfl : j = n := by omega
              intro hsa
              have := hsa k hk32
              rw [HM.out, HG.out] at this
              exact HE.out (Option.some.inj this)
        · have dk : decide ((k : Int) < 32) = false := decide_eq_false (by omega)
          have nk : ((k : Int) == 32) = true := by simp; omega
          go_upto_region 5 with fail
          go_quiet (fail)
          go_wp2_with fail
          go_ret
          exact ⟨true, rfl, fun _ => rfl, HBl2.out.trans ((below_drewN (Below.refl wr.heap.size wr) nq).mono HBl2.out.size)⟩
    · have d1 : decide ((n : Int) + 32 ≤ (text.length : Int)) = false := decide_eq_false (by omega)
      have hnot : ¬ listOf f 32 <:+: text := fun h => by
        obtain ⟨j, hj, hsa⟩ := infix_at h
        exact HNo.out j (by omega) hsa
      have HNot := Lib.hid hnot
      clear hnot
      go_wp2_with fail
      go_ret
      exact ⟨false, rfl, fun h => absurd h HNot.out, HBl.out⟩
end Go.Proofs.YtfhindffmghlaaaDoor
