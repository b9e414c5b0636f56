/- A hash in hexadecimal digits. -/
import Derived.Test.YtfidjeoeaeghhaaDoorSpKnow
import Derived.Test.YtfidjeoeaeghhaaDoorWordsC
namespace Go.Proofs.YtfidjeoeaeghhaaDoor
open Go.RowKit
def digitN (c : Int) : Int := if 97 ≤ c then c - 87 else c - 48
theorem digit_calls (c : Int) (hc : (48 ≤ c ∧ c ≤ 57) ∨ (97 ≤ c ∧ c ≤ 102)) (w : World) : Calls Tryd.prog 36 #[.int .u8 c] w fun e w' => e = .returned (.int .u8 (digitN c)) ∧ w' = w := by
  have hv : digitN c = if 97 ≤ c then c - 87 else c - 48 := rfl
  go_enter Tryd.func36, Tryd.ntmps36
  by_cases h : 97 ≤ c
  · have d : decide (c ≥ 97) = true := by simpa using h
    have e1 : IntKind.u8.wrap (c - 97) = c - 97 := by rw [IntKind.wrap_u8']; omega
    have e2 : IntKind.u8.wrap (c - 97 + 10) = c - 87 := by rw [IntKind.wrap_u8']; omega
    go_wp2_with fail
    go_ret
    exact ⟨by rw [hv, if_pos (by omega)]; rfl, rfl⟩
  · have d : decide (c ≥ 97) = false := by simpa using h
    have e1 : IntKind.u8.wrap (c - 48) = c - 48 := by rw [IntKind.wrap_u8']; omega
    go_wp2_with fail
    go_ret
    exact ⟨rfl, rfl⟩
theorem run_index_str (s : ByteArray) (i : Int) (j : Nat) (b : UInt8) (hi : i = j) (hj : s[j]? = some b) (w : World) : (Instr.index 9 (.string s) (.int .i64 i)).run Tryd.prog w = .ok (.int .u8 (by8 b)) w := by
  subst hi
  have hu := run_underlying Tryd.underlying9 w
  simp [Instr.index, asIntOf, Sem.run_bind, hu, hj, by8]
/-- The digits are the hash's. -/
def hexOk (h : Nat → UInt8) (s : ByteArray) (i : Nat) : Prop := ∃ a b : UInt8, s[2 * i]? = some a ∧ s[2 * i + 1]? = some b ∧ ((48 ≤ by8 a ∧ by8 a ≤ 57) ∨ (97 ≤ by8 a ∧ by8 a ≤ 102)) ∧ ((48 ≤ by8 b ∧ by8 b ≤ 57) ∨ (97 ≤ by8 b ∧ by8 b ≤ 102)) ∧
  16 * digitN (by8 a) + digitN (by8 b) = by8 (h i)
set_option maxHeartbeats 1000000 in
theorem hexed_calls (h : Nat → UInt8) (s : ByteArray) (hs : s.size = 64) (hd : ∀ i, i < 32 → hexOk h s i) (w : World) :
    Calls Tryd.prog 28 #[.agg (tab 32 (hashV h)), .string s] w fun e w' => e = .returned (.bool true) ∧ Below w.heap.size w w' := by
  go_enter Tryd.func28, Tryd.ntmps28
  go_wp2_with fail
  go_loopw [5] (fun i wr => ∃ k : Nat, k ≤ 32 ∧ i = .int .i64 k ∧ Below w.heap.size w wr ∧ Blk wr w.heap.size 42 (tab 32 (hashV h))) (fun i _ => 32 - (intOf i).toNat)
  case atStart => exact ⟨0, by omega, rfl, (Below.refl _ _).alloc (Nat.le_refl _) _, Blk.new _ _ _⟩
  case round =>
    obtain ⟨k, hk, rfl, hBl, hA⟩ := hrel
    by_cases hlt : k < 32
    · have dk : decide ((k : Int) < 32) = true := by simp; omega
      have lk : (k : Int) < 32 := by omega
      have c0 := hA.at_ k (by omega)
      have HA := Lib.hid hA
      have HB := Lib.hid hBl
      clear hA hBl
      obtain ⟨a, b, ha, hb, ra, rb, hv⟩ := hd k hlt
      have x1 := run_index_str s (2 * (k : Int)) (2 * k) a (by omega) ha
      have x2 := run_index_str s (2 * (k : Int) + 1) (2 * k + 1) b (by omega) hb
      have da : 0 ≤ digitN (by8 a) ∧ digitN (by8 a) ≤ 15 := by unfold digitN; split <;> omega
      have db : 0 ≤ digitN (by8 b) ∧ digitN (by8 b) ≤ 15 := by unfold digitN; split <;> omega
      have w1 : IntKind.i64.wrap (2 * (k : Int)) = 2 * (k : Int) := IntWalk.i64_in _ (by omega)
      have w2 : IntKind.i64.wrap (2 * (k : Int) + 1) = 2 * (k : Int) + 1 := IntWalk.i64_in _ (by omega)
      have w3 : IntKind.u8.wrap (16 * digitN (by8 a)) = 16 * digitN (by8 a) := by rw [IntKind.wrap_u8']; omega
      have w4 : IntKind.u8.wrap (16 * digitN (by8 a) + digitN (by8 b)) = by8 (h k) := by rw [IntKind.wrap_u8', hv]; have := by8_nonneg (h k); have := by8_lt (h k); omega
      have w5 : (by8 (h k) != by8 (h k)) = false := by simp
      unfold hashV at c0
      clear ha hb hv
      go_wp2_with fail
      go_quiet (first | (go_at_call 36; refine Calls.quiet_of_same (digit_calls _ ?_ _); assumption))
      go_wp2_with fail
      exact ⟨⟨k + 1, by omega, by go_num, below_drewN HB.out nq, HA.out.drewN nq⟩, by simp [intOf]; omega⟩
    · have dk : decide ((k : Int) < 32) = false := by simp; omega
      have HB := Lib.hid hBl
      clear hA hBl
      go_wp2_with fail
      go_ret
      exact ⟨rfl, HB.out⟩
def hexB (o : List UInt8) (s : ByteArray) : Bool := (List.range 32).all fun i => match s[2 * i]?, s[2 * i + 1]? with
  | some a, some b => ((decide (48 ≤ by8 a) && decide (by8 a ≤ 57)) || (decide (97 ≤ by8 a) && decide (by8 a ≤ 102))) && ((decide (48 ≤ by8 b) && decide (by8 b ≤ 57)) || (decide (97 ≤ by8 b) && decide (by8 b ≤ 102))) &&
    decide (16 * digitN (by8 a) + digitN (by8 b) = by8 (o.getD i 0))
  | _, _ => false
theorem hexB_ok {h : Nat → UInt8} {o : List UInt8} {s : ByteArray} (hh : ∀ i, i < 32 → h i = o.getD i 0) (hb : hexB o s = true) : ∀ i, i < 32 → hexOk h s i := fun i hi => by
  unfold hexB at hb
  rw [List.all_eq_true] at hb
  have h1 := hb i (by simpa using hi)
  split at h1
  · rename_i a b ea eb
    simp only [Bool.and_eq_true, Bool.or_eq_true, decide_eq_true_eq] at h1
    exact ⟨a, b, ea, eb, h1.1.1, h1.1.2, by rw [hh i hi]; exact h1.2⟩
  · cases h1
end Go.Proofs.YtfidjeoeaeghhaaDoor
