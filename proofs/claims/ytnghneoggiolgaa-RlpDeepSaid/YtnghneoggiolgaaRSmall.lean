/- Small functions: own, Clone, same, turned. -/
import Derived.Test.YtnghneoggiolgaaRHead
import Derived.Laws.IdiomStrings
import Derived.Lib.SliceRun
namespace Go.Proofs.Ytnghneoggiolgaa
open Go.RowKit
theorem own_calls (A : Option Addr) (c B : Nat) (l : List UInt8) (w : World) (hl : l.length ≤ 1099511627776) (hs : Seq w B A (bytes l)) :
    Calls Try.prog 5 #[.slice A l.length c] w fun e w' => ∃ (A' : Option Addr) (c' : Nat), e = .returned (.slice A' l.length c') ∧ w'.ownsRow w.heap.size 5 1 (.slice A' l.length c') l.length (bytes l) ∧ Below w.heap.size w w' := by
  have HS := Lib.hid hs
  clear hs
  go_enter Try.func5, Try.ntmps5
  go_wp2_with (first
    | (at_builtin; refine wpL_append rfl (.const (.slice none 0 0)) (.tmp 3) 22 rfl elByte rfl (World.ownsRow_nil w w.heap.size 5 1) rfl (by rw [bytes_length]; simp) HS.out (bytes_one l) (by unfold maxLen; omega) (by omega) (Nat.le_refl _) ?_; intro A1 c1 w1 ho1 hg1 _; simp only [Nat.zero_add, List.nil_append] at ho1; have HO1 := Lib.hid ho1; have HB1 := Lib.hid ((Below.refl w.heap.size w).grown hg1 (Nat.le_refl _) (fun g hg => by simp [Value.ownBlock] at hg)); clear ho1 hg1))
  go_ret
  exact ⟨A1, c1, by simp, HO1.out, HB1.out⟩
theorem own_empty (w : World) (t : TypeId) : (w.alloc (.cells #[] t)).ownsRow w.heap.size t 1 (.slice (some ⟨w.heap.size, 0, none⟩) 0 0) 0 [] :=
  ⟨rfl, .inr ⟨w.heap.size, 0, #[], rfl, Nat.le_refl _, heap_alloc_new w _, Nat.le_refl _, by simp [maxLen], rfl, rfl⟩⟩
theorem clone_calls (A : Option Addr) (c B : Nat) (l : List UInt8) (w : World) (hl : l.length ≤ 1099511627776) (hB : B ≤ w.heap.size) (hs : Seq w B A (bytes l)) :
    Calls Try.prog 17 #[.slice A l.length c] w fun e w' => ∃ (A' : Option Addr) (c' : Nat), e = .returned (.slice A' l.length c') ∧ w'.ownsRow w.heap.size 5 1 (.slice A' l.length c') l.length (bytes l) ∧ Below w.heap.size w w' := by
  cases A with
  | none =>
    have hl0 : l = [] := by
      cases l with
      | nil => rfl
      | cons x l => obtain ⟨ad, h, _⟩ := hs (by simp [bytes]); cases h
    subst hl0
    have hq := Lib.run_eql_slice_nil (P := Try.prog) w 22 5 none 0 c 0 0 Try.underlying22
    go_enter Try.func17, Try.ntmps17
    go_wp2_with fail
    go_ret
    exact ⟨none, 0, rfl, World.ownsRow_nil _ _ _ _, Below.refl _ _⟩
  | some a =>
    have HS := Lib.hid hs
    have hq := Lib.run_eql_slice_nil (P := Try.prog) w 22 5 (some a) l.length c 0 0 Try.underlying22
    clear hs
    go_enter Try.func17, Try.ntmps17
    go_wp2_with (first
      | (at_builtin; refine wpL_append rfl (.tmp 5) (.tmp 6) 22 rfl elByte rfl (own_empty w 5) rfl (by rw [bytes_length]; simp) (HS.out.alloc hB _) (bytes_one l) (by unfold maxLen; omega) (by omega) (by rw [size_alloc]; omega) ?_; intro A1 c1 w1 ho1 hg1 _; simp only [Nat.zero_add, List.nil_append] at ho1; have HO1 := Lib.hid ho1; have HB1 := Lib.hid (((Below.refl w.heap.size w).alloc (Nat.le_refl _) _).grown hg1 (by rw [size_alloc]; omega) (fun g hg => by simp [Value.ownBlock] at hg; omega)); clear ho1 hg1))
    go_ret
    exact ⟨A1, c1, by simp, HO1.out, HB1.out⟩
/-- What the string of some bytes is. -/
theorem run_str (A : Option Addr) (c B : Nat) (l : List UInt8) (w : World) (hs : Seq w B A (bytes l)) : (convert 22 9 (.slice A l.length c)).run Try.prog w = .ok (.string ⟨l.toArray⟩) w := by
  cases A with
  | none =>
    have hl0 : l = [] := by
      cases l with
      | nil => rfl
      | cons x l => obtain ⟨ad, h, _⟩ := hs (by simp [bytes]); cases h
    subst hl0
    show (convert 22 9 (.slice none 0 c)).run Try.prog w = _
    rw [run_convert_bytes_string w 22 9 5 none 0 c Try.underlying22 Try.underlying5 Try.underlying9]
    simp [Conv.bytesToString]
    rfl
  | some a =>
    exact run_convert_bytes_back w 22 9 5 a c l Try.underlying22 Try.underlying5 Try.underlying9 (fun j hj => by
      obtain ⟨ad, h, _, hc⟩ := hs.at_ (k := j) (by rw [bytes_length]; exact hj)
      injection h with h
      subst h
      rw [bytes_get] at hc
      exact hc)
theorem same_calls (A : Option Addr) (c B : Nat) (l : List UInt8) (A2 : Option Addr) (c2 : Nat) (l2 : List UInt8) (w : World) (hs : Seq w B A (bytes l)) (hs2 : Seq w B A2 (bytes l2)) :
    Calls Try.prog 10 #[.slice A l.length c, .slice A2 l2.length c2] w fun e w' => e = .returned (.bool (l == l2)) ∧ Below w.heap.size w w' := by
  have h1 := run_str A c B l w hs
  have h2 := run_str A2 c2 B l2 w hs2
  clear hs hs2
  go_enter Try.func10, Try.ntmps10
  go_wp2_with fail
  go_ret
  exact ⟨rfl, Below.refl _ _⟩
def leL (n k : Nat) : List UInt8 := (List.range k).map fun i => UInt8.ofNat (n / 256 ^ i)
theorem leL_succ (n k : Nat) : leL n (k + 1) = leL n k ++ [UInt8.ofNat (n / 256 ^ k)] := by simp [leL, List.range_succ]
theorem leL_length (n k : Nat) : (leL n k).length = k := by simp [leL]
theorem beL_rev (n k : Nat) : (beL n k).reverse = leL n k := by
  induction k with
  | zero => rfl
  | succ k ih => rw [leL_succ, ← ih]; simp [beL]
theorem headL_rev (kd n : Nat) (h : ¬ n ≤ 55) : (headL kd n).reverse = leL n (nb n) ++ [UInt8.ofNat (kd + 55 + nb n)] := by
  unfold headL
  rw [if_neg h, List.reverse_cons, beL_rev]
set_option maxHeartbeats 1000000 in
theorem turned_calls (base : Nat) (A : Option Addr) (c : Nat) (l : List UInt8) (kd n : Nat) (hkd : kd ≤ 200) (hn : n ≤ 281474976710656) (hll : l.length ≤ 70368744177664) (w : World) (ho : w.ownsRow base 5 1 (.slice A l.length c) l.length (bytes l)) (hb : base ≤ w.heap.size) :
    Calls Try.prog 6 #[.slice A l.length c, .int .i64 kd, .int .i64 n] w fun e w' => ∃ (A' : Option Addr) (c' : Nat), e = .returned (.slice A' (l ++ (headL kd n).reverse).length c') ∧
      w'.ownsRow base 5 1 (.slice A' (l ++ (headL kd n).reverse).length c') (l ++ (headL kd n).reverse).length (bytes (l ++ (headL kd n).reverse)) ∧ w.grownBy w' (Value.slice A l.length c).ownBlock ∧ OldOr w A A' := by
  have h8 := nb_le n 7 (by omega)
  have HO := Lib.hid ho
  clear ho
  by_cases h : n ≤ 55
  · have d : decide ((n : Int) ≤ 55) = true := by simp; omega
    obtain ⟨y, hy⟩ : ∃ y, UInt8.ofNat (kd + n) = y := ⟨_, rfl⟩
    have e : (headL kd n).reverse = [y] := by unfold headL; rw [if_pos h, hy]; rfl
    have HE := Lib.hid e
    have em : ((kd : Int) + (n : Int)) % 256 = by8 y := by
      rw [← hy, ← u8_nat]
      omega
    clear e hy
    go_enter Try.func6, Try.ntmps6
    go_wp2_with (first
      | (at_builtin; refine wpL_append rfl (.tmp 11) (.tmp 16) 22 rfl elByte rfl (HO.out.alloc _) rfl rfl (Seq.one_new _ _ _) (by simp [Value.oneCell']) (by unfold maxLen; omega) (by omega) (by rw [size_alloc]; omega) ?_; intro A4 c4 w4 ho4 hg4 hf4; have HO4 := Lib.hid ho4; have HG4 := Lib.hid hg4; have HF4 := Lib.hid hf4; clear ho4 hg4 hf4))
    go_ret
    have hfin : l ++ (headL kd n).reverse = l ++ [y] := by rw [HE.out]
    have ho4 := HO4.out
    rw [show (kd : Int) + (n : Int) = by8 y by rw [← em]; omega] at ho4
    rw [bytes_snoc] at ho4
    rw [hfin]
    exact ⟨A4, c4, by rw [List.length_append]; rfl, by rw [List.length_append]; exact ho4, grown_via (Below.grownAny ((Below.refl w.heap.size w).alloc (Nat.le_refl _) _) _) HG4.out (Or.inl rfl), (OldOr.refl w A).step (by rw [size_alloc]; omega) HF4.out⟩
  · have d : decide ((n : Int) ≤ 55) = false := by simp; omega
    obtain ⟨y, hy⟩ : ∃ y, UInt8.ofNat (kd + 55 + nb n) = y := ⟨_, rfl⟩
    have e := headL_rev kd n h
    rw [hy] at e
    have HE := Lib.hid e
    have HY := Lib.hid hy
    clear e hy
    go_enter Try.func6, Try.ntmps6
    go_wp2_with fail
    go_loopw [0, 7, 8] (fun b v x wr => ∃ (k : Nat) (A1 : Option Addr) (c1 : Nat), k ≤ nb n ∧ v = .int .i64 k ∧ x = .int .i64 ((n / 256 ^ k : Nat) : Int) ∧ b = .slice A1 (l.length + k) c1 ∧ wr.ownsRow base 5 1 (.slice A1 (l.length + k) c1) (l.length + k) (bytes (l ++ leL n k)) ∧
      w.grownBy wr (Value.slice A l.length c).ownBlock ∧ OldOr w A A1) (fun _ v _ _ => nb n - (intOf v).toNat)
    case atStart => exact ⟨0, A, c, by omega, rfl, by simp, rfl, by simpa [leL] using HO.out, grown_refl _ _, OldOr.refl _ _⟩
    case round =>
      obtain ⟨k, A1, c1, hk, rfl, rfl, rfl, hown, hG, hF⟩ := hrel
      have hl := nb_left n k
      have hdiv : n / 256 ^ (k + 1) = n / 256 ^ k / 256 := by rw [Nat.pow_succ, Nat.div_div_eq_div_mul]
      have hle : n / 256 ^ k ≤ n := Nat.div_le_self _ _
      have hsz := hG.size
      have HO1 := Lib.hid hown
      have HG1 := Lib.hid hG
      have HF1 := Lib.hid hF
      clear hown hG hF
      by_cases hlt : k < nb n
      · have hp := hl.2 hlt
        have HD := Lib.hid hdiv
        have hls := leL_succ n k
        have HLs := Lib.hid hls
        have hz := u8_nat (n / 256 ^ k)
        clear hdiv hl hls
        generalize UInt8.ofNat (n / 256 ^ k) = z at *
        generalize n / 256 ^ k = x at *
        have dx : decide ((x : Int) > 0) = true := by simp; omega
        generalize hq : l.length + k = q at *
        have HQ := Lib.hid hq
        have hq1 := Nat.le_of_eq hq
        have hq2 := Nat.le_of_eq hq.symm
        clear hq
        go_wp2_with (first
          | (at_builtin; refine wpL_append rfl (.tmp 23) (.tmp 27) 22 rfl elByte rfl (HO1.out.alloc _) rfl rfl (Seq.one_new _ _ _) (by simp [Value.oneCell']) (by unfold maxLen; omega) (by omega) (by rw [size_alloc]; omega) ?_; intro A7 c7 w7 ho7 hg7 hf7; have HO7 := Lib.hid ho7; have HG7 := Lib.hid hg7; have HF7 := Lib.hid hf7; clear ho7 hg7 hf7))
        have ho7 := HO7.out
        rw [bytes_snoc, List.append_assoc, ← HLs.out] at ho7
        have eq1 : q + 1 = l.length + (k + 1) := by have := HQ.out; omega
        rw [eq1] at ho7
        exact ⟨⟨k + 1, A7, c7, by omega, by go_num, by rw [HD.out]; rfl, by rw [eq1], ho7, HF1.out.via HG1.out (grown_via (Below.grownAny ((Below.refl wr.heap.size wr).alloc (Nat.le_refl _) _) _) HG7.out (Or.inl rfl)), HF1.out.step (wr := wr.alloc _) (by rw [size_alloc]; omega) HF7.out⟩, by simp [intOf]; omega⟩
      · have hx : n / 256 ^ k = 0 := by
          rcases Nat.eq_zero_or_pos (n / 256 ^ k) with h1 | h1
          · exact h1
          · exact absurd (hl.1 h1) hlt
        obtain hkn : k = nb n := by omega
        have HK := Lib.hid hkn
        have em : ((kd : Int) + 55 + (k : Int)) % 256 = by8 y := by
          rw [← HY.out, ← u8_nat]
          omega
        clear hdiv hl hle hkn
        rw [hx]
        go_wp2_with (first
          | (at_builtin; refine wpL_append rfl (.tmp 31) (.tmp 37) 22 rfl elByte rfl (HO1.out.alloc _) rfl rfl (Seq.one_new _ _ _) (by simp [Value.oneCell']) (by unfold maxLen; omega) (by omega) (by rw [size_alloc]; omega) ?_; intro A7 c7 w7 ho7 hg7 hf7; have HO7 := Lib.hid ho7; have HG7 := Lib.hid hg7; have HF7 := Lib.hid hf7; clear ho7 hg7 hf7))
        go_ret
        have hfin : l ++ (headL kd n).reverse = l ++ leL n k ++ [y] := by rw [HE.out, HK.out, List.append_assoc]
        have hlen : (l ++ leL n k ++ [y]).length = l.length + k + 1 := by simp [leL_length]; omega
        have ho7 := HO7.out
        rw [bytes_snoc] at ho7
        rw [hfin, hlen]
        exact ⟨A7, c7, rfl, ho7, HF1.out.via HG1.out (grown_via (Below.grownAny ((Below.refl wr.heap.size wr).alloc (Nat.le_refl _) _) _) HG7.out (Or.inl rfl)), HF1.out.step (wr := wr.alloc _) (by rw [size_alloc]; omega) HF7.out⟩
end Go.Proofs.Ytnghneoggiolgaa
