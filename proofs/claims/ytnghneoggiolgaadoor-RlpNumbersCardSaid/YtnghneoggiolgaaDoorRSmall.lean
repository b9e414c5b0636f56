/- Small functions: own, Clone, same, turned. -/
import Derived.Test.YtnghneoggiolgaaDoorRHead
import Derived.Laws.IdiomStrings
import Derived.Lib.SliceRun
namespace Go.Proofs.YtnghneoggiolgaaDoor
open Go.RowKit
theorem own_calls (A : Option Addr) (c B : Nat) (l : List UInt8) (w : World) (hl : l.length ≤ 1099511627776) (hs : Seq w B A (bytes l)) :
    Calls Tryd.prog 9 #[.slice A l.length c] w fun e w' => ∃ (A' : Option Addr) (c' : Nat), e = .returned (.slice A' l.length c') ∧ w'.ownsRow w.heap.size 5 1 (.slice A' l.length c') l.length (bytes l) ∧ Below w.heap.size w w' := by
  have HS := Lib.hid hs
  clear hs
  go_enter Tryd.func9, Tryd.ntmps9
  go_wp2_with (first
    | (at_builtin; refine wpL_append rfl (.const (.slice none 0 0)) (.tmp 3) 26 rfl elByte rfl (World.ownsRow_nil w w.heap.size 5 1) rfl (by rw [bytes_length]; simp) HS.out (bytes_one l) (by unfold maxLen; omega) (by omega) (Nat.le_refl _) ?_; intro A1 c1 w1 ho1 hg1 _; simp only [Nat.zero_add, List.nil_append] at ho1; have HO1 := Lib.hid ho1; have HB1 := Lib.hid ((Below.refl w.heap.size w).grown hg1 (Nat.le_refl _) (fun g hg => by simp [Value.ownBlock] at hg)); clear ho1 hg1))
  go_ret
  exact ⟨A1, c1, by simp, HO1.out, HB1.out⟩
theorem own_empty (w : World) (t : TypeId) : (w.alloc (.cells #[] t)).ownsRow w.heap.size t 1 (.slice (some ⟨w.heap.size, 0, none⟩) 0 0) 0 [] :=
  ⟨rfl, .inr ⟨w.heap.size, 0, #[], rfl, Nat.le_refl _, heap_alloc_new w _, Nat.le_refl _, by simp [maxLen], rfl, rfl⟩⟩
theorem clone_calls (A : Option Addr) (c B : Nat) (l : List UInt8) (w : World) (hl : l.length ≤ 1099511627776) (hB : B ≤ w.heap.size) (hs : Seq w B A (bytes l)) :
    Calls Tryd.prog 26 #[.slice A l.length c] w fun e w' => ∃ (A' : Option Addr) (c' : Nat), e = .returned (.slice A' l.length c') ∧ w'.ownsRow w.heap.size 5 1 (.slice A' l.length c') l.length (bytes l) ∧ Below w.heap.size w w' := by
  cases A with
  | none =>
    have hl0 : l = [] := by
      cases l with
      | nil => rfl
      | cons x l => obtain ⟨ad, h, _⟩ := hs (by simp [bytes]); cases h
    subst hl0
    have hq := Lib.run_eql_slice_nil (P := Tryd.prog) w 26 5 none 0 c 0 0 Tryd.underlying26
    go_enter Tryd.func26, Tryd.ntmps26
    go_wp2_with fail
    go_ret
    exact ⟨none, 0, rfl, World.ownsRow_nil _ _ _ _, Below.refl _ _⟩
  | some a =>
    have HS := Lib.hid hs
    have hq := Lib.run_eql_slice_nil (P := Tryd.prog) w 26 5 (some a) l.length c 0 0 Tryd.underlying26
    clear hs
    go_enter Tryd.func26, Tryd.ntmps26
    go_wp2_with (first
      | (at_builtin; refine wpL_append rfl (.tmp 5) (.tmp 6) 26 rfl elByte rfl (own_empty w 5) rfl (by rw [bytes_length]; simp) (HS.out.alloc hB _) (bytes_one l) (by unfold maxLen; omega) (by omega) (by rw [size_alloc]; omega) ?_; intro A1 c1 w1 ho1 hg1 _; simp only [Nat.zero_add, List.nil_append] at ho1; have HO1 := Lib.hid ho1; have HB1 := Lib.hid (((Below.refl w.heap.size w).alloc (Nat.le_refl _) _).grown hg1 (by rw [size_alloc]; omega) (fun g hg => by simp [Value.ownBlock] at hg; omega)); clear ho1 hg1))
    go_ret
    exact ⟨A1, c1, by simp, HO1.out, HB1.out⟩
/-- What the string of some bytes is. -/
theorem run_str (A : Option Addr) (c B : Nat) (l : List UInt8) (w : World) (hs : Seq w B A (bytes l)) : (convert 26 9 (.slice A l.length c)).run Tryd.prog w = .ok (.string ⟨l.toArray⟩) w := by
  cases A with
  | none =>
    have hl0 : l = [] := by
      cases l with
      | nil => rfl
      | cons x l => obtain ⟨ad, h, _⟩ := hs (by simp [bytes]); cases h
    subst hl0
    show (convert 26 9 (.slice none 0 c)).run Tryd.prog w = _
    rw [run_convert_bytes_string w 26 9 5 none 0 c Tryd.underlying26 Tryd.underlying5 Tryd.underlying9]
    simp [Conv.bytesToString]
    rfl
  | some a =>
    exact run_convert_bytes_back w 26 9 5 a c l Tryd.underlying26 Tryd.underlying5 Tryd.underlying9 (fun j hj => by
      obtain ⟨ad, h, _, hc⟩ := hs.at_ (k := j) (by rw [bytes_length]; exact hj)
      injection h with h
      subst h
      rw [bytes_get] at hc
      exact hc)
theorem sameE_calls (A : Option Addr) (c B : Nat) (l : List UInt8) (A2 : Option Addr) (c2 : Nat) (l2 : List UInt8) (w : World) (hs : Seq w B A (bytes l)) (hs2 : Seq w B A2 (bytes l2)) :
    Calls Tryd.prog 10 #[.slice A l.length c, .slice A2 l2.length c2] w fun e w' => e = .returned (.bool (l == l2)) ∧ w' = w := by
  have h1 := run_str A c B l w hs
  have h2 := run_str A2 c2 B l2 w hs2
  clear hs hs2
  go_enter Tryd.func10, Tryd.ntmps10
  go_wp2_with fail
  go_ret
  exact ⟨rfl, rfl⟩
theorem same_calls (A : Option Addr) (c B : Nat) (l : List UInt8) (A2 : Option Addr) (c2 : Nat) (l2 : List UInt8) (w : World) (hs : Seq w B A (bytes l)) (hs2 : Seq w B A2 (bytes l2)) :
    Calls Tryd.prog 10 #[.slice A l.length c, .slice A2 l2.length c2] w fun e w' => e = .returned (.bool (l == l2)) ∧ Below w.heap.size w w' :=
  (sameE_calls A c B l A2 c2 l2 w hs hs2).mono fun _ _ ⟨h1, h2⟩ => ⟨h1, h2 ▸ Below.refl _ _⟩
end Go.Proofs.YtnghneoggiolgaaDoor
