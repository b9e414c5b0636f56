/- Two rows compared. -/
import Derived.Test.YtnghneoggiolgaaDoorRCopy
namespace Go.Proofs.YtnghneoggiolgaaDoor
open Go.RowKit
theorem below_drewN {B : Nat} {a w : World} (h : Below B a w) (n : Nat) : Below B a (w.drewN n) := h.trans ⟨rfl, rfl, rfl, Nat.le_refl _, fun _ _ => rfl⟩
set_option maxHeartbeats 2000000 in
set_option maxRecDepth 20000 in
theorem sameR_calls (A : Option Addr) (c B : Nat) (l : List ItemL) (A2 : Option Addr) (c2 B2 : Nat) (m : List ItemL) (w : World) (hl : l.length ≤ 281474976710656) (hm : m.length ≤ 281474976710656) (hB : B ≤ w.heap.size) (hB2 : B2 ≤ w.heap.size) (hs : ItemsAt w B A l) (hp : ∀ x ∈ l, Seq w B x.2.2.1 (bytes x.2.2.2.2))
    (hs2 : ItemsAt w B2 A2 m) (hp2 : ∀ x ∈ m, Seq w B2 x.2.2.1 (bytes x.2.2.2.2)) :
    Calls Tryd.prog 21 #[.slice A l.length c, .slice A2 m.length c2] w fun e w' => e = .returned (.bool (decide (l.map said = m.map said))) ∧ Below w.heap.size w w' := by
  have HS := Lib.hid hs
  have HP := Lib.hid hp
  have HS2 := Lib.hid hs2
  have HP2 := Lib.hid hp2
  clear hs hp hs2 hp2
  by_cases he : l.length = m.length
  · have HE := Lib.hid he
    rw [← he]
    clear he
    go_enter Tryd.func21, Tryd.ntmps21
    go_wp2_with fail
    go_loopw [5] (fun i wr => ∃ k : Nat, k ≤ l.length ∧ i = .int .i64 k ∧ (l.take k).map said = (m.take k).map said ∧ Below w.heap.size w wr) (fun i _ => l.length - (intOf i).toNat)
    case atStart => exact ⟨0, by omega, rfl, rfl, Below.refl _ _⟩
    case round =>
      obtain ⟨k, hk, rfl, hsd, hBl⟩ := hrel
      have HB := Lib.hid hBl
      by_cases hlt : k < l.length
      · have dk : decide ((k : Int) < (l.length : Int)) = true := by simp; omega
        have lk : (k : Int) < (l.length : Int) := by omega
        have hlt2 : k < m.length := by have := HE.out; omega
        obtain ⟨a1, rfl, _, hc0, hc1, hc2⟩ := (HS.out.below hBl hB).get k hlt
        obtain ⟨a2, rfl, _, he0, he1, he2⟩ := (HS2.out.below hBl hB2).get k hlt2
        have hr1 : ∀ n, _ := fun n => run_str (l[k]).2.2.1 (l[k]).2.2.2.1 B _ (wr.drewN n) (((HP.out _ (List.getElem_mem hlt)).below hBl hB).drewN n)
        have hr2 : ∀ n, _ := fun n => run_str (m[k]).2.2.1 (m[k]).2.2.2.1 B2 _ (wr.drewN n) (((HP2.out _ (List.getElem_mem hlt2)).below hBl hB2).drewN n)
        have htk : (l.take (k + 1)).map said = (l.take k).map said ++ [said l[k]] := by rw [List.take_succ_eq_append_getElem hlt, List.map_append]; rfl
        have htm : (m.take (k + 1)).map said = (m.take k).map said ++ [said m[k]] := by rw [List.take_succ_eq_append_getElem hlt2, List.map_append]; rfl
        have hne : said l[k] ≠ said m[k] → l.map said ≠ m.map said := fun h e => h (by
          have := congrArg (fun q => q[k]?) e
          simpa [List.getElem?_eq_getElem, hlt, hlt2] using this)
        have HT := Lib.hid htk
        have HM := Lib.hid htm
        have HN := Lib.hid hne
        have HSd := Lib.hid hsd
        clear htk htm hne hsd hBl
        generalize l[k] = x at *
        generalize m[k] = y at *
        obtain ⟨isL, cnt, Ab, cb, lb⟩ := x
        obtain ⟨isM, cnu, Ac, cc, lc⟩ := y
        simp only at hc0 hc1 hc2 he0 he1 he2 hr1 hr2
        by_cases d0 : isL = isM
        · subst d0
          by_cases d1 : cnt = cnu
          · subst d1
            by_cases d2 : lb = lc
            · subst d2
              have hfin : ((l.take (k + 1)).map said = (m.take (k + 1)).map said) := by rw [HT.out, HM.out, HSd.out]; rfl
              have HF := Lib.hid hfin
              clear hfin
              cases isL
              all_goals
                go_wp2_with (first | go_quiet (fail))
                exact ⟨⟨k + 1, by omega, by go_num, HF.out, below_drewN HB.out nq⟩, by simp [intOf]; omega⟩
            · have hfin := HN.out (fun e => d2 (by injection e with _ e; injection e))
              have HF := Lib.hid hfin
              clear hfin
              have d3 : (lb == lc) = false := by simpa using d2
              cases isL
              all_goals
                go_wp2_with (first | go_quiet (fail))
                go_ret
                exact ⟨by rw [decide_eq_false HF.out]; rfl, below_drewN HB.out nq⟩
          · have hfin := HN.out (fun e => d1 (by injection e with _ e; injection e))
            have HF := Lib.hid hfin
            clear hfin
            have d3 : decide (cnt = cnu) = false := by simpa using d1
            cases isL
            all_goals
              go_wp2_with (first | go_quiet (fail))
              go_ret
              exact ⟨by rw [decide_eq_false HF.out]; rfl, below_drewN HB.out nq⟩
        · have hfin := HN.out (fun e => d0 (by injection e))
          have HF := Lib.hid hfin
          clear hfin
          cases isL <;> cases isM
          all_goals first
            | exact absurd rfl d0
            | (go_wp2_with (first | go_quiet (fail))
               go_ret
               exact ⟨by rw [decide_eq_false HF.out]; rfl, below_drewN HB.out nq⟩)
      · have dk : decide ((k : Int) < (l.length : Int)) = false := by simp; omega
        have hkl : k = l.length := by omega
        have hfin : l.map said = m.map said := by
          rw [hkl, List.take_length, HE.out, List.take_length] at hsd
          exact hsd
        have HF := Lib.hid hfin
        clear hsd hfin hkl hBl
        go_wp2_with fail
        go_ret
        exact ⟨by rw [decide_eq_true HF.out]; rfl, HB.out⟩
  · have dl : decide ((l.length : Int) = (m.length : Int)) = false := by simp; omega
    have hfin : l.map said ≠ m.map said := fun e => he (by simpa using congrArg List.length e)
    have HF := Lib.hid hfin
    clear hfin
    go_enter Tryd.func21, Tryd.ntmps21
    go_wp2_with fail
    go_ret
    exact ⟨by rw [decide_eq_false HF.out]; rfl, Below.refl _ _⟩
end Go.Proofs.YtnghneoggiolgaaDoor
