/- pairs: the same pairs? -/
import Derived.Test.YtfhindffmghlaaaDoorMTLawB
import Derived.Deep.RegionHeld3
set_option linter.unusedVariables false
set_option linter.unusedSimpArgs false
namespace Go.Proofs.YtfhindffmghlaaaDoor
open Go.RowKit
theorem unwanted_or {o g : Oper} {ops : Array Oper} {tmps : Array Value} {i d : Nat} (hg : o.guard = some (i, false)) (hi : ops[i]? = some g) (hd : g.dst = some d) (hv : tmps[d]? = some (.bool true)) : Region.wanted o (yielded ops tmps) = false := by
  unfold Region.wanted yielded
  rw [hg]
  simp [hi, hd, hv]
theorem nodes_len {t : Tr} {us : List Piece} (hb : Bnd 131072 t) (h : us.map txt = encT hashL t :: underT hashL t true false []) : ∀ p ∈ us, p.2.2.length ≤ 262944 := fun p hp => by
  have h1 : txt p ∈ encT hashL t :: underT hashL t true false [] := h ▸ List.mem_map.2 ⟨p, hp, rfl⟩
  rcases List.mem_cons.1 h1 with h2 | h2
  · have := encT_le hashL hashL_length t 131072 (by omega) hb
    rw [show p.2.2 = encT hashL t from h2]
    omega
  · exact (underT_len hashL_length (M := 131072) (by omega) t true false [] hb _ h2).2
theorem saidP_eq {x y : PairL} (h1 : x.1.2.2 = y.1.2.2) (h2 : x.2.2.2 = y.2.2.2) : saidP x = saidP y := by unfold saidP; rw [h1, h2]
def SamePost (w : World) (b : Bool) (e : Ending) (w' : World) : Prop := e = .returned (.bool b) ∧ Below w.heap.size w w'
set_option maxHeartbeats 4000000 in
set_option maxRecDepth 20000 in
theorem pairs_calls (A : Option Addr) (c : Nat) (l : List PairL) (A2 : Option Addr) (c2 : Nat) (m : List PairL) (w : World) (hl : l.length ≤ 1099511627776) (hm : m.length ≤ 1099511627776) (hp : PairsIn w w.heap.size A l) (hp2 : PairsIn w w.heap.size A2 m) :
    Calls Tryd.prog 29 #[.slice A l.length c, .slice A2 m.length c2] w (SamePost w (decide (l.map saidP = m.map saidP))) := by
  have HP := Lib.hid hp
  have HP2 := Lib.hid hp2
  clear hp hp2
  by_cases hlen : l.length = m.length
  · have dn : ((l.length : Int) != (m.length : Int)) = false := by simp [hlen]
    have HLen := Lib.hid hlen
    have hle := Nat.le_of_eq hlen
    have hle2 := Nat.le_of_eq hlen.symm
    clear hlen
    obtain ⟨r, hr⟩ : ∃ r, decide (l.map saidP = m.map saidP) = r := ⟨_, rfl⟩
    rw [hr]
    have HR := Lib.hid hr
    clear hr
    go_enter Tryd.func29, Tryd.ntmps29
    go_wp2_with fail
    go_loopw [5] (fun i wr => ∃ k : Nat, k ≤ l.length ∧ i = .int .i64 k ∧ (l.take k).map saidP = (m.take k).map saidP ∧ Below w.heap.size w wr) (fun i _ => l.length - (intOf i).toNat)
    case atStart => exact ⟨0, by omega, rfl, by simp, Below.refl _ _⟩
    case round =>
      obtain ⟨k, hk, rfl, hsm, hbl⟩ := hrel
      rename World => w1
      have hsz := hbl.size
      have HSm := Lib.hid hsm
      have HBl := Lib.hid hbl
      clear hsm
      by_cases hlt : k < l.length
      · have dk : decide ((k : Int) < (l.length : Int)) = true := by simp; omega
        have lk : (k : Int) < (l.length : Int) := by omega
        have hlt2 : k < m.length := by omega
        have lk2 : (k : Int) < (m.length : Int) := by omega
        have n0 : (0 : Int) ≤ (k : Int) := by omega
        have hpr := HP.out.below hbl (Nat.le_refl _)
        have hpr2 := HP2.out.below hbl (Nat.le_refl _)
        obtain ⟨ad, rfl, _, q0, q1⟩ := hpr.1.get k hlt
        obtain ⟨ad2, rfl, _, r0, r1⟩ := hpr2.1.get k hlt2
        obtain ⟨hs0, hs1, _⟩ := hpr.2 _ (List.getElem_mem hlt)
        obtain ⟨ht0, ht1, _⟩ := hpr2.2 _ (List.getElem_mem hlt2)
        have htk : (l.take (k + 1)).map saidP = (l.take k).map saidP ++ [saidP l[k]] := by rw [List.take_succ_eq_append_getElem hlt, List.map_append]; rfl
        have htk2 : (m.take (k + 1)).map saidP = (m.take k).map saidP ++ [saidP m[k]] := by rw [List.take_succ_eq_append_getElem hlt2, List.map_append]; rfl
        have hne : saidP l[k] ≠ saidP m[k] → r = false := fun h => by
          rw [← HR.out, decide_eq_false_iff_not]
          intro e
          apply h
          have h1 := congrArg (fun L => L[k]?) e
          simp only [List.getElem?_map, List.getElem?_eq_getElem hlt, List.getElem?_eq_getElem hlt2, Option.map_some, Option.some.injEq] at h1
          exact h1
        have HNe := Lib.hid hne
        have HTk := Lib.hid htk
        have HTk2 := Lib.hid htk2
        clear hpr hpr2 htk htk2 hne hbl
        generalize l[k] = x at *
        generalize m[k] = y at *
        obtain ⟨⟨Ak, ck, lk'⟩, ⟨Av, cv, lv⟩⟩ := x
        obtain ⟨⟨Bk, dk', mk'⟩, ⟨Bv, dv, mv⟩⟩ := y
        simp only [pcV] at q0 q1 r0 r1
        simp only at hs0 hs1 ht0 ht1
        have HBd := Lib.hid (below_drewN (Below.refl w1.heap.size w1) 1)
        obtain ⟨b1, hb1⟩ : ∃ b, (lk' == mk') = b := ⟨_, rfl⟩
        obtain ⟨b2, hb2⟩ : ∃ b, (lv == mv) = b := ⟨_, rfl⟩
        have HC1 := Lib.hid (show Calls Tryd.prog 27 #[.slice Ak lk'.length ck, .slice Bk mk'.length dk'] w1.drew (fun e w' => e = .returned (.bool b1) ∧ w' = w1.drew) from by
          refine (sameLE_calls Ak ck w.heap.size lk' Bk dk' mk' w1.drew (hs0.below HBd.out hsz) (ht0.below HBd.out hsz)).mono ?_
          rintro e w' ⟨rfl, rfl⟩
          exact ⟨by rw [hb1], rfl⟩)
        have HC2 := Lib.hid (show Calls Tryd.prog 27 #[.slice Av lv.length cv, .slice Bv mv.length dv] w1.drew (fun e w' => e = .returned (.bool b2) ∧ w' = w1.drew) from by
          refine (sameLE_calls Av cv w.heap.size lv Bv dv mv w1.drew (hs1.below HBd.out hsz) (ht1.below HBd.out hsz)).mono ?_
          rintro e w' ⟨rfl, rfl⟩
          exact ⟨by rw [hb2], rfl⟩)
        have HX1 := Lib.hid hb1
        have HX2 := Lib.hid hb2
        clear hb1 hb2 hs0 hs1 ht0 ht1
        go_upto_region 6 with fail
        cases b1 with
        | true =>
          go_region_held3 (fun w' => w'.cell? (ad.add (k * 2)) = some (.slice Ak lk'.length ck) ∧ w'.cell? ⟨(ad.add (k * 2)).block, (ad.add (k * 2)).off + 1, none⟩ = some (.slice Av lv.length cv) ∧ w'.cell? (ad2.add (k * 2)) = some (.slice Bk mk'.length dk') ∧ w'.cell? ⟨(ad2.add (k * 2)).block, (ad2.add (k * 2)).off + 1, none⟩ = some (.slice Bv mv.length dv)) (first | exact ⟨q0, q1, r0, r1⟩ | go_keep)
            (first
              | (go_at_call 27; (refine HC2.out.mono ?_; rintro e2 w2 ⟨rfl, rfl⟩))
              | (go_at_call 27; (refine HC1.out.mono ?_; rintro e2 w2 ⟨rfl, rfl⟩)))
          cases b2 with
          | true =>
            have hsx : saidP ((Ak, ck, lk'), (Av, cv, lv)) = saidP ((Bk, dk', mk'), (Bv, dv, mv)) := saidP_eq (by simpa using HX1.out) (by simpa using HX2.out)
            have HSx := Lib.hid hsx
            clear hsx
            go_wp2_with fail
            exact ⟨⟨k + 1, by omega, by go_num, by rw [HTk.out, HTk2.out, HSm.out, HSx.out], HBl.out.trans (HBd.out.mono hsz)⟩, by simp [intOf]; omega⟩
          | false =>
            obtain rfl : r = false := HNe.out fun e => by
              have h1 := congrArg (·.2) e
              have h2 := HX2.out
              rw [beq_eq_false_iff_ne] at h2
              exact h2 h1
            go_wp2_with fail
            go_ret
            exact ⟨rfl, HBl.out.trans (HBd.out.mono hsz)⟩
        | false =>
          obtain rfl : r = false := HNe.out fun e => by
            have h1 := congrArg (·.1) e
            have h2 := HX1.out
            rw [beq_eq_false_iff_ne] at h2
            exact h2 h1
          refine wp_region_held_drew (S := fun w' => w'.cell? (ad.add (k * 2)) = some (.slice Ak lk'.length ck) ∧ w'.cell? (ad2.add (k * 2)) = some (.slice Bk mk'.length dk')) (by kernel_rfl) ⟨q0, r0⟩ (fun hHeld => ?_)
          refine wpAnyH_take (i := 0) (v := ?_) rfl (by kernel_rfl) (by kernel_rfl) (by kernel_rfl) (fun _ _ _ h => h) (Or.inl ⟨by rfl, ?_⟩) hHeld ?_
          rotate_left
          · intro _ _; go_simp; try with_reducible rfl
          try simp only [Act.put, List.getElem_toArray, List.getElem_cons_zero, List.getElem_cons_succ, List.setIfInBounds_toArray, List.set_cons_zero, List.set_cons_succ]
          refine wpAnyH_take (i := 1) (v := ?_) rfl (by kernel_rfl) (by kernel_rfl) (by kernel_rfl) (fun _ _ _ h => h) (Or.inl ⟨by rfl, ?_⟩) hHeld ?_
          rotate_left
          · intro _ _; go_simp; try with_reducible rfl
          try simp only [Act.put, List.getElem_toArray, List.getElem_cons_zero, List.getElem_cons_succ, List.setIfInBounds_toArray, List.set_cons_zero, List.set_cons_succ]
          refine wpAnyH_take (i := 2) (v := ?_) rfl (by kernel_rfl) (by kernel_rfl) (by kernel_rfl) (fun _ _ _ h => h) (Or.inl ⟨by rfl, ?_⟩) hHeld ?_
          rotate_left
          · intro _ _; go_simp; try with_reducible rfl
          try simp only [Act.put, List.getElem_toArray, List.getElem_cons_zero, List.getElem_cons_succ, List.setIfInBounds_toArray, List.set_cons_zero, List.set_cons_succ]
          refine wpAnyH_take (i := 3) (v := ?_) rfl (by kernel_rfl) (by kernel_rfl) (by kernel_rfl) (fun _ _ _ h => h) (Or.inl ⟨by rfl, ?_⟩) hHeld ?_
          rotate_left
          · intro _ _; go_simp; try with_reducible rfl
          try simp only [Act.put, List.getElem_toArray, List.getElem_cons_zero, List.getElem_cons_succ, List.setIfInBounds_toArray, List.set_cons_zero, List.set_cons_succ]
          refine wpAnyH_take (i := 4) (v := ?_) rfl (by kernel_rfl) (by kernel_rfl) (by kernel_rfl) (fun _ _ _ h => h) (Or.inl ⟨by rfl, ?_⟩) hHeld ?_
          rotate_left
          · intro _ hSw; go_split_ands; go_simp; try with_reducible rfl
          try simp only [Act.put, List.getElem_toArray, List.getElem_cons_zero, List.getElem_cons_succ, List.setIfInBounds_toArray, List.set_cons_zero, List.set_cons_succ]
          refine wpAnyH_take (i := 5) (v := ?_) rfl (by kernel_rfl) (by kernel_rfl) (by kernel_rfl) (fun _ _ _ h => h) (Or.inl ⟨by rfl, ?_⟩) hHeld ?_
          rotate_left
          · intro _ _; go_simp; try with_reducible rfl
          try simp only [Act.put, List.getElem_toArray, List.getElem_cons_zero, List.getElem_cons_succ, List.setIfInBounds_toArray, List.set_cons_zero, List.set_cons_succ]
          refine wpAnyH_take (i := 6) (v := ?_) rfl (by kernel_rfl) (by kernel_rfl) (by kernel_rfl) (fun _ _ _ h => h) (Or.inl ⟨by rfl, ?_⟩) hHeld ?_
          rotate_left
          · intro _ _; go_simp; try with_reducible rfl
          try simp only [Act.put, List.getElem_toArray, List.getElem_cons_zero, List.getElem_cons_succ, List.setIfInBounds_toArray, List.set_cons_zero, List.set_cons_succ]
          refine wpAnyH_take (i := 7) (v := ?_) rfl (by kernel_rfl) (by kernel_rfl) (by kernel_rfl) (fun _ _ _ h => h) (Or.inl ⟨by rfl, ?_⟩) hHeld ?_
          rotate_left
          · intro _ _; go_simp; try with_reducible rfl
          try simp only [Act.put, List.getElem_toArray, List.getElem_cons_zero, List.getElem_cons_succ, List.setIfInBounds_toArray, List.set_cons_zero, List.set_cons_succ]
          refine wpAnyH_take (i := 8) (v := ?_) rfl (by kernel_rfl) (by kernel_rfl) (by kernel_rfl) (fun _ _ _ h => h) (Or.inl ⟨by rfl, ?_⟩) hHeld ?_
          rotate_left
          · intro _ _; go_simp; try with_reducible rfl
          try simp only [Act.put, List.getElem_toArray, List.getElem_cons_zero, List.getElem_cons_succ, List.setIfInBounds_toArray, List.set_cons_zero, List.set_cons_succ]
          refine wpAnyH_take (i := 9) (v := ?_) rfl (by kernel_rfl) (by kernel_rfl) (by kernel_rfl) (fun _ _ _ h => h) (Or.inl ⟨by rfl, ?_⟩) hHeld ?_
          rotate_left
          · intro _ hSw; go_split_ands; go_simp; try with_reducible rfl
          try simp only [Act.put, List.getElem_toArray, List.getElem_cons_zero, List.getElem_cons_succ, List.setIfInBounds_toArray, List.set_cons_zero, List.set_cons_succ]
          refine wpAnyH_ready (rs := [10]) (by kernel_rfl) (by simp) ?_
          refine AllReadyH.cons rfl (fun K hK => ?_) AllReadyH.nil
          go_simp
          refine HC1.out.mono ?_
          rintro e2 w2 ⟨rfl, rfl⟩
          go_wp2_with fail
          refine hK.out _ _ ⟨q0, r0⟩ (fun hHeld => ?_)
          clear hK K
          try simp only [Act.put, List.getElem_toArray, List.getElem_cons_zero, List.getElem_cons_succ, List.setIfInBounds_toArray, List.set_cons_zero, List.set_cons_succ]
          refine wpAnyH_take (i := 11) (v := ?_) rfl (by kernel_rfl) (by kernel_rfl) (by kernel_rfl) (fun _ _ _ h => h) (Or.inl ⟨by rfl, ?_⟩) hHeld ?_
          rotate_left
          · intro _ _; go_simp; try with_reducible rfl
          try simp only [Act.put, List.getElem_toArray, List.getElem_cons_zero, List.getElem_cons_succ, List.setIfInBounds_toArray, List.set_cons_zero, List.set_cons_succ]
          refine wpAnyH_take (i := 12) (v := ?_) rfl (by kernel_rfl) (by kernel_rfl) (by kernel_rfl) (fun _ _ _ h => h) (Or.inl ⟨by rfl, ?_⟩) hHeld ?_
          rotate_left
          · intro _ _; go_simp; try with_reducible rfl
          try simp only [Act.put, List.getElem_toArray, List.getElem_cons_zero, List.getElem_cons_succ, List.setIfInBounds_toArray, List.set_cons_zero, List.set_cons_succ]
          refine wpAnyH_take (i := 13) (v := undef) rfl (by kernel_rfl) (by kernel_rfl) (by kernel_rfl) (fun _ _ _ h => h) (Or.inr ⟨unwanted_or rfl rfl rfl rfl, rfl⟩) hHeld ?_
          try simp only [Act.put, List.getElem_toArray, List.getElem_cons_zero, List.getElem_cons_succ, List.setIfInBounds_toArray, List.set_cons_zero, List.set_cons_succ]
          refine wpAnyH_take (i := 14) (v := undef) rfl (by kernel_rfl) (by kernel_rfl) (by kernel_rfl) (fun _ _ _ h => h) (Or.inr ⟨unwanted_or rfl rfl rfl rfl, rfl⟩) hHeld ?_
          try simp only [Act.put, List.getElem_toArray, List.getElem_cons_zero, List.getElem_cons_succ, List.setIfInBounds_toArray, List.set_cons_zero, List.set_cons_succ]
          refine wpAnyH_take (i := 15) (v := undef) rfl (by kernel_rfl) (by kernel_rfl) (by kernel_rfl) (fun _ _ _ h => h) (Or.inr ⟨unwanted_or rfl rfl rfl rfl, rfl⟩) hHeld ?_
          try simp only [Act.put, List.getElem_toArray, List.getElem_cons_zero, List.getElem_cons_succ, List.setIfInBounds_toArray, List.set_cons_zero, List.set_cons_succ]
          refine wpAnyH_take (i := 16) (v := undef) rfl (by kernel_rfl) (by kernel_rfl) (by kernel_rfl) (fun _ _ _ h => h) (Or.inr ⟨unwanted_or rfl rfl rfl rfl, rfl⟩) hHeld ?_
          try simp only [Act.put, List.getElem_toArray, List.getElem_cons_zero, List.getElem_cons_succ, List.setIfInBounds_toArray, List.set_cons_zero, List.set_cons_succ]
          refine wpAnyH_take (i := 17) (v := undef) rfl (by kernel_rfl) (by kernel_rfl) (by kernel_rfl) (fun _ _ _ h => h) (Or.inr ⟨unwanted_or rfl rfl rfl rfl, rfl⟩) hHeld ?_
          try simp only [Act.put, List.getElem_toArray, List.getElem_cons_zero, List.getElem_cons_succ, List.setIfInBounds_toArray, List.set_cons_zero, List.set_cons_succ]
          refine wpAnyH_take (i := 18) (v := undef) rfl (by kernel_rfl) (by kernel_rfl) (by kernel_rfl) (fun _ _ _ h => h) (Or.inr ⟨unwanted_or rfl rfl rfl rfl, rfl⟩) hHeld ?_
          try simp only [Act.put, List.getElem_toArray, List.getElem_cons_zero, List.getElem_cons_succ, List.setIfInBounds_toArray, List.set_cons_zero, List.set_cons_succ]
          refine wpAnyH_take (i := 19) (v := undef) rfl (by kernel_rfl) (by kernel_rfl) (by kernel_rfl) (fun _ _ _ h => h) (Or.inr ⟨unwanted_or rfl rfl rfl rfl, rfl⟩) hHeld ?_
          try simp only [Act.put, List.getElem_toArray, List.getElem_cons_zero, List.getElem_cons_succ, List.setIfInBounds_toArray, List.set_cons_zero, List.set_cons_succ]
          refine wpAnyH_take (i := 20) (v := undef) rfl (by kernel_rfl) (by kernel_rfl) (by kernel_rfl) (fun _ _ _ h => h) (Or.inr ⟨unwanted_or rfl rfl rfl rfl, rfl⟩) hHeld ?_
          try simp only [Act.put, List.getElem_toArray, List.getElem_cons_zero, List.getElem_cons_succ, List.setIfInBounds_toArray, List.set_cons_zero, List.set_cons_succ]
          refine wpAnyH_take (i := 21) (v := undef) rfl (by kernel_rfl) (by kernel_rfl) (by kernel_rfl) (fun _ _ _ h => h) (Or.inr ⟨unwanted_or rfl rfl rfl rfl, rfl⟩) hHeld ?_
          try simp only [Act.put, List.getElem_toArray, List.getElem_cons_zero, List.getElem_cons_succ, List.setIfInBounds_toArray, List.set_cons_zero, List.set_cons_succ]
          refine wpAnyH_take (i := 22) (v := undef) rfl (by kernel_rfl) (by kernel_rfl) (by kernel_rfl) (fun _ _ _ h => h) (Or.inr ⟨unwanted_or rfl rfl rfl rfl, rfl⟩) hHeld ?_
          try simp only [Act.put, List.getElem_toArray, List.getElem_cons_zero, List.getElem_cons_succ, List.setIfInBounds_toArray, List.set_cons_zero, List.set_cons_succ]
          refine wpAnyH_take (i := 23) (v := undef) rfl (by kernel_rfl) (by kernel_rfl) (by kernel_rfl) (fun _ _ _ h => h) (Or.inr ⟨unwanted_or rfl rfl rfl rfl, rfl⟩) hHeld ?_
          try simp only [Act.put, List.getElem_toArray, List.getElem_cons_zero, List.getElem_cons_succ, List.setIfInBounds_toArray, List.set_cons_zero, List.set_cons_succ]
          refine wpAnyH_take (i := 24) (v := undef) rfl (by kernel_rfl) (by kernel_rfl) (by kernel_rfl) (fun _ _ _ h => h) (Or.inr ⟨unwanted_or rfl rfl rfl rfl, rfl⟩) hHeld ?_
          try simp only [Act.put, List.getElem_toArray, List.getElem_cons_zero, List.getElem_cons_succ, List.setIfInBounds_toArray, List.set_cons_zero, List.set_cons_succ]
          refine wpAnyH_take (i := 25) (v := ?_) rfl (by kernel_rfl) (by kernel_rfl) (by kernel_rfl) (fun _ _ _ h => h) (Or.inl ⟨by rfl, ?_⟩) hHeld ?_
          rotate_left
          · intro _ _; go_simp; try with_reducible rfl
          try simp only [Act.put, List.getElem_toArray, List.getElem_cons_zero, List.getElem_cons_succ, List.setIfInBounds_toArray, List.set_cons_zero, List.set_cons_succ]
          refine wpAnyH_done (by kernel_rfl) ?_ _
          go_wp2_with fail
          go_ret
          exact ⟨rfl, HBl.out.trans (HBd.out.mono hsz)⟩
      · have dk : decide ((k : Int) < (l.length : Int)) = false := by simp; omega
        obtain rfl : r = true := by
          rw [← HR.out, decide_eq_true_iff]
          have h1 := HSm.out
          rw [List.take_of_length_le (by omega), List.take_of_length_le (by omega)] at h1
          exact h1
        clear hbl
        go_wp2_with fail
        go_ret
        exact ⟨rfl, HBl.out⟩
  · have dn : ((l.length : Int) != (m.length : Int)) = true := by simp; omega
    have hr : decide (l.map saidP = m.map saidP) = false := by
      rw [decide_eq_false_iff_not]
      intro e
      apply hlen
      have := congrArg List.length e
      rw [List.length_map, List.length_map] at this
      exact this
    rw [hr]
    clear hr
    go_enter Tryd.func29, Tryd.ntmps29
    go_wp2_with fail
    go_ret
    exact ⟨rfl, Below.refl _ _⟩
end Go.Proofs.YtfhindffmghlaaaDoor
