/- TrieSame: two tries with one root have the same pairs; or two unlike nodes of theirs have one hash. -/
import Derived.Test.YtfhindffmghlaaaDoorMTLawB
import Derived.Test.YtfhindffmghlaaaDoorMTPairsC
import Derived.Test.YtfhindffmghlaaaDoorMTSameQ
import Derived.Deep.RegionHeld3
import Derived.Test.YtfhindffmghlaaaDoorMTTables
import Derived.Test.YtfhindffmghlaaaDoorCards
import Derived.Deep.CutRange
import Derived.Deep.CutBlock
set_option linter.unusedVariables false
set_option linter.unusedSimpArgs false
namespace Go.Proofs.YtfhindffmghlaaaDoor
open Go.RowKit Go.ChangeShapes Go.WideShapes
attribute [local irreducible] Calls in
set_option maxHeartbeats 4000000 in
set_option maxRecDepth 20000 in
theorem same_walk (A : Option Addr) (c : Nat) (l : List PairL) (A2 : Option Addr) (c2 : Nat) (m : List PairL) (w : World) (hT : Tables w) (hE : Errs w) (hLw : Lows w.heap.size)
    (hl : l.length ≤ 140737488355328) (hp : PairsIn w w.heap.size A l) (hm : m.length ≤ 140737488355328) (hp2 : PairsIn w w.heap.size A2 m) :
    Calls Tryd.prog 8 #[.slice A l.length c, .slice A2 m.length c2] w fun e w' => e = .returned (.bool true) ∧ Below w.heap.size w w' := by
  have HT := Lib.hid hT
  have HE := Lib.hid hE
  have HLw := Lib.hid hLw
  have HP := Lib.hid hp
  have HP2 := Lib.hid hp2
  clear hT hE hLw hp hp2
  go_enter Tryd.func8, Tryd.ntmps8
  go_upto_region 3 with (go_at_call 15; refine (able_calls w HT.out HE.out HLw.out).mono ?_; rintro e1 w1 ⟨rfl, hb1⟩; have hz1 := hb1.size; have HB1 := Lib.hid hb1; clear hb1)
  go_cut [31] from 14 to 30 (fun v wx => ∃ b : Bool, v = .bool b ∧ (b = false → (∀ x ∈ l, x.1.2.2.length ≤ 131072 ∧ x.2.2.2.length ≤ 131072) ∧ (∀ x ∈ m, x.1.2.2.length ≤ 131072 ∧ x.2.2.2.length ≤ 131072) ∧ l.length ≤ 60 ∧ m.length ≤ 60) ∧ Below w.heap.size w wx)
  case first =>
    have HW1 := Lib.hid (weight_calls A c l none 0 [] w1 hl (HP.out.now HB1.out) (by simp) Seq.none_ (by simp))
    by_cases h60 : l.length ≤ 60
    · have d1 : decide ((60 : Int) < (l.length : Int)) = false := decide_eq_false (by omega)
      by_cases m60 : m.length ≤ 60
      · have d2 : decide ((60 : Int) < (m.length : Int)) = false := decide_eq_false (by omega)
        go_wp2_with (first
          | (go_at_call 16; (refine (weight_calls A2 c2 m none 0 [] w2 hm (HP2.out.now HB2.out) (by simp) Seq.none_ (by simp)).mono ?_; rintro e3 w3 ⟨n3, rfl, hn3, hnb3, hb3⟩; have hz3 := hb3.size; have HN3 := Lib.hid hn3; have HB3 := Lib.hid (HB2.out.trans (hb3.mono (by omega))); clear hn3 hb3))
          | (go_at_call 16; (refine HW1.out.mono ?_; rintro e2 w2 ⟨n2, rfl, hn2, hnb2, hb2⟩; have hz2 := hb2.size; have HN2 := Lib.hid hn2; have HB2 := Lib.hid (HB1.out.trans (hb2.mono hz1)); clear hn2 hb2)))
        all_goals
          go_meet
          case rel =>
            first
              | exact ⟨_, rfl, (fun h => by
                  have h2 := Bool.or_eq_false_iff.1 h
                  have h3 := of_decide_eq_false h2.1
                  have h4 := of_decide_eq_false h2.2
                  exact ⟨(HN2.out (by omega)).2.1, (HN3.out (by omega)).2.1, h60, m60⟩), HB3.out⟩
              | exact ⟨true, rfl, (fun h => by cases h), HB3.out⟩
              | exact ⟨true, rfl, (fun h => by cases h), HB2.out⟩
      · have d2 : decide ((60 : Int) < (m.length : Int)) = true := decide_eq_true (by omega)
        go_wp2_with (first
          | (go_at_call 16; (refine (weight_calls A2 c2 m none 0 [] w2 hm (HP2.out.now HB2.out) (by simp) Seq.none_ (by simp)).mono ?_; rintro e3 w3 ⟨n3, rfl, hn3, hnb3, hb3⟩; have hz3 := hb3.size; have HN3 := Lib.hid hn3; have HB3 := Lib.hid (HB2.out.trans (hb3.mono (by omega))); clear hn3 hb3))
          | (go_at_call 16; (refine HW1.out.mono ?_; rintro e2 w2 ⟨n2, rfl, hn2, hnb2, hb2⟩; have hz2 := hb2.size; have HN2 := Lib.hid hn2; have HB2 := Lib.hid (HB1.out.trans (hb2.mono hz1)); clear hn2 hb2)))
        all_goals
          go_meet
          case rel =>
            first
              | exact ⟨true, rfl, (fun h => by cases h), HB3.out⟩
              | exact ⟨true, rfl, (fun h => by cases h), HB2.out⟩
    · have d1 : decide ((60 : Int) < (l.length : Int)) = true := decide_eq_true (by omega)
      go_wp2_with (first
        | (go_at_call 16; (refine (weight_calls A2 c2 m none 0 [] w2 hm (HP2.out.now HB2.out) (by simp) Seq.none_ (by simp)).mono ?_; rintro e3 w3 ⟨n3, rfl, hn3, hnb3, hb3⟩; have hz3 := hb3.size; have HN3 := Lib.hid hn3; have HB3 := Lib.hid (HB2.out.trans (hb3.mono (by omega))); clear hn3 hb3))
        | (go_at_call 16; (refine HW1.out.mono ?_; rintro e2 w2 ⟨n2, rfl, hn2, hnb2, hb2⟩; have hz2 := hb2.size; have HN2 := Lib.hid hn2; have HB2 := Lib.hid (HB1.out.trans (hb2.mono hz1)); clear hn2 hb2)))
      all_goals
        go_meet
        case rel =>
          first
            | exact ⟨true, rfl, (fun h => by cases h), HB3.out⟩
            | exact ⟨true, rfl, (fun h => by cases h), HB2.out⟩
  case rest =>
    obtain ⟨b, rfl, hbb, hbx⟩ := hcut
    rename World => w3
    have HB3 := Lib.hid hbx
    have hz03 := hbx.size
    cases b with
    | true =>
      clear hbb hbx
      go_wp2_with fail
      go_ret
      exact ⟨rfl, HB3.out⟩
    | false =>
      obtain ⟨hpl, hpm, h60, m60⟩ := hbb rfl
      have HPl := Lib.hid hpl
      have HPm := Lib.hid hpm
      clear hbb hbx hpl hpm
      obtain ⟨s, hsq⟩ : ∃ s, laidS (firsts l) = s := ⟨_, rfl⟩
      obtain ⟨u, huq⟩ : ∃ u, laidS (firsts m) = u := ⟨_, rfl⟩
      have hlaid := laid_calls A c l w3 (by omega) (HT.out.now HB3.out) (HP.out.now HB3.out) HPl.out
      rw [hsq] at hlaid
      have HLaid := Lib.hid hlaid
      have hlaid2 := fun (W : World) (hb : Below w.heap.size w W) => laid_calls A2 c2 m W (by omega) (HT.out.now hb) (HP2.out.now hb) HPm.out
      rw [huq] at hlaid2
      have HLaid2 := Lib.hid hlaid2
      have hal := alike_laid (firsts l)
      have hal2 := alike_laid (firsts m)
      have hsame := laid_same (firsts l) (firsts m)
      rw [hsq] at hal hsame
      rw [huq] at hal2 hsame
      have HAl := Lib.hid hal
      have HAl2 := Lib.hid hal2
      have HSame := Lib.hid hsame
      clear hlaid hlaid2 hal hal2 hsame hsq huq
      go_upto_region 10 with (first
        | (go_at_call 21; (refine (HLaid2.out w4 HB4.out).mono ?_; rintro e5 w5 ⟨rfl, ht5, hb5⟩; have HTu5 := Lib.hid ht5; have HTt5 := Lib.hid (HTt4.out.below hb5); have HB5 := Lib.hid (HB4.out.trans (hb5.mono HB4.out.size)); clear ht5 hb5))
        | (go_at_call 21; (refine HLaid.out.mono ?_; rintro e4 w4 ⟨rfl, ht4, hb4⟩; have HTt4 := Lib.hid ht4; have HB4 := Lib.hid (HB3.out.trans (hb4.mono hz03)); clear ht4 hb4))
        | (go_at_call 22; (refine (plain_calls A2 c2 m w6 (by omega) (HP2.out.now HB6.out) (fun x hx => by have := HPm.out x hx; omega)).mono ?_; rintro e7 w7 ⟨Ap, cp, o2, rfl, hro, hmo, hxo, hb7⟩; have hz7 := hb7.size; have HR2 := Lib.hid hro; have HM2 := Lib.hid hmo; have HX2 := Lib.hid hxo; have HTt7 := Lib.hid (HTt6.out.below hb7); have HTu7 := Lib.hid (HTu6.out.below hb7); have HB67 := Lib.hid hb7; have HB7 := Lib.hid (HB6.out.trans (hb7.mono HB6.out.size)); clear hro hmo hxo hb7))
        | (go_at_call 22; (refine (plain_calls A c l w5 (by omega) (HP.out.now HB5.out) (fun x hx => by have := HPl.out x hx; omega)).mono ?_; rintro e6 w6 ⟨Ao, co, o1, rfl, hro, hmo, hxo, hb6⟩; have hz6 := hb6.size; have HR1 := Lib.hid hro; have HM1 := Lib.hid hmo; have HX1 := Lib.hid hxo; have HTt6 := Lib.hid (HTt5.out.below hb6); have HTu6 := Lib.hid (HTu5.out.below hb6); have HB6 := Lib.hid (HB5.out.trans (hb6.mono HB5.out.size)); clear hro hmo hxo hb6))
        | (go_at_call 29; (refine (pairs_calls Ao co o1 Ap cp o2 w7 (by have := congrArg List.length HM1.out; have h2 := plain_len (firsts l); have h3 : (firsts l).length ≤ 300 := (by simp [firsts]; omega); rw [List.length_map] at this; omega) (by have := congrArg List.length HM2.out; have h2 := plain_len (firsts m); have h3 : (firsts m).length ≤ 300 := (by simp [firsts]; omega); rw [List.length_map] at this; omega) (HP.out.plain HB6.out HR1.out HX1.out HB67.out) (HP2.out.plain HB7.out HR2.out HX2.out (Below.refl _ _))).mono ?_; rintro e8 w8 ⟨rfl, hb8⟩; have HTt8 := Lib.hid (HTt7.out.below hb8); have HTu8 := Lib.hid (HTu7.out.below hb8); have HB8 := Lib.hid (HB7.out.trans (hb8.mono HB7.out.size)); clear hb8)))
      rw [HM1.out, HM2.out]
      have hz8 := HB8.out.size
      obtain ⟨Ft, hpt⟩ := HTt8.out.pre
      obtain ⟨Fu, hpu⟩ := HTu8.out.pre
      have hbt := hpt.bnd
      have hbu := hpu.bnd
      obtain ⟨E, hE⟩ : ∃ E, hashS (encT hashL s.1) = E := ⟨_, rfl⟩
      obtain ⟨F, hF⟩ : ∃ F, hashS (encT hashL u.1) = F := ⟨_, rfl⟩
      have hr1 := root_calls _ _ _ _ _ _ _ _ hpt
      have hr2 := fun (W : World) (hb : Below w8.heap.size w8 W) => root_calls _ _ _ _ _ _ _ W (hpu.below hb)
      have hEF : sameH E F = true ↔ hashL (encT hashL s.1) = hashL (encT hashL u.1) := by
        rw [← hE, ← hF]
        exact sameH_hash _ _
      rw [hE] at hr1
      rw [hF] at hr2
      have HR8 := Lib.hid hr1
      have HRu8 := Lib.hid hr2
      have HEF := Lib.hid hEF
      have HBt := Lib.hid hbt
      have HBu := Lib.hid hbu
      have hnt := fun (W : World) (hb : Below w8.heap.size w8 W) => nodes_calls _ _ _ _ _ _ _ W (hpt.below hb)
      have hnu := fun (W : World) (hb : Below w8.heap.size w8 W) => nodes_calls _ _ _ _ _ _ _ W (hpu.below hb)
      have hmt := hpt.many
      have hmu := hpu.many
      have HNt := Lib.hid hnt
      have HNu := Lib.hid hnu
      have heq := eql_hash E F
      have hgd := guard_hash
      obtain ⟨b, hb⟩ : ∃ b, sameH E F = b := ⟨_, rfl⟩
      rw [hb] at heq hEF
      have HBq := Lib.hid hEF
      obtain ⟨al, hal⟩ : ∃ al, decide (plainL (firsts l) = plainL (firsts m)) = al := ⟨_, rfl⟩
      rw [hal]
      have hcase : al = true → b = true := fun h => by
        rw [h, decide_eq_true_iff, HSame.out] at hal
        rw [hEF, hal]
      have hcase2 : al = false → s.1 ≠ u.1 := fun h => by
        rw [h, decide_eq_false_iff_not, HSame.out] at hal
        exact hal
      have HCase := Lib.hid hcase
      have HCase2 := Lib.hid hcase2
      clear hE hF hr1 hr2 hEF hbt hbu hnt hnu hpt hpu hb hal hcase hcase2
      cases al with
      | true =>
        obtain rfl : b = true := HCase.out rfl
        go_wp2_with (first
          | (go_at_call 23; (refine (HRu8.out w9 HB89.out).mono ?_; rintro e10 w10 ⟨rfl, hb10⟩; have HB10 := Lib.hid (HB89.out.trans (hb10.mono HB89.out.size)); clear hb10))
          | (go_at_call 23; (refine HR8.out.mono ?_; rintro e9 w9 ⟨rfl, hb9⟩; have HB89 := Lib.hid hb9; clear hb9)))
        go_ret
        exact ⟨rfl, HB8.out.trans (HB10.out.mono hz8)⟩
      | false =>
        have hne := HCase2.out rfl
        cases b with
        | false =>
          go_wp2_with (first
          | (go_at_call 23; (refine (HRu8.out w9 HB89.out).mono ?_; rintro e10 w10 ⟨rfl, hb10⟩; have HB10 := Lib.hid (HB89.out.trans (hb10.mono HB89.out.size)); clear hb10))
          | (go_at_call 23; (refine HR8.out.mono ?_; rintro e9 w9 ⟨rfl, hb9⟩; have HB89 := Lib.hid hb9; clear hb9)))
          go_ret
          exact ⟨rfl, HB8.out.trans (HB10.out.mono hz8)⟩
        | true =>
          have hroot := HBq.out.1 rfl
          have hclash := root_clash (M := 131072) (by omega) HAl.out.good HAl2.out.good HBt.out HBu.out hne hashL_length hroot
          have HClash := Lib.hid hclash
          clear hne hroot hclash
          go_upto_region 15 with (first
            | (go_at_call 23; (refine (HRu8.out w9 HB89.out).mono ?_; rintro e10 w10 ⟨rfl, hb10⟩; have HB10 := Lib.hid (HB89.out.trans (hb10.mono HB89.out.size)); clear hb10))
            | (go_at_call 23; (refine HR8.out.mono ?_; rintro e9 w9 ⟨rfl, hb9⟩; have HB89 := Lib.hid hb9; clear hb9))
            | (go_at_call 30; (refine (HNu.out w11 HB11.out).mono ?_; rintro e12 w12 ⟨A12, c12, ms, rfl, hms, hrow, hown, hap, hb12⟩; have HMs := Lib.hid hms; have HTm := Lib.hid (⟨hrow, hown, hap⟩ : TextsAt w12 w11.heap.size A12 c12 ms); have HTn := Lib.hid (HTn11.out.below hb12); have HB12 := Lib.hid (HB11.out.trans (hb12.mono HB11.out.size)); clear hms hrow hown hap hb12))
            | (go_at_call 30; (refine (HNt.out w10 HB10.out).mono ?_; rintro e11 w11 ⟨A11, c11, ns, rfl, hns, hrow, hown, hap, hb11⟩; have HNs := Lib.hid hns; have HTn11 := Lib.hid (⟨hrow, hown, hap⟩ : TextsAt w11 w10.heap.size A11 c11 ns); have HB11 := Lib.hid (HB10.out.trans (hb11.mono HB10.out.size)); clear hns hrow hown hap hb11)))
          have hnl : ns.length ≤ 1300 := by
            have h1 := congrArg List.length HNs.out
            have h2 := underT_length hashL s.1 true false []
            rw [List.length_map, List.length_cons] at h1
            omega
          have hml : ms.length ≤ 1300 := by
            have h1 := congrArg List.length HMs.out
            have h2 := underT_length hashL u.1 true false []
            rw [List.length_map, List.length_cons] at h1
            omega
          have hnlen := nodes_len HBt.out HNs.out
          have hmlen := nodes_len HBu.out HMs.out
          have hnp : 0 < ns.length := by
            have h1 := congrArg List.length HNs.out
            rw [List.length_map, List.length_cons] at h1
            omega
          have hmp : 0 < ms.length := by
            have h1 := congrArg List.length HMs.out
            rw [List.length_map, List.length_cons] at h1
            omega
          obtain ⟨gn, rfl, hgn, hgnb, _, _⟩ := own_form HTn.out.row hnp
          obtain ⟨gm, rfl, hgm, hgmb, _, _⟩ := own_form HTm.out.row hmp
          have hfin : ¬ ∀ i' (h : i' < ns.length), i' < ns.length → ∀ k' (h2 : k' < ms.length), hashL ns[i'].2.2 = hashL ms[k'].2.2 → ns[i'].2.2 = ms[k'].2.2 := fun h => HClash.out (by
            intro x hx y hy hxy
            rw [show nodesT hashL s.1 = ns.map txt from HNs.out.symm] at hx
            rw [show nodesT hashL u.1 = ms.map txt from HMs.out.symm] at hy
            obtain ⟨p, hp, rfl⟩ := List.mem_map.1 hx
            obtain ⟨q, hq, rfl⟩ := List.mem_map.1 hy
            obtain ⟨i', hi', rfl⟩ := List.getElem_of_mem hp
            obtain ⟨k', hk', rfl⟩ := List.getElem_of_mem hq
            exact h i' hi' hi' k' hk' hxy)
          have HFin := Lib.hid hfin
          have HNl := Lib.hid hnlen
          have HMl := Lib.hid hmlen
          have HQn := Lib.hid HTn.out.seq
          have HQm := Lib.hid HTm.out.seq
          have hz12 := HB12.out.size
          have HT12 := Lib.hid (HT.out.now (HB8.out.trans (HB12.out.mono hz8)))
          have HBw12 := Lib.hid (HB8.out.trans (HB12.out.mono hz8))
          have hzw12 := HBw12.out.size
          clear hfin hnlen hmlen HClash HNs HMs
          go_wp2_with fail
          go_loopw [10, 11] (fun v _ wr => ∃ i : Nat, i ≤ ns.length ∧ v = .int .i64 i ∧ (∀ i' (h : i' < ns.length), i' < i → ∀ k' (h2 : k' < ms.length), hashL ns[i'].2.2 = hashL ms[k'].2.2 → ns[i'].2.2 = ms[k'].2.2) ∧ Below w12.heap.size w12 wr) (fun v _ _ => ns.length - (intOf v).toNat)
          case atStart => exact ⟨0, by omega, rfl, fun _ _ h => absurd h (by omega), Below.refl _ _⟩
          case round =>
            obtain ⟨i, hi, rfl, hnc, hbl⟩ := hrel
            rename World => w15
            have HNc := Lib.hid hnc
            have HBl := Lib.hid hbl
            have hz15 := hbl.size
            clear hnc hbl
            by_cases hin : i < ns.length
            · have di : decide ((i : Int) < (ns.length : Int)) = true := decide_eq_true (by omega)
              have di2 : decide (i < ns.length) = true := decide_eq_true hin
              have li : (i : Int) < (ns.length : Int) := by omega
              go_wp2_with fail
              go_loopw [11] (fun v wr => ∃ k : Nat, k ≤ ms.length ∧ v = .int .i64 k ∧ (∀ k' (h2 : k' < ms.length), k' < k → hashL ns[i].2.2 = hashL ms[k'].2.2 → ns[i].2.2 = ms[k'].2.2) ∧ Below w12.heap.size w12 wr) (fun v _ => ms.length - (intOf v).toNat)
              case atStart => exact ⟨0, by omega, rfl, fun _ _ h => absurd h (by omega), HBl.out⟩
              case round =>
                obtain ⟨k, hk, rfl, hkc, hbl2⟩ := hrel
                rename World => w13
                have HKc := Lib.hid hkc
                have HBl3 := Lib.hid hbl2
                have hz13 := hbl2.size
                clear hkc hbl2
                by_cases hkm : k < ms.length
                · have dk : decide ((k : Int) < (ms.length : Int)) = true := decide_eq_true (by omega)
                  have dk2 : decide (k < ms.length) = true := decide_eq_true hkm
                  have lk : (k : Int) < (ms.length : Int) := by omega
                  have n0 : (0 : Int) ≤ (k : Int) := by omega
                  have ni0 : (0 : Int) ≤ (i : Int) := by omega
                  obtain ⟨ad, had, _, q0⟩ := HQn.out.piece i hin
                  injection had with had
                  subst had
                  obtain ⟨ad, had, _, r0⟩ := HQm.out.piece k hkm
                  injection had with had
                  subst had
                  rw [addr_add, Nat.zero_add] at q0 r0
                  have hstep : (hashL ns[i].2.2 = hashL ms[k].2.2 → ns[i].2.2 = ms[k].2.2) → ∀ k' (h2 : k' < ms.length), k' < k + 1 → hashL ns[i].2.2 = hashL ms[k'].2.2 → ns[i].2.2 = ms[k'].2.2 := fun h k' h2 hk' => by
                    rcases Nat.lt_or_ge k' k with h3 | h3
                    · exact HKc.out k' h2 h3
                    · obtain rfl : k' = k := by omega
                      exact h
                  have hpo := (HTn.out.own _ (List.getElem_mem hin)).below HBl3.out
                  have hqo := (HTm.out.own _ (List.getElem_mem hkm)).below HBl3.out
                  have hpl := HNl.out _ (List.getElem_mem hin)
                  have hql := HMl.out _ (List.getElem_mem hkm)
                  have HStep := Lib.hid hstep
                  clear hstep
                  generalize hpe : ns[i] = p at q0 hpo hpl HStep
                  generalize hqe : ms[k] = q at r0 hqo hql HStep
                  have HPe := Lib.hid hpe
                  have HQe := Lib.hid hqe
                  clear hpe hqe
                  obtain ⟨Ap, cp, lp⟩ := p
                  obtain ⟨Aq, cq, lq⟩ := q
                  simp only at q0 r0 hpl hql HStep
                  replace q0 := (HBl3.out.cell (p := ⟨gn, i, none⟩) hgnb).trans q0
                  replace r0 := (HBl3.out.cell (p := ⟨gm, k, none⟩) hgmb).trans r0
                  have HPb := Lib.hid hpo.seq
                  have HQb := Lib.hid hqo.seq
                  have HBd := Lib.hid (below_drewN (Below.refl w13.heap.size w13) 1)
                  have HTr := Lib.hid (HT12.out.now HBl3.out)
                  clear hpo hqo
                  go_upto_region 21 with fail
                  by_cases he : lp = lq
                  · subst he
                    have HSe := Lib.hid (show ∀ W : World, Below w13.heap.size w13 W → Calls Tryd.prog 27 #[.slice Ap lp.length cp, .slice Aq lp.length cq] W (fun e w' => e = .returned (.bool true) ∧ w' = W) from fun W hb => by
                      refine (sameLE_calls Ap cp w13.heap.size lp Aq cq lp W (HPb.out.below hb (Nat.le_refl _)) (HQb.out.below hb (Nat.le_refl _))).mono ?_
                      rintro e w' ⟨rfl, rfl⟩
                      exact ⟨by simp, rfl⟩)
                    refine wp_region_held_drew (S := fun w' => w'.cell? ⟨gn, i, none⟩ = some (.slice Ap lp.length cp) ∧ w'.cell? ⟨gm, k, none⟩ = some (.slice Aq lp.length cq)) (by kernel_rfl) ⟨q0, r0⟩ (fun hHeld => ?_)
                    refine wpAnyH_take (i := 0) (v := ?_) rfl (by kernel_rfl) (by kernel_rfl) (by kernel_rfl) (fun _ _ _ h => h) (Or.inl ⟨by rfl, ?_⟩) hHeld ?_
                    rotate_left
                    · intro _ _; go_simp; try with_reducible rfl
                    try simp only [Act.put, List.getElem_toArray, List.getElem_cons_zero, List.getElem_cons_succ, List.setIfInBounds_toArray, List.set_cons_zero, List.set_cons_succ]
                    refine wpAnyH_take (i := 1) (v := ?_) rfl (by kernel_rfl) (by kernel_rfl) (by kernel_rfl) (fun _ _ _ h => h) (Or.inl ⟨by rfl, ?_⟩) hHeld ?_
                    rotate_left
                    · intro _ _; go_simp; try with_reducible rfl
                    try simp only [Act.put, List.getElem_toArray, List.getElem_cons_zero, List.getElem_cons_succ, List.setIfInBounds_toArray, List.set_cons_zero, List.set_cons_succ]
                    refine wpAnyH_take (i := 2) (v := ?_) rfl (by kernel_rfl) (by kernel_rfl) (by kernel_rfl) (fun _ _ _ h => h) (Or.inl ⟨by rfl, ?_⟩) hHeld ?_
                    rotate_left
                    · intro _ _; go_simp; try with_reducible rfl
                    try simp only [Act.put, List.getElem_toArray, List.getElem_cons_zero, List.getElem_cons_succ, List.setIfInBounds_toArray, List.set_cons_zero, List.set_cons_succ]
                    refine wpAnyH_take (i := 3) (v := ?_) rfl (by kernel_rfl) (by kernel_rfl) (by kernel_rfl) (fun _ _ _ h => h) (Or.inl ⟨by rfl, ?_⟩) hHeld ?_
                    rotate_left
                    · intro _ hSw; go_split_ands; go_simp; try with_reducible rfl
                    try simp only [Act.put, List.getElem_toArray, List.getElem_cons_zero, List.getElem_cons_succ, List.setIfInBounds_toArray, List.set_cons_zero, List.set_cons_succ]
                    refine wpAnyH_take (i := 4) (v := ?_) rfl (by kernel_rfl) (by kernel_rfl) (by kernel_rfl) (fun _ _ _ h => h) (Or.inl ⟨by rfl, ?_⟩) hHeld ?_
                    rotate_left
                    · intro _ _; go_simp; try with_reducible rfl
                    try simp only [Act.put, List.getElem_toArray, List.getElem_cons_zero, List.getElem_cons_succ, List.setIfInBounds_toArray, List.set_cons_zero, List.set_cons_succ]
                    refine wpAnyH_take (i := 5) (v := ?_) rfl (by kernel_rfl) (by kernel_rfl) (by kernel_rfl) (fun _ _ _ h => h) (Or.inl ⟨by rfl, ?_⟩) hHeld ?_
                    rotate_left
                    · intro _ _; go_simp; try with_reducible rfl
                    try simp only [Act.put, List.getElem_toArray, List.getElem_cons_zero, List.getElem_cons_succ, List.setIfInBounds_toArray, List.set_cons_zero, List.set_cons_succ]
                    refine wpAnyH_take (i := 6) (v := ?_) rfl (by kernel_rfl) (by kernel_rfl) (by kernel_rfl) (fun _ _ _ h => h) (Or.inl ⟨by rfl, ?_⟩) hHeld ?_
                    rotate_left
                    · intro _ _; go_simp; try with_reducible rfl
                    try simp only [Act.put, List.getElem_toArray, List.getElem_cons_zero, List.getElem_cons_succ, List.setIfInBounds_toArray, List.set_cons_zero, List.set_cons_succ]
                    refine wpAnyH_take (i := 7) (v := ?_) rfl (by kernel_rfl) (by kernel_rfl) (by kernel_rfl) (fun _ _ _ h => h) (Or.inl ⟨by rfl, ?_⟩) hHeld ?_
                    rotate_left
                    · intro _ hSw; go_split_ands; go_simp; try with_reducible rfl
                    try simp only [Act.put, List.getElem_toArray, List.getElem_cons_zero, List.getElem_cons_succ, List.setIfInBounds_toArray, List.set_cons_zero, List.set_cons_succ]
                    refine wpAnyH_ready (rs := [8]) (by kernel_rfl) (by simp) ?_
                    refine AllReadyH.cons rfl (fun K hK => ?_) AllReadyH.nil
                    go_simp
                    refine (HSe.out w13.drew HBd.out).mono ?_
                    rintro e2 w14 ⟨rfl, rfl⟩
                    go_wp2_with fail
                    refine hK.out _ _ ⟨q0, r0⟩ (fun hHeld => ?_)
                    clear hK K
                    try simp only [Act.put, List.getElem_toArray, List.getElem_cons_zero, List.getElem_cons_succ, List.setIfInBounds_toArray, List.set_cons_zero, List.set_cons_succ]
                    refine wpAnyH_take (i := 9) (v := ?_) rfl (by kernel_rfl) (by kernel_rfl) (by kernel_rfl) (fun _ _ _ h => h) (Or.inl ⟨by rfl, ?_⟩) hHeld ?_
                    rotate_left
                    · intro _ _; go_simp; try with_reducible rfl
                    try simp only [Act.put, List.getElem_toArray, List.getElem_cons_zero, List.getElem_cons_succ, List.setIfInBounds_toArray, List.set_cons_zero, List.set_cons_succ]
                    refine wpAnyH_take (i := 10) (v := ?_) rfl (by kernel_rfl) (by kernel_rfl) (by kernel_rfl) (fun _ _ _ h => h) (Or.inl ⟨by rfl, ?_⟩) hHeld ?_
                    rotate_left
                    · intro _ _; go_simp; try with_reducible rfl
                    try simp only [Act.put, List.getElem_toArray, List.getElem_cons_zero, List.getElem_cons_succ, List.setIfInBounds_toArray, List.set_cons_zero, List.set_cons_succ]
                    refine wpAnyH_take (i := 11) (v := undef) rfl (by kernel_rfl) (by kernel_rfl) (by kernel_rfl) (fun _ _ _ h => h) (Or.inr ⟨unwanted_of rfl rfl rfl rfl, rfl⟩) hHeld ?_
                    try simp only [Act.put, List.getElem_toArray, List.getElem_cons_zero, List.getElem_cons_succ, List.setIfInBounds_toArray, List.set_cons_zero, List.set_cons_succ]
                    refine wpAnyH_take (i := 12) (v := undef) rfl (by kernel_rfl) (by kernel_rfl) (by kernel_rfl) (fun _ _ _ h => h) (Or.inr ⟨unwanted_of rfl rfl rfl rfl, rfl⟩) hHeld ?_
                    try simp only [Act.put, List.getElem_toArray, List.getElem_cons_zero, List.getElem_cons_succ, List.setIfInBounds_toArray, List.set_cons_zero, List.set_cons_succ]
                    refine wpAnyH_take (i := 13) (v := undef) rfl (by kernel_rfl) (by kernel_rfl) (by kernel_rfl) (fun _ _ _ h => h) (Or.inr ⟨unwanted_of rfl rfl rfl rfl, rfl⟩) hHeld ?_
                    try simp only [Act.put, List.getElem_toArray, List.getElem_cons_zero, List.getElem_cons_succ, List.setIfInBounds_toArray, List.set_cons_zero, List.set_cons_succ]
                    refine wpAnyH_take (i := 14) (v := undef) rfl (by kernel_rfl) (by kernel_rfl) (by kernel_rfl) (fun _ _ _ h => h) (Or.inr ⟨unwanted_of rfl rfl rfl rfl, rfl⟩) hHeld ?_
                    try simp only [Act.put, List.getElem_toArray, List.getElem_cons_zero, List.getElem_cons_succ, List.setIfInBounds_toArray, List.set_cons_zero, List.set_cons_succ]
                    refine wpAnyH_take (i := 15) (v := undef) rfl (by kernel_rfl) (by kernel_rfl) (by kernel_rfl) (fun _ _ _ h => h) (Or.inr ⟨unwanted_of rfl rfl rfl rfl, rfl⟩) hHeld ?_
                    try simp only [Act.put, List.getElem_toArray, List.getElem_cons_zero, List.getElem_cons_succ, List.setIfInBounds_toArray, List.set_cons_zero, List.set_cons_succ]
                    refine wpAnyH_take (i := 16) (v := undef) rfl (by kernel_rfl) (by kernel_rfl) (by kernel_rfl) (fun _ _ _ h => h) (Or.inr ⟨unwanted_of rfl rfl rfl rfl, rfl⟩) hHeld ?_
                    try simp only [Act.put, List.getElem_toArray, List.getElem_cons_zero, List.getElem_cons_succ, List.setIfInBounds_toArray, List.set_cons_zero, List.set_cons_succ]
                    refine wpAnyH_take (i := 17) (v := undef) rfl (by kernel_rfl) (by kernel_rfl) (by kernel_rfl) (fun _ _ _ h => h) (Or.inr ⟨unwanted_of rfl rfl rfl rfl, rfl⟩) hHeld ?_
                    try simp only [Act.put, List.getElem_toArray, List.getElem_cons_zero, List.getElem_cons_succ, List.setIfInBounds_toArray, List.set_cons_zero, List.set_cons_succ]
                    refine wpAnyH_take (i := 18) (v := undef) rfl (by kernel_rfl) (by kernel_rfl) (by kernel_rfl) (fun _ _ _ h => h) (Or.inr ⟨unwanted_of rfl rfl rfl rfl, rfl⟩) hHeld ?_
                    try simp only [Act.put, List.getElem_toArray, List.getElem_cons_zero, List.getElem_cons_succ, List.setIfInBounds_toArray, List.set_cons_zero, List.set_cons_succ]
                    refine wpAnyH_take (i := 19) (v := undef) rfl (by kernel_rfl) (by kernel_rfl) (by kernel_rfl) (fun _ _ _ h => h) (Or.inr ⟨unwanted_of rfl rfl rfl rfl, rfl⟩) hHeld ?_
                    try simp only [Act.put, List.getElem_toArray, List.getElem_cons_zero, List.getElem_cons_succ, List.setIfInBounds_toArray, List.set_cons_zero, List.set_cons_succ]
                    refine wpAnyH_take (i := 20) (v := undef) rfl (by kernel_rfl) (by kernel_rfl) (by kernel_rfl) (fun _ _ _ h => h) (Or.inr ⟨unwanted_of rfl rfl rfl rfl, rfl⟩) hHeld ?_
                    try simp only [Act.put, List.getElem_toArray, List.getElem_cons_zero, List.getElem_cons_succ, List.setIfInBounds_toArray, List.set_cons_zero, List.set_cons_succ]
                    refine wpAnyH_take (i := 21) (v := undef) rfl (by kernel_rfl) (by kernel_rfl) (by kernel_rfl) (fun _ _ _ h => h) (Or.inr ⟨unwanted_of rfl rfl rfl rfl, rfl⟩) hHeld ?_
                    try simp only [Act.put, List.getElem_toArray, List.getElem_cons_zero, List.getElem_cons_succ, List.setIfInBounds_toArray, List.set_cons_zero, List.set_cons_succ]
                    refine wpAnyH_take (i := 22) (v := undef) rfl (by kernel_rfl) (by kernel_rfl) (by kernel_rfl) (fun _ _ _ h => h) (Or.inr ⟨unwanted_of rfl rfl rfl rfl, rfl⟩) hHeld ?_
                    try simp only [Act.put, List.getElem_toArray, List.getElem_cons_zero, List.getElem_cons_succ, List.setIfInBounds_toArray, List.set_cons_zero, List.set_cons_succ]
                    refine wpAnyH_take (i := 23) (v := undef) rfl (by kernel_rfl) (by kernel_rfl) (by kernel_rfl) (fun _ _ _ h => h) (Or.inr ⟨unwanted_of rfl rfl rfl rfl, rfl⟩) hHeld ?_
                    try simp only [Act.put, List.getElem_toArray, List.getElem_cons_zero, List.getElem_cons_succ, List.setIfInBounds_toArray, List.set_cons_zero, List.set_cons_succ]
                    refine wpAnyH_take (i := 24) (v := undef) rfl (by kernel_rfl) (by kernel_rfl) (by kernel_rfl) (fun _ _ _ h => h) (Or.inr ⟨unwanted_of rfl rfl rfl rfl, rfl⟩) hHeld ?_
                    try simp only [Act.put, List.getElem_toArray, List.getElem_cons_zero, List.getElem_cons_succ, List.setIfInBounds_toArray, List.set_cons_zero, List.set_cons_succ]
                    refine wpAnyH_take (i := 25) (v := undef) rfl (by kernel_rfl) (by kernel_rfl) (by kernel_rfl) (fun _ _ _ h => h) (Or.inr ⟨unwanted_of rfl rfl rfl rfl, rfl⟩) hHeld ?_
                    try simp only [Act.put, List.getElem_toArray, List.getElem_cons_zero, List.getElem_cons_succ, List.setIfInBounds_toArray, List.set_cons_zero, List.set_cons_succ]
                    refine wpAnyH_take (i := 26) (v := ?_) rfl (by kernel_rfl) (by kernel_rfl) (by kernel_rfl) (fun _ _ _ h => h) (Or.inl ⟨by rfl, ?_⟩) hHeld ?_
                    rotate_left
                    · intro _ _; go_simp; try with_reducible rfl
                    try simp only [Act.put, List.getElem_toArray, List.getElem_cons_zero, List.getElem_cons_succ, List.setIfInBounds_toArray, List.set_cons_zero, List.set_cons_succ]
                    refine wpAnyH_done (by kernel_rfl) ?_ _
                    go_wp2_with fail
                    exact ⟨⟨k + 1, by omega, by go_num, HStep.out (by first | trivial | (intro _; first | rfl | trivial)), HBl3.out.trans (HBd.out.mono hz13)⟩, by simp [intOf]; omega⟩
                  · have hse : (lp == lq) = false := by simpa using he
                    obtain ⟨G, hG⟩ : ∃ G, hashS lp = G := ⟨_, rfl⟩
                    obtain ⟨H, hH⟩ : ∃ H, hashS lq = H := ⟨_, rfl⟩
                    have hiff := sameH_hash lp lq
                    rw [hG, hH] at hiff
                    have heq2 := eql_hash G H
                    obtain ⟨b2, hb2⟩ : ∃ b, sameH G H = b := ⟨_, rfl⟩
                    rw [hb2] at heq2 hiff
                    have HIff := Lib.hid hiff
                    have HSe := Lib.hid (show ∀ W : World, Below w13.heap.size w13 W → Calls Tryd.prog 27 #[.slice Ap lp.length cp, .slice Aq lq.length cq] W (fun e w' => e = .returned (.bool false) ∧ w' = W) from fun W hb => by
                      refine (sameLE_calls Ap cp w13.heap.size lp Aq cq lq W (HPb.out.below hb (Nat.le_refl _)) (HQb.out.below hb (Nat.le_refl _))).mono ?_
                      rintro e w' ⟨rfl, rfl⟩
                      exact ⟨by rw [hse], rfl⟩)
                    have HSp := Lib.hid (show ∀ (W : World) (A' : Option Addr) (c' : Nat), Tables W → Seq W W.heap.size A' (bytes lp) → Calls Tryd.prog 18 #[.slice (some ⟨W.heap.size, 0, none⟩) 1 1] (W.alloc (.cells #[.slice A' lp.length c'] 24)) (fun e w' => e = .returned (.agg (tab 32 (hashV G))) ∧ Below W.heap.size W w') from fun W A' c' h1 h2 => by
                      rw [← hG]
                      exact sum1_calls A' c' lp W h1 h2 (by omega))
                    have HSq := Lib.hid (show ∀ (W : World) (A' : Option Addr) (c' : Nat), Tables W → Seq W W.heap.size A' (bytes lq) → Calls Tryd.prog 18 #[.slice (some ⟨W.heap.size, 0, none⟩) 1 1] (W.alloc (.cells #[.slice A' lq.length c'] 24)) (fun e w' => e = .returned (.agg (tab 32 (hashV H))) ∧ Below W.heap.size W w') from fun W A' c' h1 h2 => by
                      rw [← hH]
                      exact sum1_calls A' c' lq W h1 h2 (by omega))
                    have hgnb3 : gn < w13.heap.size := by omega
                    have hgmb3 : gm < w13.heap.size := by omega
                    clear hse hG hH hiff hb2 heq
                    go_region_held3 (fun w' => w'.cell? ⟨gn, i, none⟩ = some (.slice Ap lp.length cp) ∧ w'.cell? ⟨gm, k, none⟩ = some (.slice Aq lq.length cq)) (first | exact ⟨k5a, k5b⟩ | exact ⟨k4a, k4b⟩ | exact ⟨k3a, k3b⟩ | exact ⟨k2a, k2b⟩ | exact ⟨q0, r0⟩ | go_keep)
                      (first
                        | (go_at_call 27; (refine (HSe.out w13.drew HBd.out).mono ?_; rintro e1 w1' ⟨rfl, rfl⟩))
                        | (go_at_call 19; (refine (ownL_calls Aq cq w13.heap.size lq w18 (by omega) (HQb.out.below HB18.out (Nat.le_refl _))).mono ?_; rintro e19 w19 ⟨A19, c19, rfl, ho, hb⟩; have hb' := HB18.out.trans (hb.mono HB18.out.size); have k4a := (hb'.cell (p := ⟨gn, i, none⟩) hgnb3).trans q0; have k4b := (hb'.cell (p := ⟨gm, k, none⟩) hgmb3).trans r0; have HS19 := Lib.hid (HSq.out w19 A19 c19 (HTr.out.now hb') (Seq.of_own ho)); have HB19 := Lib.hid hb'; clear ho hb hb'))
                        | (go_at_call 19; (refine (ownL_calls Ap cp w13.heap.size lp w13.drew (by omega) (HPb.out.below HBd.out (Nat.le_refl _))).mono ?_; rintro e17 w17 ⟨A17, c17, rfl, ho, hb⟩; have hb' := HBd.out.trans hb; have k2a := (hb'.cell (p := ⟨gn, i, none⟩) hgnb3).trans q0; have k2b := (hb'.cell (p := ⟨gm, k, none⟩) hgmb3).trans r0; have HS17 := Lib.hid (HSp.out w17 A17 c17 (HTr.out.now hb') (Seq.of_own ho)); have HB17 := Lib.hid hb'; clear ho hb hb'))
                        | (go_at_call 18; (refine HS19.out.mono ?_; rintro e20 w20 ⟨rfl, hb⟩; have hb' := HB19.out.trans (hb.mono HB19.out.size); have k5a := (hb'.cell (p := ⟨gn, i, none⟩) hgnb3).trans q0; have k5b := (hb'.cell (p := ⟨gm, k, none⟩) hgmb3).trans r0; have HB20 := Lib.hid hb'; clear hb hb'))
                        | (go_at_call 18; (refine HS17.out.mono ?_; rintro e18 w18 ⟨rfl, hb⟩; have hb' := HB17.out.trans (hb.mono HB17.out.size); have k3a := (hb'.cell (p := ⟨gn, i, none⟩) hgnb3).trans q0; have k3b := (hb'.cell (p := ⟨gm, k, none⟩) hgmb3).trans r0; have HB18 := Lib.hid hb'; clear hb hb')))
                    cases b2
                    · go_wp2_with fail
                      exact ⟨⟨k + 1, by omega, by go_num, HStep.out (fun h => by have := HIff.out.2 h; cases this), HBl3.out.trans (HB20.out.mono hz13)⟩, by simp [intOf]; omega⟩
                    · go_wp2_with fail
                      go_ret
                      exact ⟨rfl, HBw12.out.trans ((HBl3.out.trans (HB20.out.mono hz13)).mono hzw12)⟩
                · have dk : decide ((k : Int) < (ms.length : Int)) = false := decide_eq_false (by omega)
                  have dk2 : decide (k < ms.length) = false := decide_eq_false hkm
                  go_wp2_with fail
                  refine ⟨⟨i + 1, by omega, by go_num, fun i' h hi' k' h2 => ?_, HBl3.out⟩, by simp [intOf]; omega⟩
                  rcases Nat.lt_or_ge i' i with h3 | h3
                  · exact HNc.out i' h h3 k' h2
                  · obtain rfl : i' = i := by omega
                    exact HKc.out k' h2 (by omega)
            · exact absurd (fun i' h _ => HNc.out i' h (by omega)) HFin.out
-- CARD
set_option maxRecDepth 100000 in
theorem trieSame_lifted (os : Os) (started : os.Started) (H : Type) (enc : TypeId × Value → H) :
    ReturnsInHanded {} Tryd.checked os 8 .any (fun w args => (Rows.trieSameSpec.pre enc Tryd.prog Tryd.f8 [] false w args ∧ laidMetH Tryd.prog seatLaid w) ∧ sizedMet enc Tryd.prog Tryd.f8 (OpenSpec.ofChange Rows.trieSameSpec) false w args)
      (Rows.trieSameSpec.post enc Tryd.prog Tryd.f8 false true false false) := by
  refine returnsInHanded_of_change_and (C := Tryd.checked) (X := fun w _ => laidMetH Tryd.prog seatLaid w) (fun _ _ _ hh h => h.of_heap hh) own started (by kernel_rfl) Tryd.func8
    (ChangeSpec.witness_shaped (enc := enc) (C := Tryd.checked) (os := os) (X := fun w _ => laidMetH Tryd.prog seatLaid w) false (World.laidAll Tryd.prog os seatLaid) #[.slice none 0 0, .slice none 0 0] 8 (World.laidAll_os _ _ _)
      (World.shaped_of_ZipB (by kernel_rfl) (by kernel_rfl)) (by kernel_rfl) (by kernel_rfl) (by kernel_rfl)
      (by rw [MakeChecks.laidMetH_plain _ _ _ (by kernel_rfl)]; exact laidMet_laidAll _ (by kernel_rfl) (by kernel_rfl))) ?_
  intro W base args ds gs before hval0 hW _ hsz hL0 _
  rw [MakeChecks.laidMetH_plain _ _ _ (by kernel_rfl)] at hL0
  have hT := tables_of_laid hL0
  have hval : ∀ (j : Nat) t v, Tryd.f8.params[j]? = some t → args[j]? = some v → Value.okWide Tryd.prog W .any base t v := hval0
  have hW' := hW
  obtain ⟨p, q, hA0, hV, rfl, hfz, hnd⟩ := hW
  have hA : DataW.TrodAll enc Tryd.prog W 0 (fun _ => true) true Tryd.f8.params.toList args.toList ds p := hA0
  rw [Tryd.params8] at hA hval
  obtain ⟨v0, vs0, d0, ds0, p0, q0, hargs, rfl, rfl, h0, r0⟩ := trodAll_cons hA
  obtain ⟨v1, vs1, d1, ds1, p1, q1, rfl, rfl, rfl, h1, r1⟩ := trodAll_cons r0
  obtain ⟨rfl, rfl, rfl⟩ := trodAll_nil r1
  obtain rfl : args = #[v0, v1] := by cases args; simp_all
  obtain ⟨rfl, rfl⟩ := trodVars_none hV
  have k0 := h0
  have lt0 : ∀ x ∈ p0, x.block < W.heap.size := by obtain ⟨m, hm⟩ := k0; exact DataW.trod_lt m _ _ _ hm
  have k1 := h1
  have lt1 : ∀ x ∈ p1, x.block < W.heap.size := by obtain ⟨m, hm⟩ := k1; exact DataW.trod_lt m _ _ _ hm
  have wt0 : ∀ n ∈ d0.weights Tryd.prog 34, n ≤ reachBytes := fun n hn => by have := List.all_eq_true.1 hsz n (DataW.weights_mem_each (j := 0) (t := 34) (d := d0) (by rw [Tryd.params8]; rfl) rfl n hn); simpa using this
  obtain ⟨A0, C0, L0, rfl, hc0, hm0, hr0, hq0⟩ := open_pairs Tryd.underlying34 Tryd.underlying40 rfl rfl rfl rfl Tryd.underlying24 Tryd.underlying5 (by kernel_rfl) (by kernel_rfl) (by kernel_rfl) (by kernel_rfl) (by kernel_rfl) (hval 0 _ v0 rfl rfl) h0 wt0
  have wt1 : ∀ n ∈ d1.weights Tryd.prog 34, n ≤ reachBytes := fun n hn => by have := List.all_eq_true.1 hsz n (DataW.weights_mem_each (j := 1) (t := 34) (d := d1) (by rw [Tryd.params8]; rfl) rfl n hn); simpa using this
  obtain ⟨A1, C1, L1, rfl, hc1, hm1, hr1, hq1⟩ := open_pairs Tryd.underlying34 Tryd.underlying40 rfl rfl rfl rfl Tryd.underlying24 Tryd.underlying5 (by kernel_rfl) (by kernel_rfl) (by kernel_rfl) (by kernel_rfl) (by kernel_rfl) (hval 1 _ v1 rfl rfl) h1 wt1
  clear hA0 hval0
  refine (same_walk A0 C0 L0 A1 C1 L1 W hT.tables hT.errs hT.low (Nat.le_trans hr0 (by decide)) hq0 (Nat.le_trans hr1 (by decide)) hq1).mono fun e W' ⟨he, bel⟩ => ?_
  subst he
  exact ⟨_, rfl, _, _, _, [], _, [], hW', trodAll_mk1 (shut_bool Tryd.underlying4 _), (trodAll_cons_mk (Below.trod laidOut (by kernel_rfl) (of_decide_eq_true (by kernel_rfl)) k0 bel lt0) (trodAll_cons_mk (Below.trod laidOut (by kernel_rfl) (of_decide_eq_true (by kernel_rfl)) k1 bel lt1) trodAll_mk0)), rfl, bel.frame _, fun h => by cases h⟩
theorem trieSame_holds : Rows.TrieSameSaid :=
  OpenClaim.holds_of_wide 8 Tryd.f8 rfl rfl rfl rfl rfl rfl rfl ⟨rfl, rfl, rfl, rfl, rfl⟩ rfl rfl rfl rfl rfl (by kernel_rfl) Tryd.func8 (by kernel_rfl)
    (of_decide_eq_true (by kernel_rfl)) (by unfold Func.isWrapper; first | (rw [if_pos (by decide +kernel)]; kernel_rfl) | (rw [if_neg (by decide +kernel)]; exact ⟨rfl, rfl⟩))
    (fun os started H enc _ => trieSame_lifted os started H enc)
theorem trieSame_card : Rows.TrieSameCardSaid :=
  Claim7.holds_tied_plain_at .later [] [.data, .data, .sentinel, .sentinel, .sentinel] true (true, "ec30def8b2b8a437d7ef0fa14b81e6223ecfebe468af8085b9789efc9ac0fbf0") false trieSame_holds (fun _ h => by cases h) (by kernel_rfl) (fun _ h => by cases h) trieSame_row_tie rfl ⟨rfl, rfl⟩ (by kernel_rfl) rfl
    (fun f fn hf hfn => by
      obtain rfl : f = 8 := Option.some.inj ((show Tryd.prog.funcNamed "vouch/vouchlaw26.TrieSame" = some 8 by kernel_rfl).symm.trans hf) |>.symm
      obtain rfl : fn = Tryd.f8 := (Option.some.inj (Tryd.func8.symm.trans hfn)).symm
      exact ⟨by kernel_rfl, fun j t ht => by
        rw [Tryd.params8] at ht
        have hm : t ∈ ([34, 34] : List TypeId) := by simpa using Array.mem_of_getElem? ht
        have hall : (([34, 34] : List TypeId).all fun u => !Tryd.prog.wantsStandIn u) = true := by kernel_rfl
        exact (show Tryd.prog.wantsStandIn t = false by simpa using List.all_eq_true.1 hall t hm)⟩)
    (by kernel_rfl)
end Go.Proofs.YtfhindffmghlaaaDoor
