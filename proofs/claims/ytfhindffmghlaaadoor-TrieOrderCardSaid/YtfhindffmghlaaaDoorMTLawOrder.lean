/- TrieOrder: pairs in one order, and in another one, with others that come and go: one root, one list of nodes, one proof. -/
import Derived.Test.YtfhindffmghlaaaDoorMTOrderK
import Derived.Test.YtfhindffmghlaaaDoorMTTextsC
import Derived.Test.YtfhindffmghlaaaDoorMTAll
import Derived.Deep.RegionHeld3
import Derived.Deep.RegionLaw
import Derived.Test.YtfhindffmghlaaaDoorMTTables
import Derived.Test.YtfhindffmghlaaaDoorCards
import Derived.Deep.CutRange
import Derived.Deep.CutBlock
set_option linter.unusedVariables false
set_option linter.unusedSimpArgs false
namespace Go.Proofs.YtfhindffmghlaaaDoor
open Go.RowKit Go.ChangeShapes Go.WideShapes
theorem flatP_one (l : List PairL) : ∀ v ∈ flatP l, v.oneCell' = true := fun v hv => by
  obtain ⟨x, _, hx⟩ := List.mem_flatMap.1 hv
  unfold pairC at hx
  rcases List.mem_cons.1 hx with rfl | hx
  · rfl
  · rw [List.mem_singleton] at hx
    subst hx
    rfl
theorem mapGet (o1 : List PairL) (i : Nat) (h : i < o1.length) (h2 : i < (o1.map saidP).length) : (o1.map saidP)[i] = saidP o1[i] := by simp
attribute [local irreducible] Calls in
set_option maxHeartbeats 4000000 in
set_option maxRecDepth 20000 in
theorem order_walk (A : Option Addr) (c : Nat) (l : List PairL) (A4 : Option Addr) (c4 : Nat) (os : List Int) (A2 : Option Addr) (c2 : Nat) (m : List PairL) (A3 : Option Addr) (c3 : Nat) (key : List UInt8) (w : World) (hT : Tables w) (hE : Errs w) (hLw : Lows w.heap.size)
    (hl : l.length ≤ 140737488355328) (hp : PairsIn w w.heap.size A l) (hol : os.length ≤ 140737488355328) (hso : Seq w w.heap.size A4 (os.map fun n => .int .i64 n)) (hoi : ∀ n ∈ os, -9223372036854775808 ≤ n ∧ n ≤ 9223372036854775807) (hm : m.length ≤ 140737488355328) (hp2 : PairsIn w w.heap.size A2 m) (hk : key.length ≤ 140737488355328) (hs : Seq w w.heap.size A3 (bytes key)) :
    Calls Tryd.prog 12 #[.slice A l.length c, .slice A4 os.length c4, .slice A2 m.length c2, .slice A3 key.length c3] w fun e w' => e = .returned (.bool true) ∧ Below w.heap.size w w' := by
  have HT := Lib.hid hT
  have HE := Lib.hid hE
  have HLw := Lib.hid hLw
  have HP := Lib.hid hp
  have HP2 := Lib.hid hp2
  have HS := Lib.hid hs
  have HSo := Lib.hid hso
  have HOi := Lib.hid hoi
  clear hT hE hLw hp hp2 hs hso hoi
  go_enter Tryd.func12, Tryd.ntmps12
  go_upto_region 3 with (go_at_call 15; refine (able_calls w HT.out HE.out HLw.out).mono ?_; rintro e1 w1 ⟨rfl, hb1⟩; have hz1 := hb1.size; have HB1 := Lib.hid hb1; clear hb1)
  go_cut [36] from 19 to 35 (fun v wx => ∃ b : Bool, v = .bool b ∧ (b = false → (∀ x ∈ l, x.1.2.2.length ≤ 131072 ∧ x.2.2.2.length ≤ 131072) ∧ (∀ x ∈ m, x.1.2.2.length ≤ 131072 ∧ x.2.2.2.length ≤ 131072) ∧ l.length ≤ 150 ∧ m.length ≤ 150) ∧ Below w.heap.size w wx)
  case first =>
    have HW1 := Lib.hid (weight_calls A c l none 0 [] w1 hl (HP.out.now HB1.out) (by simp) Seq.none_ (by simp))
    by_cases h150 : l.length ≤ 150
    · have d1 : decide ((150 : Int) < (l.length : Int)) = false := decide_eq_false (by omega)
      by_cases m150 : m.length ≤ 150
      · have d2 : decide ((150 : Int) < (m.length : Int)) = false := decide_eq_false (by omega)
        go_wp2_with (first
          | (go_at_call 16; (refine (weight_calls A2 c2 m none 0 [] w2 hm (HP2.out.now HB2.out) (by simp) Seq.none_ (by simp)).mono ?_; rintro e3 w3 ⟨n3, rfl, hn3, hnb3, hb3⟩; have hz3 := hb3.size; have HN3 := Lib.hid hn3; have HB3 := Lib.hid (HB2.out.trans (hb3.mono (by omega))); clear hn3 hb3))
          | (go_at_call 16; (refine HW1.out.mono ?_; rintro e2 w2 ⟨n2, rfl, hn2, hnb2, hb2⟩; have hz2 := hb2.size; have HN2 := Lib.hid hn2; have HB2 := Lib.hid (HB1.out.trans (hb2.mono hz1)); clear hn2 hb2)))
        all_goals
          go_meet
          case rel =>
            first
              | exact ⟨_, rfl, (fun h => by
                  have h2 := Bool.or_eq_false_iff.1 h
                  have h3 := of_decide_eq_false h2.1
                  have h4 := of_decide_eq_false h2.2
                  exact ⟨(HN2.out (by omega)).2.1, (HN3.out (by omega)).2.1, h150, m150⟩), HB3.out⟩
              | exact ⟨true, rfl, (fun h => by cases h), HB3.out⟩
              | exact ⟨true, rfl, (fun h => by cases h), HB2.out⟩
      · have d2 : decide ((150 : Int) < (m.length : Int)) = true := decide_eq_true (by omega)
        go_wp2_with (first
          | (go_at_call 16; (refine (weight_calls A2 c2 m none 0 [] w2 hm (HP2.out.now HB2.out) (by simp) Seq.none_ (by simp)).mono ?_; rintro e3 w3 ⟨n3, rfl, hn3, hnb3, hb3⟩; have hz3 := hb3.size; have HN3 := Lib.hid hn3; have HB3 := Lib.hid (HB2.out.trans (hb3.mono (by omega))); clear hn3 hb3))
          | (go_at_call 16; (refine HW1.out.mono ?_; rintro e2 w2 ⟨n2, rfl, hn2, hnb2, hb2⟩; have hz2 := hb2.size; have HN2 := Lib.hid hn2; have HB2 := Lib.hid (HB1.out.trans (hb2.mono hz1)); clear hn2 hb2)))
        all_goals
          go_meet
          case rel =>
            first
              | exact ⟨true, rfl, (fun h => by cases h), HB3.out⟩
              | exact ⟨true, rfl, (fun h => by cases h), HB2.out⟩
    · have d1 : decide ((150 : Int) < (l.length : Int)) = true := decide_eq_true (by omega)
      go_wp2_with (first
        | (go_at_call 16; (refine (weight_calls A2 c2 m none 0 [] w2 hm (HP2.out.now HB2.out) (by simp) Seq.none_ (by simp)).mono ?_; rintro e3 w3 ⟨n3, rfl, hn3, hnb3, hb3⟩; have hz3 := hb3.size; have HN3 := Lib.hid hn3; have HB3 := Lib.hid (HB2.out.trans (hb3.mono (by omega))); clear hn3 hb3))
        | (go_at_call 16; (refine HW1.out.mono ?_; rintro e2 w2 ⟨n2, rfl, hn2, hnb2, hb2⟩; have hz2 := hb2.size; have HN2 := Lib.hid hn2; have HB2 := Lib.hid (HB1.out.trans (hb2.mono hz1)); clear hn2 hb2)))
      all_goals
        go_meet
        case rel =>
          first
            | exact ⟨true, rfl, (fun h => by cases h), HB3.out⟩
            | exact ⟨true, rfl, (fun h => by cases h), HB2.out⟩
  case rest =>
    obtain ⟨b, rfl, hbb, hbx⟩ := hcut
    rename World => w3
    have HB3 := Lib.hid hbx
    have hz03 := hbx.size
    cases b with
    | true =>
      clear hbb hbx
      go_wp2_with fail
      go_ret
      exact ⟨rfl, HB3.out⟩
    | false =>
      obtain ⟨hpl, hpm, h150, m150⟩ := hbb rfl
      have HPl := Lib.hid hpl
      have HPm := Lib.hid hpm
      clear hbb hbx hpl hpm
      obtain ⟨s, hsq⟩ : ∃ s, laidS (firsts l) = s := ⟨_, rfl⟩
      have hlaid := laid_calls A c l w3 (by omega) (HT.out.now HB3.out) (HP.out.now HB3.out) HPl.out
      rw [hsq] at hlaid
      have HLaid := Lib.hid hlaid
      have hal := alike_laid (firsts l)
      have hev := laid_even (firsts l)
      rw [hsq] at hal hev
      have HAl := Lib.hid hal
      have HEv := Lib.hid hev
      clear hlaid hal hev hsq
      go_upto_region 10 with (first
        | (go_at_call 21; (refine HLaid.out.mono ?_; rintro e4 w4 ⟨rfl, ht4, hb4⟩; have HTt4 := Lib.hid ht4; have HB4 := Lib.hid (HB3.out.trans (hb4.mono hz03)); clear ht4 hb4))
        | (go_at_call 22; (refine (plain_calls A c l w4 (by omega) (HP.out.now HB4.out) (fun x hx => by have := HPl.out x hx; omega)).mono ?_; rintro e5 w5 ⟨Ao, co, o1, rfl, hro, hmo, hxo, hb5⟩; have hz5 := hb5.size; have HR1 := Lib.hid hro; have HM1 := Lib.hid hmo; have HX1 := Lib.hid hxo; have HTt5 := Lib.hid (HTt4.out.below hb5); have HB5 := Lib.hid (HB4.out.trans (hb5.mono HB4.out.size)); clear hro hmo hxo hb5))
        | (go_at_call 37; (refine (newW_calls w5 131072 0 (HT.out.now HB5.out) (by omega) (by omega)).mono ?_; rintro e6 w6 ⟨rfl, ht6, hb6, hz6⟩; have HTu6 := Lib.hid ht6; have HTt6 := Lib.hid (HTt5.out.below hb6); have HB56 := Lib.hid hb6; have HB6 := Lib.hid (HB5.out.trans (hb6.mono HB5.out.size)); clear ht6 hb6)))
      have hz03b := HB3.out.size
      have ho1 : o1.length ≤ 150 := by
        have h1 := congrArg List.length HM1.out
        have h2 := plain_len (firsts l)
        have h3 : (firsts l).length ≤ 150 := by simp [firsts]; omega
        rw [List.length_map] at h1
        omega
      have hsq1 : Seq w6 w6.heap.size Ao (flatP o1) := (Seq.of_own HR1.out).now HB56.out
      have HSq1 := Lib.hid hsq1
      clear hsq1
      go_upto_region 12 with (first | (at_builtin; refine wpL_append rfl (.const (.slice none 0 0)) (.tmp 48) 34 rfl elPair rfl (World.ownsRow_nil w6 w6.heap.size 40 2) rfl (flatP_length o1) HSq1.out (flatP_one o1) (by unfold maxLen; omega) (by omega) (Nat.le_refl _) ?_; intro A7 c7 w7 ho7 hg7 _; simp only [Nat.zero_add, List.nil_append] at ho7; have HO7 := Lib.hid ho7; have HG7 := Lib.hid hg7; clear ho7 hg7) | fail)
      have hb67 : Below w6.heap.size w6 w7 := (Below.refl _ _).grown HG7.out (Nat.le_refl _) (fun g hg => by cases hg)
      have hz56 := HB56.out.size
      have hz67 := hb67.size
      have hst : SeqT w7 40 A7 (flatP o1) := SeqT.of_own HO7.out
      obtain ⟨ks, hks⟩ : ∃ ks, m.map (·.1.2.2) ++ o1.map (·.1.2.2) = ks := ⟨_, rfl⟩
      have hkm : ∀ x ∈ m, x.1.2.2 ∈ ks := fun x hx => by rw [← hks]; exact List.mem_append.2 (Or.inl (List.mem_map_of_mem hx))
      have hko : ∀ x ∈ o1, x.1.2.2 ∈ ks := fun x hx => by rw [← hks]; exact List.mem_append.2 (Or.inr (List.mem_map_of_mem hx))
      have hku : OrdK w7 w5.heap.size 0 ks [] (.nil, 0) := ⟨⟨HTu6.out.below hb67, alike_nil, fun path hp => absurd (gT_nil path) hp⟩, among_nil _, Nat.le_refl _⟩
      have HKs := Lib.hid hks
      have HKm := Lib.hid hkm
      have HKo := Lib.hid hko
      have HSt := Lib.hid hst
      have HKu := Lib.hid hku
      have HB57 := Lib.hid (HB56.out.trans (hb67.mono hz56))
      have hz57 := HB57.out.size
      have HC7 : o1.length ≤ c7 := own_cap HO7.out
      have HTm5 := Lib.hid (HTt5.out)
      clear hst hku hb67 HO7 HG7 HTu6 HTt6 HSq1 HB6 hks hkm hko
      go_wp2_with fail
      go_loopw [12, 13, 14] (fun a i _ wr => ∃ (k : Nat) (L : List PairL) (Al : Option Addr) (cl : Nat) (Lu : List KV) (su : Tr × Nat), k + L.length = o1.length ∧ i = .int .i64 k ∧ a = .slice Al L.length cl ∧ L.length ≤ cl ∧ SeqT wr 40 Al (flatP L) ∧ (∀ x ∈ L, x ∈ o1) ∧ OrdK wr w5.heap.size (4 * k) ks Lu su ∧ Below w5.heap.size w5 wr) (fun _ i _ _ => o1.length - (intOf i).toNat)
      case atStart => exact ⟨0, o1, A7, c7, [], (.nil, 0), by omega, rfl, rfl, HC7, HSt.out, fun _ h => h, HKu.out, HB57.out⟩
      case round =>
        obtain ⟨k, L, Al, cl, Lu, su, hkl, rfl, rfl, hLc, hst, hmem, hku, hbl⟩ := hrel
        rename World => w8
        have hb08 := HB5.out.trans (hbl.mono HB5.out.size)
        have HSt := Lib.hid hst
        have HMem := Lib.hid hmem
        have HKu := Lib.hid hku
        have HBl := Lib.hid hbl
        have HB08 := Lib.hid hb08
        have hz58 := hbl.size
        have hz05 := HB5.out.size
        have hkl1 : k + L.length ≤ 150 := by omega
        have hkl2 := Nat.le_of_eq hkl
        have hkl3 := Nat.le_of_eq hkl.symm
        clear hst hmem hku hbl hb08 hkl
        by_cases hL : 0 < L.length
        · have dL : decide ((0 : Int) < (L.length : Int)) = true := decide_eq_true (by omega)
          have dL2 : decide ((L.length : Int) > 0) = true := decide_eq_true (by omega)
          have dL3 : decide (0 < L.length) = true := decide_eq_true hL
          have n0 : (L.length : Int) ≠ 0 := by omega
          go_upto_if 58 with fail
          go_cut [14] from 55 to 71 (fun v wx => (∃ j : Nat, j < L.length ∧ v = .int .i64 j) ∧ w8 = wx)
          case first =>
            by_cases hko : k < os.length
            · have dk : decide ((k : Int) < (os.length : Int)) = true := decide_eq_true (by omega)
              have dk2 : decide (k < os.length) = true := decide_eq_true hko
              have lk : (k : Int) < (os.length : Int) := by omega
              obtain ⟨ad4, rfl, _, q0⟩ := (HSo.out.below HB08.out (Nat.le_refl _)).at_ (k := k) (by rw [List.length_map]; exact hko)
              rw [List.getElem_map] at q0
              obtain ⟨n, hn⟩ : ∃ n, os[k] = n := ⟨_, rfl⟩
              have hn63 := HOi.out _ (List.getElem_mem hko)
              rw [hn] at q0 hn63
              clear hn
              have b1 : -(L.length : Int) < n.tmod (L.length : Int) := Int.lt_tmod_of_pos n (by omega)
              have b2 : n.tmod (L.length : Int) < (L.length : Int) := Int.tmod_lt_of_pos n (by omega)
              go_upto_if 67 with fail
              generalize n.tmod (L.length : Int) = r at *
              by_cases hr : r < 0
              · have dr : decide (r < 0) = true := decide_eq_true hr
                have er : IntKind.i64.wrap (r + (L.length : Int)) = r + (L.length : Int) := IntWalk.i64_in _ (by omega)
                go_wp2_with fail
                go_meet
                case rel => exact ⟨⟨(r + (L.length : Int)).toNat, by omega, by congr 1; omega⟩, rfl⟩
              · have dr : decide (r < 0) = false := decide_eq_false hr
                go_wp2_with fail
                go_meet
                case rel => exact ⟨⟨r.toNat, by omega, by congr 1; omega⟩, rfl⟩
            · have dk : decide ((k : Int) < (os.length : Int)) = false := decide_eq_false (by omega)
              have dk2 : decide (k < os.length) = false := decide_eq_false hko
              go_wp2_with fail
              go_meet
              case rel => exact ⟨⟨0, hL, rfl⟩, rfl⟩
          case rest =>
            obtain ⟨⟨j, hj, rfl⟩, rfl⟩ := hcut
            have lj : (j : Int) < (L.length : Int) := by omega
            go_upto_if 75 with fail
            go_cut [] from 72 to 89 (fun wx => ∃ (Lu1 : List KV) (su1 : Tr × Nat), OrdK wx w5.heap.size (4 * k + 2) ks Lu1 su1 ∧ SeqT wx 40 Al (flatP L) ∧ Below w5.heap.size w5 wx)
            case first =>
              by_cases hkm : k < m.length
              · have dk : decide ((k : Int) < (m.length : Int)) = true := decide_eq_true (by omega)
                have dk2 : decide (k < m.length) = true := decide_eq_true hkm
                have lk0 : (k : Int) < (m.length : Int) := by omega
                obtain ⟨ad, rfl, hlta, q0, q1⟩ := (HP2.out.below HB08.out (Nat.le_refl _)).1.get k hkm
                have hmk := List.getElem_mem hkm
                obtain ⟨hs0, hs1, -⟩ := (HP2.out.below HB08.out (Nat.le_refl _)).2 _ hmk
                obtain ⟨hbk, hbv⟩ := HPm.out _ hmk
                have hin := HKm.out _ hmk
                generalize m[k] = x at q0 q1 hs0 hs1 hbk hbv hin
                obtain ⟨⟨Ak, ck, lk⟩, ⟨Av, cv, lv⟩⟩ := x
                simp only [pcV] at q0 q1
                simp only at hs0 hs1 hbk hbv hin
                have HS0 := Lib.hid hs0
                have HS1 := Lib.hid hs1
                have HPut := Lib.hid (fun (W : World) (hb : Below w8.heap.size w8 W) (Aa : Option Addr) (ca : Nat) (Ab : Option Addr) (cb : Nat) (h1 : SeqK W Aa lk) (h2 : SeqB W Ab lv) => oput_calls (HKu.out.below hb) Aa ca lk Ab cb lv (by omega) (by omega) hbv hin h1 h2)
                have HBd := Lib.hid (below_drewN (Below.refl w8.heap.size w8) 1)
                have hadw : (ad.add (k * 2)).block < w.heap.size := by rw [block_add]; exact hlta
                clear hs0 hs1 hmk hin
                go_upto_region 20 with fail
                go_region_held3 (fun w' => w'.cell? (ad.add (k * 2)) = some (.slice Ak lk.length ck) ∧ w'.cell? ⟨(ad.add (k * 2)).block, (ad.add (k * 2)).off + 1, none⟩ = some (.slice Av lv.length cv)) (first | exact ⟨k3a, k3b⟩ | exact ⟨k2a, k2b⟩ | exact ⟨k1a, k1b⟩ | exact ⟨q0, q1⟩ | go_keep)
                  (first
                    | (go_at_call 19; (refine (ownL_calls Ak ck w.heap.size lk w8.drew (by omega) HS0.out.drew).mono ?_; rintro ea1 wa1 ⟨Aa1, ca1, rfl, ho1, hb1⟩; have hb1' := HBd.out.trans hb1; have hza1 := hb1'.size; have k1a := (hb1'.cell (p := (ad.add (k * 2))) (by omega)).trans q0; have k1b := (hb1'.cell (p := ⟨(ad.add (k * 2)).block, (ad.add (k * 2)).off + 1, none⟩) (show (ad.add (k * 2)).block < w8.heap.size by omega)).trans q1; have HO1 := Lib.hid ho1; have HB1' := Lib.hid hb1'; clear ho1 hb1 hb1'))
                    | (go_at_call 19; (refine (ownL_calls Av cv w.heap.size lv wa1 (by omega) (HS1.out.below HB1'.out (by omega))).mono ?_; rintro ea2 wa2 ⟨Aa2, ca2, rfl, ho2, hb2⟩; have hza2 := hb2.size; have k2a := (hb2.cell (p := (ad.add (k * 2))) (by omega)).trans k1a; have k2b := (hb2.cell (p := ⟨(ad.add (k * 2)).block, (ad.add (k * 2)).off + 1, none⟩) (show (ad.add (k * 2)).block < wa1.heap.size by omega)).trans k1b; have HO2 := Lib.hid ho2; have HO12 := Lib.hid (own_below' HO1.out hb2); have HB2' := Lib.hid (HB1'.out.trans (hb2.mono hza1)); clear ho2 hb2))
                    | (go_at_call 40; (refine (HPut.out wa2 HB2'.out Aa1 ca1 Aa2 ca2 (SeqB.of_own HO12.out).k (SeqB.of_own HO2.out)).mono ?_; rintro ea4 wa4 ⟨na4, sua, rfl, ht4, hu4⟩; have hb34 := hu4.below (by omega); have k3a := (hb34.cell (p := (ad.add (k * 2))) (show ((ad.add (k * 2))).block < w5.heap.size by omega)).trans k2a; have k3b := (hb34.cell (p := ⟨(ad.add (k * 2)).block, (ad.add (k * 2)).off + 1, none⟩) (show ((ad.add (k * 2))).block < w5.heap.size by omega)).trans k2b; clear hb34; have HT4 := Lib.hid ht4; have HU4 := Lib.hid hu4; clear ht4 hu4)) | fail)
                go_wp2_with fail
                go_meet
                case rel => exact ⟨_, _, HT4.out, (HSt.out.below HB2'.out).turned HU4.out, HBl.out.trans ((HB2'.out.mono (by omega)).trans (HU4.out.below (by omega)))⟩
              · have dk : decide ((k : Int) < (m.length : Int)) = false := decide_eq_false (by omega)
                have dk2 : decide (k < m.length) = false := decide_eq_false hkm
                go_wp2_with fail
                go_meet
                case rel => exact ⟨_, _, HKu.out.more (by omega) (by omega), HSt.out, HBl.out⟩
            case rest =>
              obtain ⟨Lu1, su1, hku1, hst1, hbl1⟩ := hcut
              rename World => w9
              have hb09 := HB5.out.trans (hbl1.mono HB5.out.size)
              have hz59 := hbl1.size
              have hz09 := hb09.size
              have HKu1 := Lib.hid hku1
              have HSt1 := Lib.hid hst1
              have HBl1 := Lib.hid hbl1
              have HB09 := Lib.hid hb09
              clear HKu HSt HBl HB08
              obtain ⟨ad, rfl, hlta, q0, q1⟩ := hst1.pairsAt.get j hj
              have hjm := HMem.out _ (List.getElem_mem hj)
              obtain ⟨hs0, hs1, -⟩ := (HP.out.below HB09.out (Nat.le_refl _)).2 _ (HX1.out _ hjm)
              obtain ⟨hbk, hbv⟩ := HPl.out _ (HX1.out _ hjm)
              have hin := HKo.out _ hjm
              have hk3 : ∀ W, SeqT W 40 (some ad) (flatP L) → W.cell? (ad.add (j * 2)) = some (pcV L[j].1) ∧ W.cell? ⟨(ad.add (j * 2)).block, (ad.add (j * 2)).off + 1, none⟩ = some (pcV L[j].2) := fun W h => by
                obtain ⟨ad', e, _, h1, h2⟩ := h.pairsAt.get j hj
                injection e with e
                subst e
                exact ⟨h1, h2⟩
              generalize L[j] = x at q0 q1 hs0 hs1 hbk hbv hin hk3
              obtain ⟨⟨Ak, ck, lk⟩, ⟨Av, cv, lv⟩⟩ := x
              simp only [pcV] at q0 q1 hk3
              simp only at hs0 hs1 hbk hbv hin
              have HS0 := Lib.hid hs0
              have HS1 := Lib.hid hs1
              have HK3 := Lib.hid hk3
              have HPut := Lib.hid (fun (W : World) (hb : Below w9.heap.size w9 W) (Aa : Option Addr) (ca : Nat) (Ab : Option Addr) (cb : Nat) (h1 : SeqK W Aa lk) (h2 : SeqB W Ab lv) => oput_calls (HKu1.out.below hb) Aa ca lk Ab cb lv (by omega) (by omega) hbv hin h1 h2)
              have HBd := Lib.hid (below_drewN (Below.refl w9.heap.size w9) 1)
              have hadw : (ad.add (j * 2)).block < w9.heap.size := by rw [block_add]; exact hlta
              clear hs0 hs1 hjm hin hk3 hst1 hku1 hbl1 hb09
              go_upto_region 21 with fail
              go_region_held3 (fun w' => w'.cell? (ad.add (j * 2)) = some (.slice Ak lk.length ck) ∧ w'.cell? ⟨(ad.add (j * 2)).block, (ad.add (j * 2)).off + 1, none⟩ = some (.slice Av lv.length cv)) (first | exact ⟨k3a, k3b⟩ | exact ⟨k2a, k2b⟩ | exact ⟨k1a, k1b⟩ | exact ⟨q0, q1⟩ | go_keep)
                (first
                  | (go_at_call 19; (refine (ownL_calls Ak ck w.heap.size lk w9.drew (by omega) HS0.out.drew).mono ?_; rintro eb1 wb1 ⟨Ab1, cb1, rfl, ho1, hb1⟩; have hb1' := HBd.out.trans hb1; have hzb1 := hb1'.size; have k1a := (hb1'.cell (p := (ad.add (j * 2))) (by omega)).trans q0; have k1b := (hb1'.cell (p := ⟨(ad.add (j * 2)).block, (ad.add (j * 2)).off + 1, none⟩) (show (ad.add (j * 2)).block < w9.heap.size by omega)).trans q1; have HO1 := Lib.hid ho1; have HB1' := Lib.hid hb1'; clear ho1 hb1 hb1'))
                  | (go_at_call 19; (refine (ownL_calls Av cv w.heap.size lv wb1 (by omega) (HS1.out.below HB1'.out (by omega))).mono ?_; rintro eb2 wb2 ⟨Ab2, cb2, rfl, ho2, hb2⟩; have hzb2 := hb2.size; have k2a := (hb2.cell (p := (ad.add (j * 2))) (by omega)).trans k1a; have k2b := (hb2.cell (p := ⟨(ad.add (j * 2)).block, (ad.add (j * 2)).off + 1, none⟩) (show (ad.add (j * 2)).block < wb1.heap.size by omega)).trans k1b; have HO2 := Lib.hid ho2; have HO12 := Lib.hid (own_below' HO1.out hb2); have HB2' := Lib.hid (HB1'.out.trans (hb2.mono hzb1)); clear ho2 hb2))
                  | (go_at_call 40; (refine (HPut.out wb2 HB2'.out Ab1 cb1 Ab2 cb2 (SeqB.of_own HO12.out).k (SeqB.of_own HO2.out)).mono ?_; rintro eb4 wb4 ⟨nb4, sub, rfl, ht4, hu4⟩; have k3 := HK3.out _ ((HSt1.out.below HB2'.out).turned hu4); have k3a := k3.1; have k3b := k3.2; clear k3; have HT4 := Lib.hid ht4; have HU4 := Lib.hid hu4; clear ht4 hu4)) | fail)
              have hku2 : OrdK wb4 w5.heap.size (4 * k + 4) ks (stepL Lu1 (lk, lv)) sub := HT4.out
              have hst2 : SeqT wb4 40 (some ad) (flatP L) := (HSt1.out.below HB2'.out).turned HU4.out
              have hbl2 : Below w5.heap.size w5 wb4 := HBl1.out.trans ((HB2'.out.mono (by omega)).trans (HU4.out.below (by omega)))
              have hb02 := HB5.out.trans (hbl2.mono HB5.out.size)
              have hz5b := hbl2.size
              have hz0b := hb02.size
              have HKu2 := Lib.hid hku2
              have HSt2 := Lib.hid hst2
              have HBl2 := Lib.hid hbl2
              have HB02 := Lib.hid hb02
              generalize stepL Lu1 (lk, lv) = Lu2 at *
              clear hku2 hst2 hbl2 hb02 HT4 HU4 HO1 HO2 HO12 HB1' HB2' HBd HPut HK3 HS0 HS1 k3a k3b k2a k2b k1a k1b q0 q1
              rename World => w10
              go_upto_region 22 with fail
              go_cut [112] from 104 to 112 (fun v wx => (∃ g : Bool, v = .bool g ∧ (g = true → k < m.length)) ∧ w10 = wx)
              case first =>
                by_cases hkm : k < m.length
                · have dk : decide ((k : Int) < (m.length : Int)) = true := decide_eq_true (by omega)
                  have dk2 : decide (k < m.length) = true := decide_eq_true hkm
                  go_wp2_with fail
                  all_goals
                    go_meet
                    case rel => exact ⟨⟨_, rfl, fun _ => hkm⟩, rfl⟩
                · have dk : decide ((k : Int) < (m.length : Int)) = false := decide_eq_false (by omega)
                  have dk2 : decide (k < m.length) = false := decide_eq_false hkm
                  go_wp2_with fail
                  all_goals
                    go_meet
                    case rel => exact ⟨⟨false, rfl, fun h => by cases h⟩, rfl⟩
              case rest =>
                obtain ⟨⟨g, rfl, hgk⟩, rfl⟩ := hcut
                have HGk := Lib.hid hgk
                clear hgk
                go_upto_if 112 with fail
                go_cut [] from 112 to 120 (fun wx => ∃ (Lu3 : List KV) (su3 : Tr × Nat), OrdK wx w5.heap.size (4 * k + 4) ks Lu3 su3 ∧ SeqT wx 40 (some ad) (flatP L) ∧ Below w5.heap.size w5 wx)
                case first =>
                  cases g with
                  | true =>
                    have hkm : k < m.length := HGk.out rfl
                    have lk0 : (k : Int) < (m.length : Int) := by omega
                    obtain ⟨ad2, rfl, hlt2, r0, -⟩ := (HP2.out.below HB02.out (Nat.le_refl _)).1.get k hkm
                    have hmk := List.getElem_mem hkm
                    obtain ⟨hs0, -, -⟩ := (HP2.out.below HB02.out (Nat.le_refl _)).2 _ hmk
                    obtain ⟨hbk2, -⟩ := HPm.out _ hmk
                    generalize m[k] = x at r0 hs0 hbk2
                    obtain ⟨⟨Ak2, ck2, lk2⟩, ⟨Av2, cv2, lv2⟩⟩ := x
                    simp only [pcV] at r0
                    simp only at hs0 hbk2
                    have HS0 := Lib.hid hs0
                    have HDel := Lib.hid (fun (W : World) (hb : Below w10.heap.size w10 W) (Aa : Option Addr) (ca : Nat) (h1 : SeqK W Aa lk2) => odel_calls (HKu2.out.below hb) Aa ca lk2 (by omega) h1)
                    clear hs0 hmk
                    go_wp2_with (first
                      | (go_at_call 19; (refine (ownL_calls Ak2 ck2 w.heap.size lk2 w10 (by omega) HS0.out).mono ?_; rintro e11 w11 ⟨A11, c11, rfl, ho11, hb11⟩; have hz11 := hb11.size; have HO11 := Lib.hid ho11; have HB11 := Lib.hid hb11; clear ho11 hb11))
                      | (go_at_call 34; (refine (HDel.out w11 HB11.out A11 c11 (SeqB.of_own HO11.out).k).mono ?_; rintro e12 w12 ⟨b12, su3, rfl, ht12, hu12⟩; have HT12 := Lib.hid ht12; have HU12 := Lib.hid hu12; clear ht12 hu12)) | fail)
                    go_meet
                    case rel => exact ⟨_, _, HT12.out, (HSt2.out.below HB11.out).turned HU12.out, HBl2.out.trans ((HB11.out.mono (by omega)).trans (HU12.out.below (by omega)))⟩
                  | false =>
                    go_wp2_with fail
                    go_meet
                    case rel => exact ⟨_, _, HKu2.out, HSt2.out, HBl2.out⟩
                case rest =>
                  obtain ⟨Lu3, su3, hku3, hst3, hbl3⟩ := hcut
                  rename World => w11
                  have hz5c := hbl3.size
                  have HKu3 := Lib.hid hku3
                  have HSt3 := Lib.hid hst3
                  have HBl3 := Lib.hid hbl3
                  clear hku3 hst3 hbl3 HKu2 HSt2 HBl2 HB02
                  have hjc : (j : Int) ≤ (cl : Int) := by omega
                  have lj0 : (0 : Int) ≤ (j : Int) := by omega
                  have ej : IntKind.i64.wrap ((j : Int) + 1) = (j : Int) + 1 := IntWalk.i64_in _ (by omega)
                  have lj1 : (j : Int) + 1 ≤ (L.length : Int) := by omega
                  have lj2 : (0 : Int) ≤ (j : Int) + 1 := by omega
                  have hlc1 : (L.length : Int) ≤ (cl : Int) := by omega
                  have hsd : SeqT w11.drew 40 (some ad) (flatP L) := HSt3.out.below (below_drewN (Below.refl w11.heap.size w11) 1)
                  have hsa : SeqT w11.drew 40 (some ad) (flatP (L.take j)) := by
                    rw [flatP_take L j (by omega)]
                    exact hsd.take _
                  have hsb : SeqT w11.drew 40 (if cl = j + 1 then some ad else some (ad.add ((j + 1) * 2))) (flatP (L.drop (j + 1))) := by
                    by_cases hc : cl = j + 1
                    · rw [List.drop_of_length_le (by omega)]
                      exact SeqT.nil
                    · rw [if_neg hc, flatP_drop L (j + 1) (by omega)]
                      exact hsd.drop _
                  have hla : (flatP (L.take j)).length = j * 2 := (flatP_cut L j (by omega)).2
                  obtain ⟨A11, hA11⟩ : ∃ A11, (if cl = j + 1 then some ad else some (ad.add ((j + 1) * 2))) = A11 := ⟨_, rfl⟩
                  rw [hA11] at hsb
                  obtain ⟨mm, hmm⟩ : ∃ mm, L.length - (j + 1) = mm := ⟨_, rfl⟩
                  obtain ⟨cm, hcm⟩ : ∃ cm, cl - (j + 1) = cm := ⟨_, rfl⟩
                  have hlb : (flatP (L.drop (j + 1))).length = mm * 2 := by rw [flatP_length, List.length_drop, hmm]
                  have hmm2 : j + mm ≤ 150 := by omega
                  have HSa := Lib.hid hsa
                  have HSb := Lib.hid hsb
                  have HLa := Lib.hid hla
                  have HLb := Lib.hid hlb
                  clear hsd hsa hsb hla hlb
                  go_upto_region 24 with fail
                  go_region_law (first | (refine step_append_cut (n := j) (A := some ad) (xs := flatP (L.take j)) (A2 := A11) (m := mm) (c2 := cm) (news := flatP (L.drop (j + 1))) rfl (.tmp 124) (.tmp 128) 34 rfl elPair ?h1 ?h2 ?h3 ?h4 ?h5 ?h6 ?h7 ?h8 ?h9; (case h1 => (simp only [Act.put, List.getElem_toArray, List.getElem_cons_zero, List.getElem_cons_succ, List.setIfInBounds_toArray, List.set_cons_zero, List.set_cons_succ]; rfl)); (case h4 => (simp only [Act.put, List.getElem_toArray, List.getElem_cons_zero, List.getElem_cons_succ, List.setIfInBounds_toArray, List.set_cons_zero, List.set_cons_succ]; rfl)); (case h2 => exact HLa.out); (case h3 => exact HSa.out); (case h5 => exact HLb.out); (case h6 => exact HSb.out); (case h7 => (unfold maxLen; omega)); (case h8 => omega); intro A12 c12 w12 hs12 hc12 hb12; have HS12 := Lib.hid hs12; have HB12 := Lib.hid hb12; clear hs12 hb12) | fail)
                  all_goals
                    go_wp2_with fail
                    have hbx : Below w11.heap.size w11 w12 := (below_drewN (Below.refl w11.heap.size w11) 1).trans HB12.out
                    have hll : (L.take j ++ L.drop (j + 1)).length = j + mm := by rw [List.length_append, List.length_take, List.length_drop]; omega
                    have hs2 := HS12.out
                    rw [← flatP_append] at hs2
                    refine ⟨⟨k + 1, L.take j ++ L.drop (j + 1), A12, c12, Lu3, su3, by omega, by go_num, by rw [hll], by omega, hs2, fun x hx => ?_, HKu3.out.below hbx, HBl3.out.trans (hbx.mono (by omega))⟩, by simp [intOf]; omega⟩
                    rcases List.mem_append.1 hx with hx | hx
                    · exact HMem.out x (List.mem_of_mem_take hx)
                    · exact HMem.out x (List.mem_of_mem_drop hx)
        · have dL : decide ((0 : Int) < (L.length : Int)) = false := decide_eq_false (by omega)
          have dL2 : decide ((L.length : Int) > 0) = false := decide_eq_false (by omega)
          have dL3 : decide (0 < L.length) = false := decide_eq_false hL
          have hk150 : k ≤ 150 := by omega
          have hku4 := HKu.out.more (K' := 600) (by omega) (by omega)
          have hgo4 : Gone ks (m.map (·.1.2.2)) 0 Lu := gone_zero hku4.among
          have HKu4 := Lib.hid hku4
          have HGo4 := Lib.hid hgo4
          clear HSt HMem HKu hku4 hgo4
          go_wp2_with fail
          go_loopw [15] (fun v wr => ∃ (i : Nat) (L2 : List KV) (s2 : Tr × Nat), i ≤ m.length ∧ v = .int .i64 i ∧ OrdK wr w5.heap.size 600 ks L2 s2 ∧ Gone ks (m.map (·.1.2.2)) i L2 ∧ Below w5.heap.size w5 wr) (fun v _ => m.length - (intOf v).toNat)
          case atStart => exact ⟨0, Lu, su, by omega, rfl, HKu4.out, HGo4.out, HBl.out⟩
          case round =>
            clear HKu4 HGo4 HBl HB08 hz58
            obtain ⟨i, L2, s2, hi, rfl, hku2, hgo2, hbl2⟩ := hrel
            rename World => w13
            have hb02 := HB5.out.trans (hbl2.mono HB5.out.size)
            have hz52 := hbl2.size
            have HKu2 := Lib.hid hku2
            have HGo2 := Lib.hid hgo2
            have HBl2 := Lib.hid hbl2
            have HB02 := Lib.hid hb02
            clear hku2 hgo2 hbl2 hb02
            by_cases him : i < m.length
            · have di : decide ((i : Int) < (m.length : Int)) = true := decide_eq_true (by omega)
              have di2 : decide (i < m.length) = true := decide_eq_true him
              have li : (i : Int) < (m.length : Int) := by omega
              obtain ⟨ad2, rfl, hlt2, r0, -⟩ := (HP2.out.below HB02.out (Nat.le_refl _)).1.get i him
              have hmk := List.getElem_mem him
              obtain ⟨hs0, -, -⟩ := (HP2.out.below HB02.out (Nat.le_refl _)).2 _ hmk
              obtain ⟨hbk2, -⟩ := HPm.out _ hmk
              have hgn : Gone ks (m.map (·.1.2.2)) (i + 1) (goneL m[i].1.2.2 L2) := by
                have h1 := gone_next HGo2.out (show i < (m.map (·.1.2.2)).length by rw [List.length_map]; exact him)
                rwa [List.getElem_map] at h1
              generalize m[i] = x at r0 hs0 hbk2 hgn
              obtain ⟨⟨Ak2, ck2, lk2⟩, ⟨Av2, cv2, lv2⟩⟩ := x
              simp only [pcV] at r0
              simp only at hs0 hbk2 hgn
              have HS0 := Lib.hid hs0
              have HGn := Lib.hid hgn
              have HDel := Lib.hid (fun (W : World) (hb : Below w13.heap.size w13 W) (Aa : Option Addr) (ca : Nat) (h1 : SeqK W Aa lk2) => odel_calls (HKu2.out.below hb) Aa ca lk2 (by omega) h1)
              clear hs0 hmk hgn
              go_wp2_with (first
                | (go_at_call 19; (refine (ownL_calls Ak2 ck2 w.heap.size lk2 w13 (by omega) HS0.out).mono ?_; rintro e11 w11 ⟨A11, c11, rfl, ho11, hb11⟩; have hz11 := hb11.size; have HO11 := Lib.hid ho11; have HB11 := Lib.hid hb11; clear ho11 hb11))
                | (go_at_call 34; (refine (HDel.out w11 HB11.out A11 c11 (SeqB.of_own HO11.out).k).mono ?_; rintro e12 w12 ⟨b12, su3, rfl, ht12, hu12⟩; have HT12 := Lib.hid ht12; have HU12 := Lib.hid hu12; clear ht12 hu12)) | fail)
              exact ⟨⟨i + 1, _, _, by omega, by go_num, HT12.out, HGn.out, HBl2.out.trans ((HB11.out.mono (by omega)).trans (HU12.out.below (by omega)))⟩, by simp [intOf]; omega⟩
            · have di : decide ((i : Int) < (m.length : Int)) = false := decide_eq_false (by omega)
              have di2 : decide (i < m.length) = false := decide_eq_false him
              have hbk0 : Back (o1.map saidP) 0 L2 := back_zero (by
                have h1 := HGo2.out
                rw [← HKs.out] at h1
                have h2 := gone_all h1 (by rw [List.length_map]; omega)
                rw [List.map_map]
                exact h2)
              have HBk0 := Lib.hid hbk0
              clear HGo2 hbk0
              go_wp2_with fail
              go_loopw [16] (fun v wr => ∃ (j : Nat) (L3 : List KV) (s3 : Tr × Nat), j ≤ o1.length ∧ v = .int .i64 j ∧ OrdK wr w5.heap.size (600 + 2 * j) ks L3 s3 ∧ Back (o1.map saidP) j L3 ∧ Below w5.heap.size w5 wr) (fun v _ => o1.length - (intOf v).toNat)
              case atStart => exact ⟨0, L2, s2, by omega, rfl, HKu2.out, HBk0.out, HBl2.out⟩
              case round =>
                clear HKu2 HBk0 HBl2 HB02 hz52
                obtain ⟨j, L3, s3, hj, rfl, hku3, hbk3, hbl3⟩ := hrel
                rename World => w9
                have hb09 := HB5.out.trans (hbl3.mono HB5.out.size)
                have hz59 := hbl3.size
                have HKu3 := Lib.hid hku3
                have HBk3 := Lib.hid hbk3
                have HBl3 := Lib.hid hbl3
                have HB09 := Lib.hid hb09
                clear hku3 hbk3 hbl3 hb09
                by_cases hjo : j < o1.length
                · have dj : decide ((j : Int) < (o1.length : Int)) = true := decide_eq_true (by omega)
                  have dj2 : decide (j < o1.length) = true := decide_eq_true hjo
                  have lj : (j : Int) < (o1.length : Int) := by omega
                  have hz09 := HB09.out.size
                  obtain ⟨ad, rfl, hlta, q0, q1⟩ := (HR1.out.at_.below HBl3.out (Nat.le_refl _)).get j hjo
                  have hjm := HX1.out _ (List.getElem_mem hjo)
                  obtain ⟨hs0, hs1, -⟩ := (HP.out.below HB09.out (Nat.le_refl _)).2 _ hjm
                  obtain ⟨hbk, hbv⟩ := HPl.out _ hjm
                  have hin := HKo.out _ (List.getElem_mem hjo)
                  have hnx : Back (o1.map saidP) (j + 1) (stepL L3 (saidP o1[j])) := by
                    have h1 := back_next HKu3.out.keep.alike.rising (W := o1.map saidP) (by rw [HM1.out]; exact HAl.out.rising) (by rw [HM1.out]; exact HAl.out.full) HBk3.out (show j < (o1.map saidP).length by rw [List.length_map]; exact hjo)
                    rwa [mapGet o1 j hjo] at h1
                  generalize o1[j] = x at q0 q1 hs0 hs1 hbk hbv hin hnx
                  obtain ⟨⟨Ak, ck, lk⟩, ⟨Av, cv, lv⟩⟩ := x
                  simp only [pcV] at q0 q1
                  simp only [saidP] at hnx
                  simp only at hs0 hs1 hbk hbv hin
                  have HS0 := Lib.hid hs0
                  have HS1 := Lib.hid hs1
                  have HNx := Lib.hid hnx
                  have HPut := Lib.hid (fun (W : World) (hb : Below w9.heap.size w9 W) (Aa : Option Addr) (ca : Nat) (Ab : Option Addr) (cb : Nat) (h1 : SeqK W Aa lk) (h2 : SeqB W Ab lv) => oput_calls (HKu3.out.below hb) Aa ca lk Ab cb lv (by omega) (by omega) hbv hin h1 h2)
                  have HBd := Lib.hid (below_drewN (Below.refl w9.heap.size w9) 1)
                  have hadw : (ad.add (j * 2)).block < w5.heap.size := by rw [block_add]; exact hlta
                  clear hs0 hs1 hjm hin hnx
                  go_upto_region 32 with fail
                  go_region_held3 (fun w' => w'.cell? (ad.add (j * 2)) = some (.slice Ak lk.length ck) ∧ w'.cell? ⟨(ad.add (j * 2)).block, (ad.add (j * 2)).off + 1, none⟩ = some (.slice Av lv.length cv)) (first | exact ⟨k3a, k3b⟩ | exact ⟨k2a, k2b⟩ | exact ⟨k1a, k1b⟩ | exact ⟨q0, q1⟩ | go_keep)
                    (first
                      | (go_at_call 19; (refine (ownL_calls Ak ck w.heap.size lk w9.drew (by omega) HS0.out.drew).mono ?_; rintro ec1 wc1 ⟨Ac1, cc1, rfl, ho1, hb1⟩; have hb1' := HBd.out.trans hb1; have hzc1 := hb1'.size; have k1a := (hb1'.cell (p := (ad.add (j * 2))) (by omega)).trans q0; have k1b := (hb1'.cell (p := ⟨(ad.add (j * 2)).block, (ad.add (j * 2)).off + 1, none⟩) (show (ad.add (j * 2)).block < w9.heap.size by omega)).trans q1; have HO1 := Lib.hid ho1; have HB1' := Lib.hid hb1'; clear ho1 hb1 hb1'))
                      | (go_at_call 19; (refine (ownL_calls Av cv w.heap.size lv wc1 (by omega) (HS1.out.below HB1'.out (by omega))).mono ?_; rintro ec2 wc2 ⟨Ac2, cc2, rfl, ho2, hb2⟩; have hzc2 := hb2.size; have k2a := (hb2.cell (p := (ad.add (j * 2))) (by omega)).trans k1a; have k2b := (hb2.cell (p := ⟨(ad.add (j * 2)).block, (ad.add (j * 2)).off + 1, none⟩) (show (ad.add (j * 2)).block < wc1.heap.size by omega)).trans k1b; have HO2 := Lib.hid ho2; have HO12 := Lib.hid (own_below' HO1.out hb2); have HB2' := Lib.hid (HB1'.out.trans (hb2.mono hzc1)); clear ho2 hb2))
                      | (go_at_call 40; (refine (HPut.out wc2 HB2'.out Ac1 cc1 Ac2 cc2 (SeqB.of_own HO12.out).k (SeqB.of_own HO2.out)).mono ?_; rintro ec4 wc4 ⟨nc4, suc, rfl, ht4, hu4⟩; have hb34 := hu4.below (by omega); have k3a := (hb34.cell (p := (ad.add (j * 2))) (show ((ad.add (j * 2))).block < w5.heap.size by omega)).trans k2a; have k3b := (hb34.cell (p := ⟨(ad.add (j * 2)).block, (ad.add (j * 2)).off + 1, none⟩) (show (ad.add (j * 2)).block < w5.heap.size by omega)).trans k2b; clear hb34; have HT4 := Lib.hid ht4; have HU4 := Lib.hid hu4; clear ht4 hu4)) | fail)
                  go_wp2_with fail
                  exact ⟨⟨j + 1, _, _, by omega, by go_num, HT4.out, HNx.out, HBl3.out.trans ((HB2'.out.mono (by omega)).trans (HU4.out.below (by omega)))⟩, by simp [intOf]; omega⟩
                · have dj : decide ((j : Int) < (o1.length : Int)) = false := decide_eq_false (by omega)
                  have dj2 : decide (j < o1.length) = false := decide_eq_false hjo
                  have hL3 : L3 = plainL (firsts l) := by
                    rw [← HM1.out]
                    exact back_all HKu3.out.keep.alike.rising (fun x hx => (HKu3.out.keep.alike.full x hx).1) (by rw [HM1.out]; exact HAl.out.rising) (fun x hx => by rw [HM1.out] at hx; exact (HAl.out.full x hx).1) HBk3.out (by rw [List.length_map]; omega)
                  have hkt : KeepK w9 w3.heap.size w3.heap.size 600 (plainL (firsts l)) s := ⟨HTm5.out.below HBl3.out, HAl.out, HEv.out⟩
                  have hku : KeepK w9 w5.heap.size w5.heap.size (600 + 2 * j) (plainL (firsts l)) s3 := by rw [← hL3]; exact HKu3.out.keep
                  have hone := keep_one hkt hku
                  obtain ⟨u3, n3⟩ := s3
                  obtain ⟨t3, n0t⟩ := s
                  simp only at hone
                  subst hone
                  have hPt := fun (W : World) (hb : Below w9.heap.size w9 W) => kpairs_calls (hkt.below hb) (by omega)
                  have hPu := fun (W : World) (hb : Below w9.heap.size w9 W) => kpairs_calls (hku.below hb) (by omega)
                  obtain ⟨Ft, hpt⟩ := hkt.trie.pre
                  obtain ⟨Fu, hpu⟩ := hku.trie.pre
                  have hE2 := (sameH_hash (encT hashL t3) (encT hashL t3)).2 rfl
                  have hrt := root_calls _ _ _ _ _ _ _ _ hpt
                  have hru := fun (W : World) (hb : Below w9.heap.size w9 W) => root_calls _ _ _ _ _ _ _ W (hpu.below hb)
                  obtain ⟨E, hE⟩ : ∃ E, hashS (encT hashL t3) = E := ⟨_, rfl⟩
                  rw [hE] at hE2 hrt hru
                  have heq := eql_hash E E
                  rw [hE2] at heq
                  have hgd := guard_hash
                  have hnt := fun (W : World) (hb : Below w9.heap.size w9 W) => nodes_calls _ _ _ _ _ _ _ W (hpt.below hb)
                  have hnu := fun (W : World) (hb : Below w9.heap.size w9 W) => nodes_calls _ _ _ _ _ _ _ W (hpu.below hb)
                  have hvt := fun (W : World) (hb : Below w9.heap.size w9 W) (Ak : Option Addr) (ck : Nat) (h : Seq W W.heap.size Ak (bytes key)) => prove_calls _ _ _ _ _ _ _ Ak ck key W hk (hpt.below hb) h
                  have hvu := fun (W : World) (hb : Below w9.heap.size w9 W) (Ak : Option Addr) (ck : Nat) (h : Seq W W.heap.size Ak (bytes key)) => prove_calls _ _ _ _ _ _ _ Ak ck key W hk (hpu.below hb) h
                  have hmt : cntT t3 ≤ 600 := hpt.many
                  have hul1 := underT_length hashL t3 true false []
                  have hul2 := underT_length hashL t3 false true (nib key)
                  have hnl : (encT hashL t3 :: underT hashL t3 true false []).length ≤ 1300 := by rw [List.length_cons]; omega
                  have hvl : (proofT hashL t3 (nib key)).length ≤ 1300 := by unfold proofT; rw [List.length_cons]; omega
                  have hnl2 : ∀ ns : List Piece, ns.map txt = encT hashL t3 :: underT hashL t3 true false [] → ns.length ≤ 1300 := fun ns h => by
                    have h1 := congrArg List.length h
                    rw [List.length_map] at h1
                    rw [h1]
                    exact hnl
                  have hvl2 : ∀ ns : List Piece, ns.map txt = proofT hashL t3 (nib key) → ns.length ≤ 1300 := fun ns h => by
                    have h1 := congrArg List.length h
                    rw [List.length_map] at h1
                    rw [h1]
                    exact hvl
                  have hpl2 : ∀ p : List PairL, p.map saidP = plainL (firsts l) → p.length ≤ 300 := fun p h => by
                    have h1 := congrArg List.length h
                    have h2 := plain_len (firsts l)
                    have h3 : (firsts l).length ≤ 300 := by simp [firsts]; omega
                    rw [List.length_map] at h1
                    omega
                  have HPt := Lib.hid hPt
                  have HPu := Lib.hid hPu
                  have HRt := Lib.hid hrt
                  have HRu := Lib.hid hru
                  have HNt := Lib.hid hnt
                  have HNu := Lib.hid hnu
                  have HVt := Lib.hid hvt
                  have HVu := Lib.hid hvu
                  have HNl := Lib.hid hnl2
                  have HVl := Lib.hid hvl2
                  have HPn := Lib.hid hpl2
                  have hz09 := HB09.out.size
                  clear hkt hku hL3 hPt hPu hrt hru hnt hnu hvt hvu hnl2 hvl2 hpl2 hnl hvl hpt hpu hE hE2 hmt hul1 hul2 HKu3 HBk3 HLaid HAl HEv HM1 HR1 HX1
                  go_wp2_with (first
                    | (go_at_call 23; (refine (HRu.out w10 HB10.out).mono ?_; rintro e11 w11 ⟨rfl, hb11⟩; have HB11 := Lib.hid (HB10.out.trans (hb11.mono HB10.out.size)); clear hb11))
                    | (go_at_call 23; (refine HRt.out.mono ?_; rintro e10 w10 ⟨rfl, hb10⟩; have HB10 := Lib.hid hb10; clear hb10))
                    | (go_at_call 30; (refine (HNu.out w12 HB12.out).mono ?_; rintro e13 w13 ⟨A13, c13, ms, rfl, hms, hrow, hown, hap, hb13⟩; have hml := HNl.out ms hms; have HMs := Lib.hid hms; have HTm13 := Lib.hid (⟨hrow, hown, hap⟩ : TextsAt w13 w12.heap.size A13 c13 ms); have HTn13 := Lib.hid (HTn12.out.below hb13); have HB13 := Lib.hid (HB12.out.trans (hb13.mono HB12.out.size)); clear hms hrow hown hap hb13))
                    | (go_at_call 30; (refine (HNt.out w11 HB11.out).mono ?_; rintro e12 w12 ⟨A12, c12, ns, rfl, hns, hrow, hown, hap, hb12⟩; have hnl := HNl.out ns hns; have HNs := Lib.hid hns; have HTn12 := Lib.hid (⟨hrow, hown, hap⟩ : TextsAt w12 w11.heap.size A12 c12 ns); have HB12 := Lib.hid (HB11.out.trans (hb12.mono HB11.out.size)); clear hns hrow hown hap hb12))
                    | (go_at_call 41; (refine (textsSame_calls A19 c19 us A21 c21 vs w21 (by omega) (by rw [HUs.out, HVs.out]) HTu21.out.seq HTv21.out.seq HTu21.out.seqs HTv21.out.seqs).mono ?_; unfold SamePost; rintro e22 w22 ⟨rfl, hb22⟩; have HB22 := Lib.hid (HB21.out.trans (hb22.mono HB21.out.size)); clear hb22))
                    | (go_at_call 41; (refine (textsSame_calls A12 c12 ns A13 c13 ms w13 (by omega) (by rw [HNs.out, HMs.out]) HTn13.out.seq HTm13.out.seq HTn13.out.seqs HTm13.out.seqs).mono ?_; unfold SamePost; rintro e14 w14 ⟨rfl, hb14⟩; have HB14 := Lib.hid (HB13.out.trans (hb14.mono HB13.out.size)); clear hb14))
                    | (go_at_call 33; (refine (HPu.out w15 HB15.out).mono ?_; rintro e16 w16 ⟨A16, c16, p2, rfl, hmp, hop, hb16⟩; have hpl2 := HPn.out p2 hmp; have HMq := Lib.hid hmp; have HOq := Lib.hid hop; have HOp16 := Lib.hid (HOp.out.now hb16); have HB16 := Lib.hid (HB15.out.trans (hb16.mono HB15.out.size)); clear hmp hop hb16))
                    | (go_at_call 33; (refine (HPt.out w14 HB14.out).mono ?_; rintro e15 w15 ⟨A15, c15, p1, rfl, hmp, hop, hb15⟩; have hpl1 := HPn.out p1 hmp; have HMp := Lib.hid hmp; have HOp := Lib.hid hop; have HB15 := Lib.hid (HB14.out.trans (hb15.mono HB14.out.size)); clear hmp hop hb15))
                    | (go_at_call 29; (refine (pairs_calls A15 c15 p1 A16 c16 p2 w16 (by omega) (by omega) HOp16.out HOq.out).mono ?_; unfold SamePost; rw [decide_eq_true (show p1.map saidP = p2.map saidP by rw [HMp.out, HMq.out])]; rintro e17 w17 ⟨rfl, hb17⟩; have HB17 := Lib.hid (HB16.out.trans (hb17.mono HB16.out.size)); clear hb17))
                    | (go_at_call 19; (refine (ownL_calls A3 c3 w19.heap.size key w19 hk (HS.out.now (HB09.out.trans (HB19.out.mono hz09)))).mono ?_; rintro e20 w20 ⟨A20, c20, rfl, ho20, hb20⟩; have HO20 := Lib.hid (Seq.of_own ho20); have HTu20 := Lib.hid (HTu19.out.below hb20); have HB20 := Lib.hid (HB19.out.trans (hb20.mono HB19.out.size)); clear ho20 hb20))
                    | (go_at_call 19; (refine (ownL_calls A3 c3 w17.heap.size key w17 hk (HS.out.now (HB09.out.trans (HB17.out.mono hz09)))).mono ?_; rintro e18 w18 ⟨A18, c18, rfl, ho18, hb18⟩; have HO18 := Lib.hid (Seq.of_own ho18); have HB18 := Lib.hid (HB17.out.trans (hb18.mono HB17.out.size)); clear ho18 hb18))
                    | (go_at_call 25; (refine (HVu.out w20 HB20.out A20 c20 HO20.out).mono ?_; rintro e21 w21 ⟨A21, c21, vs, rfl, hvs, hrow, hown, hap, hb21⟩; have hvl := HVl.out vs hvs; have HVs := Lib.hid hvs; have HTv21 := Lib.hid (⟨hrow, hown, hap⟩ : TextsAt w21 w20.heap.size A21 c21 vs); have HTu21 := Lib.hid (HTu20.out.below hb21); have HB21 := Lib.hid (HB20.out.trans (hb21.mono HB20.out.size)); clear hvs hrow hown hap hb21))
                    | (go_at_call 25; (refine (HVt.out w18 HB18.out A18 c18 HO18.out).mono ?_; rintro e19 w19 ⟨A19, c19, us, rfl, hus, hrow, hown, hap, hb19⟩; have hul := HVl.out us hus; have HUs := Lib.hid hus; have HTu19 := Lib.hid (⟨hrow, hown, hap⟩ : TextsAt w19 w18.heap.size A19 c19 us); have HB19 := Lib.hid (HB18.out.trans (hb19.mono HB18.out.size)); clear hus hrow hown hap hb19)) | fail)
                  go_ret
                  exact ⟨rfl, HB09.out.trans (HB22.out.mono hz09)⟩
-- CARD
set_option maxRecDepth 100000 in
theorem trieOrder_lifted (os : Os) (started : os.Started) (H : Type) (enc : TypeId × Value → H) :
    ReturnsInHanded {} Tryd.checked os 12 .any (fun w args => (Rows.trieOrderSpec.pre enc Tryd.prog Tryd.f12 [] false w args ∧ laidMetH Tryd.prog seatLaid w) ∧ sizedMet enc Tryd.prog Tryd.f12 (OpenSpec.ofChange Rows.trieOrderSpec) false w args)
      (Rows.trieOrderSpec.post enc Tryd.prog Tryd.f12 false true false false) := by
  refine returnsInHanded_of_change_and (C := Tryd.checked) (X := fun w _ => laidMetH Tryd.prog seatLaid w) (fun _ _ _ hh h => h.of_heap hh) own started (by kernel_rfl) Tryd.func12
    (ChangeSpec.witness_shaped (enc := enc) (C := Tryd.checked) (os := os) (X := fun w _ => laidMetH Tryd.prog seatLaid w) false (World.laidAll Tryd.prog os seatLaid) #[.slice none 0 0, .slice none 0 0, .slice none 0 0, .slice none 0 0] 8 (World.laidAll_os _ _ _)
      (World.shaped_of_ZipB (by kernel_rfl) (by kernel_rfl)) (by kernel_rfl) (by kernel_rfl) (by kernel_rfl)
      (by rw [MakeChecks.laidMetH_plain _ _ _ (by kernel_rfl)]; exact laidMet_laidAll _ (by kernel_rfl) (by kernel_rfl))) ?_
  intro W base args ds gs before hval0 hW _ hsz hL0 _
  rw [MakeChecks.laidMetH_plain _ _ _ (by kernel_rfl)] at hL0
  have hT := tables_of_laid hL0
  have hval : ∀ (j : Nat) t v, Tryd.f12.params[j]? = some t → args[j]? = some v → Value.okWide Tryd.prog W .any base t v := hval0
  have hW' := hW
  obtain ⟨p, q, hA0, hV, rfl, hfz, hnd⟩ := hW
  have hA : DataW.TrodAll enc Tryd.prog W 0 (fun _ => true) true Tryd.f12.params.toList args.toList ds p := hA0
  rw [Tryd.params12] at hA hval
  obtain ⟨v0, vs0, d0, ds0, p0, q0, hargs, rfl, rfl, h0, r0⟩ := trodAll_cons hA
  obtain ⟨v1, vs1, d1, ds1, p1, q1, rfl, rfl, rfl, h1, r1⟩ := trodAll_cons r0
  obtain ⟨v2, vs2, d2, ds2, p2, q2, rfl, rfl, rfl, h2, r2⟩ := trodAll_cons r1
  obtain ⟨v3, vs3, d3, ds3, p3, q3, rfl, rfl, rfl, h3, r3⟩ := trodAll_cons r2
  obtain ⟨rfl, rfl, rfl⟩ := trodAll_nil r3
  obtain rfl : args = #[v0, v1, v2, v3] := by cases args; simp_all
  obtain ⟨rfl, rfl⟩ := trodVars_none hV
  have k0 := h0
  have lt0 : ∀ x ∈ p0, x.block < W.heap.size := by obtain ⟨m, hm⟩ := k0; exact DataW.trod_lt m _ _ _ hm
  have k1 := h1
  have lt1 : ∀ x ∈ p1, x.block < W.heap.size := by obtain ⟨m, hm⟩ := k1; exact DataW.trod_lt m _ _ _ hm
  have k2 := h2
  have lt2 : ∀ x ∈ p2, x.block < W.heap.size := by obtain ⟨m, hm⟩ := k2; exact DataW.trod_lt m _ _ _ hm
  have k3 := h3
  have lt3 : ∀ x ∈ p3, x.block < W.heap.size := by obtain ⟨m, hm⟩ := k3; exact DataW.trod_lt m _ _ _ hm
  have wt0 : ∀ n ∈ d0.weights Tryd.prog 34, n ≤ reachBytes := fun n hn => by have := List.all_eq_true.1 hsz n (DataW.weights_mem_each (j := 0) (t := 34) (d := d0) (by rw [Tryd.params12]; rfl) rfl n hn); simpa using this
  obtain ⟨A0, C0, L0, rfl, hc0, hm0, hr0, hq0⟩ := open_pairs Tryd.underlying34 Tryd.underlying40 rfl rfl rfl rfl Tryd.underlying24 Tryd.underlying5 (by kernel_rfl) (by kernel_rfl) (by kernel_rfl) (by kernel_rfl) (by kernel_rfl) (hval 0 _ v0 rfl rfl) h0 wt0
  have wt1 : ∀ n ∈ d1.weights Tryd.prog 31, n ≤ reachBytes := fun n hn => by have := List.all_eq_true.1 hsz n (DataW.weights_mem_each (j := 1) (t := 31) (d := d1) (by rw [Tryd.params12]; rfl) rfl n hn); simpa using this
  obtain ⟨A1, C1, L1, rfl, hc1, hm1, hr1, hq1, hn1⟩ := open_nums Tryd.underlying31 Tryd.underlying3 (by kernel_rfl) (by kernel_rfl) (hval 1 _ v1 rfl rfl) h1 wt1
  have wt2 : ∀ n ∈ d2.weights Tryd.prog 34, n ≤ reachBytes := fun n hn => by have := List.all_eq_true.1 hsz n (DataW.weights_mem_each (j := 2) (t := 34) (d := d2) (by rw [Tryd.params12]; rfl) rfl n hn); simpa using this
  obtain ⟨A2, C2, L2, rfl, hc2, hm2, hr2, hq2⟩ := open_pairs Tryd.underlying34 Tryd.underlying40 rfl rfl rfl rfl Tryd.underlying24 Tryd.underlying5 (by kernel_rfl) (by kernel_rfl) (by kernel_rfl) (by kernel_rfl) (by kernel_rfl) (hval 2 _ v2 rfl rfl) h2 wt2
  have wt3 : ∀ n ∈ d3.weights Tryd.prog 24, n ≤ reachBytes := fun n hn => by have := List.all_eq_true.1 hsz n (DataW.weights_mem_each (j := 3) (t := 24) (d := d3) (by rw [Tryd.params12]; rfl) rfl n hn); simpa using this
  obtain ⟨A3, C3, L3, rfl, hc3, hm3, hr3, hq3⟩ := open_bytes Tryd.underlying24 Tryd.underlying5 (by kernel_rfl) (by kernel_rfl) (hval 3 _ v3 rfl rfl) h3 wt3
  clear hA0 hval0
  refine (order_walk A0 C0 L0 A1 C1 L1 A2 C2 L2 A3 C3 L3 W hT.tables hT.errs hT.low (Nat.le_trans hr0 (by decide)) hq0 (Nat.le_trans hr1 (by decide)) hq1 hn1 (Nat.le_trans hr2 (by decide)) hq2 (Nat.le_trans hr3 (by decide)) hq3).mono fun e W' ⟨he, bel⟩ => ?_
  subst he
  exact ⟨_, rfl, _, _, _, [], _, [], hW', trodAll_mk1 (shut_bool Tryd.underlying4 _), (trodAll_cons_mk (Below.trod laidOut (by kernel_rfl) (of_decide_eq_true (by kernel_rfl)) k0 bel lt0) (trodAll_cons_mk (Below.trod laidOut (by kernel_rfl) (of_decide_eq_true (by kernel_rfl)) k1 bel lt1) (trodAll_cons_mk (Below.trod laidOut (by kernel_rfl) (of_decide_eq_true (by kernel_rfl)) k2 bel lt2) (trodAll_cons_mk (Below.trod laidOut (by kernel_rfl) (of_decide_eq_true (by kernel_rfl)) k3 bel lt3) trodAll_mk0)))), rfl, bel.frame _, fun h => by cases h⟩
theorem trieOrder_holds : Rows.TrieOrderSaid :=
  OpenClaim.holds_of_wide 12 Tryd.f12 rfl rfl rfl rfl rfl rfl rfl ⟨rfl, rfl, rfl, rfl, rfl⟩ rfl rfl rfl rfl rfl (by kernel_rfl) Tryd.func12 (by kernel_rfl)
    (of_decide_eq_true (by kernel_rfl)) (by unfold Func.isWrapper; first | (rw [if_pos (by decide +kernel)]; kernel_rfl) | (rw [if_neg (by decide +kernel)]; exact ⟨rfl, rfl⟩))
    (fun os started H enc _ => trieOrder_lifted os started H enc)
theorem trieOrder_card : Rows.TrieOrderCardSaid :=
  Claim7.holds_tied_plain_at .later [] [.data, .data, .sentinel, .sentinel, .sentinel] true (true, "ec30def8b2b8a437d7ef0fa14b81e6223ecfebe468af8085b9789efc9ac0fbf0") false trieOrder_holds (fun _ h => by cases h) (by kernel_rfl) (fun _ h => by cases h) trieOrder_row_tie rfl ⟨rfl, rfl⟩ (by kernel_rfl) rfl
    (fun f fn hf hfn => by
      obtain rfl : f = 12 := Option.some.inj ((show Tryd.prog.funcNamed "vouch/vouchlaw26.TrieOrder" = some 12 by kernel_rfl).symm.trans hf) |>.symm
      obtain rfl : fn = Tryd.f12 := (Option.some.inj (Tryd.func12.symm.trans hfn)).symm
      exact ⟨by kernel_rfl, fun j t ht => by
        rw [Tryd.params12] at ht
        have hm : t ∈ ([34, 31, 34, 24] : List TypeId) := by simpa using Array.mem_of_getElem? ht
        have hall : (([34, 31, 34, 24] : List TypeId).all fun u => !Tryd.prog.wantsStandIn u) = true := by kernel_rfl
        exact (show Tryd.prog.wantsStandIn t = false by simpa using List.all_eq_true.1 hall t hm)⟩)
    (by kernel_rfl)
end Go.Proofs.YtfhindffmghlaaaDoor
