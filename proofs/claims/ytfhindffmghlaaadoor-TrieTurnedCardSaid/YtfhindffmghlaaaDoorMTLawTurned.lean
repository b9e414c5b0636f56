/- TrieTurned: a true proof with one byte turned, a text left out, or one text twice is refused; or two unlike texts have one hash. -/
import Derived.Test.YtfhindffmghlaaaDoorMTLawA
import Derived.Test.YtfhindffmghlaaaDoorMTTables
import Derived.Test.YtfhindffmghlaaaDoorCards
import Derived.Deep.CutRange
import Derived.Deep.CutBlock
set_option linter.unusedVariables false
set_option linter.unusedSimpArgs false
namespace Go.Proofs.YtfhindffmghlaaaDoor
open Go.RowKit Go.ChangeShapes Go.WideShapes
attribute [local irreducible] Calls in
set_option maxHeartbeats 4000000 in
set_option maxRecDepth 20000 in
theorem turned_walk (A : Option Addr) (c : Nat) (l : List PairL) (A2 : Option Addr) (c2 : Nat) (key : List UInt8) (which at_ : Int) (by_ : UInt8) (w : World) (hT : Tables w) (hE : Errs w) (hLw : Lows w.heap.size)
    (hl : l.length ≤ 140737488355328) (hp : PairsIn w w.heap.size A l) (hk : key.length ≤ 140737488355328) (hs : Seq w w.heap.size A2 (bytes key)) (_ : -9223372036854775808 ≤ which) (_ : which ≤ 9223372036854775807) (_ : -9223372036854775808 ≤ at_) (_ : at_ ≤ 9223372036854775807) :
    Calls Tryd.prog 7 #[.slice A l.length c, .slice A2 key.length c2, .int .i64 which, .int .i64 at_, .int .u8 (by8 by_)] w fun e w' => e = .returned (.bool true) ∧ Below w.heap.size w w' := by
  have HT := Lib.hid hT
  have HE := Lib.hid hE
  have HLw := Lib.hid hLw
  have HP := Lib.hid hp
  have HS := Lib.hid hs
  clear hT hE hLw hp hs
  go_enter Tryd.func7, Tryd.ntmps7
  go_upto_region 3 with (go_at_call 15; refine (able_calls w HT.out HE.out HLw.out).mono ?_; rintro e1 w1 ⟨rfl, hb1⟩; have hz1 := hb1.size; have HB1 := Lib.hid hb1; clear hb1)
  go_upto_if 28 with (go_at_call 16; go_loud (refine (weight_calls A c l none 0 [] w1 hl (HP.out.now HB1.out) (by simp) Seq.none_ (by simp)).mono ?_; rintro e2 w2 ⟨n, rfl, hn, hn2, hb2⟩; have hz2 := hb2.size; have HN := Lib.hid hn; have HB2 := Lib.hid (HB1.out.trans (hb2.mono hz1)); clear hn hb2))
  · rename_i hle
    have hle' : n ≤ 131072 := by omega
    obtain ⟨hl1, hpl, _⟩ := HN.out hle'
    have d0 : decide ((131072 : Int) < (n : Int)) = false := decide_eq_false (by omega)
    by_cases h100 : l.length ≤ 100
    · have d1 : decide ((100 : Int) < (l.length : Int)) = false := decide_eq_false (by omega)
      obtain ⟨s, hsq⟩ : ∃ s, laidS (firsts l) = s := ⟨_, rfl⟩
      have hlaid := laid_calls A c l w2 (by omega) (HT.out.now HB2.out) (HP.out.now HB2.out) hpl
      rw [hsq] at hlaid
      have HLaid := Lib.hid hlaid
      have hz02 := HB2.out.size
      clear HN hlaid hpl hsq
      go_upto_region 9 with (first
        | (go_at_call 21; go_loud (refine HLaid.out.mono ?_; rintro e3 w3 ⟨rfl, ht3, hb3⟩; have hz3 := hb3.size; have HTr3 := Lib.hid ht3; have HB3 := Lib.hid (HB2.out.trans (hb3.mono hz02)); clear ht3 hb3))
        | (go_at_call 19; go_loud (refine (ownL_calls A2 c2 w.heap.size key w3 hk (HS.out.below HB3.out (Nat.le_refl _))).mono ?_; rintro e4 w4 ⟨A4, c4, rfl, ho4, hb4⟩; have hz4 := hb4.size; have HTr4 := Lib.hid (HTr3.out.below hb4); have HSo := Lib.hid (Seq.of_own ho4); have HB4 := Lib.hid (HB3.out.trans (hb4.mono (by omega))); clear ho4 hb4))
        | (go_at_call 25; obtain ⟨F4, hp4⟩ := HTr4.out.pre; go_loud (refine (prove_calls w2.heap.size 131072 600 w2.heap.size s.1 s.2 F4 A4 c4 key w4 hk hp4 HSo.out).mono ?_; clear hp4; rintro e6 w6 ⟨A6, c6, us, rfl, hus, hrow, hown, hap, hb6⟩; have hz6 := hb6.size; have HUs := Lib.hid hus; have HTx := Lib.hid (⟨hrow, hown, hap⟩ : TextsAt w6 w4.heap.size A6 c6 us); have HTr6 := Lib.hid (HTr4.out.below hb6); have HB6 := Lib.hid (HB4.out.trans (hb6.mono (by omega))); clear hus hrow hown hap hb6)))
      have hpl := proofs_len (us := us) (t := s.1) (path := nib key) (by obtain ⟨F6, hp6⟩ := HTr6.out.pre; exact hp6.bnd) HUs.out
      have hul : us.length ≤ 1300 := by
        obtain ⟨F6, hp6⟩ := HTr6.out.pre
        have h1 := congrArg List.length HUs.out
        have h2 := underT_length hashL s.1 false true (nib key)
        have h3 := hp6.many
        rw [List.length_map] at h1
        unfold proofT at h1
        rw [List.length_cons] at h1
        omega
      have hpos : 0 < us.length := by
        have h1 := congrArg List.length HUs.out
        rw [List.length_map] at h1
        unfold proofT at h1
        rw [List.length_cons] at h1
        omega
      obtain ⟨g6, rfl, hg6, hg6b, _, _⟩ := own_form HTx.out.row hpos
      have hq := HTx.out.seq
      have hpl0 := hpl _ (List.getElem_mem hpos)
      obtain ⟨ad0, had0, _, q0⟩ := hq.piece 0 hpos
      injection had0 with had0
      subst had0
      rw [addr_add] at q0
      have e0 : ((us.length : Int) == 0) = false := by rw [beq_eq_false_iff_ne]; omega
      have lu0 : (0 : Int) < (us.length : Int) := by omega
      obtain ⟨p0, hp0⟩ : ∃ p, us[0] = p := ⟨_, rfl⟩
      rw [hp0] at q0 hpl0
      have d2 : ((p0.2.2.length : Int) == 0) = false := by
        have := List.length_pos_iff.2 hpl0.1
        rw [beq_eq_false_iff_ne]
        omega
      have HPl := Lib.hid hpl
      have HQ := Lib.hid hq
      clear hpl hq hpl0 hp0
      have n0 : (us.length : Int) ≠ 0 := by omega
      go_upto_region 11 with fail
      go_upto_if 52 with fail
      have b1 : -(us.length : Int) < which.tmod (us.length : Int) := Int.lt_tmod_of_pos which (by omega)
      have b2 : which.tmod (us.length : Int) < (us.length : Int) := Int.tmod_lt_of_pos which (by omega)
      generalize which.tmod (us.length : Int) = r at *
      go_cut [13] from 51 to 56 (fun v wx => (∃ k : Nat, k < us.length ∧ v = .int .i64 k) ∧ w6 = wx)
      case first =>
        by_cases hr : r < 0
        · have dr : decide (r < 0) = true := decide_eq_true hr
          have er : IntKind.i64.wrap (r + (us.length : Int)) = r + (us.length : Int) := IntWalk.i64_in _ (by omega)
          go_wp2_with fail
          go_meet
          case rel => exact ⟨⟨(r + (us.length : Int)).toNat, by omega, by congr 1; omega⟩, rfl⟩
        · have dr : decide (r < 0) = false := decide_eq_false hr
          go_wp2_with fail
          go_meet
          case rel => exact ⟨⟨r.toNat, by omega, by congr 1; omega⟩, rfl⟩
      case rest =>
        obtain ⟨⟨k, hku, rfl⟩, rfl⟩ := hcut
        clear b1 b2
        have HTb := Lib.hid HTr6.out.tables
        have hot := ownTexts_calls (some ⟨g6, 0, none⟩) c6 us w6 (by omega) HQ.out (own_seqs HTx.out.own (fun p hp => by have := (HPl.out p hp).2; omega))
        have HOt := Lib.hid hot
        clear hot
        go_upto_region 15 with (go_at_call 20; go_loud (refine HOt.out.mono ?_; rintro e7 w7 ⟨A7, c7, vs, rfl, hvs, hrow, hown, hap, hb7⟩; have hz7 := hb7.size; have HVs := Lib.hid hvs; have HV := Lib.hid (⟨hrow, hown, hap⟩ : TextsAt w7 w6.heap.size A7 c7 vs); have HB7 := Lib.hid hb7; clear hvs hrow hown hap hb7))
        go_upto_block 0 with fail
        go_cut [14, 15] from 59 to 129 (fun v14 v15 wx => ∃ (Ap : Option Addr) (cp : Nat) (ps : List Piece), v14 = .slice Ap ps.length cp ∧ TextsAt wx w6.heap.size Ap cp ps ∧ ps.map txt ≠ us.map txt ∧ (∀ p ∈ ps, p.2.2.length ≤ 262944) ∧ ps.length ≤ 1400 ∧ Below w6.heap.size w6 wx)
        case first =>
          generalize bits BinOp.and IntKind.i64 at_ 3 = z at *
          by_cases hz0 : z = 0
          · subst hz0
            obtain ⟨m, hm⟩ : ∃ m, us.length - (k + 1) = m := ⟨_, rfl⟩
            have lk0 : (0 : Int) ≤ (k : Int) := by omega
            have lkc : (k : Int) ≤ (c6 : Int) := by omega
            have ek : IntKind.i64.wrap ((k : Int) + 1) = (k : Int) + 1 := IntWalk.i64_in _ (by omega)
            have lk1 : (k : Int) + 1 ≤ (us.length : Int) := by omega
            have lk2 : k + 1 ≤ us.length := by omega
            have lk3 : (0 : Int) ≤ (k : Int) + 1 := by omega
            go_upto_region 23 with fail
            have hA := below_drewN HB7.out 1
            have HD7 := Lib.hid hA
            have HO1 := Lib.hid (show ∀ W, Below w6.heap.size w6 W → Calls Tryd.prog 20 #[.slice (some ⟨g6, 0, none⟩) k c6] W (TextsPost W ((us.take k).map txt)) from fun W hb => by
              have h1 := ownTexts_calls (some ⟨g6, 0, none⟩) c6 (us.take k) W (by rw [List.length_take]; omega) (by rw [← pcs_take]; exact (HQ.out.now hb).take k) (own_seqs (fun p hp => OwnP.below (HTx.out.own p (List.mem_of_mem_take hp)) hb) (fun p hp => by have := (HPl.out p (List.mem_of_mem_take hp)).2; omega))
              rw [List.length_take, Nat.min_eq_left (by omega)] at h1
              exact h1)
            have HO2 := Lib.hid (show ∀ W, Below w6.heap.size w6 W → Calls Tryd.prog 20 #[.slice (if c6 = k + 1 then some ⟨g6, 0, none⟩ else some ⟨g6, k + 1, none⟩) m (c6 - (k + 1))] W (TextsPost W ((us.drop (k + 1)).map txt)) from fun W hb => by
              have h1 := ownTexts_calls (if c6 = k + 1 then some ⟨g6, 0, none⟩ else some ⟨g6, k + 1, none⟩) (c6 - (k + 1)) (us.drop (k + 1)) W (by rw [List.length_drop]; omega) (by
                have h2 := (HQ.out.now hb).cut (k := k + 1) (cap := c6) (n := us.length) (pcs_length us) (by omega)
                rw [pcs_drop] at h2
                simpa only [Option.map_some, addr_add, Nat.zero_add] using h2) (own_seqs (fun p hp => OwnP.below (HTx.out.own p (List.mem_of_mem_drop hp)) hb) (fun p hp => by have := (HPl.out p (List.mem_of_mem_drop hp)).2; omega))
              rw [List.length_drop, hm] at h1
              exact h1)
            have HM := Lib.hid hm
            clear hA
            go_region_law (first
              | (go_simp; go_at_call 20; refine (HO2.out w8 HB8.out).mono ?_; rintro e9 w9 ⟨A9, c9, v2, rfl, hv2, hrow, hown, hap, hb9⟩; have hz9 := hb9.size; have hvl2 := congrArg List.length hv2; rw [List.length_map, List.length_map, List.length_drop] at hvl2; have hvb2 : v2.length ≤ 1300 := (by omega); have HVL2 := Lib.hid hvl2; clear hvl2; have HV2 := Lib.hid hv2; have HX2 := Lib.hid (⟨hrow, hown, hap⟩ : TextsAt w9 w8.heap.size A9 c9 v2); have HX19 := Lib.hid (HX1.out.below hb9); have HB9 := Lib.hid (HB8.out.trans (hb9.mono HB8.out.size)); clear hv2 hrow hown hap hb9)
              | (go_simp; go_at_call 20; refine (HO1.out w7.drew HD7.out).mono ?_; rintro e8 w8 ⟨A8, c8, v1, rfl, hv1, hrow, hown, hap, hb8⟩; have hz8 := hb8.size; have hvl1 := congrArg List.length hv1; rw [List.length_map, List.length_map, List.length_take] at hvl1; have hvb1 : v1.length ≤ 1300 := (by omega); have HVL1 := Lib.hid hvl1; clear hvl1; have HV1 := Lib.hid hv1; have HX1 := Lib.hid (⟨hrow, hown, hap⟩ : TextsAt w8 w7.drew.heap.size A8 c8 v1); have HB8 := Lib.hid (HD7.out.trans (hb8.mono HD7.out.size)); clear hv1 hrow hown hap hb8)
              | (refine step_append_seq rfl (.tmp 113) (.tmp 118) 25 rfl elText rfl HX19.out.row rfl (by rw [pcs_length, Nat.mul_one]) (Seq.of_own HX2.out.row) (pcs_one _) (by unfold maxLen; omega) (by omega) (by omega) ?_; intro A10 c10 w10 ho10 hg10; have HO10 := Lib.hid ho10; have HG10 := Lib.hid hg10; clear ho10 hg10))
            all_goals
              clear HO2
              generalize (if c6 = k + 1 then some (⟨g6, 0, none⟩ : Addr) else some ⟨g6, k + 1, none⟩) = Adr at *
              go_wp2_with fail
              go_meet
              case rel =>
                have hz67 : w6.heap.size ≤ w7.drew.heap.size := HD7.out.size
                have ht10 := (HX19.out.mono hz67).app (HX2.out.mono (by omega)) (HX1.out.cross HX2.out (Nat.le_refl _)) (own_mono HO10.out hz67) HG10.out
                refine ⟨A10, c10, v1 ++ v2, by rw [List.length_append], ht10, fun e => ?_, fun p hp => ?_, by (rw [List.length_append]; have := HVL1.out; have := HVL2.out; omega), HB9.out.grown HG10.out HB9.out.size (fun g hg => by have := (HX19.out.row.lt g hg).1; omega)⟩
                · have := congrArg List.length e
                  rw [List.length_map, List.length_map, List.length_append] at this
                  have := HM.out
                  have := HVL1.out
                  have := HVL2.out
                  omega
                · rcases List.mem_append.1 hp with h | h
                  · have h2 : txt p ∈ (us.take k).map txt := HV1.out ▸ List.mem_map.2 ⟨p, h, rfl⟩
                    obtain ⟨q, hq, hqe⟩ := List.mem_map.1 h2
                    have := (HPl.out q (List.mem_of_mem_take hq)).2
                    rw [show q.2.2 = p.2.2 from hqe] at this
                    exact this
                  · have h2 : txt p ∈ (us.drop (k + 1)).map txt := HV2.out ▸ List.mem_map.2 ⟨p, h, rfl⟩
                    obtain ⟨q, hq, hqe⟩ := List.mem_map.1 h2
                    have := (HPl.out q (List.mem_of_mem_drop hq)).2
                    rw [show q.2.2 = p.2.2 from hqe] at this
                    exact this
          · have dz0 : (z == 0) = false := by rw [beq_eq_false_iff_ne]; exact hz0
            have lk0 : (0 : Int) ≤ (k : Int) := by omega
            have lku : (k : Int) < (us.length : Int) := by omega
            by_cases hz1 : z = 1
            · subst hz1
              obtain ⟨ad1, had1, _, q1⟩ := (HQ.out.now HB7.out).piece k hku
              injection had1 with had1
              subst had1
              rw [addr_add, Nat.zero_add] at q1
              have hok := (HTx.out.own _ (List.getElem_mem hku)).below HB7.out
              have hpk := (HPl.out _ (List.getElem_mem hku)).2
              obtain ⟨pk, hpe⟩ : ∃ p, us[k] = p := ⟨_, rfl⟩
              rw [hpe] at q1 hok hpk
              clear hpe
              obtain ⟨Ak, ck, lk⟩ := pk
              simp only at q1 hpk
              have hvl := congrArg List.length HVs.out
              rw [List.length_map, List.length_map] at hvl
              have hvb : vs.length ≤ 1300 := by omega
              have HVl := Lib.hid hvl
              have HOk := Lib.hid hok
              clear hvl hok
              go_wp2_with (first
                | (go_at_call 19; go_loud (refine (ownL_calls Ak ck w7.heap.size lk w7 (by omega) HOk.out.seq).mono ?_; rintro e8 w8 ⟨A8, c8, rfl, ho8, hb8⟩; have hz8 := hb8.size; have HO8 := Lib.hid ho8; have HV8 := Lib.hid (HV.out.below hb8); have HB8 := Lib.hid (HB7.out.trans (hb8.mono hz7)); clear ho8 hb8))
                | (at_builtin; go_loud (refine wpL_append rfl (.tmp 122) (.tmp 128) 25 rfl elText rfl (own_alloc HV8.out.row _) rfl rfl (Seq.one_new _ _ _) (by simp [Value.oneCell']) (by unfold maxLen; omega) (by omega) (by rw [size_alloc]; omega) ?_; intro A9 c9 w9 ho9 hg9 _; have HO9 := Lib.hid ho9; have HG9 := Lib.hid hg9; clear ho9 hg9)))
              go_meet
              case rel =>
                have hba := (Below.refl w8.heap.size w8).alloc (Nat.le_refl _) (.cells #[.slice A8 lk.length c8] 24)
                have ht9 := (HV8.out.below hba).snoc (p := (A8, c8, lk)) (OwnP.alloc (own_mono HO8.out hz7) _) (fun a ha => apart_old (HV.out.own a ha) (p' := (A8, c8, lk)) HO8.out (Nat.le_refl _)) HO9.out HG9.out
                refine ⟨A9, c9, vs ++ [(A8, c8, lk)], by rw [List.length_append]; rfl, ht9, fun e => ?_, fun p hp => ?_, by rw [List.length_append]; simp; omega, (HB8.out.alloc HB8.out.size _).grown HG9.out (by rw [size_alloc]; have := HB8.out.size; omega) (fun g hg => (HV8.out.row.lt g hg).1)⟩
                · have := congrArg List.length e
                  rw [List.length_map, List.length_map, List.length_append, HVl.out] at this
                  simp at this
                · rcases List.mem_append.1 hp with h | h
                  · exact mem_txt (fun p hp => (HPl.out p hp).2) HVs.out p h
                  · obtain rfl := List.mem_singleton.1 h
                    exact hpk
            · have dz1 : (z == 1) = false := by rw [beq_eq_false_iff_ne]; exact hz1
              have hvl := congrArg List.length HVs.out
              rw [List.length_map, List.length_map] at hvl
              have hkv : k < vs.length := by omega
              have lkv : (k : Int) < (vs.length : Int) := by omega
              have hvb : vs.length ≤ 1300 := by omega
              have HVl := Lib.hid hvl
              clear hvl
              obtain ⟨g7, rfl, hg7, hg7b, _, _⟩ := own_form HV.out.row (by omega)
              obtain ⟨ad1, had1, _, q1⟩ := HV.out.seq.piece k hkv
              injection had1 with had1
              subst had1
              rw [addr_add, Nat.zero_add] at q1
              have hok := HV.out.own _ (List.getElem_mem hkv)
              have htk : txt vs[k] = txt us[k] := by
                have h1 : (vs.map txt)[k]? = (us.map txt)[k]? := by rw [HVs.out]
                rw [List.getElem?_map, List.getElem?_map, List.getElem?_eq_getElem hkv, List.getElem?_eq_getElem hku] at h1
                simpa using h1
              have hpk := HPl.out _ (List.getElem_mem hku)
              rw [show us[k].2.2 = vs[k].2.2 from htk.symm] at hpk
              have hput := fun (g i : Nat) (y : UInt8) hA hi => TextsAt.put (k := k) (i := i) (g := g) (y := y) (below_drewN (Below.refl w7.heap.size w7) 1 |> HV.out.below) hkv hA hi
              have hset : ∀ (y : UInt8) (i : Nat) (h : i < vs[k].2.2.length), vs[k].2.2[i] ≠ y → (vs.set k (vs[k].1, vs[k].2.1, vs[k].2.2.set i y)).map txt ≠ us.map txt := fun y i h hne e => by
                have h1 := congrArg (fun L => L[k]?) e
                simp only [List.getElem?_map] at h1
                rw [List.getElem?_set_self hkv, List.getElem?_eq_getElem hku] at h1
                simp only [Option.map_some, Option.some.injEq] at h1
                rw [← htk] at h1
                have h2 := congrArg (fun L => L[i]?) h1
                simp only [txt] at h2
                rw [List.getElem?_set_self h, List.getElem?_eq_getElem h] at h2
                exact hne (Option.some.inj h2).symm
              have hmemb : ∀ (y : UInt8) (i : Nat), ∀ p ∈ vs.set k (vs[k].1, vs[k].2.1, vs[k].2.2.set i y), p.2.2.length ≤ 262944 := fun y i p hp => by
                rcases List.mem_or_eq_of_mem_set hp with h | h
                · exact mem_txt (fun p hp => (HPl.out p hp).2) HVs.out p h
                · subst h
                  simp only [List.length_set]
                  exact hpk.2
              have HPut := Lib.hid hput
              have HSet := Lib.hid hset
              have HMb := Lib.hid hmemb
              clear htk hput hset hmemb
              generalize vs[k] = vk at *
              obtain ⟨Ak, ck, lk⟩ := vk
              simp only at q1 hpk
              have hlp := List.length_pos_iff.2 hpk.1
              have hlb := hpk.2
              have dl : ((lk.length : Int) == 0) = false := by rw [beq_eq_false_iff_ne]; omega
              have dg : decide ((lk.length : Int) > 0) = true := decide_eq_true (by omega)
              clear hpk
              by_cases hb0 : by_ = 0
              · subst hb0
                have db : ((by8 (0 : UInt8) : Int) == 0) = true := by decide
                go_wp2_with fail
                go_ret
                exact ⟨rfl, HB6.out.trans (HB7.out.mono HB6.out.size)⟩
              · have db : ((by8 by_ : Int) == 0) = false := by
                  rw [beq_eq_false_iff_ne]
                  intro e
                  exact hb0 (by8_inj (e.trans (show (0 : Int) = by8 0 from rfl)))
                have nl0 : (lk.length : Int) ≠ 0 := by omega
                obtain ⟨gk, hgk, hgk1, _, _, _⟩ := own_form (show w7.ownsRow w6.heap.size 5 1 (.slice Ak lk.length ck) lk.length (bytes lk) from hok) hlp
                subst hgk
                have HOk := Lib.hid hok
                clear hok
                go_upto_if 85 with fail
                have b1 : -(lk.length : Int) < at_.tmod (lk.length : Int) := Int.lt_tmod_of_pos at_ (by omega)
                have b2 : at_.tmod (lk.length : Int) < (lk.length : Int) := Int.tmod_lt_of_pos at_ (by omega)
                generalize at_.tmod (lk.length : Int) = r at *
                go_cut [15] from 84 to 92 (fun v wx => (∃ i : Nat, i < lk.length ∧ v = .int .i64 i) ∧ w7 = wx)
                case first =>
                  by_cases hr : r < 0
                  · have dr : decide (r < 0) = true := decide_eq_true hr
                    have er : IntKind.i64.wrap (r + (lk.length : Int)) = r + (lk.length : Int) := IntWalk.i64_in _ (by omega)
                    go_wp2_with fail
                    go_meet
                    case rel => exact ⟨⟨(r + (lk.length : Int)).toNat, by omega, by congr 1; omega⟩, rfl⟩
                  · have dr : decide (r < 0) = false := decide_eq_false hr
                    go_wp2_with fail
                    go_meet
                    case rel => exact ⟨⟨r.toNat, by omega, by congr 1; omega⟩, rfl⟩
                case rest =>
                  obtain ⟨⟨i, hil, rfl⟩, rfl⟩ := hcut
                  obtain ⟨ad2, had2, _, q2⟩ := (Seq.of_own (show w7.ownsRow w6.heap.size 5 1 (.slice (some ⟨gk, 0, none⟩) lk.length ck) lk.length (bytes lk) from HOk.out)).byte i hil
                  injection had2 with had2
                  subst had2
                  rw [addr_add, Nat.zero_add] at q2
                  obtain ⟨x, hx⟩ : ∃ x, lk[i] = x := ⟨_, rfl⟩
                  rw [hx] at q2
                  have ex := u8_xor x by_
                  have hne : x ≠ x ^^^ by_ := fun e => hb0 (by
                    have h1 : x ^^^ x = x ^^^ (x ^^^ by_) := by rw [← e]
                    rw [← UInt8.xor_assoc, UInt8.xor_self, UInt8.zero_xor] at h1
                    exact h1.symm)
                  have HX := Lib.hid hx
                  have HNe := Lib.hid hne
                  clear hx hne
                  generalize x ^^^ by_ = y at *
                  obtain ⟨curk, hck⟩ := own_blk (show w7.ownsRow w6.heap.size 5 1 (.slice (some ⟨gk, 0, none⟩) lk.length ck) lk.length (bytes lk) from HOk.out) gk rfl
                  have hfr : w7.frozen? ⟨gk, i, none⟩ = false := hck.frozen i
                  have li : (i : Int) < (lk.length : Int) := by omega
                  have li0 : (0 : Int) ≤ (i : Int) := by omega
                  clear b1 b2 hck
                  go_upto_region 21 with fail
                  go_region
                  all_goals
                    go_wp2_with fail
                    go_meet
                    case rel => exact ⟨some ⟨g7, 0, none⟩, c7, vs.set k (some ⟨gk, 0, none⟩, ck, lk.set i y), by rw [List.length_set], HPut.out gk i y rfl hil, HSet.out y i hil (by rw [HX.out]; exact HNe.out), HMb.out y i, by (rw [List.length_set]; omega), (Only.setCell _ _ _).below (below_drewN HB7.out 1) hgk1⟩
        case rest =>
          obtain ⟨Ap, cp, ps, rfl, hta, hne, hpl2, hpb, hbx⟩ := hcut
          rename World => wx
          have hzx := hbx.size
          have hux := HTx.out.below hbx
          obtain ⟨E, hE⟩ : ∃ E, hashS (encT hashL s.1) = E := ⟨_, rfl⟩
          have hroot : ∃ Fx, TriePre w2.heap.size 131072 600 w2.heap.size s.1 s.2 Fx wx := (HTr6.out.below hbx).pre
          obtain ⟨Fx, hpx⟩ := hroot
          have hrc := root_calls _ _ _ _ _ _ _ _ hpx
          rw [hE] at hrc
          have HRc := Lib.hid hrc
          have hbad : NoClash hashL (ps.map txt) (us.map txt) → checkT hashL (listOf E 32) (ps.map txt) (nib key) = none := fun h => by
            rw [← hE]
            rw [HUs.out] at h hne
            exact checkT_bad (M := 131072) (by omega) HTr6.out.good hpx.bnd (nib_nibs key) h hne
          have HBad := Lib.hid hbad
          have HTa := Lib.hid hta
          have HUx := Lib.hid hux
          have HPl2 := Lib.hid hpl2
          have HBx := Lib.hid hbx
          have HB6x := Lib.hid (HB6.out.trans (hbx.mono HB6.out.size))
          have hra := fun (W : World) (hb : Below wx.heap.size wx W) => (hta.below hb).rowAt (fun p hp => by have := hpl2 p hp; omega)
          have HRa := Lib.hid hra
          clear hrc hpx hbad hta hne hux hpl2 hbx hra hE
          obtain ⟨cr, hcr⟩ : ∃ cr, checkT hashL (listOf E 32) (ps.map txt) (nib key) = cr := ⟨_, rfl⟩
          have hchk := fun (W : World) (Ak : Option Addr) (ck : Nat) (hb : Below wx.heap.size wx W) (hs : Seq W W.heap.size Ak (bytes key)) =>
            check_calls E Ak ck key (.slice Ap ps.length cp) (ps.map txt) W (HT.out.now (HB6x.out.trans (hb.mono HB6x.out.size))) (HE.out.now HLw.out (HB6x.out.trans (hb.mono HB6x.out.size))) (HLw.out.now (HB6x.out.trans (hb.mono HB6x.out.size))) hk hs (HRa.out W hb)
          rw [hcr] at hchk
          have HBad2 := Lib.hid HBad.out
          rw [hcr] at HBad2
          have HChk := Lib.hid hchk
          clear hchk hcr HBad
          cases cr with
          | none =>
            go_wp2_with (first
              | (go_at_call 23; go_loud (refine HRc.out.mono ?_; rintro e8 w8 ⟨rfl, hb8⟩; have hz8 := hb8.size; have HB8 := Lib.hid hb8; clear hb8))
              | (go_at_call 19; go_loud (refine (ownL_calls A2 c2 w.heap.size key w8 hk (HS.out.below (HB6x.out.trans (HB8.out.mono HB6x.out.size)) (Nat.le_refl _))).mono ?_; rintro e9 w9 ⟨A9, c9, rfl, ho9, hb9⟩; have hz9 := hb9.size; have HO9 := Lib.hid (Seq.of_own ho9); have HB9 := Lib.hid (HB8.out.trans (hb9.mono hz8)); clear ho9 hb9))
              | (go_at_call 24; go_loud (refine (HChk.out w9 A9 c9 HB9.out HO9.out).mono ?_; rintro e10 w10 ⟨rfl, hb10⟩; have HB10 := Lib.hid (HB9.out.trans (hb10.mono HB9.out.size)); clear hb10)))
            go_ret
            exact ⟨rfl, HB6x.out.trans (HB10.out.mono HB6x.out.size)⟩
          | some v =>
            go_wp2_with (first
              | (go_at_call 23; go_loud (refine HRc.out.mono ?_; rintro e8 w8 ⟨rfl, hb8⟩; have hz8 := hb8.size; have HB8 := Lib.hid hb8; clear hb8))
              | (go_at_call 19; go_loud (refine (ownL_calls A2 c2 w.heap.size key w8 hk (HS.out.below (HB6x.out.trans (HB8.out.mono HB6x.out.size)) (Nat.le_refl _))).mono ?_; rintro e9 w9 ⟨A9, c9, rfl, ho9, hb9⟩; have hz9 := hb9.size; have HO9 := Lib.hid (Seq.of_own ho9); have HB9 := Lib.hid (HB8.out.trans (hb9.mono hz8)); clear ho9 hb9))
              | (go_at_call 24; go_loud (refine (HChk.out w9 A9 c9 HB9.out HO9.out).mono ?_; rintro e10 w10 ⟨A10, c10, rfl, ho10, hb10⟩; have HB10 := Lib.hid (HB9.out.trans (hb10.mono HB9.out.size)); clear ho10 hb10))
              | (go_at_call 28; go_loud (refine (clash_calls Ap cp ps (some ⟨g6, 0, none⟩) c6 us w10 (HT.out.now (HB6x.out.trans (HB10.out.mono HB6x.out.size))) (by omega) (by omega) (HTa.out.below HB10.out).seq (HUx.out.below HB10.out).seq (own_seqs (HTa.out.below HB10.out).own (fun p hp => by have := HPl2.out p hp; omega)) (own_seqs (HUx.out.below HB10.out).own (fun p hp => by have := (HPl.out p hp).2; omega))).mono ?_; rintro e11 w11 ⟨r, rfl, hr, hb11⟩; have hrt : r = true := (by cases r with | true => rfl | false => exact absurd (HBad2.out (hr rfl)) (by simp)); subst hrt; have HB11 := Lib.hid (HB10.out.trans (hb11.mono HB10.out.size)); clear hr hb11)))
            go_ret
            exact ⟨rfl, HB6x.out.trans (HB11.out.mono HB6x.out.size)⟩
    · have d1 : decide ((100 : Int) < (l.length : Int)) = true := decide_eq_true (by omega)
      go_wp2_with fail
      go_ret
      exact ⟨rfl, HB2.out⟩
  · rename_i hgt
    have d0 : decide ((131072 : Int) < (n : Int)) = true := decide_eq_true (by omega)
    go_wp2_with fail
    go_ret
    exact ⟨rfl, HB2.out⟩
-- CARD
set_option maxRecDepth 100000 in
theorem trieTurned_lifted (os : Os) (started : os.Started) (H : Type) (enc : TypeId × Value → H) :
    ReturnsInHanded {} Tryd.checked os 7 .any (fun w args => (Rows.trieTurnedSpec.pre enc Tryd.prog Tryd.f7 [] false w args ∧ laidMetH Tryd.prog seatLaid w) ∧ sizedMet enc Tryd.prog Tryd.f7 (OpenSpec.ofChange Rows.trieTurnedSpec) false w args)
      (Rows.trieTurnedSpec.post enc Tryd.prog Tryd.f7 false true false false) := by
  refine returnsInHanded_of_change_and (C := Tryd.checked) (X := fun w _ => laidMetH Tryd.prog seatLaid w) (fun _ _ _ hh h => h.of_heap hh) own started (by kernel_rfl) Tryd.func7
    (ChangeSpec.witness_shaped (enc := enc) (C := Tryd.checked) (os := os) (X := fun w _ => laidMetH Tryd.prog seatLaid w) false (World.laidAll Tryd.prog os seatLaid) #[.slice none 0 0, .slice none 0 0, .int .i64 0, .int .i64 0, .int .u8 0] 8 (World.laidAll_os _ _ _)
      (World.shaped_of_ZipB (by kernel_rfl) (by kernel_rfl)) (by kernel_rfl) (by kernel_rfl) (by kernel_rfl)
      (by rw [MakeChecks.laidMetH_plain _ _ _ (by kernel_rfl)]; exact laidMet_laidAll _ (by kernel_rfl) (by kernel_rfl))) ?_
  intro W base args ds gs before hval0 hW _ hsz hL0 _
  rw [MakeChecks.laidMetH_plain _ _ _ (by kernel_rfl)] at hL0
  have hT := tables_of_laid hL0
  have hval : ∀ (j : Nat) t v, Tryd.f7.params[j]? = some t → args[j]? = some v → Value.okWide Tryd.prog W .any base t v := hval0
  have hW' := hW
  obtain ⟨p, q, hA0, hV, rfl, hfz, hnd⟩ := hW
  have hA : DataW.TrodAll enc Tryd.prog W 0 (fun _ => true) true Tryd.f7.params.toList args.toList ds p := hA0
  rw [Tryd.params7] at hA hval
  obtain ⟨v0, vs0, d0, ds0, p0, q0, hargs, rfl, rfl, h0, r0⟩ := trodAll_cons hA
  obtain ⟨v1, vs1, d1, ds1, p1, q1, rfl, rfl, rfl, h1, r1⟩ := trodAll_cons r0
  obtain ⟨v2, vs2, d2, ds2, p2, q2, rfl, rfl, rfl, h2, r2⟩ := trodAll_cons r1
  obtain ⟨v3, vs3, d3, ds3, p3, q3, rfl, rfl, rfl, h3, r3⟩ := trodAll_cons r2
  obtain ⟨v4, vs4, d4, ds4, p4, q4, rfl, rfl, rfl, h4, r4⟩ := trodAll_cons r3
  obtain ⟨rfl, rfl, rfl⟩ := trodAll_nil r4
  obtain rfl : args = #[v0, v1, v2, v3, v4] := by cases args; simp_all
  obtain ⟨rfl, rfl⟩ := trodVars_none hV
  have k0 := h0
  have lt0 : ∀ x ∈ p0, x.block < W.heap.size := by obtain ⟨m, hm⟩ := k0; exact DataW.trod_lt m _ _ _ hm
  have k1 := h1
  have lt1 : ∀ x ∈ p1, x.block < W.heap.size := by obtain ⟨m, hm⟩ := k1; exact DataW.trod_lt m _ _ _ hm
  have k2 := h2
  have lt2 : ∀ x ∈ p2, x.block < W.heap.size := by obtain ⟨m, hm⟩ := k2; exact DataW.trod_lt m _ _ _ hm
  have k3 := h3
  have lt3 : ∀ x ∈ p3, x.block < W.heap.size := by obtain ⟨m, hm⟩ := k3; exact DataW.trod_lt m _ _ _ hm
  have k4 := h4
  have lt4 : ∀ x ∈ p4, x.block < W.heap.size := by obtain ⟨m, hm⟩ := k4; exact DataW.trod_lt m _ _ _ hm
  have wt0 : ∀ n ∈ d0.weights Tryd.prog 34, n ≤ reachBytes := fun n hn => by have := List.all_eq_true.1 hsz n (DataW.weights_mem_each (j := 0) (t := 34) (d := d0) (by rw [Tryd.params7]; rfl) rfl n hn); simpa using this
  obtain ⟨A0, C0, L0, rfl, hc0, hm0, hr0, hq0⟩ := open_pairs Tryd.underlying34 Tryd.underlying40 rfl rfl rfl rfl Tryd.underlying24 Tryd.underlying5 (by kernel_rfl) (by kernel_rfl) (by kernel_rfl) (by kernel_rfl) (by kernel_rfl) (hval 0 _ v0 rfl rfl) h0 wt0
  have wt1 : ∀ n ∈ d1.weights Tryd.prog 24, n ≤ reachBytes := fun n hn => by have := List.all_eq_true.1 hsz n (DataW.weights_mem_each (j := 1) (t := 24) (d := d1) (by rw [Tryd.params7]; rfl) rfl n hn); simpa using this
  obtain ⟨A1, C1, L1, rfl, hc1, hm1, hr1, hq1⟩ := open_bytes Tryd.underlying24 Tryd.underlying5 (by kernel_rfl) (by kernel_rfl) (hval 1 _ v1 rfl rfl) h1 wt1
  obtain ⟨z2, rfl, _, _, hz2⟩ := open_int Tryd.underlying3 (hval 2 _ v2 rfl rfl) h2
  obtain ⟨z3, rfl, _, _, hz3⟩ := open_int Tryd.underlying3 (hval 3 _ v3 rfl rfl) h3
  obtain ⟨z4, rfl, _, _, hz4⟩ := open_int Tryd.underlying5 (hval 4 _ v4 rfl rfl) h4
  obtain ⟨y4, rfl⟩ := wf_u8 hz4
  clear hA0 hval0
  refine (turned_walk A0 C0 L0 A1 C1 L1 z2 z3 y4 W hT.tables hT.errs hT.low (Nat.le_trans hr0 (by decide)) hq0 (Nat.le_trans hr1 (by decide)) hq1 (wf_int64 hz2).1 (wf_int64 hz2).2 (wf_int64 hz3).1 (wf_int64 hz3).2).mono fun e W' ⟨he, bel⟩ => ?_
  subst he
  exact ⟨_, rfl, _, _, _, [], _, [], hW', trodAll_mk1 (shut_bool Tryd.underlying4 _), (trodAll_cons_mk (Below.trod laidOut (by kernel_rfl) (of_decide_eq_true (by kernel_rfl)) k0 bel lt0) (trodAll_cons_mk (Below.trod laidOut (by kernel_rfl) (of_decide_eq_true (by kernel_rfl)) k1 bel lt1) (trodAll_cons_mk (Below.trod laidOut (by kernel_rfl) (of_decide_eq_true (by kernel_rfl)) k2 bel lt2) (trodAll_cons_mk (Below.trod laidOut (by kernel_rfl) (of_decide_eq_true (by kernel_rfl)) k3 bel lt3) (trodAll_cons_mk (Below.trod laidOut (by kernel_rfl) (of_decide_eq_true (by kernel_rfl)) k4 bel lt4) trodAll_mk0))))), rfl, bel.frame _, fun h => by cases h⟩
theorem trieTurned_holds : Rows.TrieTurnedSaid :=
  OpenClaim.holds_of_wide 7 Tryd.f7 rfl rfl rfl rfl rfl rfl rfl ⟨rfl, rfl, rfl, rfl, rfl⟩ rfl rfl rfl rfl rfl (by kernel_rfl) Tryd.func7 (by kernel_rfl)
    (of_decide_eq_true (by kernel_rfl)) (by unfold Func.isWrapper; first | (rw [if_pos (by decide +kernel)]; kernel_rfl) | (rw [if_neg (by decide +kernel)]; exact ⟨rfl, rfl⟩))
    (fun os started H enc _ => trieTurned_lifted os started H enc)
theorem trieTurned_card : Rows.TrieTurnedCardSaid :=
  Claim7.holds_tied_plain_at .later [] [.data, .data, .sentinel, .sentinel, .sentinel] true (true, "ec30def8b2b8a437d7ef0fa14b81e6223ecfebe468af8085b9789efc9ac0fbf0") false trieTurned_holds (fun _ h => by cases h) (by kernel_rfl) (fun _ h => by cases h) trieTurned_row_tie rfl ⟨rfl, rfl⟩ (by kernel_rfl) rfl
    (fun f fn hf hfn => by
      obtain rfl : f = 7 := Option.some.inj ((show Tryd.prog.funcNamed "vouch/vouchlaw26.TrieTurned" = some 7 by kernel_rfl).symm.trans hf) |>.symm
      obtain rfl : fn = Tryd.f7 := (Option.some.inj (Tryd.func7.symm.trans hfn)).symm
      exact ⟨by kernel_rfl, fun j t ht => by
        rw [Tryd.params7] at ht
        have hm : t ∈ ([34, 24, 3, 3, 5] : List TypeId) := by simpa using Array.mem_of_getElem? ht
        have hall : (([34, 24, 3, 3, 5] : List TypeId).all fun u => !Tryd.prog.wantsStandIn u) = true := by kernel_rfl
        exact (show Tryd.prog.wantsStandIn t = false by simpa using List.all_eq_true.1 hall t hm)⟩)
    (by kernel_rfl)
end Go.Proofs.YtfhindffmghlaaaDoor
