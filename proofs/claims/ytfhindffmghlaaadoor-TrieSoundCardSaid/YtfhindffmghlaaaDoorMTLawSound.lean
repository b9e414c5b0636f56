/- TrieSound: whatever texts are taken as a proof tell what is there, or one of them is unlike the true one at its place and has its hash. -/
import Derived.Test.YtfhindffmghlaaaDoorMTLawB
import Derived.Deep.RegionHeld3
import Derived.Test.YtfhindffmghlaaaDoorMTTables
import Derived.Test.YtfhindffmghlaaaDoorCards
import Derived.Deep.CutRange
import Derived.Deep.CutBlock
set_option linter.unusedVariables false
set_option linter.unusedSimpArgs false
namespace Go.Proofs.YtfhindffmghlaaaDoor
open Go.RowKit Go.ChangeShapes Go.WideShapes
attribute [local irreducible] Calls in
set_option maxHeartbeats 4000000 in
set_option maxRecDepth 20000 in
theorem sound_walk (A : Option Addr) (c : Nat) (l : List PairL) (A2 : Option Addr) (c2 : Nat) (key : List UInt8) (A3 : Option Addr) (c3 : Nat) (ps : List Piece) (cut : Int) (w : World) (hT : Tables w) (hE : Errs w) (hLw : Lows w.heap.size)
    (hl : l.length ≤ 140737488355328) (hp : PairsIn w w.heap.size A l) (hk : key.length ≤ 140737488355328) (hs : Seq w w.heap.size A2 (bytes key)) (hpl : ps.length ≤ 140737488355328) (hs3 : Seq w w.heap.size A3 (pcs ps)) (hp3 : ∀ q ∈ ps, q.2.2.length ≤ q.2.1 ∧ q.2.1 ≤ maxLen ∧ q.2.2.length ≤ reachBytes ∧ Seq w w.heap.size q.1 (bytes q.2.2)) :
    Calls Tryd.prog 6 #[.slice A l.length c, .slice A2 key.length c2, .slice A3 ps.length c3, .int .i64 cut] w fun e w' => e = .returned (.bool true) ∧ Below w.heap.size w w' := by
  have HS3 := Lib.hid hs3
  have HP3 := Lib.hid hp3
  have hp3l : ∀ p ∈ ps, p.2.2.length ≤ 140737488355328 := fun p hp => Nat.le_trans (hp3 p hp).2.2.1 (by decide)
  have HP3l := Lib.hid hp3l
  clear hs3 hp3 hp3l
  have HT := Lib.hid hT
  have HE := Lib.hid hE
  have HLw := Lib.hid hLw
  have HP := Lib.hid hp
  have HS := Lib.hid hs
  clear hT hE hLw hp hs
  go_enter Tryd.func6, Tryd.ntmps6
  go_upto_region 3 with (go_at_call 15; refine (able_calls w HT.out HE.out HLw.out).mono ?_; rintro e1 w1 ⟨rfl, hb1⟩; have hz1 := hb1.size; have HB1 := Lib.hid hb1; clear hb1)
  go_upto_if 28 with (go_at_call 16; go_loud (refine (weight_calls A c l A3 c3 ps w1 hl (HP.out.now HB1.out) hpl (HS3.out.now HB1.out) HP3l.out).mono ?_; rintro e2 w2 ⟨n, rfl, hn, hn2, hb2⟩; have hz2 := hb2.size; have HN := Lib.hid hn; have HB2 := Lib.hid (HB1.out.trans (hb2.mono hz1)); clear hn hb2))
  · rename_i hle
    have hle' : n ≤ 131072 := by omega
    obtain ⟨hl1, hpl, hps1⟩ := HN.out hle'
    have HPs1 := Lib.hid hps1
    clear hps1
    have d0 : decide ((131072 : Int) < (n : Int)) = false := decide_eq_false (by omega)
    by_cases h100 : l.length ≤ 100
    · have d1 : decide ((100 : Int) < (l.length : Int)) = false := decide_eq_false (by omega)
      obtain ⟨s, hsq⟩ : ∃ s, laidS (firsts l) = s := ⟨_, rfl⟩
      have hlaid := laid_calls A c l w2 (by omega) (HT.out.now HB2.out) (HP.out.now HB2.out) hpl
      rw [hsq] at hlaid
      have HLaid := Lib.hid hlaid
      have hz02 := HB2.out.size
      have halike := alike_laid (firsts l)
      rw [hsq] at halike
      have HAl := Lib.hid halike
      have HPlen := Lib.hid hpl
      clear HN hlaid hpl hsq halike
      go_upto_region 10 with (first
        | (go_at_call 21; go_loud (refine HLaid.out.mono ?_; rintro e3 w3 ⟨rfl, ht3, hb3⟩; have hz3 := hb3.size; have HTr3 := Lib.hid ht3; have HB3 := Lib.hid (HB2.out.trans (hb3.mono hz02)); clear ht3 hb3))
        | (go_at_call 22; go_loud (refine (plain_calls A c l w3 (by omega) (HP.out.now HB3.out) (fun x hx => by have := HPlen.out x hx; omega)).mono ?_; rintro e4 w4 ⟨Ao, co, out, rfl, hro, hmo, hxo, hb4⟩; have hz4 := hb4.size; have HRo := Lib.hid hro; have HMo := Lib.hid hmo; have HXo := Lib.hid hxo; have HTr4 := Lib.hid (HTr3.out.below hb4); have HB4 := Lib.hid (HB3.out.trans (hb4.mono (by omega))); clear hro hmo hxo hb4))
        | (go_at_call 19; go_loud (refine (ownL_calls A2 c2 w4.heap.size key w4 hk (HS.out.now HB4.out)).mono ?_; rintro e5 w5 ⟨A5, c5, rfl, ho5, hb5⟩; have hz5 := hb5.size; have HTr5 := Lib.hid (HTr4.out.below hb5); have HSo := Lib.hid (Seq.of_own ho5); have HB5 := Lib.hid hb5; clear ho5 hb5))
        | (go_at_call 25; obtain ⟨F5, hp5⟩ := HTr5.out.pre; go_loud (refine (prove_calls w2.heap.size 131072 600 w2.heap.size s.1 s.2 F5 A5 c5 key w5 hk hp5 HSo.out).mono ?_; clear hp5; rintro e6 w6 ⟨A6, c6, us, rfl, hus, hrow, hown, hap, hb6⟩; have hz6 := hb6.size; have HUs := Lib.hid hus; have HTx := Lib.hid (⟨hrow, hown, hap⟩ : TextsAt w6 w5.heap.size A6 c6 us); have HTr6 := Lib.hid (HTr5.out.below hb6); have HB46 := Lib.hid (HB5.out.trans (hb6.mono HB5.out.size)); clear hus hrow hown hap hb6)))
      obtain ⟨F6, hp6⟩ := HTr6.out.pre
      have hbd := hp6.bnd
      have HBd := Lib.hid hbd
      have hplu := proofs_len hbd HUs.out
      have hul : us.length ≤ 1300 := by
        have h1 := congrArg List.length HUs.out
        have h2 := underT_length hashL s.1 false true (nib key)
        have h3 := hp6.many
        rw [List.length_map] at h1
        unfold proofT at h1
        rw [List.length_cons] at h1
        omega
      have HPlu := Lib.hid hplu
      have HOin := Lib.hid (show ∀ W, Below w4.heap.size w4 W → PairsIn W W.heap.size Ao out from fun W hb => HP.out.plain HB4.out HRo.out HXo.out hb)
      have hol : out.length ≤ 300 := by
        have h1 := congrArg List.length HMo.out
        have h2 := plain_len (firsts l)
        have h3 : (firsts l).length ≤ 300 := by simp [firsts]; omega
        rw [List.length_map] at h1
        omega
      have hot := ownTexts_calls A6 c6 us w6 (by omega) HTx.out.seq (own_seqs HTx.out.own (fun p hp => by have := (hplu p hp).2; omega))
      have HOt := Lib.hid hot
      clear hot hplu hp6 hbd
      go_upto_region 11 with (go_at_call 20; go_loud (refine HOt.out.mono ?_; rintro e7 w7 ⟨A7, c7, vs, rfl, hvs, hrow, hown, hap, hb7⟩; have hz7 := hb7.size; have HVs := Lib.hid hvs; have HV := Lib.hid (⟨hrow, hown, hap⟩ : TextsAt w7 w6.heap.size A7 c7 vs); have HB67 := Lib.hid hb7; have HB47 := Lib.hid (HB46.out.trans (hb7.mono HB46.out.size)); clear hvs hrow hown hap hb7))
      have hvb : vs.length ≤ 1300 := by
        have h1 := congrArg List.length HVs.out
        rw [List.length_map, List.length_map] at h1
        omega
      have hvc := own_cap HV.out.row
      obtain ⟨b, hb⟩ : ∃ b : Bool, (b = true ↔ 0 ≤ cut ∧ cut < (vs.length : Int)) := ⟨decide (0 ≤ cut ∧ cut < (vs.length : Int)), by simp⟩
      have HBb := Lib.hid hb
      clear hb
      go_cut [48] from 41 to 47 (fun v wx => v = .bool b ∧ w7 = wx)
      case first =>
        by_cases h0 : 0 ≤ cut
        · have d0c : decide (cut ≥ 0) = true := decide_eq_true h0
          have d0d : decide (0 ≤ cut) = true := decide_eq_true h0
          by_cases h1 : cut < (vs.length : Int)
          · have d1c : decide (cut < (vs.length : Int)) = true := decide_eq_true h1
            obtain rfl : b = true := HBb.out.2 ⟨h0, h1⟩
            go_wp2_with fail
            go_meet
            case rel => exact ⟨rfl, rfl⟩
          · have d1c : decide (cut < (vs.length : Int)) = false := decide_eq_false h1
            obtain rfl : b = false := by
              cases b with
              | false => rfl
              | true => exact absurd (HBb.out.1 rfl).2 h1
            go_wp2_with fail
            go_meet
            case rel => exact ⟨rfl, rfl⟩
        · have d0c : decide (cut ≥ 0) = false := decide_eq_false h0
          have d0d : decide (0 ≤ cut) = false := decide_eq_false h0
          obtain rfl : b = false := by
            cases b with
            | false => rfl
            | true => exact absurd (HBb.out.1 rfl).1 h0
          go_wp2_with fail
          go_meet
          case rel => exact ⟨rfl, rfl⟩
      case rest =>
        obtain ⟨rfl, rfl⟩ := hcut
        go_upto_if 48 with fail
        go_cut [12] from 48 to 51 (fun v wx => (∃ m : Nat, m ≤ vs.length ∧ v = .slice A7 m c7) ∧ w7 = wx)
        case first =>
          cases b with
          | true =>
            obtain ⟨h0, h1⟩ := HBb.out.1 rfl
            obtain ⟨m, rfl⟩ : ∃ m : Nat, cut = (m : Int) := ⟨cut.toNat, by omega⟩
            have lm : (m : Int) ≤ (c7 : Int) := by omega
            have lm0 : (0 : Int) ≤ (m : Int) := by omega
            go_wp2_with fail
            go_meet
            case rel => exact ⟨⟨m, by omega, rfl⟩, rfl⟩
          | false =>
            go_wp2_with fail
            go_meet
            case rel => exact ⟨⟨vs.length, by omega, rfl⟩, rfl⟩
        case rest =>
          obtain ⟨⟨m, hm, rfl⟩, rfl⟩ := hcut
          have htk := HV.out.take m hm
          have htl : (vs.take m).length = m := by rw [List.length_take]; omega
          have hvlen : ∀ p ∈ vs, p.2.2.length ≤ 262944 := mem_txt (fun p hp => (HPlu.out p hp).2) HVs.out
          have hpb : ps.length ≤ 131072 := by omega
          have hw7 : Below w.heap.size w w7 := HB4.out.trans (HB47.out.mono HB4.out.size)
          have hot := ownTexts_calls A3 c3 ps w7 (by omega) (HS3.out.now hw7) (fun p hp => ⟨(HP3.out p hp).2.2.2.now hw7, by have := HPs1.out p hp; omega⟩)
          have HOt7 := Lib.hid hot
          have HTk := Lib.hid htk
          have HTl := Lib.hid htl
          have HVl := Lib.hid hvlen
          clear hot htk htl hvlen hw7 HOt
          go_upto_region 14 with (first
            | (go_at_call 20; go_loud (refine HOt7.out.mono ?_; rintro e8 w8 ⟨A8, c8, qs, rfl, hqs, hrow, hown, hap, hb8⟩; have hz8 := hb8.size; have hql := congrArg List.length hqs; rw [List.length_map, List.length_map] at hql; have hqb : qs.length ≤ 131072 := (by omega); have HQl := Lib.hid hql; clear hql; have HQs := Lib.hid hqs; have HQ := Lib.hid (⟨hrow, hown, hap⟩ : TextsAt w8 w7.heap.size A8 c8 qs); have HTk8 := Lib.hid (own_below' HTk.out hb8); have HB78 := Lib.hid hb8; clear hqs hrow hown hap hb8))
            | (at_builtin; go_loud (refine wpL_append rfl (.tmp 52) (.tmp 54) 25 rfl elText rfl HTk8.out rfl (by rw [pcs_length, Nat.mul_one]) (Seq.of_own HQ.out.row) (pcs_one _) (by unfold maxLen; omega) (by omega) (by omega) ?_; intro A9 c9 w9 ho9 hg9 _; have HO9 := Lib.hid ho9; have HG9 := Lib.hid hg9; clear ho9 hg9)))
          have hz46 := HB46.out.size
          have hz67 := HB67.out.size
          have htf := ((HV.out.front m hm).below HB78.out)
          have ht9 : TextsAt w9 w6.heap.size A9 c9 (vs.take m ++ qs) := htf.app (HQ.out.mono hz67) ((HV.out.front m hm).cross HQ.out (Nat.le_refl _)) (by rw [HTl.out]; exact HO9.out) (by rw [HTl.out]; exact HG9.out)
          have hb79 : Below w6.heap.size w6 w9 := (HB67.out.trans (HB78.out.mono hz67)).grown HG9.out (by omega) (fun g hg => (HTk8.out.lt g hg).1)
          have htl9 : (vs.take m ++ qs).length = m + qs.length := by rw [List.length_append, HTl.out]
          have hlen9 : ∀ p ∈ vs.take m ++ qs, p.2.2.length ≤ 262944 := fun p hp => by
            rcases List.mem_append.1 hp with h | h
            · exact HVl.out p (List.mem_of_mem_take h)
            · have := mem_txt (fun p hp => HPs1.out p hp) HQs.out p h
              omega
          obtain ⟨ts, hts⟩ : ∃ ts, vs.take m ++ qs = ts := ⟨_, rfl⟩
          rw [hts] at ht9 htl9 hlen9
          rw [← htl9]
          have htsb : ts.length ≤ 200000 := by omega
          have HT9 := Lib.hid ht9
          have HL9 := Lib.hid hlen9
          have HB69 := Lib.hid hb79
          have HB49 := Lib.hid (HB46.out.trans (hb79.mono hz46))
          clear htf ht9 hb79 htl9 hlen9 hts HTk HTk8 HTl HQ HQl HQs HOt7 HO9 HG9
          obtain ⟨F9, hp9⟩ := (HTr4.out.below HB49.out).pre
          obtain ⟨E, hE⟩ : ∃ E, hashS (encT hashL s.1) = E := ⟨_, rfl⟩
          have hrc := root_calls _ _ _ _ _ _ _ _ hp9
          rw [hE] at hrc
          have HRc := Lib.hid hrc
          obtain ⟨V, hV⟩ : ∃ V, gT s.1 (nib key) = V := ⟨_, rfl⟩
          have hgV : getL key (out.map saidP) = V := by
            rw [HMo.out, ← HAl.out.get key, ← hV]
            rfl
          have hhV : hasL key (out.map saidP) = !V.isEmpty := by
            rw [has_get (fun x hx => by rw [HMo.out] at hx; exact (HAl.out.full x hx).1), hgV]
          have hin := fun (W : World) (hb : Below w4.heap.size w4 W) => by
            have h1 := in_calls Ao co out A2 c2 key W (by omega) (HOin.out W hb) (HS.out.now (HB4.out.trans (hb.mono HB4.out.size)))
            unfold InPost at h1
            rw [hgV, hhV] at h1
            exact h1
          obtain ⟨cr, hcr⟩ : ∃ cr, checkT hashL (listOf E 32) (ts.map txt) (nib key) = cr := ⟨_, rfl⟩
          have hgood : ∀ v, cr = some v → v ≠ V → ¬ NoClash hashL (ts.map txt) (us.map txt) := fun v hv hne hc => by
            rw [HUs.out] at hc
            have h1 := check_exact (M := 131072) hashL_length (by omega) HAl.out.good HBd.out (nib_nibs key) hc
            rw [← hE] at hcr
            rw [show listOf (hashS (encT hashL s.1)) 32 = hashL (encT hashL s.1) from rfl, h1, hv, hV] at hcr
            split at hcr
            · exact hne (Option.some.inj hcr).symm
            · cases hcr
          have hchk := fun (W : World) (Ak : Option Addr) (ck : Nat) (hb : Below w9.heap.size w9 W) (hs : Seq W W.heap.size Ak (bytes key)) =>
            check_calls E Ak ck key (.slice A9 ts.length c9) (ts.map txt) W (HT.out.now (HB4.out.trans ((HB49.out.trans (hb.mono HB49.out.size)).mono HB4.out.size))) (HE.out.now HLw.out (HB4.out.trans ((HB49.out.trans (hb.mono HB49.out.size)).mono HB4.out.size))) (HLw.out.now (HB4.out.trans ((HB49.out.trans (hb.mono HB49.out.size)).mono HB4.out.size))) hk hs ((HT9.out.below hb).rowAt (fun p hp => by have := HL9.out p hp; omega))
          rw [hcr] at hchk
          have HChk := Lib.hid hchk
          have HIn := Lib.hid hin
          have HGood := Lib.hid hgood
          have hz49 := HB49.out.size
          have hz69 := HB69.out.size
          have HBw9 := Lib.hid (HB4.out.trans (HB49.out.mono HB4.out.size))
          have HU9 := Lib.hid (HTx.out.below HB69.out)
          clear hrc hp9 hE hV hgV hhV hin hcr hgood hchk
          cases cr with
          | none =>
            go_wp2_with (first
              | (go_at_call 23; go_loud (refine HRc.out.mono ?_; rintro e10 w10 ⟨rfl, hb10⟩; have HB10 := Lib.hid hb10; clear hb10))
              | (go_at_call 19; go_loud (refine (ownL_calls A2 c2 w10.heap.size key w10 hk (HS.out.now (HBw9.out.trans (HB10.out.mono HBw9.out.size)))).mono ?_; rintro e11 w11 ⟨A11, c11, rfl, ho11, hb11⟩; have HO11 := Lib.hid (Seq.of_own ho11); have HB11 := Lib.hid (HB10.out.trans (hb11.mono HB10.out.size)); clear ho11 hb11))
              | (go_at_call 24; go_loud (refine (HChk.out w11 A11 c11 HB11.out HO11.out).mono ?_; rintro e12 w12 ⟨rfl, hb12⟩; have HB12 := Lib.hid (HB11.out.trans (hb12.mono HB11.out.size)); clear hb12)))
            go_ret
            exact ⟨rfl, HBw9.out.trans (HB12.out.mono HBw9.out.size)⟩
          | some v =>
            have HCl := Lib.hid (fun (W : World) (hb : Below w9.heap.size w9 W) => clash_calls A9 c9 ts A6 c6 us W (HT.out.now (HBw9.out.trans (hb.mono HBw9.out.size))) (by omega) (by omega) (HT9.out.below hb).seq (HU9.out.below hb).seq (own_seqs (HT9.out.below hb).own (fun p hp => by have := HL9.out p hp; omega)) (own_seqs (HU9.out.below hb).own (fun p hp => by have := (HPlu.out p hp).2; omega)))
            by_cases hv : v = V
            · subst hv
              have HSm := Lib.hid (show ∀ (W : World) (Aa Ab : Option Addr) (ca cb : Nat), Seq W W.heap.size Aa (bytes v) → Seq W W.heap.size Ab (bytes v) → Calls Tryd.prog 27 #[.slice Aa v.length ca, .slice Ab v.length cb] W (fun e w' => e = .returned (.bool true) ∧ w' = W) from fun W Aa Ab ca cb h1 h2 => by
                refine (sameLE_calls Aa ca W.heap.size v Ab cb v W h1 h2).mono ?_
                rintro e w' ⟨rfl, rfl⟩
                exact ⟨by simp, rfl⟩)
              go_wp2_with (first
                | (go_at_call 23; go_loud (refine HRc.out.mono ?_; rintro e10 w10 ⟨rfl, hb10⟩; have HB10 := Lib.hid hb10; clear hb10))
                | (go_at_call 19; go_loud (refine (ownL_calls A2 c2 w10.heap.size key w10 hk (HS.out.now (HBw9.out.trans (HB10.out.mono HBw9.out.size)))).mono ?_; rintro e11 w11 ⟨A11, c11, rfl, ho11, hb11⟩; have HO11 := Lib.hid (Seq.of_own ho11); have HB11 := Lib.hid (HB10.out.trans (hb11.mono HB10.out.size)); clear ho11 hb11))
                | (go_at_call 24; go_loud (refine (HChk.out w11 A11 c11 HB11.out HO11.out).mono ?_; rintro e12 w12 ⟨A12, c12, rfl, ho12, hb12⟩; have HO12 := Lib.hid (show Seq w12 w12.heap.size A12 (bytes v) from ho12.seq); have HB12 := Lib.hid (HB11.out.trans (hb12.mono HB11.out.size)); clear ho12 hb12))
                | (go_at_call 26; go_loud (refine (HIn.out w12 (HB49.out.trans (HB12.out.mono hz49))).mono ?_; rintro e13 w13 ⟨A13, c13, rfl, hs13, hb13⟩; have HS13 := Lib.hid hs13; have HS12 := Lib.hid (HO12.out.now hb13); have HB13 := Lib.hid (HB12.out.trans (hb13.mono HB12.out.size)); clear hs13 hb13))
                | (go_at_call 27; go_loud (refine (HSm.out w13 A12 A13 c12 c13 HS12.out HS13.out).mono ?_; rintro e14 w14 ⟨rfl, rfl⟩)))
              go_ret
              exact ⟨rfl, HBw9.out.trans (HB13.out.mono HBw9.out.size)⟩
            · have HNc := Lib.hid (HGood.out v rfl hv)
              have hvb : (v == V) = false := by simpa using hv
              have HSm := Lib.hid (show ∀ (W : World) (Aa Ab : Option Addr) (ca cb : Nat), Seq W W.heap.size Aa (bytes v) → Seq W W.heap.size Ab (bytes V) → Calls Tryd.prog 27 #[.slice Aa v.length ca, .slice Ab V.length cb] W (fun e w' => e = .returned (.bool false) ∧ w' = W) from fun W Aa Ab ca cb h1 h2 => by
                refine (sameLE_calls Aa ca W.heap.size v Ab cb V W h1 h2).mono ?_
                rintro e w' ⟨rfl, rfl⟩
                exact ⟨by rw [hvb], rfl⟩)
              obtain ⟨ba, hba⟩ : ∃ b, (!v.isEmpty) = b := ⟨_, rfl⟩
              obtain ⟨bb, hbb⟩ : ∃ b, (!V.isEmpty) = b := ⟨_, rfl⟩
              have HBa := Lib.hid hba
              have HBb2 := Lib.hid hbb
              clear hvb hv hba hbb
              go_upto_region 18 with (first
                | (go_at_call 23; go_loud (refine HRc.out.mono ?_; rintro e10 w10 ⟨rfl, hb10⟩; have HB10 := Lib.hid hb10; clear hb10))
                | (go_at_call 19; go_loud (refine (ownL_calls A2 c2 w10.heap.size key w10 hk (HS.out.now (HBw9.out.trans (HB10.out.mono HBw9.out.size)))).mono ?_; rintro e11 w11 ⟨A11, c11, rfl, ho11, hb11⟩; have HO11 := Lib.hid (Seq.of_own ho11); have HB11 := Lib.hid (HB10.out.trans (hb11.mono HB10.out.size)); clear ho11 hb11))
                | (go_at_call 24; go_loud (refine (HChk.out w11 A11 c11 HB11.out HO11.out).mono ?_; rintro e12 w12 ⟨A12, c12, rfl, ho12, hb12⟩; rw [HBa.out]; have HO12 := Lib.hid (show Seq w12 w12.heap.size A12 (bytes v) from ho12.seq); have HB12 := Lib.hid (HB11.out.trans (hb12.mono HB11.out.size)); clear ho12 hb12))
                | (go_at_call 26; go_loud (refine (HIn.out w12 (HB49.out.trans (HB12.out.mono hz49))).mono ?_; rintro e13 w13 ⟨A13, c13, rfl, hs13, hb13⟩; rw [HBb2.out]; have HS13 := Lib.hid hs13; have HS12 := Lib.hid (HO12.out.now hb13); have HB13 := Lib.hid (HB12.out.trans (hb13.mono HB12.out.size)); clear hs13 hb13)))
              cases ba <;> cases bb
              all_goals
                go_wp2_with (first
                  | (go_at_call 27; go_loud (refine (HSm.out w13 A12 A13 c12 c13 HS12.out HS13.out).mono ?_; rintro e14 w14 ⟨rfl, rfl⟩))
                  | (go_at_call 28; go_loud (refine (HCl.out w14 HB13.out).mono ?_; rintro e15 w15 ⟨r, rfl, hr, hb15⟩; have hrt : r = true := (by cases r with | true => rfl | false => exact absurd (hr rfl) HNc.out); subst hrt; have HB15 := Lib.hid (HB13.out.trans (hb15.mono HB13.out.size)); clear hr hb15))
                  | (go_at_call 28; go_loud (refine (HCl.out w13 HB13.out).mono ?_; rintro e15 w15 ⟨r, rfl, hr, hb15⟩; have hrt : r = true := (by cases r with | true => rfl | false => exact absurd (hr rfl) HNc.out); subst hrt; have HB15 := Lib.hid (HB13.out.trans (hb15.mono HB13.out.size)); clear hr hb15)))
                go_ret
                exact ⟨rfl, HBw9.out.trans (HB15.out.mono HBw9.out.size)⟩
    · have d1 : decide ((100 : Int) < (l.length : Int)) = true := decide_eq_true (by omega)
      go_wp2_with fail
      go_ret
      exact ⟨rfl, HB2.out⟩
  · rename_i hgt
    have d0 : decide ((131072 : Int) < (n : Int)) = true := decide_eq_true (by omega)
    go_wp2_with fail
    go_ret
    exact ⟨rfl, HB2.out⟩
-- CARD
set_option maxRecDepth 100000 in
theorem trieSound_lifted (os : Os) (started : os.Started) (H : Type) (enc : TypeId × Value → H) :
    ReturnsInHanded {} Tryd.checked os 6 .any (fun w args => (Rows.trieSoundSpec.pre enc Tryd.prog Tryd.f6 [] false w args ∧ laidMetH Tryd.prog seatLaid w) ∧ sizedMet enc Tryd.prog Tryd.f6 (OpenSpec.ofChange Rows.trieSoundSpec) false w args)
      (Rows.trieSoundSpec.post enc Tryd.prog Tryd.f6 false true false false) := by
  refine returnsInHanded_of_change_and (C := Tryd.checked) (X := fun w _ => laidMetH Tryd.prog seatLaid w) (fun _ _ _ hh h => h.of_heap hh) own started (by kernel_rfl) Tryd.func6
    (ChangeSpec.witness_shaped (enc := enc) (C := Tryd.checked) (os := os) (X := fun w _ => laidMetH Tryd.prog seatLaid w) false (World.laidAll Tryd.prog os seatLaid) #[.slice none 0 0, .slice none 0 0, .slice none 0 0, .int .i64 0] 8 (World.laidAll_os _ _ _)
      (World.shaped_of_ZipB (by kernel_rfl) (by kernel_rfl)) (by kernel_rfl) (by kernel_rfl) (by kernel_rfl)
      (by rw [MakeChecks.laidMetH_plain _ _ _ (by kernel_rfl)]; exact laidMet_laidAll _ (by kernel_rfl) (by kernel_rfl))) ?_
  intro W base args ds gs before hval0 hW _ hsz hL0 _
  rw [MakeChecks.laidMetH_plain _ _ _ (by kernel_rfl)] at hL0
  have hT := tables_of_laid hL0
  have hval : ∀ (j : Nat) t v, Tryd.f6.params[j]? = some t → args[j]? = some v → Value.okWide Tryd.prog W .any base t v := hval0
  have hW' := hW
  obtain ⟨p, q, hA0, hV, rfl, hfz, hnd⟩ := hW
  have hA : DataW.TrodAll enc Tryd.prog W 0 (fun _ => true) true Tryd.f6.params.toList args.toList ds p := hA0
  rw [Tryd.params6] at hA hval
  obtain ⟨v0, vs0, d0, ds0, p0, q0, hargs, rfl, rfl, h0, r0⟩ := trodAll_cons hA
  obtain ⟨v1, vs1, d1, ds1, p1, q1, rfl, rfl, rfl, h1, r1⟩ := trodAll_cons r0
  obtain ⟨v2, vs2, d2, ds2, p2, q2, rfl, rfl, rfl, h2, r2⟩ := trodAll_cons r1
  obtain ⟨v3, vs3, d3, ds3, p3, q3, rfl, rfl, rfl, h3, r3⟩ := trodAll_cons r2
  obtain ⟨rfl, rfl, rfl⟩ := trodAll_nil r3
  obtain rfl : args = #[v0, v1, v2, v3] := by cases args; simp_all
  obtain ⟨rfl, rfl⟩ := trodVars_none hV
  have k0 := h0
  have lt0 : ∀ x ∈ p0, x.block < W.heap.size := by obtain ⟨m, hm⟩ := k0; exact DataW.trod_lt m _ _ _ hm
  have k1 := h1
  have lt1 : ∀ x ∈ p1, x.block < W.heap.size := by obtain ⟨m, hm⟩ := k1; exact DataW.trod_lt m _ _ _ hm
  have k2 := h2
  have lt2 : ∀ x ∈ p2, x.block < W.heap.size := by obtain ⟨m, hm⟩ := k2; exact DataW.trod_lt m _ _ _ hm
  have k3 := h3
  have lt3 : ∀ x ∈ p3, x.block < W.heap.size := by obtain ⟨m, hm⟩ := k3; exact DataW.trod_lt m _ _ _ hm
  have wt0 : ∀ n ∈ d0.weights Tryd.prog 34, n ≤ reachBytes := fun n hn => by have := List.all_eq_true.1 hsz n (DataW.weights_mem_each (j := 0) (t := 34) (d := d0) (by rw [Tryd.params6]; rfl) rfl n hn); simpa using this
  obtain ⟨A0, C0, L0, rfl, hc0, hm0, hr0, hq0⟩ := open_pairs Tryd.underlying34 Tryd.underlying40 rfl rfl rfl rfl Tryd.underlying24 Tryd.underlying5 (by kernel_rfl) (by kernel_rfl) (by kernel_rfl) (by kernel_rfl) (by kernel_rfl) (hval 0 _ v0 rfl rfl) h0 wt0
  have wt1 : ∀ n ∈ d1.weights Tryd.prog 24, n ≤ reachBytes := fun n hn => by have := List.all_eq_true.1 hsz n (DataW.weights_mem_each (j := 1) (t := 24) (d := d1) (by rw [Tryd.params6]; rfl) rfl n hn); simpa using this
  obtain ⟨A1, C1, L1, rfl, hc1, hm1, hr1, hq1⟩ := open_bytes Tryd.underlying24 Tryd.underlying5 (by kernel_rfl) (by kernel_rfl) (hval 1 _ v1 rfl rfl) h1 wt1
  have wt2 : ∀ n ∈ d2.weights Tryd.prog 25, n ≤ reachBytes := fun n hn => by have := List.all_eq_true.1 hsz n (DataW.weights_mem_each (j := 2) (t := 25) (d := d2) (by rw [Tryd.params6]; rfl) rfl n hn); simpa using this
  obtain ⟨A2, C2, L2, rfl, hc2, hm2, hr2, hq2, hp2⟩ := open_pieces Tryd.underlying25 Tryd.underlying24 Tryd.underlying5 (by kernel_rfl) (by kernel_rfl) (by kernel_rfl) (by kernel_rfl) (hval 2 _ v2 rfl rfl) h2 wt2
  obtain ⟨z3, rfl, _, _, hz3⟩ := open_int Tryd.underlying3 (hval 3 _ v3 rfl rfl) h3
  clear hA0 hval0
  refine (sound_walk A0 C0 L0 A1 C1 L1 A2 C2 L2 z3 W hT.tables hT.errs hT.low (Nat.le_trans hr0 (by decide)) hq0 (Nat.le_trans hr1 (by decide)) hq1 (Nat.le_trans hr2 (by decide)) hq2 hp2).mono fun e W' ⟨he, bel⟩ => ?_
  subst he
  exact ⟨_, rfl, _, _, _, [], _, [], hW', trodAll_mk1 (shut_bool Tryd.underlying4 _), (trodAll_cons_mk (Below.trod laidOut (by kernel_rfl) (of_decide_eq_true (by kernel_rfl)) k0 bel lt0) (trodAll_cons_mk (Below.trod laidOut (by kernel_rfl) (of_decide_eq_true (by kernel_rfl)) k1 bel lt1) (trodAll_cons_mk (Below.trod laidOut (by kernel_rfl) (of_decide_eq_true (by kernel_rfl)) k2 bel lt2) (trodAll_cons_mk (Below.trod laidOut (by kernel_rfl) (of_decide_eq_true (by kernel_rfl)) k3 bel lt3) trodAll_mk0)))), rfl, bel.frame _, fun h => by cases h⟩
theorem trieSound_holds : Rows.TrieSoundSaid :=
  OpenClaim.holds_of_wide 6 Tryd.f6 rfl rfl rfl rfl rfl rfl rfl ⟨rfl, rfl, rfl, rfl, rfl⟩ rfl rfl rfl rfl rfl (by kernel_rfl) Tryd.func6 (by kernel_rfl)
    (of_decide_eq_true (by kernel_rfl)) (by unfold Func.isWrapper; first | (rw [if_pos (by decide +kernel)]; kernel_rfl) | (rw [if_neg (by decide +kernel)]; exact ⟨rfl, rfl⟩))
    (fun os started H enc _ => trieSound_lifted os started H enc)
theorem trieSound_card : Rows.TrieSoundCardSaid :=
  Claim7.holds_tied_plain_at .later [] [.data, .data, .sentinel, .sentinel, .sentinel] true (true, "ec30def8b2b8a437d7ef0fa14b81e6223ecfebe468af8085b9789efc9ac0fbf0") false trieSound_holds (fun _ h => by cases h) (by kernel_rfl) (fun _ h => by cases h) trieSound_row_tie rfl ⟨rfl, rfl⟩ (by kernel_rfl) rfl
    (fun f fn hf hfn => by
      obtain rfl : f = 6 := Option.some.inj ((show Tryd.prog.funcNamed "vouch/vouchlaw26.TrieSound" = some 6 by kernel_rfl).symm.trans hf) |>.symm
      obtain rfl : fn = Tryd.f6 := (Option.some.inj (Tryd.func6.symm.trans hfn)).symm
      exact ⟨by kernel_rfl, fun j t ht => by
        rw [Tryd.params6] at ht
        have hm : t ∈ ([34, 24, 25, 3] : List TypeId) := by simpa using Array.mem_of_getElem? ht
        have hall : (([34, 24, 25, 3] : List TypeId).all fun u => !Tryd.prog.wantsStandIn u) = true := by kernel_rfl
        exact (show Tryd.prog.wantsStandIn t = false by simpa using List.all_eq_true.1 hall t hm)⟩)
    (by kernel_rfl)
end Go.Proofs.YtfhindffmghlaaaDoor
