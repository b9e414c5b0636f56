/- TrieProves: a proof is taken, and tells what is there: of every key that is there, and of another one. -/
import Derived.Test.YtfhindffmghlaaaDoorMTLawB
import Derived.Deep.RegionHeld3
import Derived.Test.YtfhindffmghlaaaDoorMTTables
import Derived.Test.YtfhindffmghlaaaDoorCards
import Derived.Deep.CutRange
import Derived.Deep.CutBlock
set_option linter.unusedVariables false
set_option linter.unusedSimpArgs false
namespace Go.Proofs.YtfhindffmghlaaaDoor
open Go.RowKit Go.ChangeShapes Go.WideShapes
attribute [local irreducible] Calls in
set_option maxHeartbeats 4000000 in
set_option maxRecDepth 20000 in
theorem proves_walk (A : Option Addr) (c : Nat) (l : List PairL) (A2 : Option Addr) (c2 : Nat) (key : List UInt8) (w : World) (hT : Tables w) (hE : Errs w) (hLw : Lows w.heap.size)
    (hl : l.length ≤ 140737488355328) (hp : PairsIn w w.heap.size A l) (hk : key.length ≤ 140737488355328) (hs : Seq w w.heap.size A2 (bytes key)) :
    Calls Tryd.prog 5 #[.slice A l.length c, .slice A2 key.length c2] w fun e w' => e = .returned (.bool true) ∧ Below w.heap.size w w' := by
  have HT := Lib.hid hT
  have HE := Lib.hid hE
  have HLw := Lib.hid hLw
  have HP := Lib.hid hp
  have HS := Lib.hid hs
  clear hT hE hLw hp hs
  go_enter Tryd.func5, Tryd.ntmps5
  go_upto_region 3 with (go_at_call 15; refine (able_calls w HT.out HE.out HLw.out).mono ?_; rintro e1 w1 ⟨rfl, hb1⟩; have hz1 := hb1.size; have HB1 := Lib.hid hb1; clear hb1)
  go_upto_if 24 with (go_at_call 16; go_loud (refine (weight_calls A c l none 0 [] w1 hl (HP.out.now HB1.out) (by simp) Seq.none_ (by simp)).mono ?_; rintro e2 w2 ⟨n, rfl, hn, hn2, hb2⟩; have hz2 := hb2.size; have HN := Lib.hid hn; have HB2 := Lib.hid (HB1.out.trans (hb2.mono hz1)); clear hn hb2))
  · rename_i hle
    have hle' : n ≤ 131072 := by omega
    obtain ⟨hl1, hpl, _⟩ := HN.out hle'
    have d0 : decide ((131072 : Int) < (n : Int)) = false := decide_eq_false (by omega)
    by_cases h60 : l.length ≤ 60
    · have d1 : decide ((60 : Int) < (l.length : Int)) = false := decide_eq_false (by omega)
      obtain ⟨s, hsq⟩ : ∃ s, laidS (firsts l) = s := ⟨_, rfl⟩
      have hlaid := laid_calls A c l w2 (by omega) (HT.out.now HB2.out) (HP.out.now HB2.out) hpl
      rw [hsq] at hlaid
      have HLaid := Lib.hid hlaid
      have hz02 := HB2.out.size
      have halike := alike_laid (firsts l)
      rw [hsq] at halike
      have HAl := Lib.hid halike
      have HPlen := Lib.hid hpl
      clear HN hlaid hpl hsq halike
      go_upto_region 9 with (first
        | (go_at_call 21; go_loud (refine HLaid.out.mono ?_; rintro e3 w3 ⟨rfl, ht3, hb3⟩; have hz3 := hb3.size; have HTr3 := Lib.hid ht3; have HB3 := Lib.hid (HB2.out.trans (hb3.mono hz02)); clear ht3 hb3))
        | (go_at_call 22; go_loud (refine (plain_calls A c l w3 (by omega) (HP.out.now HB3.out) (fun x hx => by have := HPlen.out x hx; omega)).mono ?_; rintro e4 w4 ⟨Ao, co, out, rfl, hro, hmo, hxo, hb4⟩; have hz4 := hb4.size; have HRo := Lib.hid hro; have HMo := Lib.hid hmo; have HXo := Lib.hid hxo; have HTr4 := Lib.hid (HTr3.out.below hb4); have HB4 := Lib.hid (HB3.out.trans (hb4.mono (by omega))); clear hro hmo hxo hb4)))
      obtain ⟨F4, hp4⟩ := HTr4.out.pre
      have hbd := hp4.bnd
      obtain ⟨E, hE⟩ : ∃ E, hashS (encT hashL s.1) = E := ⟨_, rfl⟩
      have hrc := root_calls _ _ _ _ _ _ _ _ hp4
      rw [hE] at hrc
      have HRc := Lib.hid hrc
      have HE4 := Lib.hid hE
      have HBd := Lib.hid hbd
      have HOin := Lib.hid (show ∀ W, Below w4.heap.size w4 W → PairsIn W W.heap.size Ao out from fun W hb => HP.out.plain HB4.out HRo.out HXo.out hb)
      have hol : out.length ≤ 300 := by
        have h1 := congrArg List.length HMo.out
        have h2 := plain_len (firsts l)
        have h3 : (firsts l).length ≤ 300 := by simp [firsts]; omega
        rw [List.length_map] at h1
        omega
      clear hp4 hbd hrc hE
      go_upto_region 10 with (first
        | (go_at_call 23; go_loud (refine HRc.out.mono ?_; rintro e5 w5 ⟨rfl, hb5⟩; have hz5 := hb5.size; have HB5 := Lib.hid hb5; clear hb5))
        | (refine wpL_alloc rfl 23 rfl (tab 32 fun _ => .int .u8 0) (by kernel_rfl) ?_)
        | (refine wpL_storeA rfl 23 (.tmp 7) (.tmp 32) rfl 0 rfl rfl (Blk.new w5 _ _) (by omega) (by kernel_rfl) (fun _ => rfl) ?_; intro w6 ho hk; have hb := ho.below ((Below.refl w5.heap.size w5).alloc (Nat.le_refl _) _) (Nat.le_refl _); have HB6 := Lib.hid (HB5.out.trans (hb.mono HB5.out.size)); have HK6 := Lib.hid (hk.same (over_whole _ _ _)); clear ho hk hb))
      have hz6 := HB6.out.size
      have hw5 : w5.heap.size < w6.heap.size := HK6.out.lt
      go_wp2_with fail
      go_loopw [8, 9, 10, 11, 12, 13, 14] (fun i _ _ _ _ _ _ wr => ∃ k : Nat, k ≤ out.length + 1 ∧ i = .int .i64 k ∧ Below w6.heap.size w6 wr) (fun i _ _ _ _ _ _ _ => out.length + 1 - (intOf i).toNat)
      case atStart => exact ⟨0, by omega, rfl, Below.refl _ _⟩
      case round =>
        obtain ⟨k, hk1, rfl, hbl⟩ := hrel
        rename World => w7
        have hz7 := hbl.size
        have HBl := Lib.hid hbl
        have HB47 := Lib.hid (HB6.out.trans (hbl.mono hz6))
        clear hbl
        by_cases hlt : k ≤ out.length
        · have dk : decide ((k : Int) ≤ (out.length : Int)) = true := decide_eq_true (by omega)
          have dk2 : decide (k ≤ out.length) = true := decide_eq_true hlt
          go_upto_if 43 with fail
          go_cut [9] from 42 to 48 (fun v wx => (∃ (Ak : Option Addr) (ck : Nat) (lk : List UInt8), v = .slice Ak lk.length ck ∧ Seq w7 w7.heap.size Ak (bytes lk) ∧ lk.length ≤ 140737488355328) ∧ w7 = wx)
          case first =>
            by_cases hko : k < out.length
            · have dko : decide ((k : Int) < (out.length : Int)) = true := decide_eq_true (by omega)
              have dko2 : decide (k < out.length) = true := decide_eq_true hko
              have lko : (k : Int) < (out.length : Int) := by omega
              have hpi := HOin.out w7 HB47.out
              obtain ⟨ad, rfl, _, q0, _⟩ := hpi.1.get k hko
              have hx := hpi.2 _ (List.getElem_mem hko)
              obtain ⟨x, hxe⟩ : ∃ x, out[k] = x := ⟨_, rfl⟩
              rw [hxe] at q0 hx
              obtain ⟨⟨Ak, ck, lk⟩, ⟨Av, cv, lv⟩⟩ := x
              simp only [pcV] at q0
              have HX := Lib.hid hx
              clear hx hpi hxe
              go_wp2_with fail
              go_meet
              case rel => exact ⟨⟨Ak, ck, lk, rfl, HX.out.1, Nat.le_trans HX.out.2.2.2.2.1 (by decide)⟩, rfl⟩
            · have dko : decide ((k : Int) < (out.length : Int)) = false := decide_eq_false (by omega)
              have dko2 : decide (k < out.length) = false := decide_eq_false hko
              go_wp2_with fail
              go_meet
              case rel => exact ⟨⟨A2, c2, key, rfl, HS.out.now (HB4.out.trans (HB47.out.mono HB4.out.size)), hk⟩, rfl⟩
          case rest =>
            obtain ⟨⟨Ak, ck, lk, rfl, hsk, hlk⟩, rfl⟩ := hcut
            obtain ⟨V, hV⟩ : ∃ V, gT s.1 (nib lk) = V := ⟨_, rfl⟩
            have hgV : getL lk (out.map saidP) = V := by
              rw [HMo.out, ← HAl.out.get lk, ← hV]
              rfl
            have hhV : hasL lk (out.map saidP) = !V.isEmpty := by
              rw [has_get (fun x hx => by rw [HMo.out] at hx; exact (HAl.out.full x hx).1), hgV]
            have hce : ∀ texts, texts = proofT hashL s.1 (nib lk) → checkT hashL (listOf E 32) texts (nib lk) = some V := fun texts he => by
              have h1 := check_exact (hash := hashL) (M := 131072) (t := s.1) (path := nib lk) (texts := texts) hashL_length (by omega) HAl.out.good HBd.out (nib_nibs lk) (fun i x y h1 h2 _ => by rw [he, h2] at h1; exact (Option.some.inj h1).symm)
              rw [if_pos he, hV] at h1
              rw [← HE4.out]
              exact h1
            have hchk := fun (W : World) (A8 : Option Addr) (c8 : Nat) (A' : Option Addr) (c' b' : Nat) (us : List Piece) (hb : Below w4.heap.size w4 W) (hs : Seq W W.heap.size A8 (bytes lk)) (he : us.map txt = proofT hashL s.1 (nib lk)) (ht : TextsAt W b' A' c' us) => by
              have h1 := check_calls E A8 c8 lk (.slice A' us.length c') (us.map txt) W (HT.out.now (HB4.out.trans (hb.mono HB4.out.size))) (HE.out.now HLw.out (HB4.out.trans (hb.mono HB4.out.size))) (HLw.out.now (HB4.out.trans (hb.mono HB4.out.size))) hlk hs (ht.rowAt (fun p hp => by have := (proofs_len HBd.out he p hp).2; omega))
              rw [hce _ he] at h1
              exact h1
            have hin := fun (W : World) (hb : Below w4.heap.size w4 W) (hb7 : Below w7.heap.size w7 W) => by
              have h1 := in_calls Ao co out Ak ck lk W (by omega) (HOin.out W hb) (hsk.now hb7)
              unfold InPost at h1
              rw [hgV, hhV] at h1
              exact h1
            have HChk := Lib.hid hchk
            have HIn := Lib.hid hin
            have HSk := Lib.hid hsk
            have hu42 := Tryd.underlying23
            have hi42 : (Tryd.prog.info? 23).map (·.size) = some (tab 32 (hashV E)).toList.length := by
              rw [show (tab 32 (hashV E)).toList.length = 32 by simp [tab]]
              kernel_rfl
            have HK7 := Lib.hid (HK6.out.below HBl.out HK6.out.lt)
            have HBd7 := Lib.hid (below_drewN (Below.refl w7.heap.size w7) 1)
            have hz47 := HB47.out.size
            obtain ⟨bV, hbV⟩ : ∃ b, (!V.isEmpty) = b := ⟨_, rfl⟩
            have HSm := Lib.hid (show ∀ (W : World) (Aa Ab : Option Addr) (ca cb : Nat), Seq W W.heap.size Aa (bytes V) → Seq W W.heap.size Ab (bytes V) → Calls Tryd.prog 27 #[.slice Aa V.length ca, .slice Ab V.length cb] W (fun e w' => e = .returned (.bool true) ∧ w' = W) from fun W Aa Ab ca cb h1 h2 => by
              refine (sameLE_calls Aa ca W.heap.size V Ab cb V W h1 h2).mono ?_
              rintro e w' ⟨rfl, rfl⟩
              exact ⟨by simp, rfl⟩)
            clear hV hgV hhV hce hchk hin hsk hbV
            go_upto_region 16 with fail
            go_region_held3 (fun w' => w'.rangeAt w5.heap.size 0 (tab 32 (hashV E)).toList) (first | exact rangeAt_blk k4 | exact rangeAt_blk k3 | exact rangeAt_blk k2 | exact rangeAt_blk k1 | exact rangeAt_blk HK7.out | go_keep)
              (first
                | (go_at_call 24; (refine (HChk.out w10 A8 c8 A10 c10 _ us (HB47.out.trans (HB10.out.mono hz47)) (HS8.out.now HB810.out) HUs.out HTx.out).mono ?_; rintro e11 w11 ⟨A11, c11, rfl, ho11, hb11⟩; have hb11' := HB10.out.trans (hb11.mono HB10.out.size); have k4 := HK7.out.below hb11' HK7.out.lt; have HS11 := Lib.hid (show Seq w11 w11.heap.size A11 (bytes V) from ho11.seq); have HB11 := Lib.hid hb11'; clear ho11 hb11 hb11'))
                | (go_at_call 25; obtain ⟨F9, hp9⟩ := (HTr4.out.below (HB47.out.trans (HB9.out.mono hz47))).pre; (refine (prove_calls w2.heap.size 131072 600 w2.heap.size s.1 s.2 F9 A9 c9 lk w9 hlk hp9 HS9.out).mono ?_; clear hp9; rintro e10 w10 ⟨A10, c10, us, rfl, hus, hrow, hown, hap, hb10⟩; have hb10' := HB9.out.trans (hb10.mono HB9.out.size); have k3 := HK7.out.below hb10' HK7.out.lt; have HUs := Lib.hid hus; have HTx := Lib.hid (⟨hrow, hown, hap⟩ : TextsAt w10 w9.heap.size A10 c10 us); have HB810 := Lib.hid (HB89.out.trans (hb10.mono HB89.out.size)); have HB10 := Lib.hid hb10'; clear hus hrow hown hap hb10 hb10'))
                | (go_at_call 19; (refine (ownL_calls Ak ck w7.heap.size lk w8 hlk (HSk.out.below HB8.out (Nat.le_refl _))).mono ?_; rintro e9 w9 ⟨A9, c9, rfl, ho9, hb9⟩; have hb9' := HB8.out.trans (hb9.mono HB8.out.size); have k2 := HK7.out.below hb9' HK7.out.lt; have HS9 := Lib.hid (Seq.of_own ho9); have HB89 := Lib.hid hb9; have HB9 := Lib.hid hb9'; clear ho9 hb9 hb9'))
                | (go_at_call 19; (refine (ownL_calls Ak ck w7.heap.size lk w7.drew hlk (HSk.out.below HBd7.out (Nat.le_refl _))).mono ?_; rintro e8 w8 ⟨A8, c8, rfl, ho8, hb8⟩; have hb8' := HBd7.out.trans hb8; have k1 := HK7.out.below hb8' HK7.out.lt; have HS8 := Lib.hid (Seq.of_own ho8); have HB8 := Lib.hid hb8'; clear ho8 hb8 hb8')))
            have HB4b := Lib.hid (HB47.out.trans (HB11.out.mono hz47))
            go_wp2_with (first
              | (go_at_call 26; go_loud (refine (HIn.out w11 HB4b.out HB11.out).mono ?_; rintro e12 w12 ⟨A12, c12, rfl, hs12, hb12⟩; have HS12 := Lib.hid hs12; have HS11b := Lib.hid (HS11.out.now hb12); have HB12 := Lib.hid (HB11.out.trans (hb12.mono HB11.out.size)); clear hs12 hb12))
              | (go_at_call 27; go_loud (refine (HSm.out w12 A11 A12 c11 c12 HS11b.out HS12.out).mono ?_; rintro e13 w13 ⟨rfl, rfl⟩)))
            exact ⟨⟨k + 1, by omega, by go_num, HBl.out.trans (HB12.out.mono hz7)⟩, by simp [intOf]; omega⟩
        · have dk : decide ((k : Int) ≤ (out.length : Int)) = false := decide_eq_false (by omega)
          have dk2 : decide (k ≤ out.length) = false := decide_eq_false hlt
          go_wp2_with fail
          go_ret
          exact ⟨rfl, HB4.out.trans (HB47.out.mono HB4.out.size)⟩
    · have d1 : decide ((60 : Int) < (l.length : Int)) = true := decide_eq_true (by omega)
      go_wp2_with fail
      go_ret
      exact ⟨rfl, HB2.out⟩
  · rename_i hgt
    have d0 : decide ((131072 : Int) < (n : Int)) = true := decide_eq_true (by omega)
    go_wp2_with fail
    go_ret
    exact ⟨rfl, HB2.out⟩
-- CARD
set_option maxRecDepth 100000 in
theorem trieProves_lifted (os : Os) (started : os.Started) (H : Type) (enc : TypeId × Value → H) :
    ReturnsInHanded {} Tryd.checked os 5 .any (fun w args => (Rows.trieProvesSpec.pre enc Tryd.prog Tryd.f5 [] false w args ∧ laidMetH Tryd.prog seatLaid w) ∧ sizedMet enc Tryd.prog Tryd.f5 (OpenSpec.ofChange Rows.trieProvesSpec) false w args)
      (Rows.trieProvesSpec.post enc Tryd.prog Tryd.f5 false true false false) := by
  refine returnsInHanded_of_change_and (C := Tryd.checked) (X := fun w _ => laidMetH Tryd.prog seatLaid w) (fun _ _ _ hh h => h.of_heap hh) own started (by kernel_rfl) Tryd.func5
    (ChangeSpec.witness_shaped (enc := enc) (C := Tryd.checked) (os := os) (X := fun w _ => laidMetH Tryd.prog seatLaid w) false (World.laidAll Tryd.prog os seatLaid) #[.slice none 0 0, .slice none 0 0] 8 (World.laidAll_os _ _ _)
      (World.shaped_of_ZipB (by kernel_rfl) (by kernel_rfl)) (by kernel_rfl) (by kernel_rfl) (by kernel_rfl)
      (by rw [MakeChecks.laidMetH_plain _ _ _ (by kernel_rfl)]; exact laidMet_laidAll _ (by kernel_rfl) (by kernel_rfl))) ?_
  intro W base args ds gs before hval0 hW _ hsz hL0 _
  rw [MakeChecks.laidMetH_plain _ _ _ (by kernel_rfl)] at hL0
  have hT := tables_of_laid hL0
  have hval : ∀ (j : Nat) t v, Tryd.f5.params[j]? = some t → args[j]? = some v → Value.okWide Tryd.prog W .any base t v := hval0
  have hW' := hW
  obtain ⟨p, q, hA0, hV, rfl, hfz, hnd⟩ := hW
  have hA : DataW.TrodAll enc Tryd.prog W 0 (fun _ => true) true Tryd.f5.params.toList args.toList ds p := hA0
  rw [Tryd.params5] at hA hval
  obtain ⟨v0, vs0, d0, ds0, p0, q0, hargs, rfl, rfl, h0, r0⟩ := trodAll_cons hA
  obtain ⟨v1, vs1, d1, ds1, p1, q1, rfl, rfl, rfl, h1, r1⟩ := trodAll_cons r0
  obtain ⟨rfl, rfl, rfl⟩ := trodAll_nil r1
  obtain rfl : args = #[v0, v1] := by cases args; simp_all
  obtain ⟨rfl, rfl⟩ := trodVars_none hV
  have k0 := h0
  have lt0 : ∀ x ∈ p0, x.block < W.heap.size := by obtain ⟨m, hm⟩ := k0; exact DataW.trod_lt m _ _ _ hm
  have k1 := h1
  have lt1 : ∀ x ∈ p1, x.block < W.heap.size := by obtain ⟨m, hm⟩ := k1; exact DataW.trod_lt m _ _ _ hm
  have wt0 : ∀ n ∈ d0.weights Tryd.prog 34, n ≤ reachBytes := fun n hn => by have := List.all_eq_true.1 hsz n (DataW.weights_mem_each (j := 0) (t := 34) (d := d0) (by rw [Tryd.params5]; rfl) rfl n hn); simpa using this
  obtain ⟨A0, C0, L0, rfl, hc0, hm0, hr0, hq0⟩ := open_pairs Tryd.underlying34 Tryd.underlying40 rfl rfl rfl rfl Tryd.underlying24 Tryd.underlying5 (by kernel_rfl) (by kernel_rfl) (by kernel_rfl) (by kernel_rfl) (by kernel_rfl) (hval 0 _ v0 rfl rfl) h0 wt0
  have wt1 : ∀ n ∈ d1.weights Tryd.prog 24, n ≤ reachBytes := fun n hn => by have := List.all_eq_true.1 hsz n (DataW.weights_mem_each (j := 1) (t := 24) (d := d1) (by rw [Tryd.params5]; rfl) rfl n hn); simpa using this
  obtain ⟨A1, C1, L1, rfl, hc1, hm1, hr1, hq1⟩ := open_bytes Tryd.underlying24 Tryd.underlying5 (by kernel_rfl) (by kernel_rfl) (hval 1 _ v1 rfl rfl) h1 wt1
  clear hA0 hval0
  refine (proves_walk A0 C0 L0 A1 C1 L1 W hT.tables hT.errs hT.low (Nat.le_trans hr0 (by decide)) hq0 (Nat.le_trans hr1 (by decide)) hq1).mono fun e W' ⟨he, bel⟩ => ?_
  subst he
  exact ⟨_, rfl, _, _, _, [], _, [], hW', trodAll_mk1 (shut_bool Tryd.underlying4 _), (trodAll_cons_mk (Below.trod laidOut (by kernel_rfl) (of_decide_eq_true (by kernel_rfl)) k0 bel lt0) (trodAll_cons_mk (Below.trod laidOut (by kernel_rfl) (of_decide_eq_true (by kernel_rfl)) k1 bel lt1) trodAll_mk0)), rfl, bel.frame _, fun h => by cases h⟩
theorem trieProves_holds : Rows.TrieProvesSaid :=
  OpenClaim.holds_of_wide 5 Tryd.f5 rfl rfl rfl rfl rfl rfl rfl ⟨rfl, rfl, rfl, rfl, rfl⟩ rfl rfl rfl rfl rfl (by kernel_rfl) Tryd.func5 (by kernel_rfl)
    (of_decide_eq_true (by kernel_rfl)) (by unfold Func.isWrapper; first | (rw [if_pos (by decide +kernel)]; kernel_rfl) | (rw [if_neg (by decide +kernel)]; exact ⟨rfl, rfl⟩))
    (fun os started H enc _ => trieProves_lifted os started H enc)
theorem trieProves_card : Rows.TrieProvesCardSaid :=
  Claim7.holds_tied_plain_at .later [] [.data, .data, .sentinel, .sentinel, .sentinel] true (true, "ec30def8b2b8a437d7ef0fa14b81e6223ecfebe468af8085b9789efc9ac0fbf0") false trieProves_holds (fun _ h => by cases h) (by kernel_rfl) (fun _ h => by cases h) trieProves_row_tie rfl ⟨rfl, rfl⟩ (by kernel_rfl) rfl
    (fun f fn hf hfn => by
      obtain rfl : f = 5 := Option.some.inj ((show Tryd.prog.funcNamed "vouch/vouchlaw26.TrieProves" = some 5 by kernel_rfl).symm.trans hf) |>.symm
      obtain rfl : fn = Tryd.f5 := (Option.some.inj (Tryd.func5.symm.trans hfn)).symm
      exact ⟨by kernel_rfl, fun j t ht => by
        rw [Tryd.params5] at ht
        have hm : t ∈ ([34, 24] : List TypeId) := by simpa using Array.mem_of_getElem? ht
        have hall : (([34, 24] : List TypeId).all fun u => !Tryd.prog.wantsStandIn u) = true := by kernel_rfl
        exact (show Tryd.prog.wantsStandIn t = false by simpa using List.all_eq_true.1 hall t hm)⟩)
    (by kernel_rfl)
end Go.Proofs.YtfhindffmghlaaaDoor
