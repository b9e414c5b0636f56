/- TrieChecks: Check of any texts, under any root and under the first one's: as the document says. -/
import Derived.Test.YtfhindffmghlaaaDoorMTDChecked
import Derived.Test.YtfhindffmghlaaaDoorMTTables
import Derived.Test.YtfhindffmghlaaaDoorG25
import Derived.Test.YtfhindffmghlaaaDoorCards
import Derived.Deep.CutRange
set_option linter.unusedVariables false
set_option linter.unusedSimpArgs false
namespace Go.Proofs.YtfhindffmghlaaaDoor
open Go.RowKit Go.ChangeShapes Go.WideShapes
section
variable {H : Type} {enc : TypeId × Value → H} {P : Program} {w : World} {base : Nat} {spare : Nat → Bool} {held : Bool}
/-- An array of bytes. -/
theorem open_hash {r : Reach} {b0 : Nat} {t e : TypeId} {n : Nat} {v : Value} {d : DataW H} {p : List MemPlace} (ht : P.underlying t = some (.array n e)) (he : P.underlying e = some (.int .u8)) (hce : P.cellsOf e = 1) (hct : P.cellsOf t = n)
    (hv : Value.okWide P w r b0 t v) (h : DataW.Trod enc P w base spare held t v d p) : ∃ S : Nat → UInt8, v = .agg (tab n (hashV S)) := by
  obtain ⟨fuel, hf⟩ := h
  obtain ⟨xs, m, _, _, hl, hx, hall⟩ := DataW.trod_array ht hf
  have hagg : ∃ cs : Array Value, v = .agg cs := by
    simp only [Value.okWide, ht] at hv
    obtain ⟨cs, h1, _⟩ := hv
    exact ⟨cs, h1⟩
  obtain ⟨cs, rfl⟩ := hagg
  rw [hct] at hl
  simp only [Value.cells] at hl hall
  have hone : ∀ i, i < n → ∃ b : UInt8, cs.toList[i]? = some (.int .u8 (by8 b)) := by
    intro i hi
    have h1 := hall i hi
    rw [hce, Nat.mul_one, List.getElem?_eq_getElem (by omega)] at h1
    have hlt : i < cs.toList.length := by omega
    rw [List.drop_eq_getElem_cons hlt] at h1
    obtain ⟨z, hz, _, hw⟩ := DataW.trod_int he h1
    obtain ⟨b, rfl⟩ := wf_u8 hw
    simp only [List.take_succ_cons, List.take_zero, List.cons.injEq, and_true] at hz
    exact ⟨b, by rw [List.getElem?_eq_getElem hlt, hz]⟩
  refine ⟨fun i => if h : i < n then (hone i h).choose else 0, ?_⟩
  congr 1
  apply Array.ext'
  apply List.ext_getElem?
  intro i
  by_cases hi : i < n
  · rw [(hone i hi).choose_spec]
    simp [tab, hi, hashV]
  · rw [List.getElem?_eq_none (by omega)]
    simp [tab, hi]
end
attribute [local irreducible] Calls in
set_option maxHeartbeats 4000000 in
set_option maxRecDepth 20000 in
theorem checks_walk (f0 : Nat → UInt8) (A : Option Addr) (c : Nat) (key : List UInt8) (A2 : Option Addr) (c2 : Nat) (ps : List Piece) (w : World) (hT : Tables w) (hE : Errs w) (hLw : Lows w.heap.size)
    (hk : key.length ≤ 140737488355328) (hs : Seq w w.heap.size A (bytes key)) (hn : ps.length ≤ 140737488355328) (hsp : Seq w w.heap.size A2 (pcs ps)) (hp : ∀ q ∈ ps, q.2.2.length ≤ q.2.1 ∧ q.2.1 ≤ maxLen ∧ q.2.2.length ≤ reachBytes ∧ Seq w w.heap.size q.1 (bytes q.2.2)) :
    Calls Tryd.prog 3 #[.agg (tab 32 (hashV f0)), .slice A key.length c, .slice A2 ps.length c2] w (fun e w' => e = .returned (.bool true) ∧ Below w.heap.size w w') := by
  have HT := Lib.hid hT
  have HE := Lib.hid hE
  have HLw := Lib.hid hLw
  have HS := Lib.hid hs
  have HSp := Lib.hid hsp
  have HP := Lib.hid hp
  have hba := (Below.refl w.heap.size w).alloc (Nat.le_refl _) (.cells (tab 32 (hashV f0)) 23)
  have hbk : Blk (w.alloc (.cells (tab 32 (hashV f0)) 23)) w.heap.size 23 (tab 32 (hashV f0)) := Blk.new _ _ _
  have hzb := hbk.lt
  have HBa := Lib.hid hba
  have HBk := Lib.hid hbk
  have hpl3 : ∀ p ∈ ps, p.2.2.length ≤ 140737488355328 := fun p h => Nat.le_trans (hp p h).2.2.1 (by decide)
  have HPl3 := Lib.hid hpl3
  have hza := size_alloc w (.cells (tab 32 (hashV f0)) 23)
  have hza1 := Nat.le_of_eq hza.symm
  clear hT hE hLw hs hsp hp hba hbk hpl3 hza
  go_enter Tryd.func3, Tryd.ntmps3
  go_upto_region 3 with (first
    | (go_at_call 15; (refine (able_calls _ (HT.out.now HBa.out) (HE.out.now HLw.out HBa.out) (HLw.out.now HBa.out)).mono ?_; rintro e1 w1 ⟨rfl, hb1⟩; have hz1 := hb1.size; have HB1 := Lib.hid (HBa.out.trans (hb1.mono (by omega))); have HBk1 := Lib.hid (HBk.out.below hb1 hzb); clear hb1))
    | fail)
  have hz01 := HB1.out.size
  go_upto_if 14 with (first
    | (go_at_call 16; (refine (weight_calls none 0 [] A2 c2 ps w1 (by simp) ⟨fun j h => absurd h (by simp), fun x h => (List.not_mem_nil h).elim⟩ hn (HSp.out.now HB1.out) HPl3.out).mono ?_; rintro e2 w2 ⟨n, rfl, hn2, hn3, hb2⟩; have hz2 := hb2.size; have HN := Lib.hid hn2; have HB2 := Lib.hid (HB1.out.trans (hb2.mono hz01)); have HBk2 := Lib.hid (HBk1.out.below hb2 HBk1.out.lt); clear hn2 hb2))
    | fail)
  have hz02 := HB2.out.size
  have hsum : IntKind.i64.wrap ((key.length : Int) + (n : Int)) = (key.length : Int) + (n : Int) := IntWalk.i64_in _ (by omega)
  by_cases hle : key.length + n ≤ 131072
  · have d14 : decide ((key.length : Int) + (n : Int) > 131072) = false := decide_eq_false (by omega)
    have d14b : decide ((131072 : Int) < (key.length : Int) + (n : Int)) = false := decide_eq_false (by omega)
    obtain ⟨h1, -, hpl⟩ := HN.out (by omega)
    have hps : ps.length ≤ 131072 := by simpa using h1
    have hchk : ∀ (f : Nat → UInt8) (W : World) (hb : Below w.heap.size w W), _ := fun f W hb => checked_calls f A c key A2 c2 ps W (HT.out.now hb) (HE.out.now HLw.out hb) (HLw.out.now hb) (by omega) (HS.out.now hb) hps (HSp.out.now hb) (fun p h => ⟨(HP.out p h).2.2.2.now hb, hpl p h⟩)
    have HChk := Lib.hid hchk
    have HPl := Lib.hid hpl
    clear h1 hpl hchk HN
    by_cases h0 : ps.length = 0
    · have d22 : ((ps.length : Int) == 0) = true := by rw [h0]; rfl
      clear h0
      go_wp2_with (first
        | (refine wpL_load0 rfl 23 (.tmp 3) rfl rfl _ HBk2.out Tryd.underlying23 rfl (by kernel_rfl) ?_)
        | (go_at_call 17; (refine (HChk.out f0 w2 HB2.out).mono ?_; rintro e3 w3 ⟨rfl, hb3⟩; have HB3 := Lib.hid (HB2.out.trans (hb3.mono hz02)); clear hb3))
        | fail)
      go_ret
      exact ⟨rfl, HB3.out⟩
    · have d22 : ((ps.length : Int) == 0) = false := by rw [beq_eq_false_iff_ne]; omega
      have hp0 : 0 < ps.length := by omega
      have lp0 : (0 : Int) < (ps.length : Int) := by omega
      obtain ⟨ad, rfl, hadl, q0⟩ := HSp.out.piece 0 hp0
      have hadd : ad.add 0 = ad := by unfold Addr.add; simp
      rw [hadd] at q0
      have hpb := (HP.out _ (List.getElem_mem hp0)).2.2.2
      have hpl0 := HPl.out _ (List.getElem_mem hp0)
      generalize ps[0] = p at q0 hpb hpl0
      obtain ⟨Ap, cp, lp⟩ := p
      simp only at q0 hpb hpl0
      have q2 := (HB2.out.cell (p := ad) hadl).trans q0
      have HPb := Lib.hid hpb
      clear hadd h0 hpb
      go_wp2_with (first
        | (refine wpL_load0 rfl 23 (.tmp 3) rfl rfl _ HBk2.out Tryd.underlying23 rfl (by kernel_rfl) ?_)
        | (go_at_call 18; (refine (sum1_calls A4 c4 lp w4 (HT.out.now HB4.out) HO4.out (by omega)).mono ?_; rintro e5 w5 ⟨rfl, hb5⟩; have HB5 := Lib.hid (HB4.out.trans (hb5.mono HB4.out.size)); clear hb5))
        | (go_at_call 17; (refine (HChk.out (hashS lp) w5 HB5.out).mono ?_; rintro e6 w6 ⟨rfl, hb6⟩; have HB6 := Lib.hid (HB5.out.trans (hb6.mono HB5.out.size)); clear hb6))
        | (go_at_call 17; (refine (HChk.out f0 w2 HB2.out).mono ?_; rintro e3 w3 ⟨rfl, hb3⟩; have q3 := (hb3.cell (p := ad) (by omega)).trans q2; have HB3 := Lib.hid (HB2.out.trans (hb3.mono hz02)); clear hb3))
        | (go_at_call 19; (refine (ownL_calls Ap cp w3.heap.size lp w3 (by omega) (HPb.out.now HB3.out)).mono ?_; rintro e4 w4 ⟨A4, c4, rfl, ho4, hb4⟩; have HO4 := Lib.hid (Seq.of_own ho4); have HB4 := Lib.hid (HB3.out.trans (hb4.mono HB3.out.size)); clear ho4 hb4))
        | fail)
      go_ret
      exact ⟨rfl, HB6.out⟩
  · have d14 : decide ((key.length : Int) + (n : Int) > 131072) = true := decide_eq_true (by omega)
    have d14b : decide ((131072 : Int) < (key.length : Int) + (n : Int)) = true := decide_eq_true (by omega)
    go_wp2_with fail
    go_ret
    exact ⟨rfl, HB2.out⟩
-- CARD
set_option maxRecDepth 100000 in
theorem trieChecks_lifted (os : Os) (started : os.Started) (H : Type) (enc : TypeId × Value → H) :
    ReturnsInHanded {} Tryd.checked os 3 .any (fun w args => (Rows.trieChecksSpec.pre enc Tryd.prog Tryd.f3 [] false w args ∧ laidMetH Tryd.prog seatLaid w) ∧ sizedMet enc Tryd.prog Tryd.f3 (OpenSpec.ofChange Rows.trieChecksSpec) false w args)
      (Rows.trieChecksSpec.post enc Tryd.prog Tryd.f3 false true false false) := by
  refine returnsInHanded_of_change_and (C := Tryd.checked) (X := fun w _ => laidMetH Tryd.prog seatLaid w) (fun _ _ _ hh h => h.of_heap hh) own started (by kernel_rfl) Tryd.func3
    (ChangeSpec.witness_shaped (enc := enc) (C := Tryd.checked) (os := os) (X := fun w _ => laidMetH Tryd.prog seatLaid w) false (World.laidAll Tryd.prog os seatLaid) #[.agg (tab 32 fun _ => .int .u8 0), .slice none 0 0, .slice none 0 0] 8 (World.laidAll_os _ _ _)
      (World.shaped_of_ZipB (by kernel_rfl) (by kernel_rfl)) (by kernel_rfl) (by kernel_rfl) (by kernel_rfl)
      (by rw [MakeChecks.laidMetH_plain _ _ _ (by kernel_rfl)]; exact laidMet_laidAll _ (by kernel_rfl) (by kernel_rfl))) ?_
  intro W base args ds gs before hval0 hW _ hsz hL0 _
  rw [MakeChecks.laidMetH_plain _ _ _ (by kernel_rfl)] at hL0
  have hT := tables_of_laid hL0
  have hval : ∀ (j : Nat) t v, Tryd.f3.params[j]? = some t → args[j]? = some v → Value.okWide Tryd.prog W .any base t v := hval0
  have hW' := hW
  obtain ⟨p, q, hA0, hV, rfl, hfz, hnd⟩ := hW
  have hA : DataW.TrodAll enc Tryd.prog W 0 (fun _ => true) true Tryd.f3.params.toList args.toList ds p := hA0
  rw [Tryd.params3] at hA hval
  obtain ⟨v0, vs0, d0, ds0, p0, q0, hargs, rfl, rfl, h0, r0⟩ := trodAll_cons hA
  obtain ⟨v1, vs1, d1, ds1, p1, q1, rfl, rfl, rfl, h1, r1⟩ := trodAll_cons r0
  obtain ⟨v2, vs2, d2, ds2, p2, q2, rfl, rfl, rfl, h2, r2⟩ := trodAll_cons r1
  obtain ⟨rfl, rfl, rfl⟩ := trodAll_nil r2
  obtain rfl : args = #[v0, v1, v2] := by cases args; simp_all
  obtain ⟨rfl, rfl⟩ := trodVars_none hV
  have k0 := h0
  have lt0 : ∀ x ∈ p0, x.block < W.heap.size := by obtain ⟨m, hm⟩ := k0; exact DataW.trod_lt m _ _ _ hm
  have k1 := h1
  have lt1 : ∀ x ∈ p1, x.block < W.heap.size := by obtain ⟨m, hm⟩ := k1; exact DataW.trod_lt m _ _ _ hm
  have k2 := h2
  have lt2 : ∀ x ∈ p2, x.block < W.heap.size := by obtain ⟨m, hm⟩ := k2; exact DataW.trod_lt m _ _ _ hm
  obtain ⟨S0, rfl⟩ := open_hash Tryd.underlying23 Tryd.underlying5 (by kernel_rfl) (by kernel_rfl) (hval 0 _ v0 rfl rfl) h0
  have wt1 : ∀ n ∈ d1.weights Tryd.prog 24, n ≤ reachBytes := fun n hn => by have := List.all_eq_true.1 hsz n (DataW.weights_mem_each (j := 1) (t := 24) (d := d1) (by rw [Tryd.params3]; rfl) rfl n hn); simpa using this
  obtain ⟨A1, C1, L1, rfl, hc1, hm1, hr1, hq1⟩ := open_bytes Tryd.underlying24 Tryd.underlying5 (by kernel_rfl) (by kernel_rfl) (hval 1 _ v1 rfl rfl) h1 wt1
  have wt2 : ∀ n ∈ d2.weights Tryd.prog 25, n ≤ reachBytes := fun n hn => by have := List.all_eq_true.1 hsz n (DataW.weights_mem_each (j := 2) (t := 25) (d := d2) (by rw [Tryd.params3]; rfl) rfl n hn); simpa using this
  obtain ⟨A2, C2, L2, rfl, hc2, hm2, hr2, hq2, hp2⟩ := open_pieces Tryd.underlying25 Tryd.underlying24 Tryd.underlying5 (by kernel_rfl) (by kernel_rfl) (by kernel_rfl) (by kernel_rfl) (hval 2 _ v2 rfl rfl) h2 wt2
  clear hA0 hval0
  refine (checks_walk S0 A1 C1 L1 A2 C2 L2 W hT.tables hT.errs hT.low (Nat.le_trans hr1 (by decide)) hq1 (Nat.le_trans hr2 (by decide)) hq2 hp2).mono fun e W' ⟨he, bel⟩ => ?_
  subst he
  exact ⟨_, rfl, _, _, _, [], _, [], hW', trodAll_mk1 (shut_bool Tryd.underlying4 _), (trodAll_cons_mk (Below.trod laidOut (by kernel_rfl) (of_decide_eq_true (by kernel_rfl)) k0 bel lt0) (trodAll_cons_mk (Below.trod laidOut (by kernel_rfl) (of_decide_eq_true (by kernel_rfl)) k1 bel lt1) (trodAll_cons_mk (Below.trod laidOut (by kernel_rfl) (of_decide_eq_true (by kernel_rfl)) k2 bel lt2) trodAll_mk0))), rfl, bel.frame _, fun h => by cases h⟩
theorem trieChecks_holds : Rows.TrieChecksSaid :=
  OpenClaim.holds_of_wide 3 Tryd.f3 rfl rfl rfl rfl rfl rfl rfl ⟨rfl, rfl, rfl, rfl, rfl⟩ rfl rfl rfl rfl rfl (by kernel_rfl) Tryd.func3 (by kernel_rfl)
    (of_decide_eq_true (by kernel_rfl)) (by unfold Func.isWrapper; first | (rw [if_pos (by decide +kernel)]; kernel_rfl) | (rw [if_neg (by decide +kernel)]; exact ⟨rfl, rfl⟩))
    (fun os started H enc _ => trieChecks_lifted os started H enc)
theorem trieChecks_card : Rows.TrieChecksCardSaid :=
  Claim7.holds_tied_plain_at .later [] [.data, .data, .sentinel, .sentinel, .sentinel] true (true, "ec30def8b2b8a437d7ef0fa14b81e6223ecfebe468af8085b9789efc9ac0fbf0") false trieChecks_holds (fun _ h => by cases h) (by kernel_rfl) (fun _ h => by cases h) trieChecks_row_tie rfl ⟨rfl, rfl⟩ (by kernel_rfl) rfl
    (fun f fn hf hfn => by
      obtain rfl : f = 3 := Option.some.inj ((show Tryd.prog.funcNamed "vouch/vouchlaw26.TrieChecks" = some 3 by kernel_rfl).symm.trans hf) |>.symm
      obtain rfl : fn = Tryd.f3 := (Option.some.inj (Tryd.func3.symm.trans hfn)).symm
      exact ⟨by kernel_rfl, fun j t ht => by
        rw [Tryd.params3] at ht
        have hm : t ∈ ([23, 24, 25] : List TypeId) := by simpa using Array.mem_of_getElem? ht
        have hall : (([23, 24, 25] : List TypeId).all fun u => !Tryd.prog.wantsStandIn u) = true := by kernel_rfl
        exact (show Tryd.prog.wantsStandIn t = false by simpa using List.all_eq_true.1 hall t hm)⟩)
    (by kernel_rfl)
end Go.Proofs.YtfhindffmghlaaaDoor
