/- SpongeBack: two states have the same Permute just if they are the same. Conditions: none beyond the row's own (the two tables of package sponge read as the program's text lays them; the card ties them to it). -/
import Derived.Test.YtfidjeoeaeghhaaDoorSpInv
import Derived.Test.YtfidjeoeaeghhaaDoorSpKnow
import Derived.Test.YtfidjeoeaeghhaaDoorWordsC
import Derived.Test.YtfidjeoeaeghhaaDoorSpTables
import Derived.Test.YtfidjeoeaeghhaaDoorCards
import Derived.SevenTiedAt
namespace Go.Proofs.YtfidjeoeaeghhaaDoor
open Go.RowKit Go.ChangeShapes Go.WideShapes
def sameL (A B : Nat → BitVec 64) : Bool := (List.range 25).all fun i => A i == B i
theorem sameL_iff (A B : Nat → BitVec 64) : sameL A B = true ↔ ∀ i, i < 25 → A i = B i := by
  unfold sameL
  rw [List.all_eq_true]
  exact ⟨fun e i hi => by simpa using e i (by simpa using hi), fun e i hi => by simpa using e i (by simpa using hi)⟩
theorem sameL_refl (A : Nat → BitVec 64) : sameL A A = true := (sameL_iff A A).2 fun _ _ => rfl
theorem sameL_perm (A B : Nat → BitVec 64) : sameL (permS A) (permS B) = sameL A B := by
  rw [Bool.eq_iff_iff, sameL_iff, sameL_iff]
  exact ⟨perm_inj, fun h i hi => perm_congr h i hi⟩
theorem u64_inj {a b : BitVec 64} (e : u64 a = u64 b) : a = b := by
  unfold u64 at e
  exact BitVec.eq_of_toNat_eq (by omega)
theorem eql_lanes (f h : Nat → BitVec 64) (W : World) : (Op.equalIn 10000 23 (.agg (tab 25 (lanes f))) (.agg (tab 25 (lanes h)))).run Tryd.prog W = .ok (sameL f h) W := by
  refine (run_eql_tab (P := Tryd.prog) 9998 23 22 25 .u64 .u64 (fun i => u64 (f i)) (fun i => u64 (h i)) Tryd.underlying23 Tryd.underlying22 (by kernel_rfl) (by kernel_rfl) W).trans ?_
  congr 1
  rw [Bool.eq_iff_iff, decide_eq_true_iff, sameL_iff]
  exact forall_congr' fun i => forall_congr' fun _ => ⟨u64_inj, fun e => by rw [e]⟩
theorem guard_lanes : Tryd.prog.eqGuardType Tryd.prog.depth 23 = false := by kernel_rfl
set_option maxHeartbeats 2000000 in
set_option maxRecDepth 10000 in
theorem back_walk (A B : Nat → BitVec 64) (w : World) (hT : Tables w) :
    Calls Tryd.prog 7 #[.agg (tab 25 (lanes A)), .agg (tab 25 (lanes B))] w fun e w' => e = .returned (.bool true) ∧ Below w.heap.size w w' := by
  have HT := Lib.hid hT
  have h2 := hT.size
  clear hT
  have q1 := eql_lanes A A
  have q2 := eql_lanes (permS A) (permS A)
  have q3 := eql_lanes (permS A) (permS B)
  have q4 := eql_lanes A B
  rw [sameL_refl] at q1 q2
  rw [sameL_perm] at q3
  obtain ⟨PA, hPA⟩ : ∃ P, permS A = P := ⟨_, rfl⟩
  obtain ⟨PB, hPB⟩ : ∃ P, permS B = P := ⟨_, rfl⟩
  rw [hPA] at q2 q3
  rw [hPB] at q3
  have HPA := Lib.hid hPA
  have HPB := Lib.hid hPB
  clear hPA hPB
  generalize sameL A B = sm at *
  have hgd := guard_lanes
  go_enter Tryd.func7, Tryd.ntmps7
  go_wp2_with fail
  have hb0 : Below w.heap.size w ((w.alloc (.cells (tab 25 (lanes A)) 23)).alloc (.cells (tab 25 (lanes B)) 23)) := (((Below.refl _ _).alloc (Nat.le_refl _) _).alloc (by simp) _)
  refine (known_calls _ (HT.out.below hb0 h2)).mono ?_
  rintro e w1 ⟨rfl, hb1⟩
  have hs1 := hb1.size
  simp only [size_alloc] at hs1
  have HB1 := Lib.hid (hb0.trans (hb1.mono (by simp; omega)))
  have HA1 := Lib.hid (((Blk.new w 23 (tab 25 (lanes A))).alloc (.cells (tab 25 (lanes B)) 23)).below hb1 (by simp; omega))
  have HBB1 := Lib.hid (show Blk w1 (w.heap.size + 1) 23 (tab 25 (lanes B)) from (Blk.new' (w.alloc (.cells (tab 25 (lanes A)) 23)) 23 (tab 25 (lanes B)) (by simp)).below hb1 (by simp))
  clear hb0 hb1
  have HA_1 := HA1
  have HB_1 := HBB1
  have HW_1 := HB1
  clear HA1 HBB1 HB1
  go_wp2_with (first
    | (refine wpL_alloc rfl 23 rfl (tab 25 fun _ => .int .u64 0) (by kernel_rfl) ?_)
    | (refine wpL_storeA rfl 23 (.tmp 6) (.tmp 11) rfl 0 rfl rfl (Blk.new w1 _ _) (by omega) (by kernel_rfl) (fun _ => rfl) ?_; intro w2 ho hk; have hb := ho.below ((Below.refl w1.heap.size w1).alloc (Nat.le_refl _) _) (Nat.le_refl _); have hz := ho.size; rw [size_alloc] at hz; have HA_2 := Lib.hid (HA_1.out.below hb (by omega)); have HB_2 := Lib.hid (HB_1.out.below hb (by omega)); have HW_2 := Lib.hid (HW_1.out.trans (hb.mono (by omega))); have hs2 := hb.size; have HC_2 := Lib.hid (hk.same (over_whole _ _ _)); clear ho hk hb; clear HA_1 HB_1 HW_1)
    | (refine wpL_load0 rfl 23 (.tmp 2) rfl rfl _ HA_1.out Tryd.underlying23 rfl (by kernel_rfl) ?_)
    | (refine wpL_load0 rfl 23 (.tmp 2) rfl rfl _ HA_2.out Tryd.underlying23 rfl (by kernel_rfl) ?_))
  refine (permute_calls A _ (HT.out.below HW_2.out h2)).mono ?_
  rintro e w3 ⟨he, hb⟩
  rw [HPA.out] at he
  subst he
  have HA_3 := Lib.hid (HA_2.out.below hb (by omega))
  have HB_3 := Lib.hid (HB_2.out.below hb (by omega))
  have HC_3 := Lib.hid (HC_2.out.below hb (by omega))
  have HW_3 := Lib.hid (HW_2.out.trans (hb.mono (by omega)))
  have hs3 := hb.size
  clear hb HA_2 HB_2 HC_2 HW_2
  go_wp2_with (first
    | (refine wpL_alloc rfl 23 rfl (tab 25 fun _ => .int .u64 0) (by kernel_rfl) ?_)
    | (refine wpL_storeA rfl 23 (.tmp 7) (.tmp 13) rfl 0 rfl rfl (Blk.new w3 _ _) (by omega) (by kernel_rfl) (fun _ => rfl) ?_; intro w4 ho hk; have hb := ho.below ((Below.refl w3.heap.size w3).alloc (Nat.le_refl _) _) (Nat.le_refl _); have hz := ho.size; rw [size_alloc] at hz; have HA_4 := Lib.hid (HA_3.out.below hb (by omega)); have HB_4 := Lib.hid (HB_3.out.below hb (by omega)); have HC_4 := Lib.hid (HC_3.out.below hb (by omega)); have HW_4 := Lib.hid (HW_3.out.trans (hb.mono (by omega))); have hs4 := hb.size; have HX_4 := Lib.hid (hk.same (over_whole _ _ _)); clear ho hk hb; clear HA_3 HB_3 HC_3 HW_3)
    | (refine wpL_load0 rfl 23 (.tmp 3) rfl rfl _ HB_4.out Tryd.underlying23 rfl (by kernel_rfl) ?_))
  refine (permute_calls B _ (HT.out.below HW_4.out h2)).mono ?_
  rintro e w5 ⟨he, hb⟩
  rw [HPB.out] at he
  subst he
  have HA_5 := Lib.hid (HA_4.out.below hb (by omega))
  have HB_5 := Lib.hid (HB_4.out.below hb (by omega))
  have HC_5 := Lib.hid (HC_4.out.below hb (by omega))
  have HX_5 := Lib.hid (HX_4.out.below hb (by omega))
  have HW_5 := Lib.hid (HW_4.out.trans (hb.mono (by omega)))
  have hs5 := hb.size
  clear hb HA_4 HB_4 HC_4 HX_4 HW_4
  go_wp2_with (first
    | (refine wpL_alloc rfl 23 rfl (tab 25 fun _ => .int .u64 0) (by kernel_rfl) ?_)
    | (refine wpL_storeA rfl 23 (.tmp 8) (.tmp 15) rfl 0 rfl rfl (Blk.new w5 _ _) (by omega) (by kernel_rfl) (fun _ => rfl) ?_; intro w6 ho hk; have hb := ho.below ((Below.refl w5.heap.size w5).alloc (Nat.le_refl _) _) (Nat.le_refl _); have hz := ho.size; rw [size_alloc] at hz; have HA_6 := Lib.hid (HA_5.out.below hb (by omega)); have HB_6 := Lib.hid (HB_5.out.below hb (by omega)); have HC_6 := Lib.hid (HC_5.out.below hb (by omega)); have HX_6 := Lib.hid (HX_5.out.below hb (by omega)); have HW_6 := Lib.hid (HW_5.out.trans (hb.mono (by omega))); have hs6 := hb.size; have HY_6 := Lib.hid (hk.same (over_whole _ _ _)); clear ho hk hb; clear HA_5 HB_5 HC_5 HX_5 HW_5)
    | (refine wpL_load0 rfl 23 (.tmp 6) rfl rfl _ HC_6.out Tryd.underlying23 rfl (by kernel_rfl) ?_))
  refine (permute_calls A _ (HT.out.below HW_6.out h2)).mono ?_
  rintro e w7 ⟨he, hb⟩
  rw [HPA.out] at he
  subst he
  have HA_7 := Lib.hid (HA_6.out.below hb (by omega))
  have HB_7 := Lib.hid (HB_6.out.below hb (by omega))
  have HC_7 := Lib.hid (HC_6.out.below hb (by omega))
  have HX_7 := Lib.hid (HX_6.out.below hb (by omega))
  have HY_7 := Lib.hid (HY_6.out.below hb (by omega))
  have HW_7 := Lib.hid (HW_6.out.trans (hb.mono (by omega)))
  have hs7 := hb.size
  clear hb HA_6 HB_6 HC_6 HX_6 HY_6 HW_6
  go_wp2_with (first
    | (refine wpL_alloc rfl 23 rfl (tab 25 fun _ => .int .u64 0) (by kernel_rfl) ?_)
    | (refine wpL_storeA rfl 23 (.tmp 9) (.tmp 17) rfl 0 rfl rfl (Blk.new w7 _ _) (by omega) (by kernel_rfl) (fun _ => rfl) ?_; intro w8 ho hk; have hb := ho.below ((Below.refl w7.heap.size w7).alloc (Nat.le_refl _) _) (Nat.le_refl _); have hz := ho.size; rw [size_alloc] at hz; have HA_8 := Lib.hid (HA_7.out.below hb (by omega)); have HB_8 := Lib.hid (HB_7.out.below hb (by omega)); have HC_8 := Lib.hid (HC_7.out.below hb (by omega)); have HX_8 := Lib.hid (HX_7.out.below hb (by omega)); have HY_8 := Lib.hid (HY_7.out.below hb (by omega)); have HW_8 := Lib.hid (HW_7.out.trans (hb.mono (by omega))); have hs8 := hb.size; have HZ_8 := Lib.hid (hk.same (over_whole _ _ _)); clear ho hk hb; clear HA_7 HB_7 HC_7 HX_7 HY_7 HW_7))
  simp only [Act.put, List.setIfInBounds_toArray, List.set_cons_succ, List.set_cons_zero]
  refine wp_region_quiet_lit (by kernel_rfl) (by kernel_rfl) ?_
  repeat (first
    | (refine wpQ_load0 rfl 23 (.tmp 6) rfl rfl _ HC_8.out Tryd.underlying23 rfl (by kernel_rfl) ?_; simp only [Act.put, List.setIfInBounds_toArray, List.set_cons_succ, List.set_cons_zero])
    | (refine wpQ_load0 rfl 23 (.tmp 2) rfl rfl _ HA_8.out Tryd.underlying23 rfl (by kernel_rfl) ?_; simp only [Act.put, List.setIfInBounds_toArray, List.set_cons_succ, List.set_cons_zero])
    | (refine wpQ_load0 rfl 23 (.tmp 9) rfl rfl _ HZ_8.out Tryd.underlying23 rfl (by kernel_rfl) ?_; simp only [Act.put, List.setIfInBounds_toArray, List.set_cons_succ, List.set_cons_zero])
    | (refine wpQ_load0 rfl 23 (.tmp 7) rfl rfl _ HX_8.out Tryd.underlying23 rfl (by kernel_rfl) ?_; simp only [Act.put, List.setIfInBounds_toArray, List.set_cons_succ, List.set_cons_zero])
    | (refine wpQ_load0 rfl 23 (.tmp 8) rfl rfl _ HY_8.out Tryd.underlying23 rfl (by kernel_rfl) ?_; simp only [Act.put, List.setIfInBounds_toArray, List.set_cons_succ, List.set_cons_zero])
    | (refine wpQ_load0 rfl 23 (.tmp 3) rfl rfl _ HB_8.out Tryd.underlying23 rfl (by kernel_rfl) ?_; simp only [Act.put, List.setIfInBounds_toArray, List.set_cons_succ, List.set_cons_zero])
    | go_big_quiet_step (fail))
  refine wpQuiet_nil ?_
  intro _ hw'
  obtain ⟨nq, hw''⟩ := hw'
  subst hw''
  go_wp2_with fail
  go_ret
  exact ⟨rfl, below_drewN HW_8.out nq⟩
-- CARD
set_option maxRecDepth 100000 in
theorem spongeBack_lifted (os : Os) (started : os.Started) (H : Type) (enc : TypeId × Value → H) :
    ReturnsInHanded {} Tryd.checked os 7 .any (fun w args => (Rows.spongeBackSpec.pre enc Tryd.prog Tryd.f7 [] false w args ∧ laidMetH Tryd.prog seatLaid w) ∧ sizedMet enc Tryd.prog Tryd.f7 (OpenSpec.ofChange Rows.spongeBackSpec) false w args)
      (Rows.spongeBackSpec.post enc Tryd.prog Tryd.f7 false true false false) := by
  refine returnsInHanded_of_change_and (C := Tryd.checked) (X := fun w _ => laidMetH Tryd.prog seatLaid w) (fun _ _ _ hh h => h.of_heap hh) own started (by kernel_rfl) Tryd.func7
    (ChangeSpec.witness_shaped (enc := enc) (C := Tryd.checked) (os := os) (X := fun w _ => laidMetH Tryd.prog seatLaid w) false (World.laidAll Tryd.prog os seatLaid) #[.agg (tab 25 fun _ => .int .u64 0), .agg (tab 25 fun _ => .int .u64 0)] 8 (World.laidAll_os _ _ _)
      (World.shaped_of_ZipB (by kernel_rfl) (by kernel_rfl)) (by kernel_rfl) (by kernel_rfl) (by kernel_rfl)
      (by rw [MakeChecks.laidMetH_plain _ _ _ (by kernel_rfl)]; exact laidMet_laidAll _ (by kernel_rfl) (by kernel_rfl))) ?_
  intro W base args ds gs before hval0 hW _ hsz hL0 _
  rw [MakeChecks.laidMetH_plain _ _ _ (by kernel_rfl)] at hL0
  have hT := tables_of_laid hL0
  have hval : ∀ (j : Nat) t v, Tryd.f7.params[j]? = some t → args[j]? = some v → Value.okWide Tryd.prog W .any base t v := hval0
  have hW' := hW
  obtain ⟨p, q, hA0, hV, rfl, hfz, hnd⟩ := hW
  have hA : DataW.TrodAll enc Tryd.prog W 0 (fun _ => true) true Tryd.f7.params.toList args.toList ds p := hA0
  rw [Tryd.params7] at hA hval
  obtain ⟨v0, vs0, d0, ds0, p0, q0, hargs, rfl, rfl, h0, r0⟩ := trodAll_cons hA
  obtain ⟨v1, vs1, d1, ds1, p1, q1, rfl, rfl, rfl, h1, r1⟩ := trodAll_cons r0
  obtain ⟨rfl, rfl, rfl⟩ := trodAll_nil r1
  obtain rfl : args = #[v0, v1] := by cases args; simp_all
  obtain ⟨rfl, rfl⟩ := trodVars_none hV
  have k0 := h0
  have lt0 : ∀ x ∈ p0, x.block < W.heap.size := by obtain ⟨m, hm⟩ := k0; exact DataW.trod_lt m _ _ _ hm
  have k1 := h1
  have lt1 : ∀ x ∈ p1, x.block < W.heap.size := by obtain ⟨m, hm⟩ := k1; exact DataW.trod_lt m _ _ _ hm
  obtain ⟨S0, rfl⟩ := open_lanes Tryd.underlying23 Tryd.underlying22 (by kernel_rfl) (by kernel_rfl) (hval 0 _ v0 rfl rfl) h0
  obtain ⟨S1, rfl⟩ := open_lanes Tryd.underlying23 Tryd.underlying22 (by kernel_rfl) (by kernel_rfl) (hval 1 _ v1 rfl rfl) h1
  clear hA0 hval0
  refine (back_walk S0 S1 W hT).mono fun e W' ⟨he, bel⟩ => ?_
  subst he
  exact ⟨_, rfl, _, _, _, [], _, [], hW', trodAll_mk1 (shut_bool Tryd.underlying4 _), (trodAll_cons_mk (Below.trod laidOut (by kernel_rfl) (of_decide_eq_true (by kernel_rfl)) k0 bel lt0) (trodAll_cons_mk (Below.trod laidOut (by kernel_rfl) (of_decide_eq_true (by kernel_rfl)) k1 bel lt1) trodAll_mk0)), rfl, bel.frame _, fun h => by cases h⟩
theorem spongeBack_holds : Rows.SpongeBackSaid :=
  OpenClaim.holds_of_wide 7 Tryd.f7 rfl rfl rfl rfl rfl rfl rfl ⟨rfl, rfl, rfl, rfl, rfl⟩ rfl rfl rfl rfl rfl (by kernel_rfl) Tryd.func7 (by kernel_rfl)
    (of_decide_eq_true (by kernel_rfl)) (by unfold Func.isWrapper; first | (rw [if_pos (by decide +kernel)]; kernel_rfl) | (rw [if_neg (by decide +kernel)]; exact ⟨rfl, rfl⟩))
    (fun os started H enc _ => spongeBack_lifted os started H enc)
theorem spongeBack_card : Rows.SpongeBackCardSaid :=
  Claim7.holds_tied_plain_at .later [] [.data, .data] true (true, "61dec8a95d45e6b6868d957416c283ac2aac3f2f7edc31fb2634f663520bf00b") false spongeBack_holds (fun _ h => by cases h) (by kernel_rfl) (fun _ h => by cases h) spongeBack_row_tie rfl ⟨rfl, rfl⟩ (by kernel_rfl) rfl
    (fun f fn hf hfn => by
      obtain rfl : f = 7 := Option.some.inj ((show Tryd.prog.funcNamed "vouch/vouchlaw2.SpongeBack" = some 7 by kernel_rfl).symm.trans hf) |>.symm
      obtain rfl : fn = Tryd.f7 := (Option.some.inj (Tryd.func7.symm.trans hfn)).symm
      exact ⟨by kernel_rfl, fun j t ht => by
        rw [Tryd.params7] at ht
        have hm : t ∈ ([23, 23] : List TypeId) := by simpa using Array.mem_of_getElem? ht
        have hall : (([23, 23] : List TypeId).all fun u => !Tryd.prog.wantsStandIn u) = true := by kernel_rfl
        exact (show Tryd.prog.wantsStandIn t = false by simpa using List.all_eq_true.1 hall t hm)⟩)
    (by kernel_rfl)
end Go.Proofs.YtfidjeoeaeghhaaDoor
