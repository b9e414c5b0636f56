/- SpongePermutes: for every state of 25 lanes the program's Permute is the document's. Conditions: none beyond the row's own (the two tables of package sponge read as the program's text lays them; the card ties them to it). -/
import Derived.Test.YtfidjeoeaeghhaaDoorSpRefH
import Derived.Test.YtfidjeoeaeghhaaDoorSpTables
import Derived.Test.YtfidjeoeaeghhaaDoorCards
import Derived.SevenTiedAt
namespace Go.Proofs.YtfidjeoeaeghhaaDoor
open Go.RowKit Go.ChangeShapes Go.WideShapes
set_option maxHeartbeats 1000000 in
theorem permutes_walk (A : Nat → BitVec 64) (w : World) (hT : Tables w) :
    Calls Tryd.prog 3 #[.agg (tab 25 (lanes A))] w fun e w' => e = .returned (.bool true) ∧ Below w.heap.size w w' := by
  have HT := Lib.hid hT
  have h2 := hT.size
  clear hT
  have heq : ∀ W : World, (Op.equalIn 10000 23 (.agg (tab 25 (lanes (permS A)))) (.agg (tab 25 (lanes (permS A))))).run Tryd.prog W = .ok true W := fun W => by
    have := run_eql_tab (P := Tryd.prog) 9998 23 22 25 .u64 .u64 (fun i => u64 (permS A i)) (fun i => u64 (permS A i)) Tryd.underlying23 Tryd.underlying22 (by kernel_rfl) (by kernel_rfl) W
    rw [show (decide _) = true by simp] at this
    exact this
  have hgd : Tryd.prog.eqGuardType Tryd.prog.depth 23 = false := by kernel_rfl
  go_enter Tryd.func3, Tryd.ntmps3
  go_wp2_with (first
    | (refine wpL_load rfl 23 (.tmp 1) rfl (n := 25) 0 rfl _ (Blk.new w _ _) (by omega) Tryd.underlying23 rfl (by kernel_rfl) ?_))
  refine (permute_calls _ _ (HT.out.below ((Below.refl _ _).alloc (Nat.le_refl _) _) h2)).mono ?_
  rintro e w1 ⟨rfl, hb1⟩
  have HB1 := Lib.hid hb1
  have HA1 := Lib.hid ((Blk.new w 23 (tab 25 (lanes A))).below hb1 (by simp))
  have hs1 := hb1.size
  simp only [size_alloc] at hs1
  clear hb1
  go_wp2_with (first
    | (refine wpL_alloc rfl 23 rfl (tab 25 fun _ => .int .u64 0) (by kernel_rfl) ?_)
    | (refine wpL_storeA rfl 23 (.tmp 3) (.tmp 6) rfl 0 rfl rfl (Blk.new w1 _ _) (by omega) (by kernel_rfl) (fun _ => rfl) ?_; intro w2 ho2 hk2; have HO2 := Lib.hid ho2; have HK2 := Lib.hid (hk2.same (over_whole _ _ _)); have HA2 := Lib.hid (ho2.blk (HA1.out.alloc _) (by omega)); clear ho2 hk2)
    | (refine wpL_load rfl 23 (.tmp 1) rfl (n := 25) 0 rfl _ HA2.out (by omega) Tryd.underlying23 rfl (by kernel_rfl) ?_))
  have hs2 := HO2.out.size
  simp only [size_alloc] at hs2
  refine (permuteR_calls _ _).mono ?_
  rintro e w3 ⟨rfl, hb3⟩
  have HB3 := Lib.hid hb3
  have HK3 := Lib.hid (HK2.out.below hb3 (by omega))
  have hs3 := hb3.size
  clear hb3
  go_wp2_with (first
    | (refine wpL_alloc rfl 23 rfl (tab 25 fun _ => .int .u64 0) (by kernel_rfl) ?_)
    | (refine wpL_storeA rfl 23 (.tmp 4) (.tmp 8) rfl 0 rfl rfl (Blk.new w3 _ _) (by omega) (by kernel_rfl) (fun _ => rfl) ?_; intro w4 ho4 hk4; have HO4 := Lib.hid ho4; have HK4 := Lib.hid (hk4.same (over_whole _ _ _)); have HK5 := Lib.hid (ho4.blk (HK3.out.alloc _) (by omega)); clear ho4 hk4)
    | (refine wpL_load rfl 23 (.tmp 3) rfl (n := 25) 0 rfl _ HK5.out (by omega) Tryd.underlying23 rfl (by kernel_rfl) ?_)
    | (refine wpL_load rfl 23 (.tmp 4) rfl (n := 25) 0 rfl _ HK4.out (by omega) Tryd.underlying23 rfl (by kernel_rfl) ?_))
  have hs3 := HO4.out.size
  simp only [size_alloc] at hs3
  go_ret
  exact ⟨rfl, HO4.out.below (((HO2.out.below (((((Below.refl _ _).alloc (Nat.le_refl _) _).trans (HB1.out.mono (by simp))).alloc (by omega) _)) (by omega)).trans (HB3.out.mono (by omega))).alloc (by omega) _) (by omega)⟩
-- CARD
set_option maxRecDepth 100000 in
theorem spongePermutes_lifted (os : Os) (started : os.Started) (H : Type) (enc : TypeId × Value → H) :
    ReturnsInHanded {} Tryd.checked os 3 .any (fun w args => (Rows.spongePermutesSpec.pre enc Tryd.prog Tryd.f3 [] false w args ∧ laidMetH Tryd.prog seatLaid w) ∧ sizedMet enc Tryd.prog Tryd.f3 (OpenSpec.ofChange Rows.spongePermutesSpec) false w args)
      (Rows.spongePermutesSpec.post enc Tryd.prog Tryd.f3 false true false false) := by
  refine returnsInHanded_of_change_and (C := Tryd.checked) (X := fun w _ => laidMetH Tryd.prog seatLaid w) (fun _ _ _ hh h => h.of_heap hh) own started (by kernel_rfl) Tryd.func3
    (ChangeSpec.witness_shaped (enc := enc) (C := Tryd.checked) (os := os) (X := fun w _ => laidMetH Tryd.prog seatLaid w) false (World.laidAll Tryd.prog os seatLaid) #[.agg (tab 25 fun _ => .int .u64 0)] 8 (World.laidAll_os _ _ _)
      (World.shaped_of_ZipB (by kernel_rfl) (by kernel_rfl)) (by kernel_rfl) (by kernel_rfl) (by kernel_rfl)
      (by rw [MakeChecks.laidMetH_plain _ _ _ (by kernel_rfl)]; exact laidMet_laidAll _ (by kernel_rfl) (by kernel_rfl))) ?_
  intro W base args ds gs before hval0 hW _ hsz hL0 _
  rw [MakeChecks.laidMetH_plain _ _ _ (by kernel_rfl)] at hL0
  have hT := tables_of_laid hL0
  have hval : ∀ (j : Nat) t v, Tryd.f3.params[j]? = some t → args[j]? = some v → Value.okWide Tryd.prog W .any base t v := hval0
  have hW' := hW
  obtain ⟨p, q, hA0, hV, rfl, hfz, hnd⟩ := hW
  have hA : DataW.TrodAll enc Tryd.prog W 0 (fun _ => true) true Tryd.f3.params.toList args.toList ds p := hA0
  rw [Tryd.params3] at hA hval
  obtain ⟨v0, vs0, d0, ds0, p0, q0, hargs, rfl, rfl, h0, r0⟩ := trodAll_cons hA
  obtain ⟨rfl, rfl, rfl⟩ := trodAll_nil r0
  obtain rfl : args = #[v0] := by cases args; simp_all
  obtain ⟨rfl, rfl⟩ := trodVars_none hV
  have k0 := h0
  have lt0 : ∀ x ∈ p0, x.block < W.heap.size := by obtain ⟨m, hm⟩ := k0; exact DataW.trod_lt m _ _ _ hm
  obtain ⟨S0, rfl⟩ := open_lanes Tryd.underlying23 Tryd.underlying22 (by kernel_rfl) (by kernel_rfl) (hval 0 _ v0 rfl rfl) h0
  clear hA0 hval0
  refine (permutes_walk S0 W hT).mono fun e W' ⟨he, bel⟩ => ?_
  subst he
  exact ⟨_, rfl, _, _, _, [], _, [], hW', trodAll_mk1 (shut_bool Tryd.underlying4 _), (trodAll_cons_mk (Below.trod laidOut (by kernel_rfl) (of_decide_eq_true (by kernel_rfl)) k0 bel lt0) trodAll_mk0), rfl, bel.frame _, fun h => by cases h⟩
theorem spongePermutes_holds : Rows.SpongePermutesSaid :=
  OpenClaim.holds_of_wide 3 Tryd.f3 rfl rfl rfl rfl rfl rfl rfl ⟨rfl, rfl, rfl, rfl, rfl⟩ rfl rfl rfl rfl rfl (by kernel_rfl) Tryd.func3 (by kernel_rfl)
    (of_decide_eq_true (by kernel_rfl)) (by unfold Func.isWrapper; first | (rw [if_pos (by decide +kernel)]; kernel_rfl) | (rw [if_neg (by decide +kernel)]; exact ⟨rfl, rfl⟩))
    (fun os started H enc _ => spongePermutes_lifted os started H enc)
theorem spongePermutes_card : Rows.SpongePermutesCardSaid :=
  Claim7.holds_tied_plain_at .later [] [.data, .data] true (true, "61dec8a95d45e6b6868d957416c283ac2aac3f2f7edc31fb2634f663520bf00b") false spongePermutes_holds (fun _ h => by cases h) (by kernel_rfl) (fun _ h => by cases h) spongePermutes_row_tie rfl ⟨rfl, rfl⟩ (by kernel_rfl) rfl
    (fun f fn hf hfn => by
      obtain rfl : f = 3 := Option.some.inj ((show Tryd.prog.funcNamed "vouch/vouchlaw2.SpongePermutes" = some 3 by kernel_rfl).symm.trans hf) |>.symm
      obtain rfl : fn = Tryd.f3 := (Option.some.inj (Tryd.func3.symm.trans hfn)).symm
      exact ⟨by kernel_rfl, fun j t ht => by
        rw [Tryd.params3] at ht
        have hm : t ∈ ([23] : List TypeId) := by simpa using Array.mem_of_getElem? ht
        have hall : (([23] : List TypeId).all fun u => !Tryd.prog.wantsStandIn u) = true := by kernel_rfl
        exact (show Tryd.prog.wantsStandIn t = false by simpa using List.all_eq_true.1 hall t hm)⟩)
    (by kernel_rfl)
end Go.Proofs.YtfidjeoeaeghhaaDoor
