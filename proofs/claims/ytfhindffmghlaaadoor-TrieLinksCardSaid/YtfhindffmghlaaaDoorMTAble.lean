/- able. -/
import Derived.Test.YtfhindffmghlaaaDoorG24
import Derived.Deep.RegionHeld3
set_option linter.unusedVariables false
set_option linter.unusedSimpArgs false
namespace Go.Proofs.YtfhindffmghlaaaDoor
open Go.RowKit It
set_option maxHeartbeats 40000000 in
set_option maxRecDepth 20000 in
theorem able_calls (w : World) (hT : Tables w) (hE : Errs w) (hLw : Lows w.heap.size) : Calls Tryd.prog 15 #[] w fun e w' => e = .returned (.bool true) ∧ Below w.heap.size w w' := by
  have HT := Lib.hid hT
  have HE := Lib.hid hE
  have HLw := Lib.hid hLw
  clear hT hE hLw
  go_enter Tryd.func15, Tryd.ntmps15
  go_upto_region 2 with (go_at_call 37; go_loud (refine (newW_calls w 1024 100 HT.out (by omega) (by omega)).mono ?_; rintro e1 w1 ⟨rfl, ht1, hb1, hz1⟩; have HT1 := Lib.hid ht1; have HB1 := Lib.hid hb1; clear ht1 hb1))
  have kc := fun (C : Array Value) (n c : Nat) => Lib.run_convert_bytes_const (P := Tryd.prog) w1 24 5 C n c Tryd.underlying24 Tryd.underlying5
  have hb2 : Below w1.heap.size w1 ((w1.alloc (.cells #[.int .u8 97] 5 (1, 2))).alloc (.cells #[.int .u8 1] 5)) := ((Below.refl _ _).alloc (Nat.le_refl _) _).alloc (by rw [size_alloc]; omega) _
  have hk2 : SeqK ((w1.alloc (.cells #[.int .u8 97] 5 (1, 2))).alloc (.cells #[.int .u8 1] 5)) (some ⟨w1.heap.size, 0, none⟩) keyA :=
    seqK_one (x := 0x61) (fz := (1, 2)) (by rw [heap_old _ _ _ (by rw [size_alloc]; omega)]; exact heap_new w1 _)
  have hv2 : SeqB ((w1.alloc (.cells #[.int .u8 97] 5 (1, 2))).alloc (.cells #[.int .u8 1] 5)) (some ⟨w1.heap.size + 1, 0, none⟩) [1] :=
    seqB_one (x := 1) (by have := heap_new (w1.alloc (.cells #[.int .u8 97] 5 (1, 2))) (.cells #[.int .u8 1] 5); rw [size_alloc] at this; exact this)
  have ht2 := HT1.out.below hb2
  have hput := putW_calls w.heap.size w.heap.size 1024 100 .nil 0 (some ⟨w1.heap.size, 0, none⟩) 1 keyA (some ⟨w1.heap.size + 1, 0, none⟩) 1 [1] _ ht2 (by omega) (by omega) (by omega) (by decide) (by decide) hk2 hv2
  have HPut := Lib.hid hput
  have HB2 := Lib.hid (HB1.out.trans (hb2.mono HB1.out.size))
  clear hb2 hk2 hv2 ht2 hput
  go_upto_region 4 with (go_at_call 40; go_loud (refine HPut.out.mono ?_; rintro e3 w3 ⟨he, ht3, hu3⟩; have he' : e3 = .returned (.int .i64 0) := he; subst he'; have ht3' : TrieW w3 w.heap.size w.heap.size 1024 102 trA 1 := ht3; have HT3 := Lib.hid ht3'; have HB3 := Lib.hid (HB2.out.trans (hu3.below HB2.out.size)); clear he ht3 hu3 ht3'))
  obtain ⟨F3, hp3⟩ := HT3.out.pre
  have hrc := root_calls _ _ _ _ _ _ _ _ hp3
  rw [show encT hashL trA = text_ra from enc_a] at hrc
  obtain ⟨Ra, hRa⟩ : ∃ R, hashS text_ra = R := ⟨_, rfl⟩
  rw [hRa] at hrc
  have HRa := Lib.hid hRa
  have HRc := Lib.hid hrc
  clear hp3 hrc hRa kc
  go_upto_region 5 with (first
    | (go_at_call 23; go_loud (refine HRc.out.mono ?_; rintro e4 w4 ⟨rfl, hb4⟩; have hs4 := hb4.size; have HT4 := Lib.hid (HT3.out.below hb4); have HB4 := Lib.hid (HB3.out.trans (hb4.mono HB3.out.size)); clear hb4))
    | (refine wpL_alloc rfl 23 rfl (tab 32 fun _ => .int .u8 0) (by kernel_rfl) ?_)
    | (refine wpL_storeA rfl 23 (.tmp 2) (.tmp 20) rfl 0 rfl rfl (Blk.new _ _ _) (by omega) (by kernel_rfl) (fun _ => rfl) ?_; intro w5 ho hk; have hb := ho.below ((Below.refl w4.heap.size w4).alloc (Nat.le_refl _) _) (Nat.le_refl _); have hz5 := Nat.le_of_eq ho.size.symm; rw [size_alloc] at hz5; have HK5 := Lib.hid (hk.same (over_whole _ _ _)); have HT5 := Lib.hid (HT4.out.below hb); have HB5 := Lib.hid (HB4.out.trans (hb.mono HB4.out.size)); clear ho hk hb))
  go_simp
  have hu42 := Tryd.underlying23
  have hi42 : (Tryd.prog.info? 23).map (·.size) = some (tab 32 (hashV Ra)).toList.length := by
    rw [show (tab 32 (hashV Ra)).toList.length = 32 by simp [tab]]
    kernel_rfl
  have kc1 : ∀ (C : Array Value) (n c : Nat), (convert 24 24 (.slice (some ⟨w5.heap.size, 0, none⟩) n c)).run Tryd.prog (w5.alloc (.cells C 5)).drew = .ok (.slice (some ⟨w5.heap.size, 0, none⟩) n c) (w5.alloc (.cells C 5 (C.size, C.size + 1))).drew :=
    fun C n c => Lib.run_convert_bytes_const (P := Tryd.prog) w5.drew 24 5 C n c Tryd.underlying24 Tryd.underlying5
  have kc2 : ∀ (o : Obj) (C : Array Value) (n c : Nat), (convert 24 24 (.slice (some ⟨w5.heap.size + 1, 0, none⟩) n c)).run Tryd.prog ((w5.alloc o).alloc (.cells C 5)).drew = .ok (.slice (some ⟨w5.heap.size + 1, 0, none⟩) n c) ((w5.alloc o).alloc (.cells C 5 (C.size, C.size + 1))).drew :=
    fun o C n c => by
      have := Lib.run_convert_bytes_const (P := Tryd.prog) (w5.alloc o).drew 24 5 C n c Tryd.underlying24 Tryd.underlying5
      rw [show (w5.alloc o).drew.heap.size = w5.heap.size + 1 from size_alloc _ _] at this
      exact this
  have kc3 : ∀ (o : Obj) (C : Array Value) (n c : Nat), (convert 24 24 (.slice (some ⟨w5.heap.size, 0, none⟩) n c)).run Tryd.prog ((w5.alloc (.cells C 5)).alloc o).drew = .ok (.slice (some ⟨w5.heap.size, 0, none⟩) n c) ((w5.alloc (.cells C 5 (C.size, C.size + 1))).alloc o).drew :=
    fun o C n c => run_convert_const2 (P := Tryd.prog) w5.drew o 24 5 C n c Tryd.underlying24 Tryd.underlying5
  obtain ⟨Rb, hRb⟩ : ∃ R, hashS text_rb = R := ⟨_, rfl⟩
  have hdf := roots_differ
  rw [hRb, HRa.out] at hdf
  have heq : ∀ W : World, (Op.equalIn 10000 23 (.agg (tab 32 (hashV Rb))) (.agg (tab 32 (hashV Ra)))).run Tryd.prog W = .ok false W := fun W => by rw [← hdf]; exact eql_hash Rb Ra W
  have hgd := guard_hash
  have HRb := Lib.hid hRb
  have hbd1 : Below w5.heap.size w5 ((w5.alloc (.cells #[.int .u8 98] 5 (1, 2))).alloc (.cells #[.int .u8 2] 5)).drew := below_drewN (((Below.refl _ _).alloc (Nat.le_refl _) _).alloc (by rw [size_alloc]; omega) _) 1
  have hbd2 : Below w5.heap.size w5 ((w5.alloc (.cells #[.int .u8 2] 5)).alloc (.cells #[.int .u8 98] 5 (1, 2))).drew := below_drewN (((Below.refl _ _).alloc (Nat.le_refl _) _).alloc (by rw [size_alloc]; omega) _) 1
  have hp1 := putB_calls (w := w5) (HT5.out.below hbd1) (A := some ⟨w5.heap.size, 0, none⟩) (A2 := some ⟨w5.heap.size + 1, 0, none⟩)
    (seqK_one (x := 0x62) (fz := (1, 2)) (by show ((w5.alloc (.cells #[.int .u8 98] 5 (1, 2))).alloc (.cells #[.int .u8 2] 5)).heap[w5.heap.size]? = _; rw [heap_old _ _ _ (by rw [size_alloc]; omega)]; exact heap_new w5 _))
    (seqB_one (x := 2) (by have := heap_new (w5.alloc (.cells #[.int .u8 98] 5 (1, 2))) (.cells #[.int .u8 2] 5); rw [size_alloc] at this; exact this)) hbd1.size
  have hp2 := putB_calls (w := w5) (HT5.out.below hbd2) (A := some ⟨w5.heap.size + 1, 0, none⟩) (A2 := some ⟨w5.heap.size, 0, none⟩)
    (seqK_one (x := 0x62) (fz := (1, 2)) (by have := heap_new (w5.alloc (.cells #[.int .u8 2] 5)) (.cells #[.int .u8 98] 5 (1, 2)); rw [size_alloc] at this; exact this))
    (seqB_one (x := 2) (by show ((w5.alloc (.cells #[.int .u8 2] 5)).alloc (.cells #[.int .u8 98] 5 (1, 2))).heap[w5.heap.size]? = _; rw [heap_old _ _ _ (by rw [size_alloc]; omega)]; exact heap_new w5 _)) hbd2.size
  have HP1 := Lib.hid hp1
  have HP2 := Lib.hid hp2
  have HD1 := Lib.hid (HB5.out.trans (hbd1.mono HB5.out.size))
  have HD2 := Lib.hid (HB5.out.trans (hbd2.mono HB5.out.size))
  have HK51 := Lib.hid (HK5.out.below hbd1 HK5.out.lt)
  have HK52 := Lib.hid (HK5.out.below hbd2 HK5.out.lt)
  clear hRb hdf hbd1 hbd2 hp1 hp2
  go_cut [37] from 21 to 36 (fun v wx => v = .bool false ∧ TrieW wx w.heap.size w.heap.size 1024 104 trB 2 ∧ Blk wx w4.heap.size 23 (tab 32 (hashV Ra)) ∧ Below w.heap.size w wx)
  case first =>
    refine wp_region_held_drew (S := HeldR w4.heap.size Ra) (by kernel_rfl) (by first | exact rangeAt_blk HK5.out | exact rangeAt_blk (Blk.alloc HK5.out _) | exact rangeAt_blk (Blk.alloc (Blk.alloc HK5.out _) _)) (fun hHeld => ?_)
    refine wpAnyH_take (i := 0) (v := ?_) rfl (by kernel_rfl) (by kernel_rfl) (by kernel_rfl) (fun _ _ _ h => h) (Or.inl ⟨by rfl, ?_⟩) hHeld ?_
    rotate_left
    · intro _ _; go_simp; try with_reducible rfl
    try dsimp only [Act.put, List.getElem_toArray, List.getElem_cons_zero, List.getElem_cons_succ, List.setIfInBounds_toArray, List.set_cons_zero, List.set_cons_succ]
    refine wpAnyH_ready (rs := [1, 3]) (by kernel_rfl) (by simp) ?_
    refine AllReadyH.cons rfl (fun K hK => ?_) (AllReadyH.cons rfl (fun K hK => ?_) AllReadyH.nil)
    · go_simp
      refine hK.out _ _ (by first | exact rangeAt_blk HK5.out | exact rangeAt_blk (Blk.alloc HK5.out _) | exact rangeAt_blk (Blk.alloc (Blk.alloc HK5.out _) _)) (fun hHeld => ?_)
      clear hK K
      try dsimp only [Act.put, List.getElem_toArray, List.getElem_cons_zero, List.getElem_cons_succ, List.setIfInBounds_toArray, List.set_cons_zero, List.set_cons_succ]
      refine wpAnyH_ready (rs := [2, 3]) (by kernel_rfl) (by simp) ?_
      refine AllReadyH.cons rfl (fun K hK => ?_) (AllReadyH.cons rfl (fun K hK => ?_) AllReadyH.nil)
      · go_simp
        refine hK.out _ _ (by first | exact rangeAt_blk HK5.out | exact rangeAt_blk (Blk.alloc HK5.out _) | exact rangeAt_blk (Blk.alloc (Blk.alloc HK5.out _) _)) (fun hHeld => ?_)
        clear hK K
        try dsimp only [Act.put, List.getElem_toArray, List.getElem_cons_zero, List.getElem_cons_succ, List.setIfInBounds_toArray, List.set_cons_zero, List.set_cons_succ]
        refine wpAnyH_ready (rs := [3]) (by kernel_rfl) (by simp) ?_
        refine AllReadyH.cons rfl (fun K hK => ?_) AllReadyH.nil
        go_simp
        refine hK.out _ _ (by first | exact rangeAt_blk HK5.out | exact rangeAt_blk (Blk.alloc HK5.out _) | exact rangeAt_blk (Blk.alloc (Blk.alloc HK5.out _) _)) (fun hHeld => ?_)
        clear hK K
        try dsimp only [Act.put, List.getElem_toArray, List.getElem_cons_zero, List.getElem_cons_succ, List.setIfInBounds_toArray, List.set_cons_zero, List.set_cons_succ]
        refine wpAnyH_ready (rs := [4]) (by kernel_rfl) (by simp) ?_
        refine AllReadyH.cons rfl (fun K hK => ?_) AllReadyH.nil
        go_simp
        (refine HP1.out.mono ?_); rintro e6 w6 ⟨rfl, ht6, hu6, hz6⟩
        have hk6 := hu6.blk HK51.out (by decide) (by decide)
        have HB6 := Lib.hid (HD1.out.trans (hu6.below HD1.out.size))
        have HK6 := Lib.hid hk6; have HT6 := Lib.hid ht6; clear hk6 ht6 hu6
        go_wp2_with fail
        refine hK.out _ _ (rangeAt_blk HK6.out) (fun hHeld => ?_)
        clear hK K
        try dsimp only [Act.put, List.getElem_toArray, List.getElem_cons_zero, List.getElem_cons_succ, List.setIfInBounds_toArray, List.set_cons_zero, List.set_cons_succ]
        refine wpAnyH_take (i := 5) (v := ?_) rfl (by kernel_rfl) (by kernel_rfl) (by kernel_rfl) (fun _ _ _ h => h) (Or.inl ⟨by rfl, ?_⟩) hHeld ?_
        rotate_left
        · intro _ _; go_simp; try with_reducible rfl
        try dsimp only [Act.put, List.getElem_toArray, List.getElem_cons_zero, List.getElem_cons_succ, List.setIfInBounds_toArray, List.set_cons_zero, List.set_cons_succ]
        refine wpAnyH_take (i := 6) (v := ?_) rfl (by kernel_rfl) (by kernel_rfl) (by kernel_rfl) (fun _ _ _ h => h) (Or.inl ⟨by rfl, ?_⟩) hHeld ?_
        rotate_left
        · intro _ _; go_simp; try with_reducible rfl
        try dsimp only [Act.put, List.getElem_toArray, List.getElem_cons_zero, List.getElem_cons_succ, List.setIfInBounds_toArray, List.set_cons_zero, List.set_cons_succ]
        refine wpAnyH_take (i := 7) (v := ?_) rfl (by kernel_rfl) (by kernel_rfl) (by kernel_rfl) (fun _ _ _ h => h) (Or.inl ⟨by rfl, ?_⟩) hHeld ?_
        rotate_left
        · intro _ _; go_simp; try with_reducible rfl
        try dsimp only [Act.put, List.getElem_toArray, List.getElem_cons_zero, List.getElem_cons_succ, List.setIfInBounds_toArray, List.set_cons_zero, List.set_cons_succ]
        refine wpAnyH_take (i := 9) (v := .agg (List.toArray (tab 32 (hashV Ra)).toList)) rfl (by kernel_rfl) (by kernel_rfl) (by kernel_rfl) (fun _ _ _ h => h) (yieldsIf_load_mid (by rfl) 23 (.tmp 2) rfl w4.heap.size 0 rfl (tab 32 (hashV Ra)).toList _ (fun _ h => h) hu42 rfl hi42) hHeld ?_
        try dsimp only [Act.put, List.getElem_toArray, List.getElem_cons_zero, List.getElem_cons_succ, List.setIfInBounds_toArray, List.set_cons_zero, List.set_cons_succ]
        refine wpAnyH_ready (rs := [8]) (by kernel_rfl) (by simp) ?_
        refine AllReadyH.cons rfl (fun K hK => ?_) AllReadyH.nil
        go_simp
        obtain ⟨F6, hp6⟩ := HT6.out.pre
        have hrc := root_calls _ _ _ _ _ _ _ _ hp6
        rw [show encT hashL trB = text_rb from enc_b, HRb.out] at hrc
        (refine hrc.mono ?_); clear hrc hp6; rintro e7 w7 ⟨rfl, hb7⟩
        have hz7 := hb7.size; have HK7 := Lib.hid (HK6.out.below hb7 HK6.out.lt); have HT7 := Lib.hid (HT6.out.below hb7); have HB7 := Lib.hid (HB6.out.trans (hb7.mono HB6.out.size)); clear hb7
        go_wp2_with fail
        refine hK.out _ _ (rangeAt_blk HK7.out) (fun hHeld => ?_)
        clear hK K
        try dsimp only [Act.put, List.getElem_toArray, List.getElem_cons_zero, List.getElem_cons_succ, List.setIfInBounds_toArray, List.set_cons_zero, List.set_cons_succ]
        refine wpAnyH_take (i := 10) (v := ?_) rfl (by kernel_rfl) (by kernel_rfl) (by kernel_rfl) (fun _ _ _ h => h) (Or.inl ⟨by rfl, ?_⟩) hHeld ?_
        rotate_left
        · intro _ _; go_simp; try with_reducible rfl
        try dsimp only [Act.put, List.getElem_toArray, List.getElem_cons_zero, List.getElem_cons_succ, List.setIfInBounds_toArray, List.set_cons_zero, List.set_cons_succ]
        refine wpAnyH_take (i := 11) (v := ?_) rfl (by kernel_rfl) (by kernel_rfl) (by kernel_rfl) (fun _ _ _ h => h) (Or.inl ⟨by rfl, ?_⟩) hHeld ?_
        rotate_left
        · intro _ _; go_simp; try with_reducible rfl
        try dsimp only [Act.put, List.getElem_toArray, List.getElem_cons_zero, List.getElem_cons_succ, List.setIfInBounds_toArray, List.set_cons_zero, List.set_cons_succ]
        refine wpAnyH_take (i := 12) (v := ?_) rfl (by kernel_rfl) (by kernel_rfl) (by kernel_rfl) (fun _ _ _ h => h) (Or.inl ⟨by rfl, ?_⟩) hHeld ?_
        rotate_left
        · intro _ _; go_simp; try with_reducible rfl
        try dsimp only [Act.put, List.getElem_toArray, List.getElem_cons_zero, List.getElem_cons_succ, List.setIfInBounds_toArray, List.set_cons_zero, List.set_cons_succ]
        refine wpAnyH_take (i := 13) (v := ?_) rfl (by kernel_rfl) (by kernel_rfl) (by kernel_rfl) (fun _ _ _ h => h) (Or.inl ⟨by rfl, ?_⟩) hHeld ?_
        rotate_left
        · intro _ _; go_simp; try with_reducible rfl
        try dsimp only [Act.put, List.getElem_toArray, List.getElem_cons_zero, List.getElem_cons_succ, List.setIfInBounds_toArray, List.set_cons_zero, List.set_cons_succ]
        refine wpAnyH_ready (rs := [14]) (by kernel_rfl) (by simp) ?_
        refine AllReadyH.cons rfl (fun K hK => ?_) AllReadyH.nil
        go_simp
        obtain ⟨F7, hp7⟩ := HT7.out.pre
        (refine (lenT_calls _ _ _ _ _ _ hp7.at_).mono ?_); clear hp7; rintro e8 w8 ⟨rfl, rfl⟩
        go_wp2_with fail
        refine hK.out _ _ (rangeAt_blk HK7.out) (fun hHeld => ?_)
        clear hK K
        try dsimp only [Act.put, List.getElem_toArray, List.getElem_cons_zero, List.getElem_cons_succ, List.setIfInBounds_toArray, List.set_cons_zero, List.set_cons_succ]
        refine wpAnyH_take (i := 15) (v := ?_) rfl (by kernel_rfl) (by kernel_rfl) (by kernel_rfl) (fun _ _ _ h => h) (Or.inl ⟨by rfl, ?_⟩) hHeld ?_
        rotate_left
        · intro _ _; go_simp; try with_reducible rfl
        try dsimp only [Act.put, List.getElem_toArray, List.getElem_cons_zero, List.getElem_cons_succ, List.setIfInBounds_toArray, List.set_cons_zero, List.set_cons_succ]
        refine wpAnyH_take (i := 16) (v := ?_) rfl (by kernel_rfl) (by kernel_rfl) (by kernel_rfl) (fun _ _ _ h => h) (Or.inl ⟨by rfl, ?_⟩) hHeld ?_
        rotate_left
        · intro _ _; go_simp; try with_reducible rfl
        try dsimp only [Act.put, List.getElem_toArray, List.getElem_cons_zero, List.getElem_cons_succ, List.setIfInBounds_toArray, List.set_cons_zero, List.set_cons_succ]
        refine wpAnyH_done (by kernel_rfl) ?_ _
        go_wp2_with fail
        go_meet
        case rel =>
          exact ⟨rfl, HT7.out, HK7.out, HB7.out⟩
      · go_simp
        refine hK.out _ _ (by first | exact rangeAt_blk HK5.out | exact rangeAt_blk (Blk.alloc HK5.out _) | exact rangeAt_blk (Blk.alloc (Blk.alloc HK5.out _) _)) (fun hHeld => ?_)
        clear hK K
        try dsimp only [Act.put, List.getElem_toArray, List.getElem_cons_zero, List.getElem_cons_succ, List.setIfInBounds_toArray, List.set_cons_zero, List.set_cons_succ]
        refine wpAnyH_ready (rs := [2]) (by kernel_rfl) (by simp) ?_
        refine AllReadyH.cons rfl (fun K hK => ?_) AllReadyH.nil
        go_simp
        refine hK.out _ _ (by first | exact rangeAt_blk HK5.out | exact rangeAt_blk (Blk.alloc HK5.out _) | exact rangeAt_blk (Blk.alloc (Blk.alloc HK5.out _) _)) (fun hHeld => ?_)
        clear hK K
        try dsimp only [Act.put, List.getElem_toArray, List.getElem_cons_zero, List.getElem_cons_succ, List.setIfInBounds_toArray, List.set_cons_zero, List.set_cons_succ]
        refine wpAnyH_ready (rs := [4]) (by kernel_rfl) (by simp) ?_
        refine AllReadyH.cons rfl (fun K hK => ?_) AllReadyH.nil
        go_simp
        (refine HP1.out.mono ?_); rintro e6 w6 ⟨rfl, ht6, hu6, hz6⟩
        have hk6 := hu6.blk HK51.out (by decide) (by decide)
        have HB6 := Lib.hid (HD1.out.trans (hu6.below HD1.out.size))
        have HK6 := Lib.hid hk6; have HT6 := Lib.hid ht6; clear hk6 ht6 hu6
        go_wp2_with fail
        refine hK.out _ _ (rangeAt_blk HK6.out) (fun hHeld => ?_)
        clear hK K
        try dsimp only [Act.put, List.getElem_toArray, List.getElem_cons_zero, List.getElem_cons_succ, List.setIfInBounds_toArray, List.set_cons_zero, List.set_cons_succ]
        refine wpAnyH_take (i := 5) (v := ?_) rfl (by kernel_rfl) (by kernel_rfl) (by kernel_rfl) (fun _ _ _ h => h) (Or.inl ⟨by rfl, ?_⟩) hHeld ?_
        rotate_left
        · intro _ _; go_simp; try with_reducible rfl
        try dsimp only [Act.put, List.getElem_toArray, List.getElem_cons_zero, List.getElem_cons_succ, List.setIfInBounds_toArray, List.set_cons_zero, List.set_cons_succ]
        refine wpAnyH_take (i := 6) (v := ?_) rfl (by kernel_rfl) (by kernel_rfl) (by kernel_rfl) (fun _ _ _ h => h) (Or.inl ⟨by rfl, ?_⟩) hHeld ?_
        rotate_left
        · intro _ _; go_simp; try with_reducible rfl
        try dsimp only [Act.put, List.getElem_toArray, List.getElem_cons_zero, List.getElem_cons_succ, List.setIfInBounds_toArray, List.set_cons_zero, List.set_cons_succ]
        refine wpAnyH_take (i := 7) (v := ?_) rfl (by kernel_rfl) (by kernel_rfl) (by kernel_rfl) (fun _ _ _ h => h) (Or.inl ⟨by rfl, ?_⟩) hHeld ?_
        rotate_left
        · intro _ _; go_simp; try with_reducible rfl
        try dsimp only [Act.put, List.getElem_toArray, List.getElem_cons_zero, List.getElem_cons_succ, List.setIfInBounds_toArray, List.set_cons_zero, List.set_cons_succ]
        refine wpAnyH_take (i := 9) (v := .agg (List.toArray (tab 32 (hashV Ra)).toList)) rfl (by kernel_rfl) (by kernel_rfl) (by kernel_rfl) (fun _ _ _ h => h) (yieldsIf_load_mid (by rfl) 23 (.tmp 2) rfl w4.heap.size 0 rfl (tab 32 (hashV Ra)).toList _ (fun _ h => h) hu42 rfl hi42) hHeld ?_
        try dsimp only [Act.put, List.getElem_toArray, List.getElem_cons_zero, List.getElem_cons_succ, List.setIfInBounds_toArray, List.set_cons_zero, List.set_cons_succ]
        refine wpAnyH_ready (rs := [8]) (by kernel_rfl) (by simp) ?_
        refine AllReadyH.cons rfl (fun K hK => ?_) AllReadyH.nil
        go_simp
        obtain ⟨F6, hp6⟩ := HT6.out.pre
        have hrc := root_calls _ _ _ _ _ _ _ _ hp6
        rw [show encT hashL trB = text_rb from enc_b, HRb.out] at hrc
        (refine hrc.mono ?_); clear hrc hp6; rintro e7 w7 ⟨rfl, hb7⟩
        have hz7 := hb7.size; have HK7 := Lib.hid (HK6.out.below hb7 HK6.out.lt); have HT7 := Lib.hid (HT6.out.below hb7); have HB7 := Lib.hid (HB6.out.trans (hb7.mono HB6.out.size)); clear hb7
        go_wp2_with fail
        refine hK.out _ _ (rangeAt_blk HK7.out) (fun hHeld => ?_)
        clear hK K
        try dsimp only [Act.put, List.getElem_toArray, List.getElem_cons_zero, List.getElem_cons_succ, List.setIfInBounds_toArray, List.set_cons_zero, List.set_cons_succ]
        refine wpAnyH_take (i := 10) (v := ?_) rfl (by kernel_rfl) (by kernel_rfl) (by kernel_rfl) (fun _ _ _ h => h) (Or.inl ⟨by rfl, ?_⟩) hHeld ?_
        rotate_left
        · intro _ _; go_simp; try with_reducible rfl
        try dsimp only [Act.put, List.getElem_toArray, List.getElem_cons_zero, List.getElem_cons_succ, List.setIfInBounds_toArray, List.set_cons_zero, List.set_cons_succ]
        refine wpAnyH_take (i := 11) (v := ?_) rfl (by kernel_rfl) (by kernel_rfl) (by kernel_rfl) (fun _ _ _ h => h) (Or.inl ⟨by rfl, ?_⟩) hHeld ?_
        rotate_left
        · intro _ _; go_simp; try with_reducible rfl
        try dsimp only [Act.put, List.getElem_toArray, List.getElem_cons_zero, List.getElem_cons_succ, List.setIfInBounds_toArray, List.set_cons_zero, List.set_cons_succ]
        refine wpAnyH_take (i := 12) (v := ?_) rfl (by kernel_rfl) (by kernel_rfl) (by kernel_rfl) (fun _ _ _ h => h) (Or.inl ⟨by rfl, ?_⟩) hHeld ?_
        rotate_left
        · intro _ _; go_simp; try with_reducible rfl
        try dsimp only [Act.put, List.getElem_toArray, List.getElem_cons_zero, List.getElem_cons_succ, List.setIfInBounds_toArray, List.set_cons_zero, List.set_cons_succ]
        refine wpAnyH_take (i := 13) (v := ?_) rfl (by kernel_rfl) (by kernel_rfl) (by kernel_rfl) (fun _ _ _ h => h) (Or.inl ⟨by rfl, ?_⟩) hHeld ?_
        rotate_left
        · intro _ _; go_simp; try with_reducible rfl
        try dsimp only [Act.put, List.getElem_toArray, List.getElem_cons_zero, List.getElem_cons_succ, List.setIfInBounds_toArray, List.set_cons_zero, List.set_cons_succ]
        refine wpAnyH_ready (rs := [14]) (by kernel_rfl) (by simp) ?_
        refine AllReadyH.cons rfl (fun K hK => ?_) AllReadyH.nil
        go_simp
        obtain ⟨F7, hp7⟩ := HT7.out.pre
        (refine (lenT_calls _ _ _ _ _ _ hp7.at_).mono ?_); clear hp7; rintro e8 w8 ⟨rfl, rfl⟩
        go_wp2_with fail
        refine hK.out _ _ (rangeAt_blk HK7.out) (fun hHeld => ?_)
        clear hK K
        try dsimp only [Act.put, List.getElem_toArray, List.getElem_cons_zero, List.getElem_cons_succ, List.setIfInBounds_toArray, List.set_cons_zero, List.set_cons_succ]
        refine wpAnyH_take (i := 15) (v := ?_) rfl (by kernel_rfl) (by kernel_rfl) (by kernel_rfl) (fun _ _ _ h => h) (Or.inl ⟨by rfl, ?_⟩) hHeld ?_
        rotate_left
        · intro _ _; go_simp; try with_reducible rfl
        try dsimp only [Act.put, List.getElem_toArray, List.getElem_cons_zero, List.getElem_cons_succ, List.setIfInBounds_toArray, List.set_cons_zero, List.set_cons_succ]
        refine wpAnyH_take (i := 16) (v := ?_) rfl (by kernel_rfl) (by kernel_rfl) (by kernel_rfl) (fun _ _ _ h => h) (Or.inl ⟨by rfl, ?_⟩) hHeld ?_
        rotate_left
        · intro _ _; go_simp; try with_reducible rfl
        try dsimp only [Act.put, List.getElem_toArray, List.getElem_cons_zero, List.getElem_cons_succ, List.setIfInBounds_toArray, List.set_cons_zero, List.set_cons_succ]
        refine wpAnyH_done (by kernel_rfl) ?_ _
        go_wp2_with fail
        go_meet
        case rel =>
          exact ⟨rfl, HT7.out, HK7.out, HB7.out⟩
    · go_simp
      refine hK.out _ _ (by first | exact rangeAt_blk HK5.out | exact rangeAt_blk (Blk.alloc HK5.out _) | exact rangeAt_blk (Blk.alloc (Blk.alloc HK5.out _) _)) (fun hHeld => ?_)
      clear hK K
      try dsimp only [Act.put, List.getElem_toArray, List.getElem_cons_zero, List.getElem_cons_succ, List.setIfInBounds_toArray, List.set_cons_zero, List.set_cons_succ]
      refine wpAnyH_ready (rs := [1]) (by kernel_rfl) (by simp) ?_
      refine AllReadyH.cons rfl (fun K hK => ?_) AllReadyH.nil
      go_simp
      refine hK.out _ _ (by first | exact rangeAt_blk HK5.out | exact rangeAt_blk (Blk.alloc HK5.out _) | exact rangeAt_blk (Blk.alloc (Blk.alloc HK5.out _) _)) (fun hHeld => ?_)
      clear hK K
      try dsimp only [Act.put, List.getElem_toArray, List.getElem_cons_zero, List.getElem_cons_succ, List.setIfInBounds_toArray, List.set_cons_zero, List.set_cons_succ]
      refine wpAnyH_ready (rs := [2]) (by kernel_rfl) (by simp) ?_
      refine AllReadyH.cons rfl (fun K hK => ?_) AllReadyH.nil
      go_simp
      refine hK.out _ _ (by first | exact rangeAt_blk HK5.out | exact rangeAt_blk (Blk.alloc HK5.out _) | exact rangeAt_blk (Blk.alloc (Blk.alloc HK5.out _) _)) (fun hHeld => ?_)
      clear hK K
      try dsimp only [Act.put, List.getElem_toArray, List.getElem_cons_zero, List.getElem_cons_succ, List.setIfInBounds_toArray, List.set_cons_zero, List.set_cons_succ]
      refine wpAnyH_ready (rs := [4]) (by kernel_rfl) (by simp) ?_
      refine AllReadyH.cons rfl (fun K hK => ?_) AllReadyH.nil
      go_simp
      (refine HP2.out.mono ?_); rintro e6 w6 ⟨rfl, ht6, hu6, hz6⟩
      have hk6 := hu6.blk HK52.out (by decide) (by decide)
      have HB6 := Lib.hid (HD2.out.trans (hu6.below HD2.out.size))
      have HK6 := Lib.hid hk6; have HT6 := Lib.hid ht6; clear hk6 ht6 hu6
      go_wp2_with fail
      refine hK.out _ _ (rangeAt_blk HK6.out) (fun hHeld => ?_)
      clear hK K
      try dsimp only [Act.put, List.getElem_toArray, List.getElem_cons_zero, List.getElem_cons_succ, List.setIfInBounds_toArray, List.set_cons_zero, List.set_cons_succ]
      refine wpAnyH_take (i := 5) (v := ?_) rfl (by kernel_rfl) (by kernel_rfl) (by kernel_rfl) (fun _ _ _ h => h) (Or.inl ⟨by rfl, ?_⟩) hHeld ?_
      rotate_left
      · intro _ _; go_simp; try with_reducible rfl
      try dsimp only [Act.put, List.getElem_toArray, List.getElem_cons_zero, List.getElem_cons_succ, List.setIfInBounds_toArray, List.set_cons_zero, List.set_cons_succ]
      refine wpAnyH_take (i := 6) (v := ?_) rfl (by kernel_rfl) (by kernel_rfl) (by kernel_rfl) (fun _ _ _ h => h) (Or.inl ⟨by rfl, ?_⟩) hHeld ?_
      rotate_left
      · intro _ _; go_simp; try with_reducible rfl
      try dsimp only [Act.put, List.getElem_toArray, List.getElem_cons_zero, List.getElem_cons_succ, List.setIfInBounds_toArray, List.set_cons_zero, List.set_cons_succ]
      refine wpAnyH_take (i := 7) (v := ?_) rfl (by kernel_rfl) (by kernel_rfl) (by kernel_rfl) (fun _ _ _ h => h) (Or.inl ⟨by rfl, ?_⟩) hHeld ?_
      rotate_left
      · intro _ _; go_simp; try with_reducible rfl
      try dsimp only [Act.put, List.getElem_toArray, List.getElem_cons_zero, List.getElem_cons_succ, List.setIfInBounds_toArray, List.set_cons_zero, List.set_cons_succ]
      refine wpAnyH_take (i := 9) (v := .agg (List.toArray (tab 32 (hashV Ra)).toList)) rfl (by kernel_rfl) (by kernel_rfl) (by kernel_rfl) (fun _ _ _ h => h) (yieldsIf_load_mid (by rfl) 23 (.tmp 2) rfl w4.heap.size 0 rfl (tab 32 (hashV Ra)).toList _ (fun _ h => h) hu42 rfl hi42) hHeld ?_
      try dsimp only [Act.put, List.getElem_toArray, List.getElem_cons_zero, List.getElem_cons_succ, List.setIfInBounds_toArray, List.set_cons_zero, List.set_cons_succ]
      refine wpAnyH_ready (rs := [8]) (by kernel_rfl) (by simp) ?_
      refine AllReadyH.cons rfl (fun K hK => ?_) AllReadyH.nil
      go_simp
      obtain ⟨F6, hp6⟩ := HT6.out.pre
      have hrc := root_calls _ _ _ _ _ _ _ _ hp6
      rw [show encT hashL trB = text_rb from enc_b, HRb.out] at hrc
      (refine hrc.mono ?_); clear hrc hp6; rintro e7 w7 ⟨rfl, hb7⟩
      have hz7 := hb7.size; have HK7 := Lib.hid (HK6.out.below hb7 HK6.out.lt); have HT7 := Lib.hid (HT6.out.below hb7); have HB7 := Lib.hid (HB6.out.trans (hb7.mono HB6.out.size)); clear hb7
      go_wp2_with fail
      refine hK.out _ _ (rangeAt_blk HK7.out) (fun hHeld => ?_)
      clear hK K
      try dsimp only [Act.put, List.getElem_toArray, List.getElem_cons_zero, List.getElem_cons_succ, List.setIfInBounds_toArray, List.set_cons_zero, List.set_cons_succ]
      refine wpAnyH_take (i := 10) (v := ?_) rfl (by kernel_rfl) (by kernel_rfl) (by kernel_rfl) (fun _ _ _ h => h) (Or.inl ⟨by rfl, ?_⟩) hHeld ?_
      rotate_left
      · intro _ _; go_simp; try with_reducible rfl
      try dsimp only [Act.put, List.getElem_toArray, List.getElem_cons_zero, List.getElem_cons_succ, List.setIfInBounds_toArray, List.set_cons_zero, List.set_cons_succ]
      refine wpAnyH_take (i := 11) (v := ?_) rfl (by kernel_rfl) (by kernel_rfl) (by kernel_rfl) (fun _ _ _ h => h) (Or.inl ⟨by rfl, ?_⟩) hHeld ?_
      rotate_left
      · intro _ _; go_simp; try with_reducible rfl
      try dsimp only [Act.put, List.getElem_toArray, List.getElem_cons_zero, List.getElem_cons_succ, List.setIfInBounds_toArray, List.set_cons_zero, List.set_cons_succ]
      refine wpAnyH_take (i := 12) (v := ?_) rfl (by kernel_rfl) (by kernel_rfl) (by kernel_rfl) (fun _ _ _ h => h) (Or.inl ⟨by rfl, ?_⟩) hHeld ?_
      rotate_left
      · intro _ _; go_simp; try with_reducible rfl
      try dsimp only [Act.put, List.getElem_toArray, List.getElem_cons_zero, List.getElem_cons_succ, List.setIfInBounds_toArray, List.set_cons_zero, List.set_cons_succ]
      refine wpAnyH_take (i := 13) (v := ?_) rfl (by kernel_rfl) (by kernel_rfl) (by kernel_rfl) (fun _ _ _ h => h) (Or.inl ⟨by rfl, ?_⟩) hHeld ?_
      rotate_left
      · intro _ _; go_simp; try with_reducible rfl
      try dsimp only [Act.put, List.getElem_toArray, List.getElem_cons_zero, List.getElem_cons_succ, List.setIfInBounds_toArray, List.set_cons_zero, List.set_cons_succ]
      refine wpAnyH_ready (rs := [14]) (by kernel_rfl) (by simp) ?_
      refine AllReadyH.cons rfl (fun K hK => ?_) AllReadyH.nil
      go_simp
      obtain ⟨F7, hp7⟩ := HT7.out.pre
      (refine (lenT_calls _ _ _ _ _ _ hp7.at_).mono ?_); clear hp7; rintro e8 w8 ⟨rfl, rfl⟩
      go_wp2_with fail
      refine hK.out _ _ (rangeAt_blk HK7.out) (fun hHeld => ?_)
      clear hK K
      try dsimp only [Act.put, List.getElem_toArray, List.getElem_cons_zero, List.getElem_cons_succ, List.setIfInBounds_toArray, List.set_cons_zero, List.set_cons_succ]
      refine wpAnyH_take (i := 15) (v := ?_) rfl (by kernel_rfl) (by kernel_rfl) (by kernel_rfl) (fun _ _ _ h => h) (Or.inl ⟨by rfl, ?_⟩) hHeld ?_
      rotate_left
      · intro _ _; go_simp; try with_reducible rfl
      try dsimp only [Act.put, List.getElem_toArray, List.getElem_cons_zero, List.getElem_cons_succ, List.setIfInBounds_toArray, List.set_cons_zero, List.set_cons_succ]
      refine wpAnyH_take (i := 16) (v := ?_) rfl (by kernel_rfl) (by kernel_rfl) (by kernel_rfl) (fun _ _ _ h => h) (Or.inl ⟨by rfl, ?_⟩) hHeld ?_
      rotate_left
      · intro _ _; go_simp; try with_reducible rfl
      try dsimp only [Act.put, List.getElem_toArray, List.getElem_cons_zero, List.getElem_cons_succ, List.setIfInBounds_toArray, List.set_cons_zero, List.set_cons_succ]
      refine wpAnyH_done (by kernel_rfl) ?_ _
      go_wp2_with fail
      go_meet
      case rel =>
        exact ⟨rfl, HT7.out, HK7.out, HB7.out⟩
  case rest =>
    obtain ⟨rfl, htc, hkc, hbc⟩ := hcut
    rename World => wc
    have HTc := Lib.hid htc
    have HKc := Lib.hid hkc
    have HBc := Lib.hid hbc
    clear htc hkc hbc HP1 HP2 HD1 HD2 HK51 HK52 kc1 kc2 kc3 HPut HB2
    have kc := fun (C : Array Value) (n c : Nat) => Lib.run_convert_bytes_const (P := Tryd.prog) wc 24 5 C n c Tryd.underlying24 Tryd.underlying5
    have hbG : Below wc.heap.size wc (wc.alloc (.cells #[.int .u8 98] 5 (1, 2))) := (Below.refl _ _).alloc (Nat.le_refl _) _
    have HGet := Lib.hid (getB_calls (A := some ⟨wc.heap.size, 0, none⟩) (HTc.out.below hbG) (seq_one (x := 0x62) (heap_new wc _)))
    have HBG := Lib.hid (HBc.out.trans (hbG.mono HBc.out.size))
    have HKG := Lib.hid (HKc.out.below hbG HKc.out.lt)
    have HTG := Lib.hid (HTc.out.below hbG)
    clear hbG
    go_upto_region 8 with (go_at_call 35; (refine HGet.out.mono ?_); rintro eg wg ⟨Ag, cg, rfl, hsg, hbg⟩; have hzg := hbg.size; have HSg := Lib.hid hsg; have HTg := Lib.hid (HTG.out.below hbg); have HKg := Lib.hid (HKG.out.below hbg HKG.out.lt); have HBg := Lib.hid (HBG.out.trans (hbg.mono HBG.out.size)); clear hsg hbg)
    go_simp
    clear kc
    have kc2 : ∀ (o : Obj) (C : Array Value) (n c : Nat), (convert 24 24 (.slice (some ⟨wg.heap.size + 1, 0, none⟩) n c)).run Tryd.prog ((wg.alloc o).alloc (.cells C 5)).drew = .ok (.slice (some ⟨wg.heap.size + 1, 0, none⟩) n c) ((wg.alloc o).alloc (.cells C 5 (C.size, C.size + 1))).drew :=
      fun o C n c => by
        have := Lib.run_convert_bytes_const (P := Tryd.prog) (wg.alloc o).drew 24 5 C n c Tryd.underlying24 Tryd.underlying5
        rw [show (wg.alloc o).drew.heap.size = wg.heap.size + 1 from size_alloc _ _] at this
        exact this
    have heq2 : ∀ W : World, (Op.equalIn 10000 23 (.agg (tab 32 (hashV Ra))) (.agg (tab 32 (hashV Ra)))).run Tryd.prog W = .ok true W := fun W => by rw [← (sameH_iff Ra Ra).2 fun _ _ => rfl]; exact eql_hash Ra Ra W
    have hb1 : Below wg.heap.size wg (wg.alloc (.cells #[.int .u8 2] 5)).drew := below_drewN ((Below.refl _ _).alloc (Nat.le_refl _) _) 1
    have hb2 : Below wg.heap.size wg ((wg.alloc (.cells #[.int .u8 2] 5)).alloc (.cells #[.int .u8 98] 5 (1, 2))).drew := below_drewN (((Below.refl _ _).alloc (Nat.le_refl _) _).alloc (by rw [size_alloc]; omega) _) 1
    have hz1 : (wg.alloc (.cells #[.int .u8 2] 5)).drew.heap.size = wg.heap.size + 1 := size_alloc _ _
    have HSame := Lib.hid (same1_calls (W := (wg.alloc (.cells #[.int .u8 2] 5)).drew) (A := Ag) (c := cg) (A2 := some ⟨wg.heap.size, 0, none⟩) (c2 := 1) (B := wg.heap.size + 1) (x := 2) ((HSg.out.below hb1 (Nat.le_refl _)).more (by omega)) (Seq.of_row (heap_new wg _) (by omega)))
    have HDel := Lib.hid (delB_calls (w := wg) (A := some ⟨wg.heap.size + 1, 0, none⟩) (HTg.out.below hb2)
      (seqK_one (x := 0x62) (fz := (1, 2)) (by have := heap_new (wg.alloc (.cells #[.int .u8 2] 5)) (.cells #[.int .u8 98] 5 (1, 2)); rw [size_alloc] at this; exact this)) hb2.size)
    have HBd := Lib.hid (HBg.out.trans (hb2.mono HBg.out.size))
    have HKd := Lib.hid (HKg.out.below hb2 HKg.out.lt)
    clear hb1 hb2 hz1
    go_cut [72] from 45 to 71 (fun v wx => v = .bool false ∧ Blk wx w4.heap.size 23 (tab 32 (hashV Ra)) ∧ Below w.heap.size w wx)
    case first =>
      refine wp_region_held_drew (S := HeldR w4.heap.size Ra) (by kernel_rfl) (by first | exact rangeAt_blk HKg.out | exact rangeAt_blk (Blk.alloc HKg.out _) | exact rangeAt_blk (Blk.alloc (Blk.alloc HKg.out _) _)) (fun hHeld => ?_)
      refine wpAnyH_take (i := 0) (v := ?_) rfl (by kernel_rfl) (by kernel_rfl) (by kernel_rfl) (fun _ _ _ h => h) (Or.inl ⟨by rfl, ?_⟩) hHeld ?_
      rotate_left
      · intro _ _; go_simp; try with_reducible rfl
      try dsimp only [Act.put, List.getElem_toArray, List.getElem_cons_zero, List.getElem_cons_succ, List.setIfInBounds_toArray, List.set_cons_zero, List.set_cons_succ]
      refine wpAnyH_take (i := 1) (v := ?_) rfl (by kernel_rfl) (by kernel_rfl) (by kernel_rfl) (fun _ _ _ h => h) (Or.inl ⟨by rfl, ?_⟩) hHeld ?_
      rotate_left
      · intro _ _; go_simp; try with_reducible rfl
      try dsimp only [Act.put, List.getElem_toArray, List.getElem_cons_zero, List.getElem_cons_succ, List.setIfInBounds_toArray, List.set_cons_zero, List.set_cons_succ]
      refine wpAnyH_take (i := 2) (v := ?_) rfl (by kernel_rfl) (by kernel_rfl) (by kernel_rfl) (fun _ _ _ h => h) (Or.inl ⟨by rfl, ?_⟩) hHeld ?_
      rotate_left
      · intro _ _; go_simp; try with_reducible rfl
      try dsimp only [Act.put, List.getElem_toArray, List.getElem_cons_zero, List.getElem_cons_succ, List.setIfInBounds_toArray, List.set_cons_zero, List.set_cons_succ]
      refine wpAnyH_take (i := 3) (v := ?_) rfl (by kernel_rfl) (by kernel_rfl) (by kernel_rfl) (fun _ _ _ h => h) (Or.inl ⟨by rfl, ?_⟩) hHeld ?_
      rotate_left
      · intro _ _; go_simp; try with_reducible rfl
      try dsimp only [Act.put, List.getElem_toArray, List.getElem_cons_zero, List.getElem_cons_succ, List.setIfInBounds_toArray, List.set_cons_zero, List.set_cons_succ]
      refine wpAnyH_ready (rs := [4]) (by kernel_rfl) (by simp) ?_
      refine AllReadyH.cons rfl (fun K hK => ?_) AllReadyH.nil
      go_simp
      refine hK.out _ _ (by first | exact rangeAt_blk HKg.out | exact rangeAt_blk (Blk.alloc HKg.out _) | exact rangeAt_blk (Blk.alloc (Blk.alloc HKg.out _) _)) (fun hHeld => ?_)
      clear hK K
      try dsimp only [Act.put, List.getElem_toArray, List.getElem_cons_zero, List.getElem_cons_succ, List.setIfInBounds_toArray, List.set_cons_zero, List.set_cons_succ]
      refine wpAnyH_ready (rs := [5]) (by kernel_rfl) (by simp) ?_
      refine AllReadyH.cons rfl (fun K hK => ?_) AllReadyH.nil
      go_simp
      refine HSame.out.mono ?_; rintro e8 w8 ⟨rfl, rfl⟩
      go_wp2_with fail
      refine hK.out _ _ (by first | exact rangeAt_blk HKg.out | exact rangeAt_blk (Blk.alloc HKg.out _) | exact rangeAt_blk (Blk.alloc (Blk.alloc HKg.out _) _)) (fun hHeld => ?_)
      clear hK K
      try dsimp only [Act.put, List.getElem_toArray, List.getElem_cons_zero, List.getElem_cons_succ, List.setIfInBounds_toArray, List.set_cons_zero, List.set_cons_succ]
      refine wpAnyH_take (i := 6) (v := ?_) rfl (by kernel_rfl) (by kernel_rfl) (by kernel_rfl) (fun _ _ _ h => h) (Or.inl ⟨by rfl, ?_⟩) hHeld ?_
      rotate_left
      · intro _ _; go_simp; try with_reducible rfl
      try dsimp only [Act.put, List.getElem_toArray, List.getElem_cons_zero, List.getElem_cons_succ, List.setIfInBounds_toArray, List.set_cons_zero, List.set_cons_succ]
      refine wpAnyH_take (i := 7) (v := ?_) rfl (by kernel_rfl) (by kernel_rfl) (by kernel_rfl) (fun _ _ _ h => h) (Or.inl ⟨by rfl, ?_⟩) hHeld ?_
      rotate_left
      · intro _ _; go_simp; try with_reducible rfl
      try dsimp only [Act.put, List.getElem_toArray, List.getElem_cons_zero, List.getElem_cons_succ, List.setIfInBounds_toArray, List.set_cons_zero, List.set_cons_succ]
      refine wpAnyH_take (i := 8) (v := ?_) rfl (by kernel_rfl) (by kernel_rfl) (by kernel_rfl) (fun _ _ _ h => h) (Or.inl ⟨by rfl, ?_⟩) hHeld ?_
      rotate_left
      · intro _ _; go_simp; try with_reducible rfl
      try dsimp only [Act.put, List.getElem_toArray, List.getElem_cons_zero, List.getElem_cons_succ, List.setIfInBounds_toArray, List.set_cons_zero, List.set_cons_succ]
      refine wpAnyH_take (i := 9) (v := ?_) rfl (by kernel_rfl) (by kernel_rfl) (by kernel_rfl) (fun _ _ _ h => h) (Or.inl ⟨by rfl, ?_⟩) hHeld ?_
      rotate_left
      · intro _ _; go_simp; try with_reducible rfl
      try dsimp only [Act.put, List.getElem_toArray, List.getElem_cons_zero, List.getElem_cons_succ, List.setIfInBounds_toArray, List.set_cons_zero, List.set_cons_succ]
      refine wpAnyH_ready (rs := [10]) (by kernel_rfl) (by simp) ?_
      refine AllReadyH.cons rfl (fun K hK => ?_) AllReadyH.nil
      go_simp
      refine hK.out _ _ (by first | exact rangeAt_blk HKg.out | exact rangeAt_blk (Blk.alloc HKg.out _) | exact rangeAt_blk (Blk.alloc (Blk.alloc HKg.out _) _)) (fun hHeld => ?_)
      clear hK K
      try dsimp only [Act.put, List.getElem_toArray, List.getElem_cons_zero, List.getElem_cons_succ, List.setIfInBounds_toArray, List.set_cons_zero, List.set_cons_succ]
      refine wpAnyH_ready (rs := [11]) (by kernel_rfl) (by simp) ?_
      refine AllReadyH.cons rfl (fun K hK => ?_) AllReadyH.nil
      go_simp
      refine hK.out _ _ (by first | exact rangeAt_blk HKg.out | exact rangeAt_blk (Blk.alloc HKg.out _) | exact rangeAt_blk (Blk.alloc (Blk.alloc HKg.out _) _)) (fun hHeld => ?_)
      clear hK K
      try dsimp only [Act.put, List.getElem_toArray, List.getElem_cons_zero, List.getElem_cons_succ, List.setIfInBounds_toArray, List.set_cons_zero, List.set_cons_succ]
      refine wpAnyH_ready (rs := [12]) (by kernel_rfl) (by simp) ?_
      refine AllReadyH.cons rfl (fun K hK => ?_) AllReadyH.nil
      go_simp
      refine HDel.out.mono ?_; rintro e9 w9 ⟨rfl, ht9, hu9, hz9⟩
      have HK9 := Lib.hid (hu9.blk HKd.out (by decide) (by decide)); have HT9 := Lib.hid ht9; have HB9 := Lib.hid (HBd.out.trans (hu9.below HBd.out.size)); clear ht9 hu9
      go_wp2_with fail
      refine hK.out _ _ (rangeAt_blk HK9.out) (fun hHeld => ?_)
      clear hK K
      try dsimp only [Act.put, List.getElem_toArray, List.getElem_cons_zero, List.getElem_cons_succ, List.setIfInBounds_toArray, List.set_cons_zero, List.set_cons_succ]
      refine wpAnyH_take (i := 13) (v := ?_) rfl (by kernel_rfl) (by kernel_rfl) (by kernel_rfl) (fun _ _ _ h => h) (Or.inl ⟨by rfl, ?_⟩) hHeld ?_
      rotate_left
      · intro _ _; go_simp; try with_reducible rfl
      try dsimp only [Act.put, List.getElem_toArray, List.getElem_cons_zero, List.getElem_cons_succ, List.setIfInBounds_toArray, List.set_cons_zero, List.set_cons_succ]
      refine wpAnyH_take (i := 14) (v := ?_) rfl (by kernel_rfl) (by kernel_rfl) (by kernel_rfl) (fun _ _ _ h => h) (Or.inl ⟨by rfl, ?_⟩) hHeld ?_
      rotate_left
      · intro _ _; go_simp; try with_reducible rfl
      try dsimp only [Act.put, List.getElem_toArray, List.getElem_cons_zero, List.getElem_cons_succ, List.setIfInBounds_toArray, List.set_cons_zero, List.set_cons_succ]
      refine wpAnyH_take (i := 15) (v := ?_) rfl (by kernel_rfl) (by kernel_rfl) (by kernel_rfl) (fun _ _ _ h => h) (Or.inl ⟨by rfl, ?_⟩) hHeld ?_
      rotate_left
      · intro _ _; go_simp; try with_reducible rfl
      try dsimp only [Act.put, List.getElem_toArray, List.getElem_cons_zero, List.getElem_cons_succ, List.setIfInBounds_toArray, List.set_cons_zero, List.set_cons_succ]
      refine wpAnyH_take (i := 16) (v := ?_) rfl (by kernel_rfl) (by kernel_rfl) (by kernel_rfl) (fun _ _ _ h => h) (Or.inl ⟨by rfl, ?_⟩) hHeld ?_
      rotate_left
      · intro _ _; go_simp; try with_reducible rfl
      try dsimp only [Act.put, List.getElem_toArray, List.getElem_cons_zero, List.getElem_cons_succ, List.setIfInBounds_toArray, List.set_cons_zero, List.set_cons_succ]
      refine wpAnyH_take (i := 18) (v := .agg (List.toArray (tab 32 (hashV Ra)).toList)) rfl (by kernel_rfl) (by kernel_rfl) (by kernel_rfl) (fun _ _ _ h => h) (yieldsIf_load_mid (by rfl) 23 (.tmp 2) rfl w4.heap.size 0 rfl (tab 32 (hashV Ra)).toList _ (fun _ h => h) hu42 rfl hi42) hHeld ?_
      try dsimp only [Act.put, List.getElem_toArray, List.getElem_cons_zero, List.getElem_cons_succ, List.setIfInBounds_toArray, List.set_cons_zero, List.set_cons_succ]
      refine wpAnyH_ready (rs := [17]) (by kernel_rfl) (by simp) ?_
      refine AllReadyH.cons rfl (fun K hK => ?_) AllReadyH.nil
      go_simp
      obtain ⟨F9, hp9⟩ := HT9.out.pre
      have hrc := root_calls _ _ _ _ _ _ _ _ hp9
      rw [show encT hashL trA = text_ra from enc_a, HRa.out] at hrc
      (refine hrc.mono ?_); clear hrc hp9; rintro er wr ⟨rfl, hbr⟩
      have hzr := hbr.size; have HKr := Lib.hid (HK9.out.below hbr HK9.out.lt); have HTr := Lib.hid (HT9.out.below hbr); have HBr := Lib.hid (HB9.out.trans (hbr.mono HB9.out.size)); clear hbr
      have hbs : Below wr.heap.size wr ((wr.alloc (.cells #[.int .u8 196, .int .u8 130, .int .u8 32, .int .u8 97, .int .u8 1] 5)).alloc (.cells #[.slice (some ⟨wr.heap.size, 0, none⟩) 5 5] 24)) := ((Below.refl _ _).alloc (Nat.le_refl _) _).alloc (by rw [size_alloc]; omega) _
      have hsum := sumA_calls (A := some ⟨wr.heap.size + 1, 0, none⟩) (g := wr.heap.size) HRa.out (HTr.out.below hbs).tables (row_two wr _ _ _) (text_two wr _)
      have HSum := Lib.hid hsum; have HBs := Lib.hid (HBr.out.trans (hbs.mono HBr.out.size)); have HKs := Lib.hid (HKr.out.below hbs HKr.out.lt); clear hsum hbs
      go_wp2_with fail
      refine hK.out _ _ (rangeAt_blk HKr.out) (fun hHeld => ?_)
      clear hK K
      try dsimp only [Act.put, List.getElem_toArray, List.getElem_cons_zero, List.getElem_cons_succ, List.setIfInBounds_toArray, List.set_cons_zero, List.set_cons_succ]
      refine wpAnyH_take (i := 19) (v := ?_) rfl (by kernel_rfl) (by kernel_rfl) (by kernel_rfl) (fun _ _ _ h => h) (Or.inl ⟨by rfl, ?_⟩) hHeld ?_
      rotate_left
      · intro _ _; go_simp; try with_reducible rfl
      try dsimp only [Act.put, List.getElem_toArray, List.getElem_cons_zero, List.getElem_cons_succ, List.setIfInBounds_toArray, List.set_cons_zero, List.set_cons_succ]
      refine wpAnyH_take (i := 20) (v := ?_) rfl (by kernel_rfl) (by kernel_rfl) (by kernel_rfl) (fun _ _ _ h => h) (Or.inl ⟨by rfl, ?_⟩) hHeld ?_
      rotate_left
      · intro _ _; go_simp; try with_reducible rfl
      try dsimp only [Act.put, List.getElem_toArray, List.getElem_cons_zero, List.getElem_cons_succ, List.setIfInBounds_toArray, List.set_cons_zero, List.set_cons_succ]
      refine wpAnyH_take (i := 21) (v := ?_) rfl (by kernel_rfl) (by kernel_rfl) (by kernel_rfl) (fun _ _ _ h => h) (Or.inl ⟨by rfl, ?_⟩) hHeld ?_
      rotate_left
      · intro _ _; go_simp; try with_reducible rfl
      try dsimp only [Act.put, List.getElem_toArray, List.getElem_cons_zero, List.getElem_cons_succ, List.setIfInBounds_toArray, List.set_cons_zero, List.set_cons_succ]
      refine wpAnyH_take (i := 22) (v := .agg (List.toArray (tab 32 (hashV Ra)).toList)) rfl (by kernel_rfl) (by kernel_rfl) (by kernel_rfl) (fun _ _ _ h => h) (yieldsIf_load_mid (by rfl) 23 (.tmp 2) rfl w4.heap.size 0 rfl (tab 32 (hashV Ra)).toList _ (fun _ h => h) hu42 rfl hi42) hHeld ?_
      try dsimp only [Act.put, List.getElem_toArray, List.getElem_cons_zero, List.getElem_cons_succ, List.setIfInBounds_toArray, List.set_cons_zero, List.set_cons_succ]
      refine wpAnyH_ready (rs := [23]) (by kernel_rfl) (by simp) ?_
      refine AllReadyH.cons rfl (fun K hK => ?_) AllReadyH.nil
      go_simp
      refine hK.out _ _ (by first | exact rangeAt_blk HKr.out | exact rangeAt_blk (Blk.alloc HKr.out _) | exact rangeAt_blk (Blk.alloc (Blk.alloc HKr.out _) _)) (fun hHeld => ?_)
      clear hK K
      try dsimp only [Act.put, List.getElem_toArray, List.getElem_cons_zero, List.getElem_cons_succ, List.setIfInBounds_toArray, List.set_cons_zero, List.set_cons_succ]
      refine wpAnyH_ready (rs := [24]) (by kernel_rfl) (by simp) ?_
      refine AllReadyH.cons rfl (fun K hK => ?_) AllReadyH.nil
      go_simp
      refine hK.out _ _ (by first | exact rangeAt_blk HKr.out | exact rangeAt_blk (Blk.alloc HKr.out _) | exact rangeAt_blk (Blk.alloc (Blk.alloc HKr.out _) _)) (fun hHeld => ?_)
      clear hK K
      try dsimp only [Act.put, List.getElem_toArray, List.getElem_cons_zero, List.getElem_cons_succ, List.setIfInBounds_toArray, List.set_cons_zero, List.set_cons_succ]
      refine wpAnyH_ready (rs := [25]) (by kernel_rfl) (by simp) ?_
      refine AllReadyH.cons rfl (fun K hK => ?_) AllReadyH.nil
      go_simp
      refine HSum.out.mono ?_; rintro es ws ⟨rfl, hbs⟩
      have HKt := Lib.hid (HKs.out.below hbs HKs.out.lt); have HBt := Lib.hid (HBs.out.trans (hbs.mono HBs.out.size)); clear hbs
      go_wp2_with fail
      refine hK.out _ _ (rangeAt_blk HKt.out) (fun hHeld => ?_)
      clear hK K
      try dsimp only [Act.put, List.getElem_toArray, List.getElem_cons_zero, List.getElem_cons_succ, List.setIfInBounds_toArray, List.set_cons_zero, List.set_cons_succ]
      refine wpAnyH_take (i := 26) (v := ?_) rfl (by kernel_rfl) (by kernel_rfl) (by kernel_rfl) (fun _ _ _ h => h) (Or.inl ⟨by rfl, ?_⟩) hHeld ?_
      rotate_left
      · intro _ _; go_simp; try with_reducible rfl
      try dsimp only [Act.put, List.getElem_toArray, List.getElem_cons_zero, List.getElem_cons_succ, List.setIfInBounds_toArray, List.set_cons_zero, List.set_cons_succ]
      refine wpAnyH_take (i := 27) (v := ?_) rfl (by kernel_rfl) (by kernel_rfl) (by kernel_rfl) (fun _ _ _ h => h) (Or.inl ⟨by rfl, ?_⟩) hHeld ?_
      rotate_left
      · intro _ _; go_simp; try with_reducible rfl
      try dsimp only [Act.put, List.getElem_toArray, List.getElem_cons_zero, List.getElem_cons_succ, List.setIfInBounds_toArray, List.set_cons_zero, List.set_cons_succ]
      refine wpAnyH_done (by kernel_rfl) ?_ _
      go_wp2_with fail
      go_meet
      case rel =>
        exact ⟨rfl, HKt.out, HBt.out⟩
    case rest =>
      obtain ⟨rfl, hkx, hbx⟩ := hcut
      rename World => wx
      have HKx := Lib.hid hkx
      have HBx := Lib.hid hbx
      clear hkx hbx HSame HDel HBd HKd kc2 heq2 heq HSg HTg HKg HBg
      have hb3 : Below wx.heap.size wx (((wx.alloc (.cells #[.int .u8 97] 5 (1, 2))).alloc (.cells #[.int .u8 196, .int .u8 130, .int .u8 32, .int .u8 97, .int .u8 1] 5)).alloc (.cells #[.slice (some ⟨wx.heap.size + 1, 0, none⟩) 5 5] 24)) :=
        (((Below.refl _ _).alloc (Nat.le_refl _) _).alloc (by rw [size_alloc]; omega) _).alloc (by rw [size_alloc, size_alloc]; omega) _
      obtain ⟨q1, q2, q3⟩ := heap_three wx (.cells #[.int .u8 97] 5 (1, 2)) (.cells #[.int .u8 196, .int .u8 130, .int .u8 32, .int .u8 97, .int .u8 1] 5) (.cells #[.slice (some ⟨wx.heap.size + 1, 0, none⟩) 5 5] 24)
      have hcb := HBx.out.trans (hb3.mono HBx.out.size)
      have HCheck := Lib.hid (checkA_calls (A := some ⟨wx.heap.size, 0, none⟩) (A2 := some ⟨wx.heap.size + 2, 0, none⟩) (g := wx.heap.size + 1) HRa.out (HT.out.below hcb ⟨HLw.out.2.2.2.1, HLw.out.2.2.2.2⟩) (HE.out.below hcb HLw.out)
        (HLw.out.mono hcb.size) (seq_one (x := 0x61) q1) (seqT_one q3) (seqB_text q2))
      have HBy := Lib.hid hcb
      clear hb3 q1 q2 q3 hcb
      have kc := fun (C : Array Value) (n c : Nat) => Lib.run_convert_bytes_const (P := Tryd.prog) wx 24 5 C n c Tryd.underlying24 Tryd.underlying5
      go_upto_region 11 with (first
        | (refine wpL_load0 rfl 23 (.tmp 2) rfl rfl _ HKx.out Tryd.underlying23 rfl (by kernel_rfl) ?_)
        | (go_at_call 24; go_loud (refine HCheck.out.mono ?_); rintro ec wy ⟨Ay, cy, rfl, hsy, hby⟩; have hzy := hby.size; have HSy := Lib.hid hsy; have HBz := Lib.hid (HBy.out.trans (hby.mono HBy.out.size)); clear hsy hby))
      have hb1 : Below wy.heap.size wy (wy.alloc (.cells #[.int .u8 1] 5)) := (Below.refl _ _).alloc (Nat.le_refl _) _
      have hz1 : (wy.alloc (.cells #[.int .u8 1] 5)).heap.size = wy.heap.size + 1 := size_alloc _ _
      have HSame := Lib.hid (same1_calls (W := wy.alloc (.cells #[.int .u8 1] 5)) (A := Ay) (c := cy) (A2 := some ⟨wy.heap.size, 0, none⟩) (c2 := 1) (B := wy.heap.size + 1) (x := 1) ((HSy.out.below hb1 (Nat.le_refl _)).more (by omega)) (Seq.of_row (heap_new wy _) (by omega)))
      have HBe := Lib.hid (HBz.out.trans (hb1.mono HBz.out.size))
      clear hb1 hz1 kc
      go_wp2_with (go_at_call 27; go_loud (refine HSame.out.mono ?_); rintro e8 w8 ⟨rfl, rfl⟩)
      go_ret
      exact ⟨rfl, HBe.out⟩
end Go.Proofs.YtfhindffmghlaaaDoor
