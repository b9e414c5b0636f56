/- RlpParts: Bytes of any bytes, Number of any number, List of any parts: as the document says. Conditions: none. -/
import Derived.Test.YtnghneoggiolgaaDoorRAble
import Derived.Test.YtnghneoggiolgaaDoorRDoc
import Derived.Test.YtnghneoggiolgaaDoorRLent
import Derived.Test.YtnghneoggiolgaaDoorRLaid
import Derived.Test.YtnghneoggiolgaaDoorCards
import Derived.SevenTiedAt
import Derived.Test.YtnghneoggiolgaaDoorROpenB
import Derived.Deep.LoopGhost
import Derived.Deep.CutRange
namespace Go.Proofs.YtnghneoggiolgaaDoor
open Go.RowKit Go.ChangeShapes Go.WideShapes
theorem own_cap {w : World} {base n c : Nat} {e : TypeId} {size : Nat} {A : Option Addr} {xs : List Value} (h : w.ownsRow base e size (.slice A n c) n xs) : n ≤ c := by
  obtain ⟨A', c', e, h1, _⟩ := own_shape h
  injection e with _ _ e3
  omega
theorem joinP_mem {ps : List Piece} {p : Piece} (h : p ∈ ps) : p.2.2.length ≤ (joinP ps).length := by
  obtain ⟨k, hk, rfl⟩ := List.getElem_of_mem h
  have h1 := joinP_take ps k hk
  have h2 := joinP_le ps (k + 1)
  rw [h1, List.length_append] at h2
  omega
set_option maxHeartbeats 4000000 in
set_option maxRecDepth 20000 in
theorem parts_walk (A : Option Addr) (c : Nat) (b : List UInt8) (S : Nat → BitVec 64) (A2 : Option Addr) (c2 : Nat) (ps : List Piece) (w : World) (hr : b.length ≤ reachBytes) (hq : Seq w w.heap.size A (bytes b)) (hr2 : ps.length ≤ reachBytes) (hq2 : Seq w w.heap.size A2 (pcs ps))
    (hp2 : ∀ q ∈ ps, q.2.2.length ≤ reachBytes ∧ Seq w w.heap.size q.1 (bytes q.2.2)) :
    Calls Tryd.prog 4 #[.slice A b.length c, .agg (tab 4 (lanes S)), .slice A2 ps.length c2] w fun e w' => e = .returned (.bool true) ∧ Below w.heap.size w w' := by
  have HS := Lib.hid hq
  have HS2 := Lib.hid hq2
  have HP2 := Lib.hid hp2
  clear hq hq2 hp2
  unfold reachBytes at hr hr2
  go_enter Tryd.func4, Tryd.ntmps4
  go_wp2_with (first | (go_at_call 6; refine (able_calls _).mono ?_; rintro e1 w1 ⟨rfl, hb1⟩; have hz1 := hb1.size; rw [size_alloc] at hz1; have HX1 := Lib.hid ((Blk.new w 24 (tab 4 (lanes S))).below hb1 (by rw [size_alloc]; omega)); have HB1 := Lib.hid (((Below.refl w.heap.size w).alloc (Nat.le_refl _) _).trans (hb1.mono (by rw [size_alloc]; omega))); clear hb1))
  go_loop [7, 8] (fun n i => ∃ k : Nat, k ≤ ps.length ∧ i = .int .i64 k ∧ n = .int .i64 ((b.length + ps.length + (joinP (ps.take k)).length : Nat) : Int) ∧ (joinP (ps.take k)).length ≤ 140737488384000) (fun _ i => ps.length - (intOf i).toNat)
  case atStart => exact ⟨0, by omega, rfl, by simp [joinP], by simp [joinP]⟩
  case round =>
    obtain ⟨k, hk, rfl, rfl, hprev⟩ := hrel
    by_cases hgo : k < ps.length ∧ b.length + ps.length + (joinP (ps.take k)).length ≤ 32768
    · obtain ⟨hlt, hle⟩ := hgo
      have dk : decide ((k : Int) < (ps.length : Int)) = true := by simp; omega
      have lk : (k : Int) < (ps.length : Int) := by omega
      obtain ⟨ad, rfl, _, hc0⟩ := (HS2.out.below HB1.out (Nat.le_refl _)).piece k hlt
      have hlq := (HP2.out _ (List.getElem_mem hlt)).1
      have htk := joinP_take ps k hlt
      unfold reachBytes at hlq
      generalize ps[k] = q at *
      obtain ⟨Aq, cq, lq⟩ := q
      simp only at hc0 htk hlq
      have hN : b.length + ps.length + (joinP (ps.take (k + 1))).length = b.length + ps.length + (joinP (ps.take k)).length + lq.length := by rw [htk, List.length_append]; omega
      have HN := Lib.hid hN
      have HP := Lib.hid (show (joinP (ps.take (k + 1))).length ≤ 140737488384000 by omega)
      clear hN htk
      generalize b.length + ps.length + (joinP (ps.take k)).length = N at *
      have dN : decide ((N : Int) ≤ 32768) = true := by simp; omega
      go_wp2_with fail
      go_round
      case rel => exact ⟨k + 1, by omega, by go_num, by rw [HN.out]; rfl, HP.out⟩
      case measure => simp [intOf]; omega
    · by_cases hbig : b.length + ps.length + (joinP (ps.take k)).length ≤ 32768
      · obtain hkn : k = ps.length := by omega
        have hjt : joinP (ps.take k) = joinP ps := by rw [hkn, List.take_length]
        rw [hjt] at hbig ⊢
        have dk : decide ((k : Int) < (ps.length : Int)) = false := by simp; omega
        have hlt : ¬ k < ps.length := by omega
        have hb1 : b.length ≤ 32768 := by omega
        have hb2 : ps.length ≤ 32768 := by omega
        have hb3 : (joinP ps).length ≤ 32768 := by omega
        have hb4 : ∀ q ∈ ps, q.2.2.length ≤ 32768 := fun q hq => Nat.le_trans (joinP_mem hq) hb3
        have HB4 := Lib.hid hb4
        have dN : decide ((((b.length + ps.length + (joinP ps).length : Nat) : Int)) > 32768) = false := by simp; omega
        clear hjt hgo hprev hkn hb4
        generalize b.length + ps.length + (joinP ps).length = N at *
        clear hbig
        go_wp2_with (first | (go_at_call 11; refine (lent_calls A c _ b w1 (by omega) (HS.out.below HB1.out (Nat.le_refl _))).mono ?_; rintro e1 w2 ⟨A9, c9, rfl, ho9, hb9⟩; have hz2 := hb9.size; have HO9 := Lib.hid ho9; have HB9 := Lib.hid hb9; clear ho9 hb9))
        go_loopw [10, 11, 12] (fun vg vk i wr => ∃ (k : Nat) (Ag : Option Addr) (cg : Nat) (Ak : Option Addr) (ck : Nat) (Lg Lk : List Piece), k ≤ ps.length ∧ i = .int .i64 k ∧ vg = .slice Ag k cg ∧ vk = .slice Ak k ck ∧
            Lg.map txt = (ps.take k).map txt ∧ Lk.map txt = (ps.take k).map (fun p => txt p ++ marks9) ∧ wr.ownsRow w2.heap.size 26 1 (.slice Ag k cg) k (pcs Lg) ∧ wr.ownsRow w2.heap.size 26 1 (.slice Ak k ck) k (pcs Lk) ∧
            (∀ p ∈ Lg, OwnP wr w2.heap.size p) ∧ (∀ p ∈ Lk, OwnP wr w2.heap.size p) ∧ Apart (.slice Ag k cg) (.slice Ak k ck) ∧ Below w2.heap.size w2 wr) (fun _ _ i _ => ps.length - (intOf i).toNat)
        case atStart => exact ⟨0, none, 0, none, 0, [], [], by omega, rfl, rfl, rfl, rfl, rfl, World.ownsRow_nil _ _ _ _, World.ownsRow_nil _ _ _ _, by simp, by simp, Apart.none_ _ _ _, Below.refl _ _⟩
        case round =>
          obtain ⟨k, Ag, cg, Ak, ck, Lg, Lk, hk, rfl, rfl, rfl, hlg, hlk, hog, hok, hpg, hpk, hap, hbl⟩ := hrel
          have hsz := hbl.size
          have HLg := Lib.hid hlg
          have HLk := Lib.hid hlk
          have HOg := Lib.hid hog
          have HOk := Lib.hid hok
          have HPg := Lib.hid hpg
          have HPk := Lib.hid hpk
          have HAp := Lib.hid hap
          have HBl := Lib.hid hbl
          have HBw := Lib.hid (HB1.out.trans ((HB9.out.trans (hbl.mono hz2)).mono (by omega)))
          clear hlg hlk hog hok hpg hpk hap hbl
          by_cases hlt : k < ps.length
          · have dk : decide ((k : Int) < (ps.length : Int)) = true := by simp; omega
            have lk : (k : Int) < (ps.length : Int) := by omega
            obtain ⟨ad, rfl, hadb, hcw⟩ := HS2.out.piece k hlt
            have hc0 := (HBw.out.cell (p := ad.add k) (by rw [block_add]; exact hadb)).trans hcw
            have hlq := HB4.out _ (List.getElem_mem hlt)
            have hsq := (HP2.out _ (List.getElem_mem hlt)).2.below HBw.out (Nat.le_refl _)
            have htg : (ps.take (k + 1)).map txt = (ps.take k).map txt ++ [txt ps[k]] := by rw [List.take_succ_eq_append_getElem hlt, List.map_append]; rfl
            have htk : (ps.take (k + 1)).map (fun p => txt p ++ marks9) = (ps.take k).map (fun p => txt p ++ marks9) ++ [txt ps[k] ++ marks9] := by rw [List.take_succ_eq_append_getElem hlt, List.map_append]; rfl
            generalize ps[k] = q at *
            obtain ⟨Aq, cq, lq⟩ := q
            simp only at hc0 hlq hsq hcw
            have HCw := Lib.hid hcw
            clear hcw
            have HTg := Lib.hid htg
            have HTk := Lib.hid htk
            have HApK := Lib.hid (show ∀ q, (Value.slice Ag k cg).ownBlock = some q → (Value.slice Ak k ck).ownBlock ≠ some q from HAp.out)
            have HSq := Lib.hid hsq
            clear htg htk hsq
            go_wp2_with (first
              | (go_at_call 11; refine (lent_calls Aq cq _ lq wr (by omega) HSq.out).mono ?_; rintro e3 w3 ⟨A3, c3, rfl, ho3, hb3⟩; have hz3 := hb3.size; have hc3 := own_cap ho3; have HO3 := Lib.hid ho3; have HB3 := Lib.hid hb3; clear ho3 hb3)
              | (at_builtin; first
                | ((refine wpL_append rfl (.tmp 57) (.tmp 59) 38 rfl elText rfl (own_alloc (own_below' HOk.out HB3.out) _) rfl rfl (Seq.one_new _ _ _) (by simp [Value.oneCell']) (by unfold maxLen; omega) (by omega) (by rw [size_alloc]; omega) ?_; intro A4 c4 w4 ho4 hg4 hf4; have hz4 := hg4.size; rw [size_alloc] at hz4; have HO4 := Lib.hid ho4; have HG4 := Lib.hid hg4; have HF4 := Lib.hid hf4; have HOg4 := Lib.hid (own_grown (own_alloc (own_below' HOg.out HB3.out) _) hg4 HApK.out); have hb4 := ((HBw.out.trans (HB3.out.mono (by omega))).alloc (by omega) _).grown hg4 (by rw [size_alloc]; omega) (fun g hg => by have := (HOk.out.lt g hg).1; omega); have hc4 := (hb4.cell (p := ad.add k) (by rw [block_add]; exact hadb)).trans HCw.out; have HB4b := Lib.hid hb4; clear ho4 hg4 hf4 hb4))
                | ((refine wpL_append rfl (.tmp 61) (.tmp 69) 38 rfl elText rfl (own_alloc HOg4.out _) rfl rfl (Seq.one_new _ _ _) (by simp [Value.oneCell']) (by unfold maxLen; omega) (by omega) (by rw [size_alloc]; omega) ?_; intro A5 c5 w5 ho5 hg5 hf5; have hz5 := hg5.size; rw [size_alloc] at hz5; have HO5 := Lib.hid ho5; have HG5 := Lib.hid hg5; have HF5 := Lib.hid hf5; clear ho5 hg5 hf5))))
            have hok3 := own_alloc (own_below' HOk.out HB3.out) (.cells #[.slice A3 (lq.length + 9) c3] 26)
            have hok4 := own_alloc HO4.out (.cells #[.slice A3 lq.length c3] 26)
            have hog4 := own_alloc HOg4.out (.cells #[.slice A3 lq.length c3] 26)
            have hap4 : Apart (.slice A4 (k + 1) c4) (.slice Ag k cg) := Apart.step (W := w3.alloc (.cells #[.slice A3 (lq.length + 9) c3] 26)) (fun q h1 h2 => HAp.out q h2 h1) HF4.out (fun q hq => by have := (HOg.out.lt q hq).2; rw [size_alloc]; omega)
            have hap5 : Apart (.slice A5 (k + 1) c5) (.slice A4 (k + 1) c4) := Apart.step (W := w4.alloc (.cells #[.slice A3 lq.length c3] 26)) (fun q h1 h2 => hap4 q h2 h1) HF5.out (fun q hq => by have := (hok4.lt q hq).2; exact this)
            have hmv : ∀ p, OwnP w3 w2.heap.size p → OwnP w5 w2.heap.size p := fun p hp => (((hp.alloc _).grown hok3 (by decide) HG4.out).alloc _).grown hog4 (by decide) HG5.out
            have hp3 : OwnP w3 w2.heap.size (A3, c3, lq ++ marks9) := by
              have := own_mono HO3.out hsz
              unfold OwnP pcV
              rw [show (lq ++ marks9).length = lq.length + 9 by rw [List.length_append]; rfl]
              exact this
            have hp3' : OwnP w3 w2.heap.size (A3, c3, lq) := by
              have := own_cut (own_mono HO3.out hsz) (m := lq.length) (by omega) (by omega)
              rw [Nat.mul_one, bytes_append, List.take_append_of_le_length (by rw [bytes_length]; exact Nat.le_refl _), List.take_of_length_le (by rw [bytes_length]; exact Nat.le_refl _)] at this
              exact this
            refine ⟨⟨k + 1, A5, c5, A4, c4, Lg ++ [(A3, c3, lq)], Lk ++ [(A3, c3, lq ++ marks9)], by omega, by go_num, rfl, rfl, ?_, ?_, ?_, ?_, ?_, ?_, hap5, ?_⟩, by simp [intOf]; omega⟩
            · rw [List.map_append, HLg.out, HTg.out]; rfl
            · rw [List.map_append, HLk.out, HTk.out]; rfl
            · rw [← pcs_snoc]; exact HO5.out
            · have := own_grown hok4 HG5.out hap4
              rw [← pcs_snoc]
              unfold pcV
              rw [show (lq ++ marks9).length = lq.length + 9 by rw [List.length_append]; rfl]
              exact this
            · intro p hp
              rcases List.mem_append.1 hp with hp | hp
              · exact hmv p ((HPg.out p hp).below HB3.out)
              · rw [List.mem_singleton] at hp; subst hp; exact hmv _ hp3'
            · intro p hp
              rcases List.mem_append.1 hp with hp | hp
              · exact hmv p ((HPk.out p hp).below HB3.out)
              · rw [List.mem_singleton] at hp; subst hp; exact hmv _ hp3
            · exact ((((HBl.out.trans (HB3.out.mono hsz)).alloc (by omega) _).grown HG4.out (by rw [size_alloc]; omega) (fun g hg => (HOk.out.lt g hg).1)).alloc (by omega) _).grown HG5.out (by rw [size_alloc]; omega) (fun g hg => (HOg.out.lt g hg).1)
          · have dk : decide ((k : Int) < (ps.length : Int)) = false := by simp; omega
            obtain hkn : k = ps.length := by omega
            have hlg := HLg.out
            have hlk := HLk.out
            rw [hkn, List.take_length] at hlg hlk
            have hng : Lg.length = ps.length := by simpa using congrArg List.length hlg
            have hnk : Lk.length = ps.length := by simpa using congrArg List.length hlk
            have hsg := Seq.of_own HOg.out
            have hsk := Seq.of_own HOk.out
            have hqg : ∀ p ∈ Lg, Seq wr wr.heap.size p.1 (bytes p.2.2) := fun p hp => (HPg.out p hp).seq
            have hqk : ∀ p ∈ Lk, Seq wr wr.heap.size p.1 (bytes p.2.2) := fun p hp => (HPk.out p hp).seq
            have hall := (Seq.of_own HO9.out).below HBl.out (Nat.le_refl _)
            have hjg : joinP Lg = joinP ps := by rw [joinP_txt, joinP_txt, hlg]
            have HSg := Lib.hid hsg
            have HSk := Lib.hid hsk
            have HQg := Lib.hid hqg
            have HQk := Lib.hid hqk
            have HAll := Lib.hid (hall.more hsz)
            have HJg := Lib.hid hjg
            have HLg2 := Lib.hid hlg
            have HLk2 := Lib.hid hlk
            have hX := HX1.out.below ((HB9.out.trans (HBl.out.mono hz2)).mono (Nat.le_refl _)) (by omega)
            have HX := Lib.hid hX
            have hz4 : w.heap.size + 1 ≤ wr.heap.size := by omega
            have hc9 := own_cap HO9.out
            have HSb := Lib.hid (HS.out.below HBw.out (Nat.le_refl _))
            have HSp := Lib.hid (HS2.out.below HBw.out (Nat.le_refl _))
            have HPp := Lib.hid (show ∀ q ∈ ps, Seq wr w.heap.size q.1 (bytes q.2.2) from fun q hq => (HP2.out q hq).2.below HBw.out (Nat.le_refl _))
            have HNg := Lib.hid hng
            have HNk := Lib.hid hnk
            clear hlg hlk hng hnk hsg hsk hqg hqk hall hjg hX HOg HOk HPg HPk HAp HLg HLk HBl HO9 HB9 HX1 HS HS2 HP2 HB1
            subst hkn
            go_wp2_with (first
              | (go_at_call 12; (refine (rlpBytes_calls A9 c9 _ b wr (by omega) (Nat.le_refl _) (by have := HAll.out.take b.length; rw [bytes_append, List.take_append_of_le_length (by rw [bytes_length]; exact Nat.le_refl _), List.take_of_length_le (by rw [bytes_length]; exact Nat.le_refl _)] at this; exact this)).mono ?_; rintro e3 w3 ⟨A3, c3, rfl, ho3, hb3⟩; have hz3 := hb3.size; have HO3 := Lib.hid ho3; have HB3 := Lib.hid hb3; clear ho3 hb3))
              | (refine wpL_load0 rfl 24 (.tmp 4) rfl rfl _ (HX.out.below HB3.out hz4) Tryd.underlying24 rfl (by kernel_rfl) ?_)
              | (go_at_call 7; (refine (rlpNumber_calls S w3).mono ?_; rintro e4 w4 ⟨A4, c4, rfl, ho4, hb4⟩; have hz5 := hb4.size; have HO4 := Lib.hid ho4; have HB4b := Lib.hid (HB3.out.trans (hb4.mono hz3)); have HO34 := Lib.hid (own_below' HO3.out hb4); clear ho4 hb4))
              | (go_at_call 13; (have hcl := rlpList_calls Ag cg wr.heap.size Lg w4 (by rw [HNg.out]; omega) (by rw [HJg.out]; omega) (by omega) (HSg.out.below HB4b.out (Nat.le_refl _)) (fun q hq => (HQg.out q hq).below HB4b.out (Nat.le_refl _)); rw [HNg.out, HJg.out] at hcl; refine hcl.mono ?_; clear hcl; rintro e5 w5 ⟨A5, c5, rfl, ho5, hb5⟩; have hz6 := hb5.size; have HO5 := Lib.hid ho5; have HB5 := Lib.hid (HB4b.out.trans (hb5.mono (by omega))); have HO35 := Lib.hid (own_below' HO34.out hb5); have HO45 := Lib.hid (own_below' HO4.out hb5); clear ho5 hb5))
              | (go_at_call 9; (refine (own_calls A c w.heap.size b w5 (by omega) (HSb.out.below HB5.out (by omega))).mono ?_; rintro e6 w6 ⟨A6, c6, rfl, ho6, hb6⟩; have hz7 := hb6.size; have HO6 := Lib.hid ho6; have HB6 := Lib.hid (HB5.out.trans (hb6.mono (by omega))); have HO36 := Lib.hid (own_below' HO35.out hb6); have HO46 := Lib.hid (own_below' HO45.out hb6); have HO56 := Lib.hid (own_below' HO5.out hb6); clear ho6 hb6))
              | (go_at_call 14; (refine (refBytes_calls A6 c6 _ b w6 (by omega) (Nat.le_refl _) (Seq.of_own HO6.out)).mono ?_; rintro e7 w7 ⟨A7, c7, rfl, ho7, hb7⟩; have hz8 := hb7.size; have HO7 := Lib.hid ho7; have HB7 := Lib.hid (HB6.out.trans (hb7.mono (by omega))); have HO37 := Lib.hid (own_below' HO36.out hb7); have HO47 := Lib.hid (own_below' HO46.out hb7); have HO57 := Lib.hid (own_below' HO56.out hb7); clear ho7 hb7))
              | (go_at_call 10; ((with_reducible refine (samed_calls A3 c3 _ (bytesM b) A7 c7 _ (bytesM b) w7 (Seq.of_own HO37.out) (Seq.of_own HO7.out) rfl).mono ?_); rintro e8 w8 ⟨rfl, hb8⟩; have hz9 := hb8.size; have HB8 := Lib.hid (HB7.out.trans (hb8.mono (by omega))); have HO48 := Lib.hid (own_below' HO47.out hb8); have HO58 := Lib.hid (own_below' HO57.out hb8); clear hb8))
              | (refine wpL_load0 rfl 24 (.tmp 4) rfl rfl _ (HX.out.below HB8.out hz4) Tryd.underlying24 rfl (by kernel_rfl) ?_)
              | (go_at_call 15; (refine (refNumber_calls S w8).mono ?_; rintro e9 w9 ⟨A10, c10, rfl, ho9, hb9⟩; have hz10 := hb9.size; have HO10 := Lib.hid ho9; have HB10 := Lib.hid (HB8.out.trans (hb9.mono (by omega))); have HO49 := Lib.hid (own_below' HO48.out hb9); have HO59 := Lib.hid (own_below' HO58.out hb9); clear ho9 hb9))
              | (go_at_call 10; ((with_reducible refine (samed_calls A4 c4 _ (numM S) A10 c10 _ (numM S) w9 (Seq.of_own HO49.out) (Seq.of_own HO10.out) rfl).mono ?_); rintro e10 w10 ⟨rfl, hb10⟩; have hz11 := hb10.size; have HB11 := Lib.hid (HB10.out.trans (hb10.mono (by omega))); have HO510 := Lib.hid (own_below' HO59.out hb10); clear hb10))
              | (go_at_call 16; (refine (refList_calls A2 c2 w.heap.size ps w10 (by omega) (by omega) (by omega) (HSp.out.below HB11.out (by omega)) (fun q hq => (HPp.out q hq).below HB11.out (by omega))).mono ?_; rintro e11 w11 ⟨A11, c11, rfl, ho11, hb11⟩; have hz12 := hb11.size; have HO11 := Lib.hid ho11; have HB12 := Lib.hid (HB11.out.trans (hb11.mono (by omega))); have HO511 := Lib.hid (own_below' HO510.out hb11); clear ho11 hb11))
              | (go_at_call 10; ((with_reducible refine (samed_calls A5 c5 _ (withM 192 (joinP ps)) A11 c11 _ (withM 192 (joinP ps)) w11 (Seq.of_own HO511.out) (Seq.of_own HO11.out) rfl).mono ?_); rintro e12 w12 ⟨rfl, hb12⟩; have hz13 := hb12.size; have HB13 := Lib.hid (HB12.out.trans (hb12.mono (by omega))); clear hb12))
              | (go_at_call 17; (refine (whole_calls9 A9 c9 wr.heap.size A c w.heap.size b w12 (by omega) (HAll.out.below HB13.out (Nat.le_refl _)) (HSb.out.below HB13.out (by omega))).mono ?_; rintro e13 w13 ⟨rfl, m13, hm13⟩; have HB14 := Lib.hid (show Below wr.heap.size wr w13 by rw [hm13]; exact below_drewN HB13.out m13); clear hm13)))
            obtain ⟨wk, rfl⟩ : ∃ wk : World, wk = wr := ⟨_, rfl⟩
            go_loopw [17] (fun i wq => ∃ m : Nat, m ≤ ps.length ∧ i = .int .i64 m ∧ Below wk.heap.size wk wq) (fun i _ => ps.length - (intOf i).toNat)
            case atStart => exact ⟨0, by omega, rfl, HB14.out⟩
            case round =>
              obtain ⟨m, hm, rfl, hbq⟩ := hrel
              have hszq := hbq.size
              have HBq := Lib.hid hbq
              clear hbq
              by_cases hltm : m < ps.length
              · have dm : decide ((m : Int) < (ps.length : Int)) = true := by simp; omega
                have lm : (m : Int) < (ps.length : Int) := by omega
                have hmg : m < Lg.length := by rw [HNg.out]; exact hltm
                have hmk : m < Lk.length := by rw [HNk.out]; exact hltm
                obtain ⟨ad, rfl, _, hc0⟩ := (HSp.out.below HBq.out (by omega)).piece m hltm
                obtain ⟨ad1, rfl, _, hc1⟩ := (HSg.out.below HBq.out (Nat.le_refl _)).piece m hmg
                obtain ⟨ad2, rfl, _, hc2⟩ := (HSk.out.below HBq.out (Nat.le_refl _)).piece m hmk
                have hsp := (HPp.out _ (List.getElem_mem hltm)).below HBq.out (by omega)
                have hsg := (HQg.out _ (List.getElem_mem hmg)).below HBq.out (Nat.le_refl _)
                have hsk := (HQk.out _ (List.getElem_mem hmk)).below HBq.out (Nat.le_refl _)
                have eg : Lg[m].2.2 = ps[m].2.2 := by
                  have := congrArg (fun q => q[m]?) HLg2.out
                  simpa [List.getElem?_eq_getElem, hmg, hltm, txt] using this
                have ek : Lk[m].2.2 = ps[m].2.2 ++ marks9 := by
                  have := congrArg (fun q => q[m]?) HLk2.out
                  simpa [List.getElem?_eq_getElem, hmk, hltm, txt] using this
                have hl4 := HB4.out _ (List.getElem_mem hltm)
                rw [eg] at hsg hc1
                rw [ek] at hsk hc2
                rw [show (ps[m].2.2 ++ marks9).length = ps[m].2.2.length + 9 by rw [List.length_append]; rfl] at hc2
                generalize Lg[m].1 = Ax at *
                generalize Lg[m].2.1 = cx at *
                generalize Lk[m].1 = Ay at *
                generalize Lk[m].2.1 = cy at *
                generalize ps[m] = q at *
                obtain ⟨Aq, cq, lq⟩ := q
                simp only at hc0 hc1 hc2 hsp hsg hsk hl4
                have HSx := Lib.hid hsp
                have HSy := Lib.hid hsg
                have HSz := Lib.hid hsk
                have hq2 : ∀ W : World, Seq W wk.heap.size Ax (bytes lq) → Seq W w.heap.size Aq (bytes lq) → Calls Tryd.prog 10 #[.slice Ax lq.length cx, .slice Aq lq.length cq] W fun e w' => e = .returned (.bool true) ∧ w' = W := fun W h1 h2 => by
                  have := sameE_calls Ax cx wk.heap.size lq Aq cq lq W h1 (h2.more (by omega))
                  rwa [beq_self_eq_true] at this
                have HQ2 := Lib.hid hq2
                clear hsp hsg hsk eg ek hq2
                go_wp2_with fail
                go_quiet ((first | ((go_at_call 17; exact Calls.quiet_of (whole_calls9 Ay cy wk.heap.size Aq cq w.heap.size lq _ (by omega) (HSz.out.drewN _) (HSx.out.drewN _)))) | ((go_at_call 10; exact Calls.quiet_of_same (HQ2.out _ (HSy.out.drewN _) (HSx.out.drewN _))))))
                go_wp2_with fail
                exact ⟨⟨m + 1, by omega, by go_num, below_drewN HBq.out nq⟩, by simp [intOf]; omega⟩
              · have dm : decide ((m : Int) < (ps.length : Int)) = false := by simp; omega
                go_wp2_with fail
                go_ret
                exact ⟨rfl, HBw.out.trans (HBq.out.mono (by omega))⟩
      · have dN : decide ((((b.length + ps.length + (joinP (ps.take k)).length : Nat) : Int)) > 32768) = true := by simp; omega
        have dN2 : decide ((((b.length + ps.length + (joinP (ps.take k)).length : Nat) : Int)) ≤ 32768) = false := by simp; omega
        generalize b.length + ps.length + (joinP (ps.take k)).length = N at *
        by_cases hlt : k < ps.length
        · have dk : decide ((k : Int) < (ps.length : Int)) = true := by simp; omega
          clear hgo hbig hprev
          go_wp2_with fail
          go_ret
          exact ⟨rfl, HB1.out⟩
        · have dk : decide ((k : Int) < (ps.length : Int)) = false := by simp; omega
          clear hgo hbig hprev
          go_wp2_with fail
          go_ret
          exact ⟨rfl, HB1.out⟩
-- CARD
set_option maxRecDepth 100000 in
theorem rlpParts_lifted (os : Os) (started : os.Started) (H : Type) (enc : TypeId × Value → H) :
    ReturnsInHanded {} Tryd.checked os 4 .any (fun w args => (Rows.rlpPartsSpec.pre enc Tryd.prog Tryd.f4 [] false w args ∧ laidMetH Tryd.prog seatLaid w) ∧ sizedMet enc Tryd.prog Tryd.f4 (OpenSpec.ofChange Rows.rlpPartsSpec) false w args)
      (Rows.rlpPartsSpec.post enc Tryd.prog Tryd.f4 false true false false) := by
  refine returnsInHanded_of_change_and (C := Tryd.checked) (X := fun w _ => laidMetH Tryd.prog seatLaid w) (fun _ _ _ hh h => h.of_heap hh) own started (by kernel_rfl) Tryd.func4
    (ChangeSpec.witness_shaped (enc := enc) (C := Tryd.checked) (os := os) (X := fun w _ => laidMetH Tryd.prog seatLaid w) false (World.laidAll Tryd.prog os seatLaid) #[.slice none 0 0, .agg (tab 4 fun _ => .int .u64 0), .slice none 0 0] 8 (World.laidAll_os _ _ _)
      (World.shaped_of_ZipB (by kernel_rfl) (by kernel_rfl)) (by kernel_rfl) (by kernel_rfl) (by kernel_rfl)
      (by rw [MakeChecks.laidMetH_plain _ _ _ (by kernel_rfl)]; exact laidMet_laidAll _ (by kernel_rfl) (by kernel_rfl))) ?_
  intro W base args ds gs before hval0 hW _ hsz hL0 _
  rw [MakeChecks.laidMetH_plain _ _ _ (by kernel_rfl)] at hL0
  clear hL0
  have hval : ∀ (j : Nat) t v, Tryd.f4.params[j]? = some t → args[j]? = some v → Value.okWide Tryd.prog W .any base t v := hval0
  have hW' := hW
  obtain ⟨p, q, hA0, hV, rfl, hfz, hnd⟩ := hW
  have hA : DataW.TrodAll enc Tryd.prog W 0 (fun _ => true) true Tryd.f4.params.toList args.toList ds p := hA0
  rw [Tryd.params4] at hA hval
  obtain ⟨v0, vs0, d0, ds0, p0, q0, hargs, rfl, rfl, h0, r0⟩ := trodAll_cons hA
  obtain ⟨v1, vs1, d1, ds1, p1, q1, rfl, rfl, rfl, h1, r1⟩ := trodAll_cons r0
  obtain ⟨v2, vs2, d2, ds2, p2, q2, rfl, rfl, rfl, h2, r2⟩ := trodAll_cons r1
  obtain ⟨rfl, rfl, rfl⟩ := trodAll_nil r2
  obtain rfl : args = #[v0, v1, v2] := by cases args; simp_all
  obtain ⟨rfl, rfl⟩ := trodVars_none hV
  have k0 := h0
  have lt0 : ∀ x ∈ p0, x.block < W.heap.size := by obtain ⟨m, hm⟩ := k0; exact DataW.trod_lt m _ _ _ hm
  have k1 := h1
  have lt1 : ∀ x ∈ p1, x.block < W.heap.size := by obtain ⟨m, hm⟩ := k1; exact DataW.trod_lt m _ _ _ hm
  have k2 := h2
  have lt2 : ∀ x ∈ p2, x.block < W.heap.size := by obtain ⟨m, hm⟩ := k2; exact DataW.trod_lt m _ _ _ hm
  have wt0 : ∀ n ∈ d0.weights Tryd.prog 26, n ≤ reachBytes := fun n hn => by have := List.all_eq_true.1 hsz n (DataW.weights_mem_each (j := 0) (t := 26) (d := d0) (by rw [Tryd.params4]; rfl) rfl n hn); simpa using this
  obtain ⟨A0, C0, L0, rfl, hc0, hm0, hr0, hq0⟩ := open_bytes Tryd.underlying26 Tryd.underlying5 (by kernel_rfl) (by kernel_rfl) (hval 0 _ v0 rfl rfl) h0 wt0
  obtain ⟨S1, rfl⟩ := open_lanes Tryd.underlying24 Tryd.underlying22 (by kernel_rfl) (by kernel_rfl) (hval 1 _ v1 rfl rfl) h1
  have wt2 : ∀ n ∈ d2.weights Tryd.prog 38, n ≤ reachBytes := fun n hn => by have := List.all_eq_true.1 hsz n (DataW.weights_mem_each (j := 2) (t := 38) (d := d2) (by rw [Tryd.params4]; rfl) rfl n hn); simpa using this
  obtain ⟨A2, C2, L2, rfl, hc2, hm2, hr2, hq2, hp2⟩ := open_pieces Tryd.underlying38 Tryd.underlying26 Tryd.underlying5 (by kernel_rfl) (by kernel_rfl) (by kernel_rfl) (by kernel_rfl) (hval 2 _ v2 rfl rfl) h2 wt2
  clear hA0 hval0
  refine (parts_walk A0 C0 L0 S1 A2 C2 L2 W hr0 hq0 hr2 hq2 (fun q hq => ⟨(hp2 q hq).2.2.1, (hp2 q hq).2.2.2⟩)).mono fun e W' ⟨he, bel⟩ => ?_
  subst he
  exact ⟨_, rfl, _, _, _, [], _, [], hW', trodAll_mk1 (shut_bool Tryd.underlying4 _), (trodAll_cons_mk (Below.trod laidOut (by kernel_rfl) (of_decide_eq_true (by kernel_rfl)) k0 bel lt0) (trodAll_cons_mk (Below.trod laidOut (by kernel_rfl) (of_decide_eq_true (by kernel_rfl)) k1 bel lt1) (trodAll_cons_mk (Below.trod laidOut (by kernel_rfl) (of_decide_eq_true (by kernel_rfl)) k2 bel lt2) trodAll_mk0))), rfl, bel.frame _, fun h => by cases h⟩
theorem rlpParts_holds : Rows.RlpPartsSaid :=
  OpenClaim.holds_of_wide 4 Tryd.f4 rfl rfl rfl rfl rfl rfl rfl ⟨rfl, rfl, rfl, rfl, rfl⟩ rfl rfl rfl rfl rfl (by kernel_rfl) Tryd.func4 (by kernel_rfl)
    (of_decide_eq_true (by kernel_rfl)) (by unfold Func.isWrapper; first | (rw [if_pos (by decide +kernel)]; kernel_rfl) | (rw [if_neg (by decide +kernel)]; exact ⟨rfl, rfl⟩))
    (fun os started H enc _ => rlpParts_lifted os started H enc)
theorem rlpParts_card : Rows.RlpPartsCardSaid :=
  Claim7.holds_tied_plain_at .later [] [.data, .pinned] true (true, "0d5fcb2dacd2627385597f4f8682e01c213b76d9c41560d4420e62c2fd991688") false rlpParts_holds (fun _ h => by cases h) (by kernel_rfl) (fun _ h => by cases h) rlpParts_row_tie rfl ⟨rfl, rfl⟩ (by kernel_rfl) rfl
    (fun f fn hf hfn => by
      obtain rfl : f = 4 := Option.some.inj ((show Tryd.prog.funcNamed "vouch/vouchlaw25.RlpParts" = some 4 by kernel_rfl).symm.trans hf) |>.symm
      obtain rfl : fn = Tryd.f4 := (Option.some.inj (Tryd.func4.symm.trans hfn)).symm
      exact ⟨by kernel_rfl, fun j t ht => by
        rw [Tryd.params4] at ht
        have hm : t ∈ ([26, 24, 38] : List TypeId) := by simpa using Array.mem_of_getElem? ht
        have hall : (([26, 24, 38] : List TypeId).all fun u => !Tryd.prog.wantsStandIn u) = true := by kernel_rfl
        exact (show Tryd.prog.wantsStandIn t = false by simpa using List.all_eq_true.1 hall t hm)⟩)
    (by kernel_rfl)
end Go.Proofs.YtnghneoggiolgaaDoor
