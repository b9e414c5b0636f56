/- checked: the program's Check and the document's answer alike, and what is handed in stays. -/
import Derived.Test.YtfhindffmghlaaaDoorMTDCheck
import Derived.Test.YtfhindffmghlaaaDoorMTDLent
import Derived.Test.YtfhindffmghlaaaDoorMTLawA
import Derived.Deep.RegionHeld3
import Derived.BigQuiet
import Derived.Deep.CutRange
import Derived.Deep.CutBlock
set_option linter.unusedVariables false
set_option linter.unusedSimpArgs false
namespace Go.Proofs.YtfhindffmghlaaaDoor
open Go.RowKit It
/-- The cells of a row of lent texts, marks and all. -/
def allC (zs : List Piece) : List Value := zs.map fun z => .slice z.1 (z.2.2.length + 5) z.2.1
def LentP (w : World) (base : Nat) (z : Piece) : Prop := w.ownsRow base 5 1 (.slice z.1 (z.2.2.length + 5) z.2.1) (z.2.2.length + 5) (bytes (z.2.2 ++ marks5))
theorem LentP.below {w w' : World} {base : Nat} {z : Piece} (h : LentP w base z) (hb : Below w.heap.size w w') : LentP w' base z := own_below' h hb
theorem LentP.grown {w w' : World} {base base' : Nat} {z : Piece} {e' : TypeId} {s' n' : Nat} {v' : Value} {xs' : List Value} (h : LentP w base z) (ho : w.ownsRow base' e' s' v' n' xs') (he : e' ≠ 5) (hg : w.grownBy w' v'.ownBlock) : LentP w' base z :=
  own_grown h hg fun q hq e => own_two ho h he q e hq
theorem SeqB.left {w : World} {A : Option Addr} {a b : List UInt8} (h : SeqB w A (a ++ b)) : SeqB w A a := fun hn => by
  obtain ⟨ad, e, hb, hc⟩ := h (by rw [List.length_append]; omega)
  refine ⟨ad, e, hb, fun j hj => ?_⟩
  have := hc j (by rw [List.length_append]; omega)
  rwa [List.getElem_append_left hj] at this
theorem own_len5 {w : World} {base : Nat} {A : Option Addr} {c : Nat} {l : List UInt8} (h : w.ownsRow base 5 1 (.slice A (l.length + 5) c) (l.length + 5) (bytes (l ++ marks5))) : SeqB w A (l ++ marks5) ∧ SeqB w A l ∧ l.length + 5 ≤ c ∧ c ≤ maxLen := by
  have e : (l ++ marks5).length = l.length + 5 := by rw [List.length_append]; rfl
  have h1 := own_cap h
  have h2 := own_capM h
  rw [← e] at h
  have h3 := SeqB.of_own h
  exact ⟨h3, h3.left, h1, h2⟩
def valD (R : Option (List UInt8)) : List UInt8 := R.getD []
def isD (R : Option (List UInt8)) : Bool := !(valD R).isEmpty
def errD (R : Option (List UInt8)) : Int := if R.isSome then 0 else 262
theorem check_form {w w' : World} {R : Option (List UInt8)} {e : Ending} (h : CheckPost w R e w') : ∃ (Av : Option Addr) (cv : Nat), e = .returned (.tuple #[.slice Av (valD R).length cv, .bool (isD R), .int .i64 (errD R)]) ∧ Seq w' w'.heap.size Av (bytes (valD R)) ∧ Below w.heap.size w w' := by
  cases R with
  | none => obtain ⟨rfl, hb⟩ := h; exact ⟨none, 0, rfl, Seq.none_, hb⟩
  | some v => obtain ⟨A, c, rfl, ho, hb⟩ := h; exact ⟨A, c, rfl, OwnP.seq ho, hb⟩
attribute [local irreducible] Calls in
set_option maxHeartbeats 4000000 in
set_option maxRecDepth 20000 in
theorem checked_calls (f0 : Nat → UInt8) (A : Option Addr) (c : Nat) (key : List UInt8) (A2 : Option Addr) (c2 : Nat) (ps : List Piece) (w : World) (hT : Tables w) (hE : Errs w) (hLw : Lows w.heap.size) (hk : key.length ≤ 131072) (hs : Seq w w.heap.size A (bytes key)) (hn : ps.length ≤ 131072)
    (hsp : Seq w w.heap.size A2 (pcs ps)) (hp : ∀ p ∈ ps, Seq w w.heap.size p.1 (bytes p.2.2) ∧ p.2.2.length ≤ 131072) :
    Calls Tryd.prog 17 #[.agg (tab 32 (hashV f0)), .slice A key.length c, .slice A2 ps.length c2] w (fun e w' => e = .returned (.bool true) ∧ Below w.heap.size w w') := by
  have HT := Lib.hid hT
  have HE := Lib.hid hE
  have HLw := Lib.hid hLw
  have HS := Lib.hid hs
  have HSp := Lib.hid hsp
  have HP := Lib.hid hp
  have hba := (Below.refl w.heap.size w).alloc (Nat.le_refl _) (.cells (tab 32 (hashV f0)) 23)
  have hbk : Blk (w.alloc (.cells (tab 32 (hashV f0)) 23)) w.heap.size 23 (tab 32 (hashV f0)) := Blk.new _ _ _
  have hzb := hbk.lt
  have HBa := Lib.hid hba
  have HBk := Lib.hid hbk
  clear hT hE hLw hs hsp hp hba hbk
  have hza := size_alloc w (.cells (tab 32 (hashV f0)) 23)
  have hza1 := Nat.le_of_eq hza.symm
  clear hza
  go_enter Tryd.func17, Tryd.ntmps17
  go_wp2_with (first
    | (go_at_call 45; (refine (lent_calls A c w.heap.size key _ (by omega) (HS.out.below HBa.out (Nat.le_refl _))).mono ?_; rintro e1 w1 ⟨Ak, ck, rfl, ho1, hb1⟩; have hz1 := hb1.size; have HO1 := Lib.hid ho1; have HB1 := Lib.hid (HBa.out.trans (hb1.mono (by omega))); have HBk1 := Lib.hid (HBk.out.below hb1 hzb); clear ho1 hb1))
    | fail)
  have hz01 := HB1.out.size
  go_loopw [8, 9, 10, 11] (fun v8 v9 v10 _ wr => ∃ (zs : List Piece) (A8 : Option Addr) (c8 : Nat) (A9 : Option Addr) (c9 : Nat), zs.length ≤ ps.length ∧ v10 = .int .i64 zs.length ∧ v8 = .slice A8 zs.length c8 ∧ v9 = .slice A9 zs.length c9 ∧ zs.map txt = (ps.take zs.length).map txt ∧ wr.ownsRow w1.heap.size 24 1 (.slice A8 zs.length c8) zs.length (allC zs) ∧ wr.ownsRow w1.heap.size 24 1 (.slice A9 zs.length c9) zs.length (pcs zs) ∧ (∀ z ∈ zs, LentP wr w1.heap.size z) ∧ Apart (.slice A8 zs.length c8) (.slice A9 zs.length c9) ∧ Below w1.heap.size w1 wr) (fun _ _ v10 _ _ => ps.length - (intOf v10).toNat)
  case atStart => exact ⟨[], none, 0, none, 0, by simp, rfl, rfl, rfl, rfl, World.ownsRow_nil _ _ _ _, World.ownsRow_nil _ _ _ _, fun _ h => (List.not_mem_nil h).elim, Apart.none_ _ _ _, Below.refl _ _⟩
  case round =>
    obtain ⟨zs, A8, c8, A9, c9, hzl, rfl, rfl, rfl, hzm, ho8, ho9, hzo, hap, hbl⟩ := hrel
    rename World => w2
    have hz2 := hbl.size
    have HZm := Lib.hid hzm
    have HO8 := Lib.hid ho8
    have HO9 := Lib.hid ho9
    have HZo := Lib.hid hzo
    have HAp := Lib.hid hap
    have HBl := Lib.hid hbl
    have HB02 := Lib.hid (HB1.out.trans (hbl.mono hz01))
    clear hzm ho8 ho9 hzo hap hbl
    by_cases hlt : zs.length < ps.length
    · have dk : decide ((zs.length : Int) < (ps.length : Int)) = true := decide_eq_true (by omega)
      have dk2 : decide (zs.length < ps.length) = true := decide_eq_true hlt
      have lk : (zs.length : Int) < (ps.length : Int) := by omega
      obtain ⟨ad, rfl, hadl, q0⟩ := (HSp.out.below HB02.out (Nat.le_refl _)).piece zs.length hlt
      obtain ⟨hpb, hpl⟩ := HP.out _ (List.getElem_mem hlt)
      have hpb2 := hpb.below HB02.out (Nat.le_refl _)
      have htk : (ps.take (zs.length + 1)).map txt = zs.map txt ++ [ps[zs.length].2.2] := by rw [List.take_succ_eq_append_getElem hlt, List.map_append, HZm.out]; rfl
      generalize ps[zs.length] = p at q0 hpb2 hpl htk
      obtain ⟨Ap, cp, lp⟩ := p
      simp only at q0 hpb2 hpl htk
      have HPb := Lib.hid hpb2
      have HTk := Lib.hid htk
      obtain ⟨n, hn'⟩ : ∃ n, zs.length = n := ⟨_, rfl⟩
      have HNn := Lib.hid hn'
      rw [hn'] at hlt dk dk2 lk q0 HO8 HO9 HAp HTk hzl ⊢
      have hza1x : (ad.add n).block < w1.heap.size := by rw [block_add]; omega
      have hza2 : (ad.add n).block < w2.heap.size := by rw [block_add]; omega
      have hlp5 : (lp.length : Int) ≤ (lp.length : Int) + 5 := by omega
      clear hpb hpb2 htk hn' HZm
      go_wp2_with (first
        | (go_at_call 45; (refine (lent_calls Ap cp w.heap.size lp w2 (by omega) HPb.out).mono ?_; rintro e3 w3 ⟨Ax, cx, rfl, ho3, hb3⟩; have hz3 := hb3.size; have q3 := (hb3.cell (p := ad.add n) hza2).trans q0; have hcx := own_cap ho3; have HO3 := Lib.hid ho3; have HB3 := Lib.hid hb3; have HO8' := Lib.hid (own_below' HO8.out hb3); have HO9' := Lib.hid (own_below' HO9.out hb3); clear ho3 hb3))
        | (at_builtin; first
          | (refine wpL_append rfl (.tmp 32) (.tmp 34) 25 rfl elText rfl (own_alloc HO8'.out _) rfl rfl (Seq.of_blk (xs := [.slice Ax (lp.length + 5) cx]) (Blk.new' _ _ _ rfl) (Nat.lt_succ_self _)) (by simp [Value.oneCell']) (by unfold maxLen; omega) (by omega) (by rw [size_alloc]; omega) ?_; intro A4 c4 w4 ho4 hg4 hv4; have hz4 := hg4.size; rw [size_alloc] at hz4; have hb34 : Below w1.heap.size w3 w4 := ((Below.refl w1.heap.size w3).alloc (by omega) (.cells #[.slice Ax (lp.length + 5) cx] 24)).grown hg4 (by rw [size_alloc]; omega) (fun g hg => (HO8'.out.lt g hg).1); have q4 := (hb34.cell (p := ad.add n) hza1x).trans q3; have HO9w := Lib.hid (own_grown (own_alloc HO9'.out (.cells #[.slice Ax (lp.length + 5) cx] 24)) hg4 (fun q hq e => HAp.out q e hq)); have HB34 := Lib.hid hb34; have HO4 := Lib.hid ho4; have HG4 := Lib.hid hg4; have HV4 := Lib.hid hv4; clear ho4 hg4 hv4 hb34)
          | (refine wpL_append rfl (.tmp 36) (.tmp 44) 25 rfl elText rfl (own_alloc HO9w.out _) rfl rfl (Seq.of_blk (xs := [.slice Ax lp.length cx]) (Blk.new' _ _ _ rfl) (Nat.lt_succ_self _)) (by simp [Value.oneCell']) (by unfold maxLen; omega) (by omega) (by rw [size_alloc]; omega) ?_; intro A5 c5 w5 ho5 hg5 hv5; have HO5 := Lib.hid ho5; have HG5 := Lib.hid hg5; have HV5 := Lib.hid hv5; clear ho5 hg5 hv5))
        | fail)
      have hnn := HNn.out
      have hap1 : Apart (.slice A4 (n + 1) c4) (.slice A9 n c9) := HAp.out.step HV4.out (fun q hq => by have := (HO9'.out.lt q hq).2; rw [size_alloc]; omega)
      have hap2 : Apart (.slice A4 (n + 1) c4) (.slice A5 (n + 1) c5) := (hap1.symm.step HV5.out (fun q hq => by have := (HO4.out.lt q hq).2; rw [size_alloc]; omega)).symm
      have ho8 := own_grown (own_alloc HO4.out (.cells #[.slice Ax lp.length cx] 24)) HG5.out (fun q hq e => hap1 q hq e)
      have hb5 : Below w1.heap.size w4 w5 := ((Below.refl w1.heap.size w4).alloc (by omega) (.cells #[.slice Ax lp.length cx] 24)).grown HG5.out (by rw [size_alloc]; omega) (fun g hg => (HO9w.out.lt g hg).1)
      have hz1n : LentP (w3.alloc (.cells #[.slice Ax (lp.length + 5) cx] 24)) w1.heap.size (Ax, cx, lp) := own_alloc (own_mono HO3.out hz2) _
      have hlift : ∀ z, LentP (w3.alloc (.cells #[.slice Ax (lp.length + 5) cx] 24)) w1.heap.size z → LentP w5 w1.heap.size z := fun z hz =>
        LentP.grown (own_alloc (LentP.grown hz (own_alloc HO8'.out (.cells #[.slice Ax (lp.length + 5) cx] 24)) (by decide) HG4.out) _) (own_alloc HO9w.out (.cells #[.slice Ax lp.length cx] 24)) (by decide) HG5.out
      have e7 : (zs ++ [(Ax, cx, lp)]).length = n + 1 := by rw [List.length_append, hnn]; rfl
      refine ⟨⟨zs ++ [(Ax, cx, lp)], A4, c4, A5, c5, by rw [e7]; omega, by rw [e7]; go_num, by rw [e7], by rw [e7], by rw [e7, HTk.out, List.map_append]; rfl, ?_, ?_, fun z hz => ?_, by rw [e7]; exact hap2, HBl.out.trans ((HB3.out.mono hz2).trans (HB34.out.trans hb5))⟩, by simp [intOf]; omega⟩
      · rw [e7, show allC (zs ++ [(Ax, cx, lp)]) = allC zs ++ [.slice Ax (lp.length + 5) cx] from by simp [allC]]
        exact ho8
      · rw [e7, show pcs (zs ++ [(Ax, cx, lp)]) = pcs zs ++ [.slice Ax lp.length cx] from by simp [pcs, pcV]]
        exact HO5.out
      · rcases List.mem_append.1 hz with hz | hz
        · exact hlift z (own_alloc (LentP.below (HZo.out z hz) HB3.out) _)
        · rw [List.mem_singleton] at hz
          subst hz
          exact hlift _ hz1n
    · have dk : decide ((zs.length : Int) < (ps.length : Int)) = false := decide_eq_false (by omega)
      have dk2 : decide (zs.length < ps.length) = false := decide_eq_false hlt
      have hzl2 : zs.length = ps.length := by omega
      have hzt : zs.map txt = ps.map txt := by rw [HZm.out, hzl2, List.take_length]
      have HZt := Lib.hid hzt
      have HZl := Lib.hid hzl2
      clear hzt hzl2 HZm
      have hbk2 := (HBk1.out.below (HBl.out.mono (Nat.le_refl _)) HBk1.out.lt)
      have hq1 := own_len5 HO1.out
      have hkb := (hq1.2.1.below HBl.out)
      have hkm := (hq1.1.below HBl.out)
      have hkc := hq1.2.2
      have hrow : RowAt w2 (.slice A9 zs.length c9) (zs.map txt) := ⟨A9, c9, zs, rfl, rfl, own_cap HO9.out, own_capM HO9.out, SeqT.of_own HO9.out, fun p hp => by
        obtain ⟨_, h2, h3, h4⟩ := own_len5 (HZo.out p hp)
        have h5 : p.2.2.length ≤ 131072 := by
          have : txt p ∈ ps.map txt := by rw [← HZt.out]; exact List.mem_map_of_mem hp
          obtain ⟨q, hq, e⟩ := List.mem_map.1 this
          have := (HP.out q hq).2
          have e2 : p.2.2 = q.2.2 := e.symm
          rw [e2]
          exact this
        exact ⟨h2, by omega, h4, by omega⟩⟩
      have hbd : Below w2.heap.size w2 w2.drew := below_drewN (Below.refl _ _) 1
      have hb02d := HB02.out.trans (hbd.mono HB02.out.size)
      have hck := check_calls f0 Ak ck key (.slice A9 zs.length c9) (zs.map txt) w2.drew (HT.out.now hb02d) (HE.out.now HLw.out hb02d) (HLw.out.now hb02d) (by omega) (hkb.seq.drewN 1) (hrow.keep (fun _ _ h => h.below hbd h.lt) (fun _ _ h => h.below hbd h.lt))
      obtain ⟨R, hR⟩ : ∃ R, checkT hashL (listOf f0 32) (zs.map txt) (nib key) = R := ⟨_, rfl⟩
      rw [hR] at hck
      have HR := Lib.hid hR
      have HCk := Lib.hid hck
      have HBk2 := Lib.hid hbk2
      have HKm := Lib.hid hkm
      have hu42 := Tryd.underlying23
      have hi42 : (Tryd.prog.info? 23).map (·.size) = some (tab 32 (hashV f0)).toList.length := by
        rw [show (tab 32 (hashV f0)).toList.length = 32 by simp [tab]]
        kernel_rfl
      have hkc1 := hkc.1
      have hkci : (key.length : Int) ≤ (ck : Int) := by omega
      clear hbk2 hq1 hkb hkm hkc hrow hbd hb02d hck hR
      go_upto_region 9 with fail
      go_region_held3 (fun w' => w'.rangeAt w.heap.size 0 (tab 32 (hashV f0)).toList) (first | exact rangeAt_blk k1 | exact rangeAt_blk HBk2.out)
        (first
          | (go_at_call 24; (refine HCk.out.mono ?_; intro e5 w5 h5; obtain ⟨Av, cv, rfl, hsv, hb5⟩ := check_form h5; have hb25 : Below w2.heap.size w2 w5 := (below_drewN (Below.refl w2.heap.size w2) 1).trans hb5; have k1 := HBk2.out.below hb25 HBk2.out.lt; have hz5 := hb25.size; have HSv := Lib.hid hsv; have HB25 := Lib.hid hb25; clear h5 hsv hb5 hb25))
          | fail)
      all_goals
        go_wp2_with fail
        have hb5d : Below w5.heap.size w5 w5.drew := below_drewN (Below.refl _ _) 1
        have hb05 := HB02.out.trans (HB25.out.mono HB02.out.size)
        have HB05 := Lib.hid hb05
        have HB5d := Lib.hid hb5d
        have hz05 := hb05.size
        have K1 := Lib.hid k1
        have hpul : ∀ us : List Piece, us.map txt = ps.map txt → ∀ p ∈ us, p.2.2.length ≤ 524288 := fun us h p hp => by
          have h1 : txt p ∈ ps.map txt := by rw [← h]; exact List.mem_map_of_mem hp
          obtain ⟨q, hq, e⟩ := List.mem_map.1 h1
          have h2 := (HP.out q hq).2
          have e2 : p.2.2 = q.2.2 := e.symm
          rw [e2]
          omega
        have HPul := Lib.hid hpul
        clear hb05 hb5d k1 hpul
        go_upto_region 10 with fail
        go_region_held3 (fun w' => w'.rangeAt w.heap.size 0 (tab 32 (hashV f0)).toList) (first | exact rangeAt_blk k4 | exact rangeAt_blk k3 | exact rangeAt_blk k2 | exact rangeAt_blk K1.out)
          (first
            | (go_at_call 19; (refine (ownL_calls A c w.heap.size key w5.drew (by omega) (HS.out.below (HB05.out.trans (HB5d.out.mono hz05)) (Nat.le_refl _))).mono ?_; rintro e6 w6 ⟨A6, c6, rfl, ho6, hb6⟩; have hb56 := HB5d.out.trans hb6; have k2 := K1.out.below hb56 K1.out.lt; have hz6 := hb56.size; have HO6 := Lib.hid (Seq.of_own ho6); have HB56 := Lib.hid hb56; clear ho6 hb6 hb56))
            | (go_at_call 20; (refine (ownTexts_calls A2 c2 ps w6 (by omega) (HSp.out.now (HB05.out.trans (HB56.out.mono hz05))) (fun p hp => ⟨(HP.out p hp).1.now (HB05.out.trans (HB56.out.mono hz05)), by have := (HP.out p hp).2; omega⟩)).mono ?_; rintro e7 w7 ⟨A7, c7, us, rfl, hum, hurow, huown, huap, hb7⟩; have k3 := k2.below hb7 k2.lt; have hz7 := hb7.size; have HUm := Lib.hid hum; have HU := Lib.hid (⟨hurow, huown, huap⟩ : TextsAt w7 w6.heap.size A7 c7 us); have HO67 := Lib.hid (HO6.out.now hb7); have HB57 := Lib.hid (HB56.out.trans (hb7.mono hz6)); clear hum hurow huown huap hb7))
            | (go_at_call 46; (have hrc := refCheck_calls f0 A6 c6 key (.slice A7 us.length c7) (us.map txt) w7 (by omega) HO67.out (HU.out.rowAt (HPul.out us HUm.out)); rw [HUm.out, ← HZt.out, HR.out] at hrc; refine hrc.mono ?_; clear hrc; intro e8 w8 h8; obtain ⟨Aw, cw, rfl, hsw, hb8⟩ := check_form h8; have k4 := k3.below hb8 k3.lt; have hz8 := hb8.size; have HSw := Lib.hid hsw; have HB58 := Lib.hid (HB57.out.trans (hb8.mono (by omega))); clear h8 hsw hb8))
            | fail)
        all_goals
          go_wp2_with fail
          have hb28 := HB25.out.trans (HB58.out.mono hz5)
          have hb08 := HB02.out.trans (hb28.mono HB02.out.size)
          have hsm := sameLE_calls Av cv w8.heap.size (valD R) Aw cw (valD R) w8 (HSv.out.now HB58.out) HSw.out
          rw [show (valD R == valD R) = true by simp] at hsm
          have hwh := wholeL_calls Ak ck key A c w8 (by omega) ((HKm.out.below hb28).seq) (HS.out.now hb08)
          have HSm := Lib.hid (hsm.mono fun e w' (h : e = .returned (.bool true) ∧ w' = w8) => (⟨h.1, h.2.symm⟩ : e = .returned (.bool true) ∧ w8 = w'))
          have HWh := Lib.hid hwh
          have HB28 := Lib.hid hb28
          have HB08 := Lib.hid hb08
          have hxx : (isD R != isD R) = false := by simp
          have hee : (errD R != errD R) = false := by simp
          clear hb28 hb08 hsm hwh k2 k3 k4 K1
          go_wp2_with (first
            | (go_at_call 27; (refine HSm.out.mono ?_; rintro e9 w9 ⟨rfl, rfl⟩))
            | (go_at_call 47; (refine HWh.out.mono ?_; rintro e10 w10 ⟨rfl, m10, hw10⟩; have HW10 := Lib.hid hw10; clear hw10))
            | fail)
          have hb810 : Below w8.heap.size w8 w10 := by rw [HW10.out]; exact below_drewN (Below.refl _ _) _
          have hb210 := HB28.out.trans (hb810.mono HB28.out.size)
          have HB210 := Lib.hid hb210
          have hz210 := hb210.size
          clear hb810 hb210
          go_loopw [18] (fun v wr => ∃ i : Nat, i ≤ ps.length ∧ v = .int .i64 i ∧ Below w10.heap.size w10 wr) (fun v _ => ps.length - (intOf v).toNat)
          case atStart => exact ⟨0, by omega, rfl, Below.refl _ _⟩
          case round =>
            obtain ⟨i, hi, rfl, hbi⟩ := hrel
            rename World => w11
            have hz11 := hbi.size
            have hb211 := HB210.out.trans (hbi.mono hz210)
            have hb011 := HB02.out.trans (hb211.mono HB02.out.size)
            have HBi := Lib.hid hbi
            have HB211 := Lib.hid hb211
            have HB011 := Lib.hid hb011
            clear hbi hb211 hb011
            by_cases hlt : i < ps.length
            · have di : decide ((i : Int) < (ps.length : Int)) = true := decide_eq_true (by omega)
              have di2 : decide (i < ps.length) = true := decide_eq_true hlt
              have li : (i : Int) < (ps.length : Int) := by omega
              have hiz : i < zs.length := by rw [HZl.out]; exact hlt
              have liz : (i : Int) < (zs.length : Int) := by omega
              obtain ⟨ad0, rfl, _, q0⟩ := (HSp.out.below HB011.out (Nat.le_refl _)).piece i hlt
              obtain ⟨ad8, hA8, _, q8⟩ := ((Seq.of_own HO8.out).below HB211.out (Nat.le_refl _)).at_ (k := i) (by simpa [allC] using hiz)
              subst hA8
              obtain ⟨ad9, hA9, _, q9⟩ := ((Seq.of_own HO9.out).below HB211.out (Nat.le_refl _)).piece i hiz
              subst hA9
              have hzi := HZo.out _ (List.getElem_mem hiz)
              obtain ⟨hpb, hpl⟩ := HP.out _ (List.getElem_mem hlt)
              have htx : zs[i].2.2 = ps[i].2.2 := by
                have h1 : (zs.map txt)[i]? = (ps.map txt)[i]? := by rw [HZt.out]
                rw [List.getElem?_map, List.getElem?_map, List.getElem?_eq_getElem hiz, List.getElem?_eq_getElem hlt] at h1
                exact Option.some.inj h1
              replace q8 : w11.cell? (ad8.add i) = some (.slice zs[i].1 (zs[i].2.2.length + 5) zs[i].2.1) := by
                rw [q8]
                simp [allC]
              generalize zs[i] = z at *
              generalize ps[i] = p at *
              obtain ⟨Az, cz, lz⟩ := z
              obtain ⟨Ap, cp, lp⟩ := p
              simp only at q0 q8 q9 hzi hpb hpl htx
              subst htx
              have hz5x := own_len5 hzi
              have hwh : ∀ n, Calls Tryd.prog 47 #[.slice Az (lz.length + 5) cz, .slice Ap lz.length cp] (w11.drewN n) _ := fun n => wholeL_calls Az cz lz Ap cp (w11.drewN n) (by omega) (((hz5x.1.below HB211.out).seq).drewN n) ((hpb.now HB011.out).drewN n)
              have hsm : ∀ n, Calls Tryd.prog 27 #[.slice Az lz.length cz, .slice Ap lz.length cp] (w11.drewN n) (fun e w' => e = .returned (.bool true) ∧ w' = w11.drewN n) := fun n => by
                have h1 := sameLE_calls Az cz w11.heap.size lz Ap cp lz (w11.drewN n) (((hz5x.2.1.below HB211.out).seq).drewN n) ((hpb.now HB011.out).drewN n)
                rw [show (lz == lz) = true by simp] at h1
                exact h1
              have HWh2 := Lib.hid hwh
              have HSm2 := Lib.hid hsm
              clear hwh hsm hzi hpb hz5x
              go_upto_region 16 with fail
              go_quiet (first
                | (go_at_call 47; exact Calls.quiet_of (HWh2.out _))
                | (go_at_call 27; exact Calls.quiet_of_same (HSm2.out _))
                | fail)
              go_wp2_with fail
              exact ⟨⟨i + 1, by omega, by go_num, below_drewN HBi.out nq⟩, by simp [intOf]; omega⟩
            · have di : decide ((i : Int) < (ps.length : Int)) = false := decide_eq_false (by omega)
              have di2 : decide (i < ps.length) = false := decide_eq_false hlt
              go_wp2_with fail
              go_ret
              exact ⟨rfl, HB011.out⟩
end Go.Proofs.YtfhindffmghlaaaDoor
