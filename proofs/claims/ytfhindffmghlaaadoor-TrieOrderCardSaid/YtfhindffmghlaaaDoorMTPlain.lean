/- plain: the pairs that are there, by a plain list. -/
import Derived.Test.YtfhindffmghlaaaDoorG27
import Derived.Deep.RegionHeld3
import Derived.BigQuiet
import Derived.Deep.CutRange
import Derived.Deep.CutBlock
import Derived.RegionTactic
set_option linter.unusedVariables false
set_option linter.unusedSimpArgs false
namespace Go.Proofs.YtfhindffmghlaaaDoor
open Go.RowKit
/-- A pair's two cells. -/
def prF (x : PairL) (j : Nat) : Value := if j = 0 then pcV x.1 else pcV x.2
theorem prF_one (x : PairL) (j : Nat) : (prF x j).oneCell' = true := by unfold prF; split <;> rfl
theorem prF_tab (x : PairL) : tab 2 (prF x) = #[pcV x.1, pcV x.2] := rfl
/-- What plain answers: a row of pairs out of the list. -/
def PlainPost (w : World) (l : List PairL) (e : Ending) (w' : World) : Prop := ∃ (A : Option Addr) (c : Nat) (out : List PairL), e = .returned (.slice A out.length c) ∧ RowP w' w.heap.size A c out ∧ out.map saidP = plainL (firsts l) ∧ (∀ x ∈ out, x ∈ l) ∧ Below w.heap.size w w'
theorem RowP.cells {w : World} {base c g : Nat} {l : List PairL} (h : RowP w base (some ⟨g, 0, none⟩) c l) (j : Nat) (hj : j < l.length) : w.cell? ⟨g, j * 2, none⟩ = some (pcV l[j].1) ∧ w.cell? ⟨g, j * 2 + 1, none⟩ = some (pcV l[j].2) := by
  obtain ⟨ad, e, _, h0, h1⟩ := h.at_.get j hj
  injection e with e
  subst e
  rw [addr_add, Nat.zero_add] at h0 h1
  exact ⟨h0, h1⟩
theorem RowP.put {w : World} {base c g : Nat} {l : List PairL} (h : RowP w base (some ⟨g, 0, none⟩) c l) (j : Nat) (hj : j < l.length) (x : PairL) : RowP ((w.setCell ⟨g, j * 2, none⟩ (pcV x.1)).setCell ⟨g, j * 2 + 1, none⟩ (pcV x.2)) base (some ⟨g, 0, none⟩) c (l.set j x) := by
  have hl := flatP_length l
  have h1 := own_set h (i := j * 2) (by omega) (pcV x.1)
  have h2 := own_set h1 (i := j * 2 + 1) (by rw [List.length_set]; omega) (pcV x.2)
  unfold RowP
  rw [List.length_set, flatP_set, if_pos hj]
  exact h2
theorem ins_swap (out : List PairL) (x : PairL) (q : Nat) (hq : q < out.length) : ((out.take (q + 1) ++ x :: out.drop (q + 1)).set (q + 1) out[q]).set q x = out.take q ++ x :: out.drop q := by
  have hl : (out.take q).length = q := by rw [List.length_take]; omega
  rw [List.take_succ_eq_append_getElem hq, List.drop_eq_getElem_cons hq]
  generalize out[q] = y
  generalize out.drop (q + 1) = b
  generalize out.take q = a at hl
  subst hl
  simp
theorem ins_get (out : List PairL) (x : PairL) (q : Nat) (hq : q < out.length) (h1 : q + 1 < (out.take (q + 1) ++ x :: out.drop (q + 1)).length) (h2 : q < (out.take (q + 1) ++ x :: out.drop (q + 1)).length) : (out.take (q + 1) ++ x :: out.drop (q + 1))[q + 1] = x ∧ (out.take (q + 1) ++ x :: out.drop (q + 1))[q] = out[q] := by
  have hl : (out.take (q + 1)).length = q + 1 := by rw [List.length_take]; omega
  refine ⟨?_, ?_⟩
  · rw [List.getElem_append_right (by omega)]
    simp [hl]
  · rw [List.getElem_append_left (by omega), List.getElem_take]
theorem ins_len (out : List PairL) (x : PairL) (q : Nat) (hq : q ≤ out.length) : (out.take q ++ x :: out.drop q).length = out.length + 1 := by simp; omega
attribute [local irreducible] Calls in
set_option maxHeartbeats 4000000 in
set_option maxRecDepth 20000 in
theorem plain_calls (A : Option Addr) (c : Nat) (l : List PairL) (w : World) (hl : l.length ≤ 1099511627776) (hp : PairsIn w w.heap.size A l) (hb : ∀ x ∈ l, x.1.2.2.length ≤ 1099511627776 ∧ x.2.2.2.length ≤ 1099511627776) :
    Calls Tryd.prog 22 #[.slice A l.length c] w (PlainPost w l) := by
  have HP := Lib.hid hp
  have HB := Lib.hid hb
  clear hp hb
  go_enter Tryd.func22, Tryd.ntmps22
  go_wp2_with fail
  go_loopw [3, 4, 5, 6, 7] (fun o i _ _ _ wr => ∃ (k : Nat) (out : List PairL) (A2 : Option Addr) (c2 : Nat), k ≤ l.length ∧ k ≤ 300 ∧ out.length ≤ k ∧ i = .int .i64 k ∧ o = .slice A2 out.length c2 ∧ RowP wr w.heap.size A2 c2 out ∧ out.map saidP = plainL ((l.take k).map saidP) ∧ (∀ x ∈ out, x ∈ l) ∧ Below w.heap.size w wr) (fun _ i _ _ _ _ => l.length - (intOf i).toNat)
  case atStart => exact ⟨0, [], none, 0, by omega, by omega, by simp, rfl, rfl, World.ownsRow_nil w w.heap.size _ 2, rfl, fun _ h => (List.not_mem_nil h).elim, Below.refl _ _⟩
  case round =>
    rename World => w1
    obtain ⟨k, out, A2, c2, hk, hk3, hok, rfl, rfl, ho, hm, hx, hbl⟩ := hrel
    have hsz := hbl.size
    have HBl := Lib.hid hbl
    have HO := Lib.hid ho
    have HM := Lib.hid hm
    have HX := Lib.hid hx
    clear ho hm hx
    by_cases hlt : k < l.length ∧ k < 300
    · obtain ⟨hlt, hlt3⟩ := hlt
      have dk : decide ((k : Int) < (l.length : Int)) = true := by simp; omega
      have dk3 : decide ((k : Int) < 300) = true := by simp; omega
      have lk : (k : Int) < (l.length : Int) := by omega
      have hpr := HP.out.below hbl (Nat.le_refl _)
      obtain ⟨ad, rfl, hlta, q0, q1⟩ := hpr.1.get k hlt
      obtain ⟨x, hxe⟩ : ∃ x, l[k] = x := ⟨_, rfl⟩
      have hxm : x ∈ l := hxe ▸ List.getElem_mem hlt
      have htk : plainL ((l.take (k + 1)).map saidP) = stepL (plainL ((l.take k).map saidP)) (saidP x) := by
        rw [List.take_succ_eq_append_getElem hlt, List.map_append, hxe]
        unfold plainL
        rw [List.foldl_append]
        rfl
      rw [← HM.out] at htk
      have HTk := Lib.hid htk
      obtain ⟨hs0, hs1, _⟩ := hpr.2 _ hxm
      have hbx := HB.out _ hxm
      rw [hxe] at q0 q1
      clear hxe htk HM
      obtain ⟨⟨Ak, ck, lk'⟩, ⟨Av, cv, lv⟩⟩ := x
      simp only [pcV] at q0 q1
      simp only at hs0 hs1 hbx
      obtain ⟨hbk, hbv⟩ := hbx
      have HS0 := Lib.hid hs0
      have HS1 := Lib.hid hs1
      have HXm := Lib.hid hxm
      clear hs0 hs1 hxm hpr hbl
      have hb5 : Below w1.heap.size w1 (w1.alloc (.cells #[.slice Ak lk'.length ck, .slice Av lv.length cv] 40)) := (Below.refl _ _).alloc (Nat.le_refl _) _
      have hk5 : Blk (w1.alloc (.cells #[.slice Ak lk'.length ck, .slice Av lv.length cv] 40)) w1.heap.size 40 #[.slice Ak lk'.length ck, .slice Av lv.length cv] := Blk.new _ _ _
      have p0 : (w1.alloc (.cells #[.slice Ak lk'.length ck, .slice Av lv.length cv] 40)).cell? ⟨w1.heap.size, 0, none⟩ = some (.slice Ak lk'.length ck) := hk5.cell 0
      have p1 : (w1.alloc (.cells #[.slice Ak lk'.length ck, .slice Av lv.length cv] 40)).cell? ⟨w1.heap.size, 1, none⟩ = some (.slice Av lv.length cv) := hk5.cell 1
      have HK5 := Lib.hid hk5
      have HO5 := Lib.hid (own_below' HO.out hb5)
      have HB5 := Lib.hid (HBl.out.trans (hb5.mono hsz))
      clear hk5 hb5
      by_cases hskip : 64 < lk'.length ∨ lv = []
      · have e1 : stepL (out.map saidP) (saidP ((Ak, ck, lk'), (Av, cv, lv))) = out.map saidP := by unfold stepL; exact if_pos hskip
        have HE1 := Lib.hid e1
        have hway : decide ((64 : Int) < (lk'.length : Int)) = true ∨ (decide ((64 : Int) < (lk'.length : Int)) = false ∧ ((lv.length : Int) == 0) = true) := by
          rcases Nat.lt_or_ge 64 lk'.length with h | h
          · exact Or.inl (decide_eq_true (by omega))
          · refine Or.inr ⟨decide_eq_false (by omega), ?_⟩
            rcases hskip with h2 | h2
            · omega
            · rw [h2]; rfl
        clear hskip e1
        rcases hway with d64 | ⟨d64, d0⟩
        all_goals
          go_wp2_with fail
          exact ⟨⟨k + 1, out, A2, c2, by omega, by omega, by omega, by go_num, rfl, HO5.out, by rw [HTk.out, HE1.out], HX.out, HB5.out⟩, by simp [intOf]; omega⟩
      · have d64 : decide ((64 : Int) < (lk'.length : Int)) = false := by simp; omega
        have d0 : ((lv.length : Int) == 0) = false := by
          have : lv ≠ [] := fun e => hskip (Or.inr e)
          simpa using this
        have e1 : stepL (out.map saidP) (saidP ((Ak, ck, lk'), (Av, cv, lv))) = insL (lk', lv) (out.map saidP) := by unfold stepL; exact if_neg hskip
        rw [e1] at HTk
        have HK0 := Lib.hid (fun (W : World) (hb : Below w.heap.size w W) => HP.out.below hb (Nat.le_refl _))
        clear e1 hskip
        go_upto_block 2 with fail
        clear q0 q1
        go_cut [6] from 32 to 49 (fun a wx => ∃ j : Nat, j ≤ out.length ∧ a = .int .i64 j ∧ (∀ i (h : i < out.length), i < j → Op.bytesLess out[i].1.2.2 lk' = true) ∧ (∀ h : j < out.length, Op.bytesLess out[j].1.2.2 lk' = false) ∧ RowP wx w.heap.size A2 c2 out ∧ Blk wx w1.heap.size 40 #[.slice Ak lk'.length ck, .slice Av lv.length cv] ∧ Below w.heap.size w wx ∧ w1.heap.size < wx.heap.size)
        case first =>
          go_wp2_with fail
          go_loopw [6] (fun a wr => ∃ j : Nat, j ≤ out.length ∧ a = .int .i64 j ∧ (∀ i (h : i < out.length), i < j → Op.bytesLess out[i].1.2.2 lk' = true) ∧ RowP wr w.heap.size A2 c2 out ∧ Blk wr w1.heap.size 40 #[.slice Ak lk'.length ck, .slice Av lv.length cv] ∧ Below w.heap.size w wr ∧ w1.heap.size < wr.heap.size) (fun a _ => out.length - (intOf a).toNat)
          case atStart => exact ⟨0, by omega, rfl, fun _ _ h => absurd h (by omega), HO5.out, HK5.out, HB5.out, by rw [size_alloc]; omega⟩
          case round =>
            obtain ⟨j, hj, rfl, hjl, hol, hkl, hbl, hzl⟩ := hrel
            have HJL := Lib.hid hjl
            have HOL := Lib.hid hol
            have HKL := Lib.hid hkl
            have HBL := Lib.hid hbl
            have p0 : wr.cell? ⟨w1.heap.size, 0, none⟩ = some (.slice Ak lk'.length ck) := hkl.cell 0
            have h2 := fun (n : Nat) => run_str Ak ck w.heap.size lk' (wr.drewN n) ((HK0.out wr hbl |>.2 _ HXm.out).1.below (below_drewN (Below.refl wr.heap.size wr) n) hbl.size)
            by_cases hjn : j < out.length
            · have dj : decide ((j : Int) < (out.length : Int)) = true := by simp; omega
              have lj : (j : Int) < (out.length : Int) := by omega
              obtain ⟨ad2, rfl, hlt2, r0, r1⟩ := PairsAt.get (RowP.at_ hol) j hjn
              have hyl := HX.out _ (List.getElem_mem hjn)
              have hys := (HK0.out wr hbl).2 _ hyl
              obtain ⟨y, hye⟩ : ∃ y, out[j] = y := ⟨_, rfl⟩
              rw [hye] at r0 r1 hys
              have HYE := Lib.hid hye
              clear hye hyl hjl hol hkl hbl
              obtain ⟨⟨Aj, cj, lj'⟩, ⟨Avj, cvj, lvj⟩⟩ := y
              simp only [pcV] at r0 r1
              have h1 := fun (n : Nat) => run_str Aj cj w.heap.size lj' (wr.drewN n) (hys.1.below (below_drewN (Below.refl wr.heap.size wr) n) HBL.out.size)
              have HYS := Lib.hid hys
              clear hys
              by_cases hless : Op.bytesLess lj' lk' = true
              · go_wp2_with fail
                go_quiet (fail)
                have hbd := below_drewN (Below.refl wr.heap.size wr) nq
                go_wp2_with fail
                refine ⟨⟨j + 1, by omega, by go_num, fun i h hi => ?_, own_drewN HOL.out nq, HKL.out.below hbd HKL.out.lt, HBL.out.trans (hbd.mono HBL.out.size), Nat.lt_of_lt_of_le hzl hbd.size⟩, by simp [intOf]; omega⟩
                rcases Nat.lt_or_ge i j with h' | h'
                · exact HJL.out i h h'
                · obtain rfl : i = j := by omega
                  rw [HYE.out]
                  exact hless
              · have hless' : Op.bytesLess lj' lk' = false := by simpa using hless
                clear hless
                go_wp2_with fail
                go_quiet (fail)
                have hbd := below_drewN (Below.refl wr.heap.size wr) nq
                go_wp2_with fail
                go_meet
                case rel => exact ⟨j, hj, rfl, HJL.out, fun _ => by rw [HYE.out]; exact hless', own_drewN HOL.out nq, HKL.out.below hbd HKL.out.lt, HBL.out.trans (hbd.mono HBL.out.size), Nat.lt_of_lt_of_le hzl hbd.size⟩
            · have dj : decide ((j : Int) < (out.length : Int)) = false := by simp; omega
              have dj2 : decide (j < out.length) = false := decide_eq_false hjn
              clear hjl hol hkl hbl
              go_wp2_with fail
              go_quiet (fail)
              have hbd := below_drewN (Below.refl wr.heap.size wr) nq
              go_wp2_with fail
              go_meet
              case rel => exact ⟨j, hj, rfl, HJL.out, fun h => absurd h hjn, own_drewN HOL.out nq, HKL.out.below hbd HKL.out.lt, HBL.out.trans (hbd.mono HBL.out.size), Nat.lt_of_lt_of_le hzl hbd.size⟩
        case rest =>
          obtain ⟨j, hj, rfl, hjl, hjn, hol, hkl, hbl, hzl⟩ := hcut
          rename World => w6
          have hins := ins_at (lk', lv) (out.map saidP) j (by rw [List.length_map]; exact hj) (fun i h hi => by rw [List.getElem_map]; exact hjl i (by simpa using h) hi) (fun h => by rw [List.getElem_map]; exact hjn (by simpa using h))
          rw [hins] at HTk
          have HOL := Lib.hid hol
          have HKL := Lib.hid hkl
          have HBL := Lib.hid hbl
          have hz6 := hbl.size
          have p0 : w6.cell? ⟨w1.heap.size, 0, none⟩ = some (.slice Ak lk'.length ck) := hkl.cell 0
          have p1 : w6.cell? ⟨w1.heap.size, 1, none⟩ = some (.slice Av lv.length cv) := hkl.cell 1
          have HBd := Lib.hid (below_drewN (Below.refl w6.heap.size w6) 1)
          clear hins hjl hjn hol hkl hbl HK5 HO5 HB5 HO
          obtain ⟨eqb, heqb⟩ : ∃ eqb : Bool, (eqb = true ↔ ∃ h : j < out.length, out[j].1.2.2 = lk') := ⟨decide (∃ h : j < out.length, out[j].1.2.2 = lk'), by simp⟩
          have HEq := Lib.hid heqb
          have HSk := Lib.hid (HK0.out w6 HBL.out |>.2 _ HXm.out).1
          clear heqb
          go_upto_region 10 with fail
          go_cut [63] from 50 to 62 (fun v wx => v = .bool eqb ∧ RowP wx w.heap.size A2 c2 out ∧ Blk wx w1.heap.size 40 #[.slice Ak lk'.length ck, .slice Av lv.length cv] ∧ Below w.heap.size w wx ∧ w1.heap.size < wx.heap.size)
          case first =>
            by_cases hjo : j < out.length
            · have dj : decide ((j : Int) < (out.length : Int)) = true := by simp; omega
              have dj2 : decide (j < out.length) = true := decide_eq_true hjo
              have lj : (j : Int) < (out.length : Int) := by omega
              obtain ⟨g, rfl, hg1, hg2, _, _⟩ := own_form HOL.out (by omega)
              obtain ⟨r0, r1⟩ := RowP.cells HOL.out j hjo
              have hys := (HK0.out w6 HBL.out).2 _ (HX.out _ (List.getElem_mem hjo))
              have hsb : (out[j].1.2.2 == lk') = eqb := by
                rw [Bool.eq_iff_iff, beq_iff_eq, HEq.out]
                exact ⟨fun h => ⟨hjo, h⟩, fun ⟨_, h⟩ => h⟩
              obtain ⟨y, hye⟩ : ∃ y, out[j] = y := ⟨_, rfl⟩
              rw [hye] at r0 r1 hys hsb
              clear hye
              obtain ⟨⟨Aj, cj, lj'⟩, ⟨Avj, cvj, lvj⟩⟩ := y
              simp only [pcV] at r0 r1
              simp only at hsb hys
              have HYs := Lib.hid hys.1
              have HSmU := Lib.hid (show ∀ W : World, Below w6.heap.size w6 W → Calls Tryd.prog 27 #[.slice Aj lj'.length cj, .slice Ak lk'.length ck] W (fun e w' => e = .returned (.bool eqb) ∧ w' = W) from fun W hb => by
                refine (sameLE_calls Aj cj w.heap.size lj' Ak ck lk' W (HYs.out.below hb hz6) (HSk.out.below hb hz6)).mono ?_
                rintro e w' ⟨rfl, rfl⟩
                exact ⟨by rw [hsb], rfl⟩)
              clear hsb hys
              go_region_held3 (fun w' => w'.cell? ⟨g, j * 2, none⟩ = some (.slice Aj lj'.length cj) ∧ w'.cell? ⟨w1.heap.size, 0, none⟩ = some (.slice Ak lk'.length ck)) (first | exact ⟨r0, p0⟩ | go_keep)
                (first
                  | (go_at_call 27; (refine (HSmU.out w6.drew HBd.out).mono ?_; rintro e7 w7 ⟨rfl, rfl⟩)))
              go_wp2_with fail
              go_meet
              case rel => exact ⟨rfl, HOL.out, HKL.out, HBL.out.trans (HBd.out.mono hz6), hzl⟩
            · have dj : decide ((j : Int) < (out.length : Int)) = false := by simp; omega
              have dj2 : decide (j < out.length) = false := decide_eq_false hjo
              have hef : eqb = false := by
                cases h : eqb with
                | false => rfl
                | true => exact absurd (HEq.out.1 h).1 hjo
              subst hef
              go_quiet (fail)
              have hbd := below_drewN (Below.refl w6.heap.size w6) nq
              go_wp2_with fail
              go_meet
              case rel => exact ⟨rfl, own_drewN HOL.out nq, HKL.out.below hbd HKL.out.lt, HBL.out.trans (hbd.mono HBL.out.size), Nat.lt_of_lt_of_le hzl hbd.size⟩
          case rest =>
            obtain ⟨rfl, hol, hkl, hbl, hzl⟩ := hcut
            rename World => w7
            have p0 : w7.cell? ⟨w1.heap.size, 0, none⟩ = some (.slice Ak lk'.length ck) := hkl.cell 0
            have p1 : w7.cell? ⟨w1.heap.size, 1, none⟩ = some (.slice Av lv.length cv) := hkl.cell 1
            have HO7 := Lib.hid hol
            have HK7 := Lib.hid hkl
            have HB7 := Lib.hid hbl
            have hz7 := hbl.size
            clear hol hkl hbl HOL HKL HBL HSk HBd
            cases eqb with
            | true =>
              obtain ⟨hjo, hje⟩ := HEq.out.1 rfl
              have hif : (if ∃ h : j < (out.map saidP).length, (out.map saidP)[j].1 = (lk', lv).1 then (out.map saidP).set j (lk', lv) else (out.map saidP).take j ++ (lk', lv) :: (out.map saidP).drop j) = (out.set j ((Ak, ck, lk'), (Av, cv, lv))).map saidP := by
                rw [if_pos ⟨by simpa using hjo, by rw [List.getElem_map]; exact hje⟩, List.map_set]
                rfl
              rw [hif] at HTk
              have dj : decide ((j : Int) < (out.length : Int)) = true := by simp; omega
              have lj : (j : Int) < (out.length : Int) := by omega
              obtain ⟨g, rfl, hg1, hg2, _, _⟩ := own_form HO7.out (by omega)
              obtain ⟨r0, r1⟩ := RowP.cells HO7.out j hjo
              obtain ⟨cur, hcur⟩ := own_blk HO7.out g rfl
              have f0 : w7.frozen? ⟨g, j * 2, none⟩ = false := hcur.frozen _
              have f1 : ∀ v, (w7.setCell ⟨g, j * 2, none⟩ v).frozen? ⟨g, j * 2 + 1, none⟩ = false := fun v => (hcur.set_ (j * 2) v).frozen _
              have hput := RowP.put HO7.out j hjo ((Ak, ck, lk'), (Av, cv, lv))
              have HPut := Lib.hid hput
              clear hif hje hcur hput
              go_wp2_with fail
              refine ⟨⟨k + 1, out.set j ((Ak, ck, lk'), (Av, cv, lv)), some ⟨g, 0, none⟩, c2, by omega, by omega, by rw [List.length_set]; omega, by go_num, by rw [List.length_set], HPut.out, HTk.out.symm, fun x hx => ?_, (Only.setCell _ _ _).below ((Only.setCell _ _ _).below HB7.out hg1) hg1⟩, by simp [intOf]; omega⟩
              rcases List.mem_or_eq_of_mem_set hx with h | h
              · exact HX.out x h
              · rw [h]; exact HXm.out
            | false =>
              have hif : (if ∃ h : j < (out.map saidP).length, (out.map saidP)[j].1 = (lk', lv).1 then (out.map saidP).set j (lk', lv) else (out.map saidP).take j ++ (lk', lv) :: (out.map saidP).drop j) = (out.take j ++ ((Ak, ck, lk'), (Av, cv, lv)) :: out.drop j).map saidP := by
                rw [if_neg, List.map_append, List.map_take, List.map_cons, List.map_drop]
                · rfl
                · rintro ⟨h1, h2⟩
                  rw [List.getElem_map] at h2
                  have := HEq.out.2 ⟨by simpa using h1, h2⟩
                  cases this
              rw [hif] at HTk
              have hol9 : out.length ≤ 300 := by omega
              have e9 : IntKind.i64.wrap ((out.length : Int) + 1 - 1) = (out.length : Int) := by rw [IntWalk.i64_in _ (by omega)]; omega
              clear hif
              go_upto_region 13 with (at_builtin; go_loud (refine wpL_append rfl (.tmp 68) (.tmp 70) 34 rfl elPair rfl (own_alloc HO7.out _) rfl rfl (Seq.of_blk (xs := [.slice Ak lk'.length ck, .slice Av lv.length cv]) (Blk.new' _ _ _ rfl) (Nat.lt_succ_self _)) (by simp [Value.oneCell']) (by unfold maxLen; omega) (by omega) (by rw [size_alloc]; omega) ?_; intro A9 c9 w9 ho9 hg9 _; have HO9 := Lib.hid ho9; have HG9 := Lib.hid hg9; clear ho9 hg9))
              obtain ⟨g9, rfl, hg9, _, _, _⟩ := own_form HO9.out (by omega)
              have hb9 : Below w.heap.size w w9 := (HB7.out.alloc hz7 (.cells #[.slice Ak lk'.length ck, .slice Av lv.length cv] 40)).grown HG9.out (by rw [size_alloc]; omega) (fun g hg => (HO7.out.lt g hg).1)
              have hr9 : RowP w9 w.heap.size (some ⟨g9, 0, none⟩) c9 (out.take out.length ++ ((Ak, ck, lk'), (Av, cv, lv)) :: out.drop out.length) := by
                unfold RowP
                rw [ins_len _ _ _ (Nat.le_refl _), List.take_length, List.drop_length, flatP_append]
                exact HO9.out
              have HB9 := Lib.hid hb9
              have HR9 := Lib.hid hr9
              clear hb9 hr9
              go_wp2_with fail
              go_loopw [7] (fun v wr => ∃ q : Nat, j ≤ q ∧ q ≤ out.length ∧ v = .int .i64 q ∧ RowP wr w.heap.size (some ⟨g9, 0, none⟩) c9 (out.take q ++ ((Ak, ck, lk'), (Av, cv, lv)) :: out.drop q) ∧ Below w.heap.size w wr) (fun v _ => (intOf v).toNat)
              case atStart => exact ⟨out.length, hj, by omega, rfl, HR9.out, HB9.out⟩
              case round =>
                obtain ⟨q, hjq, hqo, rfl, hrow, hbl⟩ := hrel
                rename World => w10
                have HRow := Lib.hid hrow
                have HB10 := Lib.hid hbl
                clear hrow hbl HR9 HB9
                by_cases hlt2 : j < q
                · have dq : decide ((q : Int) > (j : Int)) = true := decide_eq_true (by omega)
                  have dq2 : decide (j < q) = true := decide_eq_true hlt2
                  obtain ⟨r, hr⟩ : ∃ r, q = r + 1 := ⟨q - 1, by omega⟩
                  have hro : r < out.length := by omega
                  have hL := HRow.out
                  rw [hr] at hL
                  have hln := ins_len out ((Ak, ck, lk'), (Av, cv, lv)) (r + 1) (by omega)
                  have hgt := ins_get out ((Ak, ck, lk'), (Av, cv, lv)) r hro (by omega) (by omega)
                  have hc1 := RowP.cells hL (r + 1) (by omega)
                  have hc0 := RowP.cells hL r (by omega)
                  rw [hgt.1] at hc1
                  rw [hgt.2] at hc0
                  have hput := RowP.put (RowP.put hL (r + 1) (by omega) out[r]) r (by rw [List.length_set]; omega) ((Ak, ck, lk'), (Av, cv, lv))
                  rw [ins_swap out _ r hro] at hput
                  have hlen1 := hln
                  obtain ⟨y, hy⟩ : ∃ y, out[r] = y := ⟨_, rfl⟩
                  rw [hy] at hc0 hput
                  rw [← hr] at hc1 hput
                  obtain ⟨⟨Ay, cy, ly⟩, ⟨Az, cz, lz⟩⟩ := y
                  obtain ⟨c10, c11⟩ := hc1
                  obtain ⟨c00, c01⟩ := hc0
                  simp only [pcV] at c10 c11 c00 c01 hput
                  obtain ⟨cur, hcur⟩ := own_blk hL g9 rfl
                  have f0 : w10.frozen? ⟨g9, q * 2, none⟩ = false := hcur.frozen _
                  have f1 : w10.frozen? ⟨g9, q * 2 + 1, none⟩ = false := hcur.frozen _
                  have f2 : w10.frozen? ⟨g9, r * 2, none⟩ = false := hcur.frozen _
                  have f3 : w10.frozen? ⟨g9, r * 2 + 1, none⟩ = false := hcur.frozen _
                  have lq : (q : Int) < (out.length : Int) + 1 := by omega
                  have lr : (r : Int) < (out.length : Int) + 1 := by omega
                  have lr0 : (0 : Int) ≤ (r : Int) := by omega
                  have eq1 : IntKind.i64.wrap ((q : Int) - 1) = (r : Int) := by rw [IntWalk.i64_in _ (by omega)]; omega
                  have HPut := Lib.hid hput
                  have HR := Lib.hid hr
                  have hqr := Nat.le_of_eq hr
                  have hqr2 := Nat.le_of_eq hr.symm
                  clear hr hL hln hgt hput hlen1 hy hcur
                  go_upto_region 16 with fail
                  go_region
                  all_goals
                    go_wp2_with fail
                    refine ⟨⟨r, by omega, by omega, by go_num, HPut.out, ?_⟩, by simp [intOf]; omega⟩
                    exact below_drewN ((Only.setCell _ _ _).below ((Only.setCell _ _ _).below ((Only.setCell _ _ _).below ((Only.setCell _ _ _).below HB10.out hg9) hg9) hg9) hg9) 1
                · have dq2 : decide (j < q) = false := decide_eq_false hlt2
                  obtain rfl : q = j := by omega
                  go_wp2_with fail
                  refine ⟨⟨k + 1, out.take q ++ ((Ak, ck, lk'), (Av, cv, lv)) :: out.drop q, some ⟨g9, 0, none⟩, c9, by omega, by omega, by rw [ins_len _ _ _ hqo]; omega, by go_num, by rw [ins_len _ _ _ hqo], HRow.out, HTk.out.symm, fun x hx => ?_, HB10.out⟩, by simp [intOf]; omega⟩
                  rcases List.mem_append.1 hx with h | h
                  · exact HX.out x (List.mem_of_mem_take h)
                  · rcases List.mem_cons.1 h with h | h
                    · rw [h]; exact HXm.out
                    · exact HX.out x (List.mem_of_mem_drop h)
    · have dd : (decide ((k : Int) < (l.length : Int)) && decide ((k : Int) < 300)) = false := by
        rw [Bool.and_eq_false_iff, decide_eq_false_iff_not, decide_eq_false_iff_not]
        omega
      have he : firsts l = (l.take k).map saidP := by
        unfold firsts
        congr 1
        rcases Nat.lt_or_ge k l.length with h | h
        · rw [show k = 300 by omega]
        · rw [List.take_of_length_le (by omega), List.take_of_length_le (by omega)]
      have HE := Lib.hid he
      clear he hbl
      by_cases h1 : k < l.length
      · have d1 : decide (k < l.length) = true := decide_eq_true h1
        have d2 : decide ((k : Int) < 300) = false := decide_eq_false (by omega)
        clear dd hlt
        go_wp2_with fail
        go_ret
        exact ⟨A2, c2, out, rfl, HO.out, by rw [HE.out]; exact HM.out, HX.out, HBl.out⟩
      · have d1 : decide (k < l.length) = false := decide_eq_false h1
        clear dd hlt
        go_wp2_with fail
        go_ret
        exact ⟨A2, c2, out, rfl, HO.out, by rw [HE.out]; exact HM.out, HX.out, HBl.out⟩
end Go.Proofs.YtfhindffmghlaaaDoor
