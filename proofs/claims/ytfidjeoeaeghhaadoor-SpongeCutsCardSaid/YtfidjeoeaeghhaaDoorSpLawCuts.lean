/- SpongeCuts: in whatever pieces bytes are handed in, whatever is asked between: the hash is that of the whole. Conditions: none beyond the row's own (the two tables of package sponge read as the program's text lays them; the card ties them to it). -/
import Derived.Test.YtfidjeoeaeghhaaDoorSpCut
import Derived.Test.YtfidjeoeaeghhaaDoorSpMany
import Derived.Test.YtfidjeoeaeghhaaDoorSpTables
import Derived.Test.YtfidjeoeaeghhaaDoorCards
import Derived.SevenTiedAt
namespace Go.Proofs.YtfidjeoeaeghhaaDoor
open Go.RowKit Go.ChangeShapes Go.WideShapes
theorem Blk.grownNe {w w' : World} {g r : Nat} {t : TypeId} {cs : Array Value} (h : Blk w g t cs) (hg : w.grownBy w' (some r)) (hne : g ≠ r) : Blk w' g t cs :=
  (hg.block g h.lt (fun e => hne (Option.some.inj e))).trans h
theorem Many.only {w0 w w' : World} {γ : Nat → Nat} {n g : Nat} {T : Nat → List UInt8} (h : Many w0 w γ n T) (ho : Only g w w') (hne : ∀ i, i < n → γ i ≠ g) (hg : w0.heap.size ≤ g) : Many w0 w' γ n T :=
  ⟨ho.below h.below hg, h.old, h.apart, fun j hj => ho.blk (h.at_ j hj) (hne j hj)⟩
theorem Many.reset {w0 w w' : World} {γ : Nat → Nat} {n i : Nat} {T : Nat → List UInt8} (h : Many w0 w γ n T) (hi : i < n) (ho : Only (γ i) w w') (hat : SpAt w' (γ i) zeroS 0) : Many w0 w' γ n (fun j => if j = i then [] else T j) :=
  ⟨ho.below h.below (h.old i hi), h.old, h.apart, fun j hj => by
    by_cases e : j = i
    · subst e
      rw [if_pos rfl]
      exact hat
    · simp only [if_neg e]
      exact ho.blk (h.at_ j hj) (fun e2 => e (h.apart _ _ hj hi e2))⟩
def rep (t : List UInt8) (k : Nat) : List UInt8 := (List.replicate k t).flatten
theorem rep_succ (t : List UInt8) (k : Nat) : rep t (k + 1) = rep t k ++ t := by
  unfold rep
  rw [List.replicate_succ', List.flatten_append]
  simp
theorem joinP_take' (ps : List Piece) (k : Nat) (h : k < ps.length) : joinP (ps.take (k + 1)) = joinP (ps.take k) ++ ps[k].2.2 := by
  rw [List.take_succ_eq_append_getElem h, joinP_snoc]
set_option maxHeartbeats 2000000 in
set_option maxRecDepth 10000 in
theorem cuts_walk (A : Option Addr) (c : Nat) (l : List UInt8) (An : Option Addr) (cn : Nat) (zs : List Int) (Ao : Option Addr) (co : Nat) (t : List UInt8) (w : World) (hc : l.length ≤ c) (hm : c ≤ maxLen) (hl : l.length ≤ 140737488351232) (hzl : zs.length ≤ 140737488351232) (htl : t.length ≤ 140737488351232)
    (hs : Seq w w.heap.size A (bytes l)) (hn : Seq w w.heap.size An (zs.map fun n => .int .i64 n)) (hr : ∀ n ∈ zs, -9223372036854775808 ≤ n ∧ n ≤ 9223372036854775807) (ho : Seq w w.heap.size Ao (bytes t)) (hT : Tables w) :
    Calls Tryd.prog 10 #[.slice A l.length c, .slice An zs.length cn, .slice Ao t.length co] w fun e w' => e = .returned (.bool true) ∧ Below w.heap.size w w' := by
  have HS := Lib.hid hs
  have HN := Lib.hid hn
  have HR := Lib.hid hr
  have HOt := Lib.hid ho
  have HT := Lib.hid hT
  have h2 := hT.size
  clear hT hs hn hr ho
  go_enter Tryd.func10, Tryd.ntmps10
  go_wp2_with fail
  refine (known_calls _ HT.out).mono ?_
  rintro e w1 ⟨rfl, hb1⟩
  have hs1 := hb1.size
  have HB1 := Lib.hid hb1
  clear hb1
  by_cases g1 : l.length > 16777216
  · have d1 : decide ((l.length : Int) > 16777216) = true := by simp; omega
    go_wp2_with fail
    go_ret
    exact ⟨rfl, HB1.out⟩
  have d1 : decide ((l.length : Int) > 16777216) = false := by simp; omega
  by_cases g2 : zs.length > 4096
  · have d2 : decide ((zs.length : Int) > 4096) = true := by simp; omega
    go_wp2_with fail
    go_ret
    exact ⟨rfl, HB1.out⟩
  have d2 : decide ((zs.length : Int) > 4096) = false := by simp; omega
  by_cases g3 : t.length > 4096
  · have d3 : decide ((t.length : Int) > 4096) = true := by simp; omega
    go_wp2_with fail
    go_ret
    exact ⟨rfl, HB1.out⟩
  have d3 : decide ((t.length : Int) > 4096) = false := by simp; omega
  go_wp2_with fail
  refine (new_calls w1).mono ?_
  rintro e w2 ⟨rfl, hw2⟩
  have hb2 : Below w1.heap.size w1 w2 := by rw [hw2]; exact (Below.refl _ _).alloc (Nat.le_refl _) _
  have hsp : SpAt w2 w1.heap.size zeroS 0 := by rw [hw2]; exact Blk.new _ _ _
  have hz2 : w1.heap.size + 1 ≤ w2.heap.size := by rw [hw2]; simp
  have HB2 := Lib.hid (HB1.out.trans (hb2.mono hs1))
  have HP2 := Lib.hid hsp
  clear hb2 hsp hw2 HB1
  go_wp2_with fail
  refine (new_calls w2).mono ?_
  rintro e w3 ⟨rfl, hw3⟩
  have hb3 : Below w2.heap.size w2 w3 := by rw [hw3]; exact (Below.refl _ _).alloc (Nat.le_refl _) _
  have hsp : SpAt w3 w2.heap.size zeroS 0 := by rw [hw3]; exact Blk.new _ _ _
  have hz3 : w2.heap.size + 1 ≤ w3.heap.size := by rw [hw3]; simp
  have HB3 := Lib.hid (HB2.out.trans (hb3.mono (by omega)))
  have HP3 := Lib.hid (Blk.below HP2.out hb3 (by omega))
  have HQ3 := Lib.hid hsp
  clear hb3 hsp hw3 HB2 HP2
  obtain ⟨E, hE⟩ : ∃ E, hashS l = E := ⟨_, rfl⟩
  have HE := Lib.hid hE
  clear hE
  have hM3 : Many w w3 (fun i => if i = 0 then w1.heap.size else w2.heap.size) 2 (fun _ => []) := by
    refine ⟨HB3.out, fun i _ => ?_, fun i j hi hj e => ?_, fun i hi => ?_⟩
    · show w.heap.size ≤ if i = 0 then _ else _
      split <;> omega
    · have e : (if i = 0 then w1.heap.size else w2.heap.size) = if j = 0 then w1.heap.size else w2.heap.size := e
      split at e <;> split at e <;> omega
    · show SpAt w3 (if i = 0 then _ else _) _ _
      split
      · exact HP3.out
      · exact HQ3.out
  have hγ0 : (fun i => if i = 0 then w1.heap.size else w2.heap.size) 0 = w1.heap.size := rfl
  have hγ1 : (fun i => if i = 0 then w1.heap.size else w2.heap.size) 1 = w2.heap.size := rfl
  have hγl : ∀ i, i < 2 → (fun i => if i = 0 then w1.heap.size else w2.heap.size) i < w3.heap.size := fun i _ => by
    show (if i = 0 then _ else _) < _
    split <;> omega
  have HM3 := Lib.hid hM3
  have HGl := Lib.hid hγl
  have HG0 := Lib.hid hγ0
  have HG1 := Lib.hid hγ1
  clear hM3 hγl hγ0 hγ1 HB3 HP3 HQ3
  generalize (fun i => if i = 0 then w1.heap.size else w2.heap.size) = γ at *
  go_wp2_with fail
  have hb0 : Below w3.heap.size w3 (w3.alloc (.cells #[.slice A l.length c] 32)) := (Below.refl _ _).alloc (Nat.le_refl _) _
  have hsq := Seq.one_new w3 (.slice A l.length c) 32
  refine (sumF_calls (some ⟨w3.heap.size, 0, none⟩) 1 (w3.heap.size + 1) [(A, c, l)] _ ((HT.out.below HM3.out.below h2).below hb0 (by omega)) (by simp) hsq (by simp) (by intro p hp; simp at hp; subst hp; exact ⟨((HS.out.below HM3.out.below (Nat.le_refl _)).below hb0 (by omega)).more (by omega), by simp; omega⟩)).mono ?_
  rintro e w4 ⟨he, hb4⟩
  rw [show joinP [(A, c, l)] = l from by simp [joinP], HE.out] at he
  subst he
  have hb5 := hb0.trans (hb4.mono (by simp))
  have HM4 := Lib.hid (HM3.out.belowAll hb5)
  have hs4 := hb5.size
  clear hb0 hsq hb4 hb5 HM3
  go_wp2_with (first
    | (refine wpL_alloc rfl 42 rfl (tab 32 fun _ => .int .u8 0) (by kernel_rfl) ?_)
    | (refine wpL_storeA rfl 42 (.tmp 10) (.tmp 47) rfl 0 rfl rfl (Blk.new w4 _ _) (by omega) (by kernel_rfl) (fun _ => rfl) ?_; intro w5 ho hk; have hb := ho.below ((Below.refl w4.heap.size w4).alloc (Nat.le_refl _) _) (Nat.le_refl _); have hz5 := Nat.le_of_eq ho.size.symm; rw [size_alloc] at hz5; have HM5 := Lib.hid (HM4.out.belowAll hb); have HX5 := Lib.hid (hk.same (over_whole _ _ _)); clear ho hk hb HM4))
  have hbw5 := HM5.out.below
  refine (cut_calls w.heap.size A c l An cn zs w5 (by omega) hc hm (by omega) hbw5.size (HS.out.below hbw5 (Nat.le_refl _)) (HN.out.below hbw5 (Nat.le_refl _)) HR.out).mono ?_
  rintro e w6 ⟨ps, Ap, cp, rfl, hpn, hrow, hall, hparts, hb6⟩
  have HM6 := Lib.hid (HM5.out.belowAll hb6)
  have HX6 := Lib.hid (HX5.out.below hb6 (by omega))
  have hs6 := hb6.size
  have HPS := Lib.hid (Seq.of_own hrow)
  have hpne : ∀ ad : Addr, Ap = some ad → ∀ i, i < 2 → ad.block ≠ γ i := by
    intro ad e i hi e2
    obtain ⟨g, hg, hg2, _⟩ := own_form hrow (by omega)
    rw [hg] at e
    obtain rfl := Option.some.inj e
    have := HGl.out i hi
    have e3 : g = γ i := e2
    omega
  have HPne := Lib.hid hpne
  have HParts := Lib.hid hparts
  have HAll := Lib.hid hall
  have hp1 := Nat.le_of_eq hpn
  have hp2 := Nat.le_of_eq hpn.symm
  clear hbw5 hrow hall hparts hb6 hpne HM5 HX5 hpn
  have hbound : ∀ p ∈ ps, p.2.2.length ≤ l.length := by
    intro p hp
    rw [← HAll.out]
    obtain ⟨i, hi, rfl⟩ := List.getElem_of_mem hp
    unfold joinP
    have := List.sublist_flatten_of_mem (l := ps[i].2.2) (L := ps.map fun p => p.2.2) (List.mem_map_of_mem (List.getElem_mem hi))
    exact this.length_le
  have HBound := Lib.hid hbound
  clear hbound
  go_wp2_with fail
  refine (sumF_calls Ap cp w6.heap.size ps w6 (HT.out.below HM6.out.below h2) (by omega) HPS.out (Nat.le_refl _) (fun p hp => ⟨(HParts.out p hp).more HM6.out.below.size, by have := HBound.out p hp; omega⟩)).mono ?_
  rintro e w7 ⟨he, hb⟩
  rw [HAll.out, HE.out] at he
  subst he
  have HM7 := Lib.hid (HM6.out.belowAll hb)
  have HX7 := Lib.hid (HX6.out.below hb (by omega))
  have HPS7 := Lib.hid (HPS.out.below hb (Nat.le_refl _))
  have HPartsW := Lib.hid (show ∀ p ∈ ps, Seq w w.heap.size p.1 (bytes p.2.2) from fun p hp => (HParts.out p hp).keep fun q hq => (HM6.out.below.cell hq).symm)
  have hs7 := hb.size
  clear hb HM6 HX6 HPS HParts
  go_wp2_with (first
    | (refine wpL_alloc rfl 42 rfl (tab 32 fun _ => .int .u8 0) (by kernel_rfl) ?_)
    | (refine wpL_storeA rfl 42 (.tmp 12) (.tmp 52) rfl 0 rfl rfl (Blk.new w7 _ _) (by omega) (by kernel_rfl) (fun _ => rfl) ?_; intro w8 ho hk; have hb := ho.below ((Below.refl w7.heap.size w7).alloc (Nat.le_refl _) _) (Nat.le_refl _); have hz8 := Nat.le_of_eq ho.size.symm; rw [size_alloc] at hz8; have HM8 := Lib.hid (HM7.out.belowAll hb); have HX8 := Lib.hid (HX7.out.below hb (by omega)); have HPS8 := Lib.hid (HPS7.out.below hb (by omega)); have HY8 := Lib.hid (hk.same (over_whole _ _ _)); clear ho hk hb HM7 HX7 HPS7))
  go_loopw [13] (fun i wr => ∃ k : Nat, k ≤ ps.length ∧ i = .int .i64 k ∧ Many w wr γ 2 (fun j => if j = 0 then joinP (ps.take k) else rep t k) ∧ Blk wr w4.heap.size 42 (tab 32 (hashV E)) ∧ Blk wr w7.heap.size 42 (tab 32 (hashV E)) ∧ Seq wr w6.heap.size Ap (pcs ps) ∧ w8.heap.size ≤ wr.heap.size) (fun i _ => ps.length - (intOf i).toNat)
  case atStart => exact ⟨0, by omega, rfl, HM8.out.congr (fun i _ => by simp [joinP, rep]), HX8.out, HY8.out, HPS8.out, Nat.le_refl _⟩
  case round =>
    clear HM8 HX8 HY8 HPS8
    obtain ⟨k, hk, rfl, hM, hX, hY, hP, hsz⟩ := hrel
    by_cases hlt : k < ps.length
    · have dk : decide ((k : Int) < (ps.length : Int)) = true := by simp; omega
      have lk : (k : Int) < (ps.length : Int) := by omega
      obtain ⟨ap, hap, hapb, hcell⟩ := hP.at_ (k := k) (by simpa [pcs] using hlt)
      have hpb := HPartsW.out _ (List.getElem_mem hlt)
      have hpl := HBound.out _ (List.getElem_mem hlt)
      have hstep := joinP_take' ps k hlt
      have hev : (pcs ps)[k]'(by simpa [pcs] using hlt) = .slice ps[k].1 ps[k].2.2.length ps[k].2.1 := by simp [pcs, pcV]
      rw [hev] at hcell
      generalize ps[k] = pk at *
      obtain ⟨Ak, ck, xk⟩ := pk
      simp only at hpb hpl hstep hcell
      subst hap
      have hold0 := hM.old 0 (by omega)
      have hold1 := hM.old 1 (by omega)
      have hat := hM.at_ 0 (by omega)
      simp only [if_pos trivial] at hat
      have hn0 := writeS_lt (s := (zeroS, 0)) (by simp) (joinP (ps.take k))
      have hTr := HT.out.below hM.below h2
      rw [HG0.out] at hat hold0
      have hpr := hpb.below hM.below (Nat.le_refl _)
      have hbs := hM.below.size
      have HM := Lib.hid hM
      have HX := Lib.hid hX
      have HY := Lib.hid hY
      have HP := Lib.hid hP
      have HAT := Lib.hid hat
      have HTr := Lib.hid hTr
      have HPr := Lib.hid hpr
      have HStep := Lib.hid hstep
      clear hM hX hY hP hat hTr hpr hstep hpb hev
      go_wp2_with fail
      refine (write_calls w1.heap.size _ _ Ak ck w.heap.size xk hn0 (by omega) (by omega) wr HAT.out HTr.out HPr.out hbs (fun hn ad e => by have := HPr.out (by rw [bytes_length]; exact hn); obtain ⟨ad', e', hlt', _⟩ := this; rw [e] at e'; obtain rfl := Option.some.inj e'; omega)).mono ?_
      rintro e w9 ⟨rfl, hg, hat9⟩
      rw [← HG0.out] at hg hat9
      have hl0 := HGl.out 0 (by omega)
      have hl1 := HGl.out 1 (by omega)
      have HM9 := Lib.hid (HM.out.wrote (i := 0) (by omega) xk hg (by simp only [if_pos trivial]; exact hat9))
      have HX9 := Lib.hid (HX.out.grownNe hg (by omega))
      have HY9 := Lib.hid (HY.out.grownNe hg (by omega))
      have HP9 := Lib.hid (HP.out.grownNe (by omega) hg (fun _ ad e => fun e2 => HPne.out ad e 0 (by omega) (Option.some.inj e2)))
      have hs9 := hg.size
      clear hg hat9 HM HX HY HP HAT HTr HPr
      have hat := HM9.out.at_ 1 (by omega)
      simp only [if_neg (show ¬ 1 = 0 by omega)] at hat
      have hn1 := writeS_lt (s := (zeroS, 0)) (by simp) (rep t k)
      have hTr := HT.out.below HM9.out.below h2
      rw [HG1.out] at hat hold1
      have hpr := HOt.out.below HM9.out.below (Nat.le_refl _)
      have hbs9 := HM9.out.below.size
      have HAT := Lib.hid hat
      have HTr := Lib.hid hTr
      have HPr := Lib.hid hpr
      clear hat hTr hpr
      go_wp2_with fail
      refine (write_calls w2.heap.size _ _ Ao co w.heap.size t hn1 (by omega) (by omega) w9 HAT.out HTr.out HPr.out hbs9 (fun hn ad e => by have := HPr.out (by rw [bytes_length]; exact hn); obtain ⟨ad', e', hlt', _⟩ := this; rw [e] at e'; obtain rfl := Option.some.inj e'; omega)).mono ?_
      rintro e w10 ⟨rfl, hg, hat10⟩
      rw [← HG1.out] at hg hat10
      have hm10 := (HM9.out.wrote (i := 1) (by omega) t hg (by simp only [if_neg (show ¬ 1 = 0 by omega)]; exact hat10)).congr (T' := fun j => if j = 0 then joinP (ps.take (k + 1)) else rep t (k + 1)) (fun j hj => by
        by_cases e : j = 0
        · subst e; simp [HStep.out]
        · obtain rfl : j = 1 := by omega
          simp [rep_succ])
      have HM10 := Lib.hid hm10
      have HX10 := Lib.hid (HX9.out.grownNe hg (by omega))
      have HY10 := Lib.hid (HY9.out.grownNe hg (by omega))
      have HP10 := Lib.hid (HP9.out.grownNe (by omega) hg (fun _ ad e => fun e2 => HPne.out ad e 1 (by omega) (Option.some.inj e2)))
      have hs10 := hg.size
      clear hg hat10 hm10 HM9 HX9 HY9 HP9 HAT HTr HPr
      by_cases hodd : k % 2 = 1
      · have d : (((k : Int) % 2 : Int) == 1) = true := by simp; omega
        have hat := HM10.out.at_ 0 (by omega)
        simp only [if_pos trivial] at hat
        have hn0 := writeS_lt (s := (zeroS, 0)) (by simp) (joinP (ps.take (k + 1)))
        rw [HG0.out] at hat
        have HAT := Lib.hid hat
        clear hat
        go_wp2_with fail
        refine (sumM_calls w1.heap.size _ _ hn0 w10 HAT.out (HT.out.below HM10.out.below h2)).mono ?_
        rintro e w11 ⟨rfl, hb⟩
        have hs11 := hb.size
        have HM11 := Lib.hid (HM10.out.belowAll hb)
        have HX11 := Lib.hid (HX10.out.below hb HX10.out.lt)
        have HY11 := Lib.hid (HY10.out.below hb HY10.out.lt)
        have HP11 := Lib.hid (HP10.out.below hb (by omega))
        clear hb HAT
        go_wp2_with fail
        exact ⟨⟨k + 1, by omega, by go_num, HM11.out, HX11.out, HY11.out, HP11.out, by omega⟩, by simp [intOf]; omega⟩
      · have d : (((k : Int) % 2 : Int) == 1) = false := by simp; omega
        go_wp2_with fail
        exact ⟨⟨k + 1, by omega, by go_num, HM10.out, HX10.out, HY10.out, HP10.out, by omega⟩, by simp [intOf]; omega⟩
    · have dk : decide ((k : Int) < (ps.length : Int)) = false := by simp; omega
      have hat := hM.at_ 0 (by omega)
      simp only [if_pos trivial] at hat
      rw [List.take_of_length_le (by omega), HAll.out, HG0.out] at hat
      have hn0 := writeS_lt (s := (zeroS, 0)) (by simp) l
      have hbs := hM.below.size
      have HTr := Lib.hid (HT.out.below hM.below h2)
      have HAT := Lib.hid hat
      have HM := Lib.hid hM
      have HX := Lib.hid hX
      have HY := Lib.hid hY
      clear hat hM hX hY hP
      go_wp2_with fail
      refine (sumM_calls w1.heap.size _ _ hn0 wr HAT.out HTr.out).mono ?_
      rintro e w9 ⟨he, hb⟩
      rw [show sumS ((writeS (zeroS, 0) l).1, (writeS (zeroS, 0) l).2) = E from HE.out] at he
      subst he
      have hs9 := hb.size
      have HM9 := Lib.hid (HM.out.belowAll hb)
      have HX9 := Lib.hid (HX.out.below hb HX.out.lt)
      have HY9 := Lib.hid (HY.out.below hb HY.out.lt)
      clear hb HM HX HY HAT HTr
      go_wp2_with (first
        | (refine wpL_alloc rfl 42 rfl (tab 32 fun _ => .int .u8 0) (by kernel_rfl) ?_)
        | (refine wpL_storeA rfl 42 (.tmp 14) (.tmp 74) rfl 0 rfl rfl (Blk.new w9 _ _) (by omega) (by kernel_rfl) (fun _ => rfl) ?_; intro w10 ho hk; have hb := ho.below ((Below.refl w9.heap.size w9).alloc (Nat.le_refl _) _) (Nat.le_refl _); have hz10 := Nat.le_of_eq ho.size.symm; rw [size_alloc] at hz10; have HM10 := Lib.hid (HM9.out.belowAll hb); have HX10 := Lib.hid (HX9.out.below hb HX9.out.lt); have HY10 := Lib.hid (HY9.out.below hb HY9.out.lt); have HC10 := Lib.hid (hk.same (over_whole _ _ _)); clear ho hk hb HM9 HX9 HY9))
      have hat := HM10.out.at_ 1 (by omega)
      simp only [if_neg (show ¬ 1 = 0 by omega)] at hat
      rw [HG1.out] at hat
      have hn1 := writeS_lt (s := (zeroS, 0)) (by simp) (rep t k)
      have HAT := Lib.hid hat
      clear hat
      obtain ⟨D, hD⟩ : ∃ D, hashS (rep t k) = D := ⟨_, rfl⟩
      have HD := Lib.hid hD
      have HD' := Lib.hid hD
      clear hD
      refine (sumM_calls w2.heap.size _ _ hn1 w10 HAT.out (HT.out.below HM10.out.below h2)).mono ?_
      rintro e w11 ⟨he, hb⟩
      rw [show sumS ((writeS (zeroS, 0) (rep t k)).1, (writeS (zeroS, 0) (rep t k)).2) = D from HD.out] at he
      subst he
      have hs11 := hb.size
      have HM11 := Lib.hid (HM10.out.belowAll hb)
      have HX11 := Lib.hid (HX10.out.below hb HX10.out.lt)
      have HY11 := Lib.hid (HY10.out.below hb HY10.out.lt)
      have HC11 := Lib.hid (HC10.out.below hb HC10.out.lt)
      clear hb HM10 HX10 HY10 HC10 HAT
      have heq := eql_hash E E
      rw [show sameH E E = true from sameH_refl E] at heq
      have hgd := guard_hash
      go_wp2_with (first
        | (refine wpL_alloc rfl 42 rfl (tab 32 fun _ => .int .u8 0) (by kernel_rfl) ?_)
        | (refine wpL_storeA rfl 42 (.tmp 15) (.tmp 76) rfl 0 rfl rfl (Blk.new w11 _ _) (by omega) (by kernel_rfl) (fun _ => rfl) ?_; intro w12 ho hk; have hb := ho.below ((Below.refl w11.heap.size w11).alloc (Nat.le_refl _) _) (Nat.le_refl _); have hz12 := Nat.le_of_eq ho.size.symm; rw [size_alloc] at hz12; have HM12 := Lib.hid (HM11.out.belowAll hb); have HX12 := Lib.hid (HX11.out.below hb HX11.out.lt); have HY12 := Lib.hid (HY11.out.below hb HY11.out.lt); have HC12 := Lib.hid (HC11.out.below hb HC11.out.lt); have HD12 := Lib.hid (hk.same (over_whole _ _ _)); clear ho hk hb HM11 HX11 HY11 HC11)
        | (refine wpL_load0 rfl 42 (.tmp 12) rfl rfl _ HY12.out Tryd.underlying42 rfl (by kernel_rfl) ?_)
        | (refine wpL_load0 rfl 42 (.tmp 10) rfl rfl _ HX12.out Tryd.underlying42 rfl (by kernel_rfl) ?_)
        | (refine wpL_load0 rfl 42 (.tmp 14) rfl rfl _ HC12.out Tryd.underlying42 rfl (by kernel_rfl) ?_))
      have hat := HM12.out.at_ 0 (by omega)
      rw [HG0.out] at hat
      have HAT := Lib.hid hat
      clear hat
      refine (reset_calls w1.heap.size _ _ w12 HAT.out).mono ?_
      rintro e w13 ⟨rfl, ho, hat13⟩
      have hz13 := Nat.le_of_eq ho.size.symm
      have hl0 := HGl.out 0 (by omega)
      have hl1 := HGl.out 1 (by omega)
      have hold0 := HM12.out.old 0 (by omega)
      have hold1 := HM12.out.old 1 (by omega)
      rw [← HG0.out] at ho hat13
      have HM13 := Lib.hid (HM12.out.reset (i := 0) (by omega) ho hat13)
      have HC13 := Lib.hid (ho.blk HC12.out (by omega))
      have HD13 := Lib.hid (ho.blk HD12.out (by omega))
      clear ho hat13 HM12 HX12 HY12 HC12 HD12 HAT heq hgd
      go_wp2_with fail
      have hkp1 : k ≤ ps.length := hk
      have hkp2 : ps.length ≤ k := by omega
      have HT0 := Lib.hid (HM13.out.congr (T' := fun j => if j = 0 then rep t 0 else rep t k) (fun i hi => by
        by_cases e : i = 0
        · subst e; simp [rep]
        · simp [e]))
      clear HM13
      go_loopw [16] (fun i wr => ∃ q : Nat, q ≤ ps.length ∧ i = .int .i64 q ∧ Many w wr γ 2 (fun j => if j = 0 then rep t q else rep t k) ∧ Blk wr w9.heap.size 42 (tab 32 (hashV E)) ∧ Blk wr w11.heap.size 42 (tab 32 (hashV D)) ∧ w13.heap.size ≤ wr.heap.size) (fun i _ => ps.length - (intOf i).toNat)
      case atStart => exact ⟨0, by omega, rfl, HT0.out, HC13.out, HD13.out, Nat.le_refl _⟩
      case round =>
        clear HT0 HC13 HD13
        obtain ⟨q, hq, rfl, hM, hC, hD, hsz⟩ := hrel
        have hat := hM.at_ 0 (by omega)
        simp only [if_pos trivial] at hat
        rw [HG0.out] at hat
        have hn0 := writeS_lt (s := (zeroS, 0)) (by simp) (rep t q)
        have HTr := Lib.hid (HT.out.below hM.below h2)
        have HPr := Lib.hid (HOt.out.below hM.below (Nat.le_refl _))
        have hbs := hM.below.size
        have HAT := Lib.hid hat
        have HM := Lib.hid hM
        have HC := Lib.hid hC
        have HD := Lib.hid hD
        clear hat hM hC hD
        rw [HG0.out] at hold0
        by_cases hlq : q < ps.length
        · have dq : decide ((q : Int) < (ps.length : Int)) = true := by simp; omega
          go_wp2_with fail
          refine (write_calls w1.heap.size _ _ Ao co w.heap.size t hn0 (by omega) (by omega) wr HAT.out HTr.out HPr.out hbs (fun hn ad e => by have := HPr.out (by rw [bytes_length]; exact hn); obtain ⟨ad', e', hlt', _⟩ := this; rw [e] at e'; obtain rfl := Option.some.inj e'; omega)).mono ?_
          rintro e w14 ⟨rfl, hg, hat14⟩
          rw [← HG0.out] at hg hat14
          have HM14 := Lib.hid ((HM.out.wrote (i := 0) (by omega) t hg (by simp only [if_pos trivial]; exact hat14)).congr (T' := fun j => if j = 0 then rep t (q + 1) else rep t k) (fun j hj => by
            by_cases e : j = 0
            · subst e; simp [rep_succ]
            · simp [e]))
          have HC14 := Lib.hid (HC.out.grownNe hg (by omega))
          have HD14 := Lib.hid (HD.out.grownNe hg (by omega))
          have hs14 := hg.size
          clear hg hat14
          go_wp2_with fail
          exact ⟨⟨q + 1, by omega, by go_num, HM14.out, HC14.out, HD14.out, by omega⟩, by simp [intOf]; omega⟩
        · have dq : decide ((q : Int) < (ps.length : Int)) = false := by simp; omega
          have hqk : q = k := by omega
          go_wp2_with fail
          refine (sumM_calls w1.heap.size _ _ hn0 wr HAT.out HTr.out).mono ?_
          rintro e w14 ⟨he, hb⟩
          rw [show sumS ((writeS (zeroS, 0) (rep t q)).1, (writeS (zeroS, 0) (rep t q)).2) = D by rw [hqk]; exact HD'.out] at he
          subst he
          have hs14 := hb.size
          have HM14 := Lib.hid (HM.out.belowAll hb)
          have HC14 := Lib.hid (HC.out.below hb HC.out.lt)
          have HD14 := Lib.hid (HD.out.below hb HD.out.lt)
          clear hb HM HC HD HAT HTr
          go_wp2_with (first
            | (refine wpL_storeA rfl 42 (.tmp 14) (.tmp 97) rfl 0 rfl rfl HC14.out (by omega) (by kernel_rfl) (fun _ => rfl) ?_; intro w15 ho hk; have HM15 := Lib.hid (HM14.out.only ho (fun i hi => by have := HGl.out i hi; omega) (by omega)); have hz15 := Nat.le_of_eq ho.size.symm; have HD15 := Lib.hid (ho.blk HD14.out (by omega)); have HC15 := Lib.hid (hk.same (over_whole _ _ _)); clear ho hk HM14 HC14 HD14))
          have hat := HM15.out.at_ 0 (by omega)
          rw [HG0.out] at hat
          have HAT := Lib.hid hat
          clear hat
          refine (reset_calls w1.heap.size _ _ w15 HAT.out).mono ?_
          rintro e w16 ⟨rfl, ho, hat16⟩
          have hz16 := Nat.le_of_eq ho.size.symm
          have HC16 := Lib.hid (ho.blk HC15.out (by omega))
          have HD16 := Lib.hid (ho.blk HD15.out (by omega))
          rw [← HG0.out] at ho hat16
          have HM16 := Lib.hid (HM15.out.reset (i := 0) (by omega) ho hat16)
          clear ho hat16 HM15 HC15 HD15 HAT
          go_wp2_with fail
          have hat := HM16.out.at_ 0 (by omega)
          simp only [if_pos trivial] at hat
          rw [HG0.out] at hat
          have HAT := Lib.hid hat
          clear hat
          obtain ⟨Z, hZ⟩ : ∃ Z, hashS [] = Z := ⟨_, rfl⟩
          have HZ := Lib.hid hZ
          clear hZ
          refine (sumM_calls w1.heap.size 0 zeroS (by omega) w16 HAT.out (HT.out.below HM16.out.below h2)).mono ?_
          rintro e w17 ⟨he, hb⟩
          rw [show sumS (zeroS, 0) = Z from HZ.out] at he
          subst he
          have hs17 := hb.size
          have HB17 := Lib.hid (HM16.out.below.trans (hb.mono HM16.out.below.size))
          have HC17 := Lib.hid (HC16.out.below hb HC16.out.lt)
          have HD17 := Lib.hid (HD16.out.below hb HD16.out.lt)
          clear hb HM16 HC16 HD16 HAT
          go_wp2_with (first
            | (refine wpL_alloc rfl 42 rfl (tab 32 fun _ => .int .u8 0) (by kernel_rfl) ?_)
            | (refine wpL_storeA rfl 42 (.tmp 17) (.tmp 101) rfl 0 rfl rfl (Blk.new w17 _ _) (by omega) (by kernel_rfl) (fun _ => rfl) ?_; intro w18 ho hk; have hb := ho.below ((Below.refl w17.heap.size w17).alloc (Nat.le_refl _) _) (Nat.le_refl _); have hz18 := Nat.le_of_eq ho.size.symm; rw [size_alloc] at hz18; have HC18 := Lib.hid (HC17.out.below hb HC17.out.lt); have HD18 := Lib.hid (HD17.out.below hb HD17.out.lt); have HB18 := Lib.hid (HB17.out.trans (hb.mono (by omega))); have HZ18 := Lib.hid (hk.same (over_whole _ _ _)); clear ho hk hb HC17 HD17 HB17))
          have HC := Lib.hid (show Blk w18 w9.heap.size 42 (tab 32 (hashV D)) from HC18.out)
          have HD := Lib.hid (show Blk w18 w11.heap.size 42 (tab 32 (hashV D)) from HD18.out)
          have HZb := Lib.hid (show Blk w18 w17.heap.size 42 (tab 32 (hashV Z)) from HZ18.out)
          clear HC18 HD18 HZ18
          have hu42 := Tryd.underlying42
          have hi42 : ∀ E, (Tryd.prog.info? 42).map (·.size) = some (tab 32 (hashV E)).toList.length := by
            intro E
            rw [show (tab 32 (hashV E)).toList.length = 32 by simp [tab]]
            kernel_rfl
          have heq1 := eql_hash D D
          have heq2 := eql_hash Z Z
          rw [sameH_refl] at heq1
          rw [sameH_refl] at heq2
          have hgd := guard_hash
          have HT18 := Lib.hid (HT.out.below HB18.out h2)
          have hbd : Below w18.heap.size w18 w18.drew := ⟨rfl, rfl, rfl, Nat.le_refl _, fun _ _ => rfl⟩
          refine wp_region_held_drew (S := fun w' => w'.rangeAt w9.heap.size 0 (tab 32 (hashV D)).toList ∧ w'.rangeAt w11.heap.size 0 (tab 32 (hashV D)).toList ∧ w'.rangeAt w17.heap.size 0 (tab 32 (hashV Z)).toList) (by kernel_rfl) ⟨rangeAt_blk HC.out, rangeAt_blk HD.out, rangeAt_blk HZb.out⟩ (fun hHeld => ?_)
          refine wpAnyH_take (i := 0) (oi := _) (v := .agg (tab 32 (hashV D))) rfl (by kernel_rfl) (by kernel_rfl) (by kernel_rfl) (fun _ _ _ h => h) (yieldsIf_load_mid (by rfl) _ _ rfl w9.heap.size 0 rfl (tab 32 (hashV D)).toList _ (fun w h => h.1) hu42 rfl (hi42 D)) hHeld ?_
          try simp only [Act.put, List.getElem_toArray, List.getElem_cons_zero, List.getElem_cons_succ, List.setIfInBounds_toArray, List.set_cons_zero, List.set_cons_succ]
          refine wpAnyH_take (i := 1) (oi := _) (v := .agg (tab 32 (hashV D))) rfl (by kernel_rfl) (by kernel_rfl) (by kernel_rfl) (fun _ _ _ h => h) (yieldsIf_load_mid (by rfl) _ _ rfl w11.heap.size 0 rfl (tab 32 (hashV D)).toList _ (fun w h => h.2.1) hu42 rfl (hi42 D)) hHeld ?_
          try simp only [Act.put, List.getElem_toArray, List.getElem_cons_zero, List.getElem_cons_succ, List.setIfInBounds_toArray, List.set_cons_zero, List.set_cons_succ]
          refine wpAnyH_take (i := 2) (oi := _) (v := .bool true) rfl (by kernel_rfl) (by kernel_rfl) (by kernel_rfl) (fun _ _ _ h => h) (Or.inl ⟨by rfl, by intro w hSw; go_simp⟩) hHeld ?_
          try simp only [Act.put, List.getElem_toArray, List.getElem_cons_zero, List.getElem_cons_succ, List.setIfInBounds_toArray, List.set_cons_zero, List.set_cons_succ]
          refine wpAnyH_take (i := 3) (oi := _) (v := .bool true) rfl (by kernel_rfl) (by kernel_rfl) (by kernel_rfl) (fun _ _ _ h => h) (Or.inl ⟨by rfl, by intro w hSw; go_simp⟩) hHeld ?_
          try simp only [Act.put, List.getElem_toArray, List.getElem_cons_zero, List.getElem_cons_succ, List.setIfInBounds_toArray, List.set_cons_zero, List.set_cons_succ]
          refine wpAnyH_take (i := 4) (oi := _) (v := .agg (tab 32 (hashV Z))) rfl (by kernel_rfl) (by kernel_rfl) (by kernel_rfl) (fun _ _ _ h => h) (yieldsIf_load_mid (by rfl) _ _ rfl w17.heap.size 0 rfl (tab 32 (hashV Z)).toList _ (fun w h => h.2.2) hu42 rfl (hi42 Z)) hHeld ?_
          try simp only [Act.put, List.getElem_toArray, List.getElem_cons_zero, List.getElem_cons_succ, List.setIfInBounds_toArray, List.set_cons_zero, List.set_cons_succ]
          refine wpAnyH_ready (rs := [5]) (by kernel_rfl) (by simp) ?_
          refine AllReadyH.cons (o := _) rfl (fun K hK => ?_) AllReadyH.nil
          simp only [List.getElem_toArray, List.getElem_cons_succ, List.getElem_cons_zero]
          go_simp
          go_at_call 25
          refine (sumF_calls none 0 0 [] w18.drew (HT18.out.below hbd (by omega)) (by simp) Seq.none_ (by omega) (by simp)).mono ?_
          rintro e w19 ⟨he, hb⟩
          rw [show joinP [] = [] from rfl, HZ.out] at he
          subst he
          have hb' := hbd.trans hb
          have HB19 := Lib.hid (HB18.out.trans (hb'.mono (by omega)))
          refine hK.out _ _ ⟨rangeAt_blk (HC.out.below hb' (by omega)), rangeAt_blk (HD.out.below hb' (by omega)), rangeAt_blk (HZb.out.below hb' (by omega))⟩ (fun hHeld2 => ?_)
          clear hK K hb hb'
          try simp only [Act.put, List.getElem_toArray, List.getElem_cons_zero, List.getElem_cons_succ, List.setIfInBounds_toArray, List.set_cons_zero, List.set_cons_succ]
          refine wpAnyH_take (i := 6) (oi := _) (v := .bool true) rfl (by kernel_rfl) (by kernel_rfl) (by kernel_rfl) (fun _ _ _ h => h) (Or.inl ⟨by rfl, by intro w hSw; go_simp⟩) hHeld2 ?_
          try simp only [Act.put, List.getElem_toArray, List.getElem_cons_zero, List.getElem_cons_succ, List.setIfInBounds_toArray, List.set_cons_zero, List.set_cons_succ]
          refine wpAnyH_take (i := 7) (oi := _) (v := .bool true) rfl (by kernel_rfl) (by kernel_rfl) (by kernel_rfl) (fun _ _ _ h => h) (Or.inl ⟨by rfl, by intro w hSw; go_simp⟩) hHeld2 ?_
          try simp only [Act.put, List.getElem_toArray, List.getElem_cons_zero, List.getElem_cons_succ, List.setIfInBounds_toArray, List.set_cons_zero, List.set_cons_succ]
          refine wpAnyH_take (i := 8) (oi := _) (v := .bool true) rfl (by kernel_rfl) (by kernel_rfl) (by kernel_rfl) (fun _ _ _ h => h) (Or.inl ⟨by rfl, by intro w hSw; go_simp⟩) hHeld2 ?_
          try simp only [Act.put, List.getElem_toArray, List.getElem_cons_zero, List.getElem_cons_succ, List.setIfInBounds_toArray, List.set_cons_zero, List.set_cons_succ]
          refine wpAnyH_done (by kernel_rfl) ?_ _
          go_wp2_with fail
          go_ret
          exact ⟨rfl, HB19.out⟩
-- CARD
set_option maxRecDepth 100000 in
theorem spongeCuts_lifted (os : Os) (started : os.Started) (H : Type) (enc : TypeId × Value → H) :
    ReturnsInHanded {} Tryd.checked os 10 .any (fun w args => (Rows.spongeCutsSpec.pre enc Tryd.prog Tryd.f10 [] false w args ∧ laidMetH Tryd.prog seatLaid w) ∧ sizedMet enc Tryd.prog Tryd.f10 (OpenSpec.ofChange Rows.spongeCutsSpec) false w args)
      (Rows.spongeCutsSpec.post enc Tryd.prog Tryd.f10 false true false false) := by
  refine returnsInHanded_of_change_and (C := Tryd.checked) (X := fun w _ => laidMetH Tryd.prog seatLaid w) (fun _ _ _ hh h => h.of_heap hh) own started (by kernel_rfl) Tryd.func10
    (ChangeSpec.witness_shaped (enc := enc) (C := Tryd.checked) (os := os) (X := fun w _ => laidMetH Tryd.prog seatLaid w) false (World.laidAll Tryd.prog os seatLaid) #[.slice none 0 0, .slice none 0 0, .slice none 0 0] 8 (World.laidAll_os _ _ _)
      (World.shaped_of_ZipB (by kernel_rfl) (by kernel_rfl)) (by kernel_rfl) (by kernel_rfl) (by kernel_rfl)
      (by rw [MakeChecks.laidMetH_plain _ _ _ (by kernel_rfl)]; exact laidMet_laidAll _ (by kernel_rfl) (by kernel_rfl))) ?_
  intro W base args ds gs before hval0 hW _ hsz hL0 _
  rw [MakeChecks.laidMetH_plain _ _ _ (by kernel_rfl)] at hL0
  have hT := tables_of_laid hL0
  have hval : ∀ (j : Nat) t v, Tryd.f10.params[j]? = some t → args[j]? = some v → Value.okWide Tryd.prog W .any base t v := hval0
  have hW' := hW
  obtain ⟨p, q, hA0, hV, rfl, hfz, hnd⟩ := hW
  have hA : DataW.TrodAll enc Tryd.prog W 0 (fun _ => true) true Tryd.f10.params.toList args.toList ds p := hA0
  rw [Tryd.params10] at hA hval
  obtain ⟨v0, vs0, d0, ds0, p0, q0, hargs, rfl, rfl, h0, r0⟩ := trodAll_cons hA
  obtain ⟨v1, vs1, d1, ds1, p1, q1, rfl, rfl, rfl, h1, r1⟩ := trodAll_cons r0
  obtain ⟨v2, vs2, d2, ds2, p2, q2, rfl, rfl, rfl, h2, r2⟩ := trodAll_cons r1
  obtain ⟨rfl, rfl, rfl⟩ := trodAll_nil r2
  obtain rfl : args = #[v0, v1, v2] := by cases args; simp_all
  obtain ⟨rfl, rfl⟩ := trodVars_none hV
  have k0 := h0
  have lt0 : ∀ x ∈ p0, x.block < W.heap.size := by obtain ⟨m, hm⟩ := k0; exact DataW.trod_lt m _ _ _ hm
  have k1 := h1
  have lt1 : ∀ x ∈ p1, x.block < W.heap.size := by obtain ⟨m, hm⟩ := k1; exact DataW.trod_lt m _ _ _ hm
  have k2 := h2
  have lt2 : ∀ x ∈ p2, x.block < W.heap.size := by obtain ⟨m, hm⟩ := k2; exact DataW.trod_lt m _ _ _ hm
  have wt0 : ∀ n ∈ d0.weights Tryd.prog 32, n ≤ reachBytes := fun n hn => by have := List.all_eq_true.1 hsz n (DataW.weights_mem_each (j := 0) (t := 32) (d := d0) (by rw [Tryd.params10]; rfl) rfl n hn); simpa using this
  obtain ⟨A0, C0, L0, rfl, hc0, hm0, hr0, hq0⟩ := open_bytes Tryd.underlying32 Tryd.underlying5 (by kernel_rfl) (by kernel_rfl) (hval 0 _ v0 rfl rfl) h0 wt0
  have wt1 : ∀ n ∈ d1.weights Tryd.prog 56, n ≤ reachBytes := fun n hn => by have := List.all_eq_true.1 hsz n (DataW.weights_mem_each (j := 1) (t := 56) (d := d1) (by rw [Tryd.params10]; rfl) rfl n hn); simpa using this
  obtain ⟨A1, C1, L1, rfl, hc1, hm1, hr1, hq1, hn1⟩ := open_nums Tryd.underlying56 Tryd.underlying3 (by kernel_rfl) (by kernel_rfl) (hval 1 _ v1 rfl rfl) h1 wt1
  have wt2 : ∀ n ∈ d2.weights Tryd.prog 32, n ≤ reachBytes := fun n hn => by have := List.all_eq_true.1 hsz n (DataW.weights_mem_each (j := 2) (t := 32) (d := d2) (by rw [Tryd.params10]; rfl) rfl n hn); simpa using this
  obtain ⟨A2, C2, L2, rfl, hc2, hm2, hr2, hq2⟩ := open_bytes Tryd.underlying32 Tryd.underlying5 (by kernel_rfl) (by kernel_rfl) (hval 2 _ v2 rfl rfl) h2 wt2
  clear hA0 hval0
  refine (cuts_walk A0 C0 L0 A1 C1 L1 A2 C2 L2 W hc0 hm0 hr0 hr1 hr2 hq0 hq1 hn1 hq2 hT).mono fun e W' ⟨he, bel⟩ => ?_
  subst he
  exact ⟨_, rfl, _, _, _, [], _, [], hW', trodAll_mk1 (shut_bool Tryd.underlying4 _), (trodAll_cons_mk (Below.trod laidOut (by kernel_rfl) (of_decide_eq_true (by kernel_rfl)) k0 bel lt0) (trodAll_cons_mk (Below.trod laidOut (by kernel_rfl) (of_decide_eq_true (by kernel_rfl)) k1 bel lt1) (trodAll_cons_mk (Below.trod laidOut (by kernel_rfl) (of_decide_eq_true (by kernel_rfl)) k2 bel lt2) trodAll_mk0))), rfl, bel.frame _, fun h => by cases h⟩
theorem spongeCuts_holds : Rows.SpongeCutsSaid :=
  OpenClaim.holds_of_wide 10 Tryd.f10 rfl rfl rfl rfl rfl rfl rfl ⟨rfl, rfl, rfl, rfl, rfl⟩ rfl rfl rfl rfl rfl (by kernel_rfl) Tryd.func10 (by kernel_rfl)
    (of_decide_eq_true (by kernel_rfl)) (by unfold Func.isWrapper; first | (rw [if_pos (by decide +kernel)]; kernel_rfl) | (rw [if_neg (by decide +kernel)]; exact ⟨rfl, rfl⟩))
    (fun os started H enc _ => spongeCuts_lifted os started H enc)
theorem spongeCuts_card : Rows.SpongeCutsCardSaid :=
  Claim7.holds_tied_plain_at .later [] [.data, .data] true (true, "61dec8a95d45e6b6868d957416c283ac2aac3f2f7edc31fb2634f663520bf00b") false spongeCuts_holds (fun _ h => by cases h) (by kernel_rfl) (fun _ h => by cases h) spongeCuts_row_tie rfl ⟨rfl, rfl⟩ (by kernel_rfl) rfl
    (fun f fn hf hfn => by
      obtain rfl : f = 10 := Option.some.inj ((show Tryd.prog.funcNamed "vouch/vouchlaw2.SpongeCuts" = some 10 by kernel_rfl).symm.trans hf) |>.symm
      obtain rfl : fn = Tryd.f10 := (Option.some.inj (Tryd.func10.symm.trans hfn)).symm
      exact ⟨by kernel_rfl, fun j t ht => by
        rw [Tryd.params10] at ht
        have hm : t ∈ ([32, 56, 32] : List TypeId) := by simpa using Array.mem_of_getElem? ht
        have hall : (([32, 56, 32] : List TypeId).all fun u => !Tryd.prog.wantsStandIn u) = true := by kernel_rfl
        exact (show Tryd.prog.wantsStandIn t = false by simpa using List.all_eq_true.1 hall t hm)⟩)
    (by kernel_rfl)
end Go.Proofs.YtfidjeoeaeghhaaDoor
