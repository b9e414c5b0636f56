/- laid: a trie of a list's pairs. -/
import Derived.Test.YtfhindffmghlaaaDoorG25
import Derived.Deep.RegionHeld3
import Derived.Deep.QuietTactic
import Derived.BigQuiet
set_option linter.unusedVariables false
set_option linter.unusedSimpArgs false
namespace Go.Proofs.YtfhindffmghlaaaDoor
open Go.RowKit
/-- A list of puts. -/
def stepP (s : Tr × Nat) (x : List UInt8 × List UInt8) : Tr × Nat := (putP s.1 x.1 x.2, putN s.1 s.2 x.1 x.2)
def laidS (l : List (List UInt8 × List UInt8)) : Tr × Nat := l.foldl stepP (.nil, 0)
theorem laidS_snoc (l : List (List UInt8 × List UInt8)) (x : List UInt8 × List UInt8) : laidS (l ++ [x]) = stepP (laidS l) x := by unfold laidS; rw [List.foldl_append]; rfl
theorem stepP_le (s : Tr × Nat) (x : List UInt8 × List UInt8) : (stepP s x).2 ≤ s.2 + 1 := by
  unfold stepP putN
  simp only
  split
  · split <;> omega
  · omega
theorem foldP_le : ∀ (l : List (List UInt8 × List UInt8)) (s : Tr × Nat), (l.foldl stepP s).2 ≤ s.2 + l.length
  | [], s => Nat.le_refl _
  | x :: l, s => by
    have h1 := foldP_le l (stepP s x)
    have h2 := stepP_le s x
    rw [List.foldl_cons, List.length_cons]
    omega
theorem laidS_le (l : List (List UInt8 × List UInt8)) : (laidS l).2 ≤ l.length := by
  have := foldP_le l (.nil, 0)
  unfold laidS
  simpa using this
/-- The steps that a list of puts takes. -/
def firsts (l : List PairL) : List (List UInt8 × List UInt8) := (l.take 300).map saidP
set_option maxHeartbeats 4000000 in
set_option maxRecDepth 20000 in
theorem laid_calls (A : Option Addr) (c : Nat) (l : List PairL) (w : World) (hl : l.length ≤ 1099511627776) (hT : Tables w) (hp : PairsIn w w.heap.size A l) (hb : ∀ x ∈ l, x.1.2.2.length ≤ 131072 ∧ x.2.2.2.length ≤ 131072) :
    Calls Tryd.prog 21 #[.slice A l.length c] w fun e w' => e = .returned (.pointer (some ⟨w.heap.size, 0, none⟩)) ∧ TrieW w' w.heap.size w.heap.size 131072 600 (laidS (firsts l)).1 (laidS (firsts l)).2 ∧ Below w.heap.size w w' := by
  have HT := Lib.hid hT
  have HP := Lib.hid hp
  have HB := Lib.hid hb
  clear hT hp hb
  go_enter Tryd.func21, Tryd.ntmps21
  go_wp2_with (go_at_call 37; go_loud (refine (newW_calls w 131072 0 HT.out (by omega) (by omega)).mono ?_; rintro e1 w1 ⟨rfl, ht1, hb1, hz1⟩; have HT1 := Lib.hid ht1; have HB1 := Lib.hid hb1; clear ht1 hb1))
  go_loopw [4] (fun i wr => ∃ k : Nat, k ≤ l.length ∧ k ≤ 300 ∧ i = .int .i64 k ∧ TrieW wr w.heap.size w.heap.size 131072 (2 * k) (laidS ((l.take k).map saidP)).1 (laidS ((l.take k).map saidP)).2 ∧ Below w.heap.size w wr) (fun i _ => l.length - (intOf i).toNat)
  case atStart => exact ⟨0, by omega, by omega, rfl, HT1.out, HB1.out⟩
  case round =>
    clear HT1 HB1
    obtain ⟨k, hk, hk3, rfl, ht, hbl⟩ := hrel
    have hsz := hbl.size
    have HBl := Lib.hid hbl
    by_cases hlt : k < l.length ∧ k < 300
    · obtain ⟨hlt, hlt3⟩ := hlt
      have dk : decide ((k : Int) < (l.length : Int)) = true := by simp; omega
      have dk3 : decide ((k : Int) < 300) = true := by simp; omega
      have lk : (k : Int) < (l.length : Int) := by omega
      have hpr := HP.out.below hbl (Nat.le_refl _)
      obtain ⟨ad, rfl, hlta, q0, q1⟩ := hpr.1.get k hlt
      obtain ⟨hs0, hs1, _⟩ := hpr.2 _ (List.getElem_mem hlt)
      have hbx := HB.out _ (List.getElem_mem hlt)
      have htk : (l.take (k + 1)).map saidP = (l.take k).map saidP ++ [saidP l[k]] := by rw [List.take_succ_eq_append_getElem hlt, List.map_append]; rfl
      have hls := laidS_snoc ((l.take k).map saidP) (saidP l[k])
      rw [← htk] at hls
      have hle := laidS_le ((l.take k).map saidP)
      rw [List.length_map, List.length_take] at hle
      obtain ⟨s, hsq⟩ : ∃ s, laidS ((l.take k).map saidP) = s := ⟨_, rfl⟩
      rw [hsq] at ht hls hle
      have HLs := Lib.hid hls
      generalize l[k] = x at *
      obtain ⟨⟨Ak, ck, lk'⟩, ⟨Av, cv, lv⟩⟩ := x
      simp only [pcV] at q0 q1
      simp only at hs0 hs1 hbx
      obtain ⟨hbk, hbv⟩ := hbx
      have HS0 := Lib.hid hs0
      have HS1 := Lib.hid hs1
      have HTr := Lib.hid ht
      have hbd := below_drewN (Below.refl wr.heap.size wr) 1
      have HBd := Lib.hid hbd
      have hadw : (ad.add (k * 2)).block < w.heap.size := by rw [block_add]; exact hlta
      clear htk hls hsq hs0 hs1 ht hbd hpr hbl
      go_upto_region 7 with fail
      go_region_held3 (fun w' => w'.cell? (ad.add (k * 2)) = some (.slice Ak lk'.length ck) ∧ w'.cell? ⟨(ad.add (k * 2)).block, (ad.add (k * 2)).off + 1, none⟩ = some (.slice Av lv.length cv)) (first | exact ⟨k3a, k3b⟩ | exact ⟨k2a, k2b⟩ | exact ⟨k1a, k1b⟩ | exact ⟨q0, q1⟩ | go_keep)
        (first
          | (go_at_call 19; go_loud (refine (ownL_calls Ak ck w.heap.size lk' wr.drew (by omega) HS0.out.drew).mono ?_; rintro e2 w2 ⟨A2, c2, rfl, ho2, hb2⟩; have hb2' := HBd.out.trans hb2; have hz2 := hb2'.size; have k1a := (hb2'.cell (p := ad.add (k * 2)) (by omega)).trans q0; have k1b := (hb2'.cell (p := ⟨(ad.add (k * 2)).block, (ad.add (k * 2)).off + 1, none⟩) (show (ad.add (k * 2)).block < wr.heap.size by omega)).trans q1; have HO2 := Lib.hid ho2; have HB2 := Lib.hid hb2'; clear ho2 hb2 hb2'))
          | (go_at_call 19; go_loud (refine (ownL_calls Av cv w.heap.size lv w2 (by omega) (HS1.out.below HB2.out (by omega))).mono ?_; rintro e3 w3 ⟨A3, c3, rfl, ho3, hb3⟩; have hz3 := hb3.size; have k2a := (hb3.cell (p := ad.add (k * 2)) (by omega)).trans k1a; have k2b := (hb3.cell (p := ⟨(ad.add (k * 2)).block, (ad.add (k * 2)).off + 1, none⟩) (show (ad.add (k * 2)).block < w2.heap.size by omega)).trans k1b; have HO3 := Lib.hid ho3; have HO23 := Lib.hid (own_below' HO2.out hb3); have HB3 := Lib.hid (HB2.out.trans (hb3.mono hz2)); clear ho3 hb3))
          | (go_at_call 40; go_loud (refine (putW_calls w.heap.size w.heap.size 131072 (2 * k) s.1 s.2 A2 c2 lk' A3 c3 lv w3 (HTr.out.below HB3.out) (by omega) (by omega) (by omega) (by omega) hbv (SeqB.of_own HO23.out).k (SeqB.of_own HO3.out)).mono ?_; rintro e4 w4 ⟨rfl, ht4, hu4⟩; have hb34 := hu4.below (by omega); have k3a := (hb34.cell (p := ad.add (k * 2)) hadw).trans k2a; have k3b := (hb34.cell (p := ⟨(ad.add (k * 2)).block, (ad.add (k * 2)).off + 1, none⟩) hadw).trans k2b; have HT4 := Lib.hid ht4; have HB4 := Lib.hid ((HBl.out.trans (HB3.out.mono hsz)).trans hb34); clear ht4 hu4 hb34)))
      go_wp2_with fail
      refine ⟨⟨k + 1, by omega, by omega, by go_num, ?_, HB4.out⟩, by simp [intOf]; omega⟩
      rw [HLs.out]
      exact HT4.out
    · have dd : (decide ((k : Int) < (l.length : Int)) && decide ((k : Int) < 300)) = false := by
        rw [Bool.and_eq_false_iff, decide_eq_false_iff_not, decide_eq_false_iff_not]
        omega
      have he : firsts l = (l.take k).map saidP := by
        unfold firsts
        congr 1
        rcases Nat.lt_or_ge k l.length with h | h
        · rw [show k = 300 by omega]
        · rw [List.take_of_length_le (by omega), List.take_of_length_le (by omega)]
      have HE := Lib.hid he
      have HTr := Lib.hid (ht.more (K' := 600) (by omega) (by omega))
      clear he ht hbl
      by_cases h1 : k < l.length
      · have d1 : decide (k < l.length) = true := decide_eq_true h1
        have d2 : decide ((k : Int) < 300) = false := decide_eq_false (by omega)
        clear dd hlt
        go_wp2_with fail
        go_ret
        rw [HE.out]
        exact ⟨rfl, HTr.out, HBl.out⟩
      · have d1 : decide (k < l.length) = false := decide_eq_false h1
        clear dd hlt
        go_wp2_with fail
        go_ret
        rw [HE.out]
        exact ⟨rfl, HTr.out, HBl.out⟩
end Go.Proofs.YtfhindffmghlaaaDoor
/- weight. -/
namespace Go.Proofs.YtfhindffmghlaaaDoor
open Go.RowKit
/-- What weight tells. -/
def WeightPost (w : World) (l : List PairL) (ps : List Piece) (e : Ending) (w' : World) : Prop :=
  ∃ n : Nat, e = .returned (.int .i64 (n : Int)) ∧ (n ≤ 131072 → l.length + ps.length ≤ 131072 ∧ (∀ x ∈ l, x.1.2.2.length ≤ 131072 ∧ x.2.2.2.length ≤ 131072) ∧ ∀ p ∈ ps, p.2.2.length ≤ 131072) ∧ n ≤ 281474976841728 ∧ Below w.heap.size w w'
set_option maxHeartbeats 4000000 in
set_option maxRecDepth 20000 in
theorem weight_calls (A : Option Addr) (c : Nat) (l : List PairL) (A2 : Option Addr) (c2 : Nat) (ps : List Piece) (w : World) (hl : l.length ≤ 140737488355328) (hp : PairsIn w w.heap.size A l) (hps : ps.length ≤ 140737488355328) (hs : Seq w w.heap.size A2 (pcs ps)) (hpl : ∀ p ∈ ps, p.2.2.length ≤ 140737488355328) :
    Calls Tryd.prog 16 #[.slice A l.length c, .slice A2 ps.length c2] w (WeightPost w l ps) := by
  have hrb : reachBytes ≤ 140737488355328 := by decide
  have HP := Lib.hid hp
  have HS := Lib.hid hs
  have HPl := Lib.hid hpl
  have HRb := Lib.hid hrb
  clear hp hs hpl hrb
  go_enter Tryd.func16, Tryd.ntmps16
  go_wp2_with fail
  go_loopw [5, 6] (fun vn vi wr => ∃ k n : Nat, k ≤ l.length ∧ vi = .int .i64 k ∧ vn = .int .i64 (n : Int) ∧ l.length + ps.length ≤ n ∧ n ≤ 281474976841728 ∧ (∀ x ∈ l.take k, x.1.2.2.length ≤ n ∧ x.2.2.2.length ≤ n) ∧ Below w.heap.size w wr) (fun _ vi _ => l.length - (intOf vi).toNat)
  case atStart => exact ⟨0, l.length + ps.length, by omega, rfl, by simp, by omega, by omega, by simp, Below.refl _ _⟩
  case round =>
    obtain ⟨k, n, hk, rfl, rfl, hn1, hn2, hall, hbl⟩ := hrel
    have HAll := Lib.hid hall
    have HBl := Lib.hid hbl
    by_cases hgo : k < l.length ∧ n ≤ 131072
    · obtain ⟨hlt, hnm⟩ := hgo
      have dk : decide (k < l.length) = true := decide_eq_true hlt
      have dn : decide ((n : Int) ≤ 131072) = true := decide_eq_true (by omega)
      have lk : (k : Int) < (l.length : Int) := by omega
      have hpr := HP.out.below hbl (Nat.le_refl _)
      obtain ⟨ad, rfl, hlta, q0, q1⟩ := hpr.1.get k hlt
      obtain ⟨_, _, _, _, hb0, hb1⟩ := hpr.2 _ (List.getElem_mem hlt)
      replace hb0 := Nat.le_trans hb0 HRb.out
      replace hb1 := Nat.le_trans hb1 HRb.out
      have htk : ∀ x ∈ l.take (k + 1), x ∈ l.take k ∨ x = l[k] := fun x hx => by
        rw [List.take_succ_eq_append_getElem hlt] at hx
        exact (List.mem_append.1 hx).imp id List.mem_singleton.1
      have HTk := Lib.hid htk
      generalize l[k] = x at *
      obtain ⟨⟨Ak, ck, lk'⟩, ⟨Av, cv, lv⟩⟩ := x
      simp only [pcV] at q0 q1
      simp only at hb0 hb1
      have e1 : IntKind.i64.wrap ((lk'.length : Int) + (lv.length : Int)) = (lk'.length : Int) + (lv.length : Int) := IntWalk.i64_in _ (by omega)
      have e2 : IntKind.i64.wrap ((n : Int) + ((lk'.length : Int) + (lv.length : Int))) = (n : Int) + ((lk'.length : Int) + (lv.length : Int)) := IntWalk.i64_in _ (by omega)
      clear hpr htk hall hbl
      go_upto_region 5 with fail
      go_quiet (fail)
      clear e1 e2
      go_wp2_with fail
      refine ⟨⟨k + 1, n + (lk'.length + lv.length), by omega, by go_num, by simp, by omega, by omega, fun x hx => ?_, below_drewN HBl.out nq⟩, by simp [intOf]; omega⟩
      rcases HTk.out x hx with h | h
      · have := HAll.out x h
        omega
      · subst h
        simp only
        omega
    · have hfin : n ≤ 131072 → k = l.length := fun h => by
        rcases Nat.lt_or_ge k l.length with h1 | h1
        · exact absurd ⟨h1, h⟩ hgo
        · omega
      have hall2 : n ≤ 131072 → ∀ x ∈ l, x.1.2.2.length ≤ 131072 ∧ x.2.2.2.length ≤ 131072 := fun h x hx => by
        have := hall x (by rw [hfin h, List.take_length]; exact hx)
        omega
      have HA2 := Lib.hid hall2
      have hdk : (decide (k < l.length) = false) ∨ (decide (k < l.length) = true ∧ decide ((n : Int) ≤ 131072) = false) := by
        rcases Nat.lt_or_ge k l.length with h1 | h1
        · exact Or.inr ⟨decide_eq_true h1, decide_eq_false (fun h => hgo ⟨h1, by omega⟩)⟩
        · exact Or.inl (decide_eq_false (by omega))
      clear hfin hall hall2 HAll hbl
      rcases hdk with dk | ⟨dk, dn⟩
      all_goals
        clear hgo
        go_wp2_with fail
        go_loopw [5, 7] (fun vn vi wr => ∃ j m : Nat, j ≤ ps.length ∧ vi = .int .i64 j ∧ vn = .int .i64 (m : Int) ∧ n ≤ m ∧ m ≤ 281474976841728 ∧ (∀ p ∈ ps.take j, p.2.2.length ≤ m) ∧ Below w.heap.size w wr) (fun _ vi _ => ps.length - (intOf vi).toNat)
        case atStart => exact ⟨0, n, by omega, rfl, rfl, by omega, hn2, by simp, HBl.out⟩
        case round =>
          obtain ⟨j, m, hj, rfl, rfl, hm1, hm2, hall, hbl⟩ := hrel
          have HAll := Lib.hid hall
          have HBr := Lib.hid hbl
          by_cases hgo : j < ps.length ∧ m ≤ 131072
          · obtain ⟨hlt, hnm⟩ := hgo
            have dj : decide (j < ps.length) = true := decide_eq_true hlt
            have dm : decide ((m : Int) ≤ 131072) = true := decide_eq_true (by omega)
            have lj : (j : Int) < (ps.length : Int) := by omega
            obtain ⟨ad, rfl, _, q0⟩ := (HS.out.below hbl (Nat.le_refl _)).piece j hlt
            have hb0 := HPl.out _ (List.getElem_mem hlt)
            have htk : ∀ p ∈ ps.take (j + 1), p ∈ ps.take j ∨ p = ps[j] := fun x hx => by
              rw [List.take_succ_eq_append_getElem hlt] at hx
              exact (List.mem_append.1 hx).imp id List.mem_singleton.1
            have HTk := Lib.hid htk
            generalize ps[j] = p at *
            obtain ⟨Ap, cp, lp⟩ := p
            simp only at q0 hb0
            clear htk hall hbl
            go_wp2_with fail
            refine ⟨⟨j + 1, m + lp.length, by omega, by go_num, by simp, by omega, by omega, fun p hp => ?_, HBr.out⟩, by simp [intOf]; omega⟩
            rcases HTk.out p hp with h | h
            · have := HAll.out p h
              omega
            · subst h
              simp only
              omega
          · have hfin : m ≤ 131072 → j = ps.length := fun h => by
              rcases Nat.lt_or_ge j ps.length with h1 | h1
              · exact absurd ⟨h1, h⟩ hgo
              · omega
            have hall3 : m ≤ 131072 → ∀ p ∈ ps, p.2.2.length ≤ 131072 := fun h p hp => by
              have := hall p (by rw [hfin h, List.take_length]; exact hp)
              omega
            have HA3 := Lib.hid hall3
            have hdj : (decide (j < ps.length) = false) ∨ (decide (j < ps.length) = true ∧ decide ((m : Int) ≤ 131072) = false) := by
              rcases Nat.lt_or_ge j ps.length with h1 | h1
              · exact Or.inr ⟨decide_eq_true h1, decide_eq_false (fun h => hgo ⟨h1, by omega⟩)⟩
              · exact Or.inl (decide_eq_false (by omega))
            clear hfin hall hall3 HAll hbl
            rcases hdj with dj | ⟨dj, dm⟩
            all_goals
              clear hgo
              go_wp2_with fail
              go_ret
              exact ⟨m, rfl, fun h => ⟨by omega, HA2.out (by omega), HA3.out h⟩, hm2, HBr.out⟩
end Go.Proofs.YtfhindffmghlaaaDoor
