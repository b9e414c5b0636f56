/- SpongePlays: three sponges beside one another, every call, in every order; what was written is written over behind the call. Conditions: none beyond the row's own (the two tables of package sponge read as the program's text lays them; the card ties them to it). -/
import Derived.Test.YtfidjeoeaeghhaaDoorSpPlay
import Derived.Test.YtfidjeoeaeghhaaDoorSpHeld
import Derived.Test.YtfidjeoeaeghhaaDoorSpTables
import Derived.Test.YtfidjeoeaeghhaaDoorCards
import Derived.SevenTiedAt
namespace Go.Proofs.YtfidjeoeaeghhaaDoor
open Go.RowKit Go.ChangeShapes Go.WideShapes
def three (a b c : Value) (j : Nat) : Value := if j = 0 then a else if j = 1 then b else c
theorem three_one {a b c : Value} (ha : a.oneCell' = true) (hb : b.oneCell' = true) (hc : c.oneCell' = true) (j : Nat) : (three a b c j).oneCell' = true := by unfold three; split; assumption; split <;> assumption
def noneA (_ : Nat) : Option Addr := none
def zeroN (_ : Nat) : Nat := 0
def nilL (_ : Nat) : List UInt8 := []
theorem Plays.start {w0 w : World} {γ : Nat → Nat} {gl cl gt : Nat} (hM : Many w0 w γ 3 (fun _ => [])) (hp : w.ownsRow w0.heap.size 30 1 (.slice (some ⟨gl, 0, none⟩) 3 cl) 3 (ptrs γ 3)) (ht : Blk w gt 32 (tab 3 (tvV noneA zeroN nilL))) (h0 : w0.heap.size ≤ gt) :
    Plays w0 w γ gl cl gt noneA zeroN nilL nilL :=
  ⟨hM.below, fun k hk => hM.at_ k hk, fun k _ => World.ownsRow_nil _ _ _ _, hp, ht, hM.old, h0, hM.apart, fun i j _ _ q hq => by simp [tvV, noneA, Value.ownBlock] at hq⟩
set_option maxHeartbeats 4000000 in
set_option maxRecDepth 10000 in
theorem plays_walk (A : Option Addr) (c : Nat) (ss : List StepL) (w : World) (hl : ss.length ≤ 140737488351232) (hs : StepsAt w w.heap.size A ss) (hp : ∀ s ∈ ss, okS w s) (hT : Tables w) :
    Calls Tryd.prog 4 #[.slice A ss.length c] w fun e w' => e = .returned (.bool true) ∧ Below w.heap.size w w' := by
  have hp' : ∀ s ∈ ss, s.2.2.2.2.length ≤ 140737488351232 := fun q hq => by have := (hp q hq).2.2.2.2.1; unfold reachBytes at this; omega
  have HS := Lib.hid hs
  have HP := Lib.hid hp
  have HP' := Lib.hid hp'
  have HT := Lib.hid hT
  have h2 := hT.size
  clear hT hs hp hp'
  go_enter Tryd.func4, Tryd.ntmps4
  go_wp2_with fail
  refine (steps_calls A c w.heap.size ss w hl HS.out (Nat.le_refl _) HP'.out).mono ?_
  rintro e w1 ⟨⟨r, rfl, hr, hsum⟩, hb1⟩
  have hs1 := hb1.size
  have HB1 := Lib.hid hb1
  clear hb1
  by_cases g1 : r > 16777216
  · have d1 : decide ((r : Int) > 16777216) = true := by simp; omega
    go_wp2_with fail
    go_ret
    exact ⟨rfl, HB1.out⟩
  have d1 : decide ((r : Int) > 16777216) = false := by simp; omega
  have hsum := hsum (by omega)
  clear hl
  go_wp2_with fail
  have hb2 : Below w1.heap.size w1 (w1.alloc (.cells #[.slice none 0 0, .slice none 0 0, .slice none 0 0] 32)) := (Below.refl _ _).alloc (Nat.le_refl _) _
  have hk2 : Blk (w1.alloc (.cells #[.slice none 0 0, .slice none 0 0, .slice none 0 0] 32)) w1.heap.size 32 (tab 3 (tvV noneA zeroN nilL)) := Blk.new w1 _ _
  have HB2 := Lib.hid (HB1.out.trans (hb2.mono hs1))
  have HK2 := Lib.hid hk2
  clear hb2 hk2 HB1
  generalize hw2 : w1.alloc (.cells #[.slice none 0 0, .slice none 0 0, .slice none 0 0] 32) = w2 at *
  clear hw2
  generalize hgt : w1.heap.size = gt at *
  clear hgt
  go_loopw [3, 5, 6] (fun v i _ wr => ∃ (k : Nat) (γ : Nat → Nat) (A1 : Option Addr) (c1 : Nat), k ≤ 3 ∧ i = .int .i64 k ∧ v = .slice A1 k c1 ∧ wr.ownsRow w.heap.size 30 1 (.slice A1 k c1) k (ptrs γ k) ∧ Many w wr γ k (fun _ => []) ∧
    Blk wr gt 32 (tab 3 (tvV noneA zeroN nilL)) ∧ ∀ j, j < k → (Value.slice A1 k c1).ownBlock ≠ some (γ j)) (fun _ i _ _ => 3 - (intOf i).toNat)
  case atStart => exact ⟨0, fun _ => 0, none, 0, by omega, rfl, rfl, World.ownsRow_nil _ _ _ _, ⟨HB2.out, fun i hi => absurd hi (by omega), fun i _ hi => absurd hi (by omega), fun i hi => absurd hi (by omega)⟩, HK2.out, fun j hj => absurd hj (by omega)⟩
  case round =>
    clear HB2 HK2
    obtain ⟨k, γ, A1, c1, hk, rfl, rfl, hown, hM, hkt, hne⟩ := hrel
    have hs2 := hM.below.size
    by_cases hlt : k < 3
    · have dk : decide ((k : Int) < 3) = true := by simp; omega
      have HO := Lib.hid hown
      have HM := Lib.hid hM
      have HN := Lib.hid hne
      have HKt := Lib.hid hkt
      clear hown hM hne hkt
      go_wp2_with fail
      refine (new_calls wr).mono ?_
      rintro e w3 ⟨rfl, hw3⟩
      have hb3 : Below wr.heap.size wr w3 := by rw [hw3]; exact (Below.refl _ _).alloc (Nat.le_refl _) _
      have hsp : SpAt w3 wr.heap.size zeroS 0 := by rw [hw3]; exact Blk.new _ _ _
      have hz3 : wr.heap.size + 1 ≤ w3.heap.size := by rw [hw3]; simp
      have HO2 := Lib.hid (own_below' HO.out hb3)
      have HM2 := Lib.hid (HM.out.belowAll hb3)
      have HK3 := Lib.hid (HKt.out.below hb3 HKt.out.lt)
      have HSP := Lib.hid hsp
      clear hb3 hsp hw3
      go_wp2_with (first
        | (at_builtin; refine wpL_append rfl (.tmp 28) (.tmp 30) 28 rfl elPtr rfl (HO2.out.alloc _) rfl rfl (Seq.one_new _ _ _) (by simp [Value.oneCell']) (by unfold maxLen; omega) (by omega) (by simp; omega) ?_; intro A4 c4 w4 ho4 hg4 hf4; have HO4 := Lib.hid ho4; have HG4 := Lib.hid hg4; have HF4 := Lib.hid hf4; clear ho4 hg4 hf4))
      have hrow : ∀ q, (Value.slice A1 k c1).ownBlock = some q → w.heap.size ≤ q ∧ q < wr.heap.size := fun q hq => HO.out.lt q hq
      have hpg : ptrs γ k ++ [ptrV wr.heap.size] = ptrs (extG γ k wr.heap.size) (k + 1) := by
        rw [ptrs_succ, extG_at, ptrs_congr (fun i hi => (extG_ne hi).symm)]
      have ho4 := HO4.out
      rw [show Value.pointer (some ⟨wr.heap.size, 0, none⟩) = ptrV wr.heap.size from rfl, hpg] at ho4
      have hk4 : Blk w4 gt 32 (tab 3 (tvV noneA zeroN nilL)) := (HG4.out.block gt (by rw [size_alloc]; have := HK3.out.lt; omega) (fun e => by
        obtain ⟨_, h1⟩ := own_blk HO2.out gt e.symm
        exact Blk.ne h1 HK3.out (by decide) rfl)).trans (HK3.out.alloc _)
      refine ⟨⟨k + 1, extG γ k wr.heap.size, A4, c4, by omega, by go_num, rfl, ho4, ?_, hk4, ?_⟩, by simp [intOf]; omega⟩
      · refine Many.extend (HM2.out.belowAll ((Below.refl _ _).alloc (Nat.le_refl _) _)) (Blk.alloc HSP.out _) hs2 (fun j hj => Blk.lt (HM.out.at_ j hj)) HG4.out HN.out (fun e => ?_) (fun q hq => (hrow q hq).1)
        have := (hrow _ e).2
        omega
      · intro j hj e
        have hjg : extG γ k wr.heap.size j < wr.heap.size + 1 := by
          by_cases e2 : j = k
          · subst e2; rw [extG_at]; omega
          · rw [extG_ne (by omega)]; have := Blk.lt (HM.out.at_ j (by omega)); omega
        rcases HF4.out with e3 | e3
        · rw [e3] at e
          by_cases e2 : j = k
          · subst e2; rw [extG_at] at e; have := (hrow _ e).2; omega
          · rw [extG_ne (by omega)] at e; exact HN.out j (by omega) e
        · rw [e3] at e
          have e4 := Option.some.inj e
          rw [size_alloc] at e4
          omega
    · have dk : decide ((k : Int) < 3) = false := by simp; omega
      have hkn : k = 3 := by omega
      obtain ⟨gl, rfl, _, _, hc13, _⟩ := own_form hown (by omega)
      have hPl : Plays w wr γ gl c1 gt noneA zeroN nilL nilL := by subst hkn; exact Plays.start hM hown hkt (by omega)
      have HPl := Lib.hid hPl
      clear hown hM hne hkt hPl
      generalize k = N0 at *
      have hN0 := Nat.le_of_eq hkn
      have hN1 := Nat.le_of_eq hkn.symm
      clear hkn
      go_wp2_with fail
      go_loopw [7] (fun i wq => ∃ (j : Nat) (γ : Nat → Nat) (V : Nat → Option Addr) (cv : Nat → Nat) (T : Nat → List UInt8), j ≤ ss.length ∧ i = .int .i64 j ∧ (∀ k, k < 3 → (T k).length ≤ total (ss.take j)) ∧ Plays w wq γ gl c1 gt V cv T T) (fun i _ => ss.length - (intOf i).toNat)
      case atStart => exact ⟨0, γ, noneA, zeroN, nilL, by omega, rfl, fun k _ => by simp [nilL], HPl.out⟩
      case round =>
        clear HPl
        obtain ⟨j, γ, V, cv, T, hj, rfl, hTl, hPl⟩ := hrel
        have HP1 := Lib.hid hPl
        clear hPl
        have hsz := HP1.out.below.size
        have htj := total_le ss j
        by_cases hlt : j < ss.length
        · have dj : decide ((j : Int) < (ss.length : Int)) = true := by simp; omega
          have lj : (j : Int) < (ss.length : Int) := by omega
          obtain ⟨ad, rfl, hadb, hc0, hc1, hc2⟩ := (HS.out.below HP1.out.below (Nat.le_refl _)).get j hlt
          have hok := HP.out _ (List.getElem_mem hlt)
          have hlb := HP'.out _ (List.getElem_mem hlt)
          have htt := total_take ss j hlt
          have htle := total_le ss (j + 1)
          generalize ss[j] = st at *
          obtain ⟨kd, wh, Ab, cb, lb⟩ := st
          simp only at hc0 hc1 hc2 hlb htt
          have hpk := hok.2.2.2.2.2
          simp only at hpk
          have HPK := Lib.hid (hpk.below HP1.out.below (Nat.le_refl _))
          have htt1 := Nat.le_of_eq htt
          have htt2 := Nat.le_of_eq htt.symm
          have HTl := Lib.hid hTl
          clear hok hpk htt hTl
          have em : (j : Int) % 256 = by8 (UInt8.ofNat j) := by
            unfold by8
            rw [UInt8.toNat_ofNat']
            omega
          go_wp2_with (first
            | (refine wpL_alloc rfl 34 rfl (tab 3 (three (.int .i64 0) (.int .i64 0) (.slice none 0 0))) (by kernel_rfl) ?_)
            | (refine wpL_storeA rfl 34 (.tmp 8) (.tmp 41) rfl 0 rfl (n := 3) (f := three (.int .i64 kd) (.int .i64 wh) (.slice Ab lb.length cb)) rfl (Blk.new wr _ _) (by omega) (by kernel_rfl) (three_one rfl rfl rfl) ?_; intro w3 ho hk; have hb := ho.below ((Below.refl wr.heap.size wr).alloc (Nat.le_refl _) _) (Nat.le_refl _); have hz3 := Nat.le_of_eq ho.size.symm; rw [size_alloc] at hz3; have HP3 := Lib.hid (HP1.out.next hb); have HPK3 := Lib.hid (HPK.out.below hb hsz); have hk' := hk.same (over_whole _ _ _); have hx1 : w3.cell? ⟨wr.heap.size, 1, none⟩ = some (.int .i64 wh) := hk'.cell 1; have HX3 := Lib.hid hk'; clear ho hk hb hk'))
          refine (which_calls wh w3).mono ?_
          rintro e w4 ⟨⟨k, hk3, rfl⟩, hb4⟩
          have hs4 := hb4.size
          have HP4 := Lib.hid (HP3.out.next hb4)
          have HPK4 := Lib.hid (HPK3.out.below hb4 (by omega))
          have HX4 := Lib.hid (HX3.out.below hb4 HX3.out.lt)
          have hx0 : w4.cell? ⟨wr.heap.size, 0, none⟩ = some (.int .i64 kd) := HX4.out.cell 0
          have hx2 : w4.cell? ⟨wr.heap.size, 2, none⟩ = some (.slice Ab lb.length cb) := HX4.out.cell 2
          have lk3 : (k : Int) < 3 := by omega
          have lkN : (k : Int) < (N0 : Int) := by omega
          have hold := HP1.out.lts
          clear hb4 HP3 HPK3 HX3 hx1 hc0 hc1 hc2
          by_cases n1 : kd = 1
          · subst n1
            have hpc := HP4.out.ptrCell k hk3
            have hold4 := HP4.out.lts.1 k hk3
            go_wp2_with fail
            refine (lend_calls Ab cb w.heap.size lb (UInt8.ofNat j) w4 hlb HP4.out.below.size HPK4.out).mono ?_
            rintro e w5 ⟨g, κg, rfl, hκ, hκm, ho5, hb5⟩
            unfold loanV
            have hs5 := hb5.size
            have hgr := ho5.lt g rfl
            have HP5 := Lib.hid (HP4.out.next hb5)
            have HPK5 := Lib.hid (HPK4.out.below hb5 (by omega))
            have HX5 := Lib.hid (HX4.out.below hb5 HX4.out.lt)
            have hx2 : w5.cell? ⟨wr.heap.size, 2, none⟩ = some (.slice Ab lb.length cb) := HX5.out.cell 2
            have HO5 := Lib.hid ho5
            clear ho5 hb5 hpc hx0 HPK4 HX4
            go_wp2_with (first
              | (refine wpL_alloc rfl 37 rfl (tab 2 (two (.slice none 0 0) (.slice none 0 0))) (by kernel_rfl) ?_)
              | (refine wpL_storeA rfl 37 (.tmp 10) (.tmp 53) rfl 0 rfl (n := 2) (f := two (.slice (some ⟨g, 0, none⟩) lb.length κg) (.slice (some ⟨g, 0, none⟩) (lb.length + 40) κg)) rfl (Blk.new w5 _ _) (by omega) (by kernel_rfl) (two_one rfl rfl) ?_; intro w6 ho hk; have hb := ho.below ((Below.refl w5.heap.size w5).alloc (Nat.le_refl _) _) (Nat.le_refl _); have hz6 := Nat.le_of_eq ho.size.symm; rw [size_alloc] at hz6; have HP6 := Lib.hid (HP5.out.next hb); have HPK6 := Lib.hid (HPK5.out.below hb (by omega)); have HX6 := Lib.hid (HX5.out.below hb HX5.out.lt); have HO6 := Lib.hid (own_below' HO5.out hb); have hk' := hk.same (over_whole _ _ _); have hy0 : w6.cell? ⟨w5.heap.size, 0, none⟩ = some (.slice (some ⟨g, 0, none⟩) lb.length κg) := hk'.cell 0; have HY6 := Lib.hid hk'; have hpc := HP6.out.ptrCell k hk3; clear ho hk hb hk' HP5 HPK5 HX5 HO5 hx2))
            go_still_tail 6, (by kernel_rfl)
            change wpList _ _ _ _ _ w6.drew
            go_wp2_with fail
            have hbd : Below w6.heap.size w6 w6.drew := ⟨rfl, rfl, rfl, Nat.le_refl _, fun _ _ => rfl⟩
            have hn0 := writeS_lt (s := (zeroS, 0)) (by simp) (T k)
            have hold := HP6.out.oldS k hk3
            refine (write_calls (γ k) _ _ (some ⟨g, 0, none⟩) κg w6.heap.size lb hn0 (by omega) (by omega) w6.drew (HP6.out.sp k hk3) (HT.out.below (HP6.out.next hbd).below h2) (own_front (own_below' HO6.out hbd) rfl) (Nat.le_refl _) (fun _ ad e => by injection e with e; subst e; show g ≠ γ k; omega)).mono ?_
            rintro e w7 ⟨rfl, hg7, hat7⟩
            rw [writeS_two] at hat7
            have hs7 : w6.heap.size ≤ w7.heap.size := hg7.size
            have hxs : wr.heap.size ≠ γ k := Blk.ne HX6.out (HP6.out.sp k hk3) (by decide)
            have hys : w5.heap.size ≠ γ k := Blk.ne HY6.out (HP6.out.sp k hk3) (by decide)
            have HP7 := Lib.hid ((HP6.out.next hbd).turned hk3 hg7 hat7)
            have HO7 := Lib.hid (own_grown (own_below' HO6.out hbd) hg7 (fun q hq e => by injection hq with hq; injection e with e; have : g = q := hq; omega))
            have HPK7 := Lib.hid ((HPK6.out.drew).grown hg7 (by show w.heap.size ≤ w6.heap.size; omega) (fun q e => by injection e with e; omega))
            have HX7 := Lib.hid (Blk.grownNe' (HX6.out.drew) hg7 hxs)
            have HY7 := Lib.hid (Blk.grownNe' (HY6.out.drew) hg7 hys)
            have hx2 : w7.cell? ⟨wr.heap.size, 2, none⟩ = some (.slice Ab lb.length cb) := HX7.out.cell 2
            have hy0 : w7.cell? ⟨w5.heap.size, 0, none⟩ = some (.slice (some ⟨g, 0, none⟩) lb.length κg) := HY7.out.cell 0
            have hy1 : w7.cell? ⟨w5.heap.size, 1, none⟩ = some (.slice (some ⟨g, 0, none⟩) (lb.length + 40) κg) := HY7.out.cell 1
            clear hg7 hat7 hpc HP6 HO6 HPK6 HX6 HY6 hbd
            go_wp2_with fail
            refine (whole_calls g κg Ab cb w7.heap.size lb (UInt8.ofNat j) w7 hlb (Nat.le_refl _) (Seq.of_own HO7.out) (HPK7.out.more (by omega))).mono ?_
            rintro e w8 ⟨rfl, hb8⟩
            have hs8 := hb8.size
            have HP8 := Lib.hid (HP7.out.next hb8)
            have HO8 := Lib.hid (own_below' HO7.out hb8)
            have HPK8 := Lib.hid (HPK7.out.below hb8 (by omega))
            have HX8 := Lib.hid (HX7.out.below hb8 HX7.out.lt)
            have HY8 := Lib.hid (HY7.out.below hb8 HY7.out.lt)
            have hy0 : w8.cell? ⟨w5.heap.size, 0, none⟩ = some (.slice (some ⟨g, 0, none⟩) lb.length κg) := HY8.out.cell 0
            have hy1 : w8.cell? ⟨w5.heap.size, 1, none⟩ = some (.slice (some ⟨g, 0, none⟩) (lb.length + 40) κg) := HY8.out.cell 1
            clear hb8 hx2 HP7 HO7 HPK7 HX7 HY7
            go_wp2_with fail
            refine (wipe_calls g κg w4.heap.size (lb.length + 40) _ (lb ++ marksL (UInt8.ofNat j) 40) (by rw [List.length_append, marksL_length]) (by omega) w8 HO8.out (by omega)).mono ?_
            rintro e w9 ⟨rfl, hg9, _⟩
            have hs9 := hg9.size
            have HP9 := Lib.hid ((HP4.out.later HP8.out hg9 hgr.1).next ⟨rfl, rfl, rfl, Nat.le_refl _, fun _ _ => rfl⟩ : Plays w w9.drew γ gl c1 gt V cv _ T)
            have HPK9 := Lib.hid ((HPK8.out.grown hg9 (by omega) (fun q e => by injection e with e; omega)).drew)
            have HX9 := Lib.hid ((Blk.grownNe' HX8.out hg9 (by omega)).drew)
            have hxx : w9.drew.cell? ⟨wr.heap.size, 2, none⟩ = some (.slice Ab lb.length cb) := HX9.out.cell 2
            have hct : w9.drew.cell? ⟨gt, k, none⟩ = some (.slice (V k) (T k).length (cv k)) := HP9.out.tkCell k hk3
            have hTk := HTl.out k hk3
            have hrow := HP9.out.row k hk3
            have HRow := Lib.hid (show w9.drew.ownsRow w.heap.size 5 1 (.slice (V k) (T k).length (cv k)) (T k).length (bytes (T k)) from hrow)
            have hsw : w.heap.size ≤ w9.drew.heap.size := HP9.out.below.size
            clear hg9 hy0 hy1 HP8 HO8 HPK8 HX8 HY8 hrow
            go_wp2_with fail
            refine wp_region_held_drew (S := fun w' => w'.cell? ⟨wr.heap.size, 2, none⟩ = some (.slice Ab lb.length cb)) (by kernel_rfl) hxx (fun hHeld => ?_)
            refine wpAnyH_take (i := 0) (oi := _) (v := .slice (some ⟨gt, 0, none⟩) 3 3) rfl (by kernel_rfl) (by kernel_rfl) (by kernel_rfl) (fun _ _ _ h => h) (Or.inl ⟨by rfl, by intro w hSw; (try dsimp only at hSw); go_simp⟩) hHeld ?_
            try simp only [Act.put, List.getElem_toArray, List.getElem_cons_zero, List.getElem_cons_succ, List.setIfInBounds_toArray, List.set_cons_zero, List.set_cons_succ]
            refine wpAnyH_take (i := 1) (oi := _) (v := .int .i64 k) rfl (by kernel_rfl) (by kernel_rfl) (by kernel_rfl) (fun _ _ _ h => h) (Or.inl ⟨by rfl, by intro w hSw; (try dsimp only at hSw); go_simp⟩) hHeld ?_
            try simp only [Act.put, List.getElem_toArray, List.getElem_cons_zero, List.getElem_cons_succ, List.setIfInBounds_toArray, List.set_cons_zero, List.set_cons_succ]
            refine wpAnyH_take (i := 2) (oi := _) (v := .slice (some ⟨gt, 0, none⟩) 3 3) rfl (by kernel_rfl) (by kernel_rfl) (by kernel_rfl) (fun _ _ _ h => h) (Or.inl ⟨by rfl, by intro w hSw; (try dsimp only at hSw); go_simp⟩) hHeld ?_
            try simp only [Act.put, List.getElem_toArray, List.getElem_cons_zero, List.getElem_cons_succ, List.setIfInBounds_toArray, List.set_cons_zero, List.set_cons_succ]
            refine wpAnyH_take (i := 3) (oi := _) (v := .int .i64 k) rfl (by kernel_rfl) (by kernel_rfl) (by kernel_rfl) (fun _ _ _ h => h) (Or.inl ⟨by rfl, by intro w hSw; (try dsimp only at hSw); go_simp⟩) hHeld ?_
            try simp only [Act.put, List.getElem_toArray, List.getElem_cons_zero, List.getElem_cons_succ, List.setIfInBounds_toArray, List.set_cons_zero, List.set_cons_succ]
            refine wpAnyH_take (i := 4) (oi := _) (v := .pointer (some ⟨gt, k, none⟩)) rfl (by kernel_rfl) (by kernel_rfl) (by kernel_rfl) (fun _ _ _ h => h) (Or.inl ⟨by rfl, by intro w hSw; (try dsimp only at hSw); go_simp⟩) hHeld ?_
            try simp only [Act.put, List.getElem_toArray, List.getElem_cons_zero, List.getElem_cons_succ, List.setIfInBounds_toArray, List.set_cons_zero, List.set_cons_succ]
            refine wpAnyH_take (i := 6) (oi := _) (v := .pointer (some ⟨wr.heap.size, 2, none⟩)) rfl (by kernel_rfl) (by kernel_rfl) (by kernel_rfl) (fun _ _ _ h => h) (Or.inl ⟨by rfl, by intro w hSw; (try dsimp only at hSw); go_simp⟩) hHeld ?_
            try simp only [Act.put, List.getElem_toArray, List.getElem_cons_zero, List.getElem_cons_succ, List.setIfInBounds_toArray, List.set_cons_zero, List.set_cons_succ]
            refine wpAnyH_take (i := 7) (oi := _) (v := .slice Ab lb.length cb) rfl (by kernel_rfl) (by kernel_rfl) (by kernel_rfl) (fun _ _ _ h => h) (Or.inl ⟨by rfl, by intro w hSw; (try dsimp only at hSw); go_simp⟩) hHeld ?_
            try simp only [Act.put, List.getElem_toArray, List.getElem_cons_zero, List.getElem_cons_succ, List.setIfInBounds_toArray, List.set_cons_zero, List.set_cons_succ]
            refine wpAnyH_ready (rs := [5]) (by kernel_rfl) (by simp) ?_
            refine AllReadyH.cons (o := _) rfl (fun K hK => ?_) AllReadyH.nil
            simp only [List.getElem_toArray, List.getElem_cons_succ, List.getElem_cons_zero]
            go_simp
            refine hK.out _ _ hHeld (fun hHeld => ?_)
            clear hK K
            try simp only [Act.put, List.getElem_toArray, List.getElem_cons_zero, List.getElem_cons_succ, List.setIfInBounds_toArray, List.set_cons_zero, List.set_cons_succ]
            refine wpAnyH_ready (rs := [8]) (by kernel_rfl) (by simp) ?_
            refine AllReadyH.cons (o := _) rfl (fun K hK => ?_) AllReadyH.nil
            simp only [List.getElem_toArray, List.getElem_cons_succ, List.getElem_cons_zero]
            rw [if_pos (by rfl)]
            refine wp_append_seq (.tmp 76) (.tmp 78) 32 rfl elByte rfl HRow.out rfl (by rw [bytes_length]; simp) HPK9.out (bytes_one _) (by unfold maxLen; omega) (by omega) hsw ?_
            intro A7 c7 w10 ho10 hg10 hf10
            have hx10 : Blk w10 wr.heap.size 34 _ := (hg10.block _ HX9.out.lt (fun e => by obtain ⟨_, h1⟩ := own_blk HRow.out _ e.symm; exact Blk.ne h1 HX9.out (by decide) rfl)).trans HX9.out
            refine hK.out _ _ (hx10.cell 2) (fun hHeld => ?_)
            clear hK K
            try simp only [Act.put, List.getElem_toArray, List.getElem_cons_zero, List.getElem_cons_succ, List.setIfInBounds_toArray, List.set_cons_zero, List.set_cons_succ]
            rw [← List.length_append, ← bytes_append] at ho10
            have hgt10 : Blk w10 gt 32 (tab 3 (tvV V cv T)) := (hg10.block gt HP9.out.lts.2.2.2 (fun e => HP9.out.row_tk k hk3 e.symm)).trans HP9.out.tk
            have hne10 : wr.heap.size ≠ gt := Blk.ne hx10 hgt10 (by decide)
            have hct2 : w10.cell? ⟨gt, k, none⟩ = some (tvV V cv T k) := hgt10.at_ k hk3
            have hft2 := Blk.frozen hgt10 k
            have HF10 := Lib.hid (HP9.out.took (l := T k ++ lb) (A := A7) (c := c7) hk3 hg10 ho10 (by rcases hf10 with e | e; exact Or.inl (by rw [List.length_append]; exact e); exact Or.inr (Or.inl (by rw [List.length_append]; exact e))) (Only.refl _ _) (fun _ _ h => h))
            have HX10 := Lib.hid hx10
            clear ho10 hg10 hf10 hgt10 hx10
            refine wpAnyH_ready (rs := [9]) (by kernel_rfl) (by simp) ?_
            refine AllReadyH.cons (o := _) rfl (fun K hK => ?_) AllReadyH.nil
            simp only [List.getElem_toArray, List.getElem_cons_succ, List.getElem_cons_zero]
            go_simp
            refine hK.out _ _ hHeld (fun hHeld => ?_)
            clear hK K
            try simp only [Act.put, List.getElem_toArray, List.getElem_cons_zero, List.getElem_cons_succ, List.setIfInBounds_toArray, List.set_cons_zero, List.set_cons_succ]
            refine wpAnyH_ready (rs := [10]) (by kernel_rfl) (by simp) ?_
            refine AllReadyH.cons (o := _) rfl (fun K hK => ?_) AllReadyH.nil
            simp only [List.getElem_toArray, List.getElem_cons_succ, List.getElem_cons_zero]
            go_simp
            refine hK.out _ _ ((HX10.out.far hne10 _).cell 2) (fun hHeld => ?_)
            clear hK K
            try simp only [Act.put, List.getElem_toArray, List.getElem_cons_zero, List.getElem_cons_succ, List.setIfInBounds_toArray, List.set_cons_zero, List.set_cons_succ]
            refine wpAnyH_done (by kernel_rfl) ?_ _
            go_wp2_with fail
            rw [← List.length_append]
            exact ⟨⟨j + 1, γ, updA V k A7, updA cv k c7, updL T k (T k ++ lb), by omega, by go_num, updL_le HTl.out k (T k ++ lb) (by rw [List.length_append]; omega) (by omega), HF10.out⟩, by simp [intOf]; omega⟩
          by_cases n2 : kd = 2
          · subst n2
            have hpc := HP4.out.ptrCell k hk3
            go_wp2_with fail
            obtain ⟨E, hE⟩ : ∃ E, hashS (T k) = E := ⟨_, rfl⟩
            have HE := Lib.hid hE
            clear hE
            have hn0 := writeS_lt (s := (zeroS, 0)) (by simp) (T k)
            refine (sumM_calls (γ k) _ _ hn0 w4 (HP4.out.sp k hk3) (HT.out.below HP4.out.below h2)).mono ?_
            rintro e w5 ⟨he, hb5⟩
            rw [show sumS ((writeS (zeroS, 0) (T k)).1, (writeS (zeroS, 0) (T k)).2) = E from HE.out] at he
            subst he
            have HP5 := Lib.hid (HP4.out.next hb5)
            have hs5 := hb5.size
            clear hb5 hpc HP4 hx0 hx2
            go_wp2_with (first
              | (refine wpL_alloc rfl 42 rfl (tab 32 fun _ => .int .u8 0) (by kernel_rfl) ?_)
              | (refine wpL_storeA rfl 42 (.tmp 12) (.tmp 87) rfl 0 rfl rfl (Blk.new w5 _ _) (by omega) (by kernel_rfl) (fun _ => rfl) ?_; intro w6 ho hk; have hb := ho.below ((Below.refl w5.heap.size w5).alloc (Nat.le_refl _) _) (Nat.le_refl _); have HP6 := Lib.hid (HP5.out.next hb); have HH6 := Lib.hid (hk.same (over_whole _ _ _)); clear ho hk hb HP5))
            have hu42 := Tryd.underlying42
            have hi42 : ∀ E, (Tryd.prog.info? 42).map (·.size) = some (tab 32 (hashV E)).toList.length := by
              intro E
              rw [show (tab 32 (hashV E)).toList.length = 32 by simp [tab]]
              kernel_rfl
            have heq := eql_hash E E
            rw [sameH_refl] at heq
            have hgd := guard_hash
            have hbd : Below w6.heap.size w6 w6.drew := ⟨rfl, rfl, rfl, Nat.le_refl _, fun _ _ => rfl⟩
            have HP7 := Lib.hid (HP6.out.next hbd)
            have hTk := HTl.out k hk3
            have hrow := HP7.out.row k hk3
            have HRow := Lib.hid (show w6.drew.ownsRow w.heap.size 5 1 (.slice (V k) (T k).length (cv k)) (T k).length (bytes (T k)) from hrow)
            clear hrow
            refine wp_region_held_drew (S := fun w' => w'.rangeAt w5.heap.size 0 (tab 32 (hashV E)).toList ∧ w'.cell? ⟨gt, k, none⟩ = some (.slice (V k) (T k).length (cv k))) (by kernel_rfl) ⟨rangeAt_blk HH6.out, HP7.out.tkCell k hk3⟩ (fun hHeld => ?_)
            refine wpAnyH_take (i := 0) (oi := _) (v := .agg (tab 32 (hashV E))) rfl (by kernel_rfl) (by kernel_rfl) (by kernel_rfl) (fun _ _ _ h => h) (yieldsIf_load_mid (by rfl) _ _ rfl w5.heap.size 0 rfl (tab 32 (hashV E)).toList _ (fun w h => h.1) hu42 rfl (hi42 E)) hHeld ?_
            try simp only [Act.put, List.getElem_toArray, List.getElem_cons_zero, List.getElem_cons_succ, List.setIfInBounds_toArray, List.set_cons_zero, List.set_cons_succ]
            refine wpAnyH_take (i := 1) (oi := _) (v := .slice (some ⟨gt, 0, none⟩) 3 3) rfl (by kernel_rfl) (by kernel_rfl) (by kernel_rfl) (fun _ _ _ h => h) (Or.inl ⟨by rfl, by intro w hSw; (try dsimp only at hSw); go_simp⟩) hHeld ?_
            try simp only [Act.put, List.getElem_toArray, List.getElem_cons_zero, List.getElem_cons_succ, List.setIfInBounds_toArray, List.set_cons_zero, List.set_cons_succ]
            refine wpAnyH_take (i := 2) (oi := _) (v := .int .i64 k) rfl (by kernel_rfl) (by kernel_rfl) (by kernel_rfl) (fun _ _ _ h => h) (Or.inl ⟨by rfl, by intro w hSw; (try dsimp only at hSw); go_simp⟩) hHeld ?_
            try simp only [Act.put, List.getElem_toArray, List.getElem_cons_zero, List.getElem_cons_succ, List.setIfInBounds_toArray, List.set_cons_zero, List.set_cons_succ]
            refine wpAnyH_take (i := 3) (oi := _) (v := .pointer (some ⟨gt, k, none⟩)) rfl (by kernel_rfl) (by kernel_rfl) (by kernel_rfl) (fun _ _ _ h => h) (Or.inl ⟨by rfl, by intro w hSw; (try dsimp only at hSw); go_simp⟩) hHeld ?_
            try simp only [Act.put, List.getElem_toArray, List.getElem_cons_zero, List.getElem_cons_succ, List.setIfInBounds_toArray, List.set_cons_zero, List.set_cons_succ]
            refine wpAnyH_take (i := 4) (oi := _) (v := .slice (V k) (T k).length (cv k)) rfl (by kernel_rfl) (by kernel_rfl) (by kernel_rfl) (fun _ _ _ h => h) (Or.inl ⟨by rfl, by intro w hSw; (try dsimp only at hSw); go_simp⟩) hHeld ?_
            try simp only [Act.put, List.getElem_toArray, List.getElem_cons_zero, List.getElem_cons_succ, List.setIfInBounds_toArray, List.set_cons_zero, List.set_cons_succ]
            refine wpAnyH_ready (rs := [5]) (by kernel_rfl) (by simp) ?_
            refine AllReadyH.cons (o := _) rfl (fun K hK => ?_) AllReadyH.nil
            simp only [List.getElem_toArray, List.getElem_cons_succ, List.getElem_cons_zero]
            go_simp
            refine hK.out _ _ ⟨rangeAt_blk (HH6.out.alloc _), (HP7.out.next ((Below.refl _ _).alloc (Nat.le_refl _) _)).tkCell k hk3⟩ (fun hHeld2 => ?_)
            clear hK K hHeld
            try simp only [Act.put, List.getElem_toArray, List.getElem_cons_zero, List.getElem_cons_succ, List.setIfInBounds_toArray, List.set_cons_zero, List.set_cons_succ]
            refine wpAnyH_ready (rs := [6]) (by kernel_rfl) (by simp) ?_
            refine AllReadyH.cons (o := _) rfl (fun K hK => ?_) AllReadyH.nil
            simp only [List.getElem_toArray, List.getElem_cons_succ, List.getElem_cons_zero]
            go_simp
            go_at_call 21
            refine (sumR_one (V k) (cv k) (T k) w6.drew (by omega) (Seq.of_own HRow.out) _).mono ?_
            rintro e w8 ⟨he, hb8⟩
            rw [HE.out] at he
            subst he
            have HP8 := Lib.hid (HP7.out.next hb8)
            refine hK.out _ _ ⟨rangeAt_blk (HH6.out.below (hbd.trans hb8) HH6.out.lt), HP8.out.tkCell k hk3⟩ (fun hHeld3 => ?_)
            clear hK K hHeld2 hb8
            try simp only [Act.put, List.getElem_toArray, List.getElem_cons_zero, List.getElem_cons_succ, List.setIfInBounds_toArray, List.set_cons_zero, List.set_cons_succ]
            refine wpAnyH_take (i := 7) (oi := _) (v := .bool false) rfl (by kernel_rfl) (by kernel_rfl) (by kernel_rfl) (fun _ _ _ h => h) (Or.inl ⟨by rfl, by intro w hSw; (try dsimp only at hSw); go_simp⟩) hHeld3 ?_
            try simp only [Act.put, List.getElem_toArray, List.getElem_cons_zero, List.getElem_cons_succ, List.setIfInBounds_toArray, List.set_cons_zero, List.set_cons_succ]
            refine wpAnyH_done (by kernel_rfl) ?_ _
            go_wp2_with fail
            exact ⟨⟨j + 1, γ, V, cv, T, by omega, by go_num, fun q hq => by have := HTl.out q hq; omega, HP8.out⟩, by simp [intOf]; omega⟩
          by_cases n3 : kd = 3
          · subst n3
            have hpc := HP4.out.ptrCell k hk3
            go_wp2_with fail
            refine (reset_calls (γ k) _ _ w4 (HP4.out.sp k hk3)).mono ?_
            rintro e w5 ⟨rfl, ho, hat⟩
            have HP5 := Lib.hid (HP4.out.turned hk3 (l := []) (grown_only (grown_refl _ _) ho) hat)
            have hct := HP5.out.tkCell k hk3
            have hft := Blk.frozen HP5.out.tk k
            clear ho hat hpc HP4 hx0 hx2
            go_wp2_with fail
            exact ⟨⟨j + 1, γ, updA V k none, updA cv k 0, updL T k [], by omega, by go_num, updL_le HTl.out k [] (Nat.zero_le _) (by omega), HP5.out.emptied hk3⟩, by simp [intOf]; omega⟩
          by_cases n4 : kd = 4
          · subst n4
            go_wp2_with fail
            refine (new_calls w4).mono ?_
            rintro e w5 ⟨rfl, hw5⟩
            have hb5 : Below w4.heap.size w4 w5 := by rw [hw5]; exact (Below.refl _ _).alloc (Nat.le_refl _) _
            have hsp : SpAt w5 w4.heap.size zeroS 0 := by rw [hw5]; exact Blk.new _ _ _
            have HP5 := Lib.hid (HP4.out.next hb5)
            have HP6 := Lib.hid (HP4.out.fresh hk3 (Nat.le_refl _) hb5 hsp)
            have hcp := HP5.out.ptrCell k hk3
            have hfp := HP5.out.ptr.frozenAt k
            have hct := HP6.out.tkCell k hk3
            have hft := Blk.frozen HP6.out.tk k
            unfold ptrV at hct hft
            clear hb5 hsp hw5 HP4 hx0 hx2
            go_wp2_with fail
            exact ⟨⟨j + 1, _, updA V k none, updA cv k 0, updL T k [], by omega, by go_num, updL_le HTl.out k [] (Nat.zero_le _) (by omega), HP6.out.emptied hk3⟩, by simp [intOf]; omega⟩
          have b1 : (kd == 1) = false := by simpa using n1
          have b2 : (kd == 2) = false := by simpa using n2
          have b3 : (kd == 3) = false := by simpa using n3
          have b4 : (kd == 4) = false := by simpa using n4
          clear hx2
          go_wp2_with fail
          exact ⟨⟨j + 1, γ, V, cv, T, by omega, by go_num, fun q hq => by have := HTl.out q hq; omega, HP4.out⟩, by simp [intOf]; omega⟩
        · have dj : decide ((j : Int) < (ss.length : Int)) = false := by simp; omega
          have HTl2 := Lib.hid hTl
          clear hTl
          go_wp2_with fail
          go_loopw [14] (fun i wq => ∃ (q : Nat), q ≤ 3 ∧ i = .int .i64 q ∧ Plays w wq γ gl c1 gt V cv T T) (fun i _ => 3 - (intOf i).toNat)
          case atStart => exact ⟨0, by omega, rfl, HP1.out⟩
          case round =>
            clear HP1
            obtain ⟨k, hkl, rfl, hPl⟩ := hrel
            have HP4 := Lib.hid hPl
            clear hPl
            have hsz := HP4.out.below.size
            by_cases hk3 : k < 3
            · have dk : decide ((k : Int) < 3) = true := by simp; omega
              have lk3 : (k : Int) < 3 := by omega
              have lkN : (k : Int) < (N0 : Int) := by omega
              have hpc := HP4.out.ptrCell k hk3
              go_wp2_with fail
              obtain ⟨E, hE⟩ : ∃ E, hashS (T k) = E := ⟨_, rfl⟩
              have HE := Lib.hid hE
              clear hE
              have hn0 := writeS_lt (s := (zeroS, 0)) (by simp) (T k)
              refine (sumM_calls (γ k) _ _ hn0 wr (HP4.out.sp k hk3) (HT.out.below HP4.out.below h2)).mono ?_
              rintro e w5 ⟨he, hb5⟩
              rw [show sumS ((writeS (zeroS, 0) (T k)).1, (writeS (zeroS, 0) (T k)).2) = E from HE.out] at he
              subst he
              have HP5 := Lib.hid (HP4.out.next hb5)
              have hs5 := hb5.size
              clear hb5 hpc HP4
              go_wp2_with (first
                | (refine wpL_alloc rfl 42 rfl (tab 32 fun _ => .int .u8 0) (by kernel_rfl) ?_)
                | (refine wpL_storeA rfl 42 (.tmp 15) (.tmp 126) rfl 0 rfl rfl (Blk.new w5 _ _) (by omega) (by kernel_rfl) (fun _ => rfl) ?_; intro w6 ho hk; have hb := ho.below ((Below.refl w5.heap.size w5).alloc (Nat.le_refl _) _) (Nat.le_refl _); have HP6 := Lib.hid (HP5.out.next hb); have hpc := HP6.out.ptrCell k hk3; have hz6 := Nat.le_of_eq ho.size.symm; rw [size_alloc] at hz6; have HH6 := Lib.hid (hk.same (over_whole _ _ _)); clear ho hk hb HP5))
              refine (sumM_calls (γ k) _ _ hn0 w6 (HP6.out.sp k hk3) (HT.out.below HP6.out.below h2)).mono ?_
              rintro e w7 ⟨he, hb7⟩
              rw [show sumS ((writeS (zeroS, 0) (T k)).1, (writeS (zeroS, 0) (T k)).2) = E from HE.out] at he
              subst he
              have HP7 := Lib.hid (HP6.out.next hb7)
              have HH7 := Lib.hid (HH6.out.below hb7 HH6.out.lt)
              have hs7 := hb7.size
              clear hb7 hpc HP6 HH6
              go_wp2_with (first
                | (refine wpL_alloc rfl 42 rfl (tab 32 fun _ => .int .u8 0) (by kernel_rfl) ?_)
                | (refine wpL_storeA rfl 42 (.tmp 16) (.tmp 131) rfl 0 rfl rfl (Blk.new w7 _ _) (by omega) (by kernel_rfl) (fun _ => rfl) ?_; intro w8 ho hk; have hb := ho.below ((Below.refl w7.heap.size w7).alloc (Nat.le_refl _) _) (Nat.le_refl _); have HP8 := Lib.hid (HP7.out.next hb); have HH8 := Lib.hid (HH7.out.below hb HH7.out.lt); have HG8 := Lib.hid (hk.same (over_whole _ _ _)); clear ho hk hb HP7 HH7))
              have hu42 := Tryd.underlying42
              have hi42 : ∀ E, (Tryd.prog.info? 42).map (·.size) = some (tab 32 (hashV E)).toList.length := by
                intro E
                rw [show (tab 32 (hashV E)).toList.length = 32 by simp [tab]]
                kernel_rfl
              have heq := eql_hash E E
              rw [sameH_refl] at heq
              have hgd := guard_hash
              have hbd : Below w8.heap.size w8 w8.drew := ⟨rfl, rfl, rfl, Nat.le_refl _, fun _ _ => rfl⟩
              have HP9 := Lib.hid (HP8.out.next hbd)
              have hTk := HTl2.out k hk3
              have hrow := HP9.out.row k hk3
              have HRow := Lib.hid (show w8.drew.ownsRow w.heap.size 5 1 (.slice (V k) (T k).length (cv k)) (T k).length (bytes (T k)) from hrow)
              clear hrow
              refine wp_region_held_drew (S := fun w' => w'.rangeAt w5.heap.size 0 (tab 32 (hashV E)).toList ∧ w'.rangeAt w7.heap.size 0 (tab 32 (hashV E)).toList ∧ w'.cell? ⟨gt, k, none⟩ = some (.slice (V k) (T k).length (cv k))) (by kernel_rfl) ⟨rangeAt_blk HH8.out, rangeAt_blk HG8.out, HP9.out.tkCell k hk3⟩ (fun hHeld => ?_)
              refine wpAnyH_take (i := 0) (oi := _) (v := .agg (tab 32 (hashV E))) rfl (by kernel_rfl) (by kernel_rfl) (by kernel_rfl) (fun _ _ _ h => h) (yieldsIf_load_mid (by rfl) _ _ rfl w5.heap.size 0 rfl (tab 32 (hashV E)).toList _ (fun w h => h.1) hu42 rfl (hi42 E)) hHeld ?_
              try simp only [Act.put, List.getElem_toArray, List.getElem_cons_zero, List.getElem_cons_succ, List.setIfInBounds_toArray, List.set_cons_zero, List.set_cons_succ]
              refine wpAnyH_take (i := 1) (oi := _) (v := .slice (some ⟨gt, 0, none⟩) 3 3) rfl (by kernel_rfl) (by kernel_rfl) (by kernel_rfl) (fun _ _ _ h => h) (Or.inl ⟨by rfl, by intro w hSw; (try dsimp only at hSw); go_simp⟩) hHeld ?_
              try simp only [Act.put, List.getElem_toArray, List.getElem_cons_zero, List.getElem_cons_succ, List.setIfInBounds_toArray, List.set_cons_zero, List.set_cons_succ]
              refine wpAnyH_take (i := 2) (oi := _) (v := .int .i64 k) rfl (by kernel_rfl) (by kernel_rfl) (by kernel_rfl) (fun _ _ _ h => h) (Or.inl ⟨by rfl, by intro w hSw; (try dsimp only at hSw); go_simp⟩) hHeld ?_
              try simp only [Act.put, List.getElem_toArray, List.getElem_cons_zero, List.getElem_cons_succ, List.setIfInBounds_toArray, List.set_cons_zero, List.set_cons_succ]
              refine wpAnyH_take (i := 3) (oi := _) (v := .pointer (some ⟨gt, k, none⟩)) rfl (by kernel_rfl) (by kernel_rfl) (by kernel_rfl) (fun _ _ _ h => h) (Or.inl ⟨by rfl, by intro w hSw; (try dsimp only at hSw); go_simp⟩) hHeld ?_
              try simp only [Act.put, List.getElem_toArray, List.getElem_cons_zero, List.getElem_cons_succ, List.setIfInBounds_toArray, List.set_cons_zero, List.set_cons_succ]
              refine wpAnyH_take (i := 4) (oi := _) (v := .slice (V k) (T k).length (cv k)) rfl (by kernel_rfl) (by kernel_rfl) (by kernel_rfl) (fun _ _ _ h => h) (Or.inl ⟨by rfl, by intro w hSw; (try dsimp only at hSw); go_simp⟩) hHeld ?_
              try simp only [Act.put, List.getElem_toArray, List.getElem_cons_zero, List.getElem_cons_succ, List.setIfInBounds_toArray, List.set_cons_zero, List.set_cons_succ]
              refine wpAnyH_ready (rs := [5]) (by kernel_rfl) (by simp) ?_
              refine AllReadyH.cons (o := _) rfl (fun K hK => ?_) AllReadyH.nil
              simp only [List.getElem_toArray, List.getElem_cons_succ, List.getElem_cons_zero]
              go_simp
              refine hK.out _ _ ⟨rangeAt_blk (HH8.out.alloc _), rangeAt_blk (HG8.out.alloc _), (HP9.out.next ((Below.refl _ _).alloc (Nat.le_refl _) _)).tkCell k hk3⟩ (fun hHeld2 => ?_)
              clear hK K hHeld
              try simp only [Act.put, List.getElem_toArray, List.getElem_cons_zero, List.getElem_cons_succ, List.setIfInBounds_toArray, List.set_cons_zero, List.set_cons_succ]
              refine wpAnyH_ready (rs := [6]) (by kernel_rfl) (by simp) ?_
              refine AllReadyH.cons (o := _) rfl (fun K hK => ?_) AllReadyH.nil
              simp only [List.getElem_toArray, List.getElem_cons_succ, List.getElem_cons_zero]
              go_simp
              go_at_call 21
              refine (sumR_one (V k) (cv k) (T k) w8.drew (by omega) (Seq.of_own HRow.out) _).mono ?_
              rintro e wa ⟨he, hba⟩
              rw [HE.out] at he
              subst he
              have HPa := Lib.hid (HP9.out.next hba)
              refine hK.out _ _ ⟨rangeAt_blk (HH8.out.below (hbd.trans hba) HH8.out.lt), rangeAt_blk (HG8.out.below (hbd.trans hba) HG8.out.lt), HPa.out.tkCell k hk3⟩ (fun hHeld3 => ?_)
              clear hK K hHeld2 hba
              try simp only [Act.put, List.getElem_toArray, List.getElem_cons_zero, List.getElem_cons_succ, List.setIfInBounds_toArray, List.set_cons_zero, List.set_cons_succ]
              refine wpAnyH_take (i := 7) (oi := _) (v := .bool false) rfl (by kernel_rfl) (by kernel_rfl) (by kernel_rfl) (fun _ _ _ h => h) (Or.inl ⟨by rfl, by intro w hSw; (try dsimp only at hSw); go_simp⟩) hHeld3 ?_
              try simp only [Act.put, List.getElem_toArray, List.getElem_cons_zero, List.getElem_cons_succ, List.setIfInBounds_toArray, List.set_cons_zero, List.set_cons_succ]
              refine wpAnyH_take (i := 8) (oi := _) (v := .bool false) rfl (by kernel_rfl) (by kernel_rfl) (by kernel_rfl) (fun _ _ _ h => h) (Or.inl ⟨by rfl, by intro w hSw; (try dsimp only at hSw); go_simp⟩) hHeld3 ?_
              try simp only [Act.put, List.getElem_toArray, List.getElem_cons_zero, List.getElem_cons_succ, List.setIfInBounds_toArray, List.set_cons_zero, List.set_cons_succ]
              refine wpAnyH_take (i := 9) (oi := _) (v := .agg (tab 32 (hashV E))) rfl (by kernel_rfl) (by kernel_rfl) (by kernel_rfl) (fun _ _ _ h => h) (yieldsIf_load_mid (by rfl) _ _ rfl w5.heap.size 0 rfl (tab 32 (hashV E)).toList _ (fun w h => h.1) hu42 rfl (hi42 E)) hHeld3 ?_
              try simp only [Act.put, List.getElem_toArray, List.getElem_cons_zero, List.getElem_cons_succ, List.setIfInBounds_toArray, List.set_cons_zero, List.set_cons_succ]
              refine wpAnyH_take (i := 10) (oi := _) (v := .agg (tab 32 (hashV E))) rfl (by kernel_rfl) (by kernel_rfl) (by kernel_rfl) (fun _ _ _ h => h) (yieldsIf_load_mid (by rfl) _ _ rfl w7.heap.size 0 rfl (tab 32 (hashV E)).toList _ (fun w h => h.2.1) hu42 rfl (hi42 E)) hHeld3 ?_
              try simp only [Act.put, List.getElem_toArray, List.getElem_cons_zero, List.getElem_cons_succ, List.setIfInBounds_toArray, List.set_cons_zero, List.set_cons_succ]
              refine wpAnyH_take (i := 11) (oi := _) (v := .bool false) rfl (by kernel_rfl) (by kernel_rfl) (by kernel_rfl) (fun _ _ _ h => h) (Or.inl ⟨by rfl, by intro w hSw; (try dsimp only at hSw); go_simp⟩) hHeld3 ?_
              try simp only [Act.put, List.getElem_toArray, List.getElem_cons_zero, List.getElem_cons_succ, List.setIfInBounds_toArray, List.set_cons_zero, List.set_cons_succ]
              refine wpAnyH_take (i := 12) (oi := _) (v := .bool false) rfl (by kernel_rfl) (by kernel_rfl) (by kernel_rfl) (fun _ _ _ h => h) (Or.inl ⟨by rfl, by intro w hSw; (try dsimp only at hSw); go_simp⟩) hHeld3 ?_
              try simp only [Act.put, List.getElem_toArray, List.getElem_cons_zero, List.getElem_cons_succ, List.setIfInBounds_toArray, List.set_cons_zero, List.set_cons_succ]
              refine wpAnyH_done (by kernel_rfl) ?_ _
              go_wp2_with fail
              exact ⟨⟨k + 1, by omega, by go_num, HPa.out⟩, by simp [intOf]; omega⟩
            · have dk : decide ((k : Int) < 3) = false := by simp; omega
              go_wp2_with fail
              go_ret
              exact ⟨rfl, HP4.out.below⟩
-- CARD
set_option maxRecDepth 100000 in
theorem spongePlays_lifted (os : Os) (started : os.Started) (H : Type) (enc : TypeId × Value → H) :
    ReturnsInHanded {} Tryd.checked os 4 .any (fun w args => (Rows.spongePlaysSpec.pre enc Tryd.prog Tryd.f4 [] false w args ∧ laidMetH Tryd.prog seatLaid w) ∧ sizedMet enc Tryd.prog Tryd.f4 (OpenSpec.ofChange Rows.spongePlaysSpec) false w args)
      (Rows.spongePlaysSpec.post enc Tryd.prog Tryd.f4 false true false false) := by
  refine returnsInHanded_of_change_and (C := Tryd.checked) (X := fun w _ => laidMetH Tryd.prog seatLaid w) (fun _ _ _ hh h => h.of_heap hh) own started (by kernel_rfl) Tryd.func4
    (ChangeSpec.witness_shaped (enc := enc) (C := Tryd.checked) (os := os) (X := fun w _ => laidMetH Tryd.prog seatLaid w) false (World.laidAll Tryd.prog os seatLaid) #[.slice none 0 0] 8 (World.laidAll_os _ _ _)
      (World.shaped_of_ZipB (by kernel_rfl) (by kernel_rfl)) (by kernel_rfl) (by kernel_rfl) (by kernel_rfl)
      (by rw [MakeChecks.laidMetH_plain _ _ _ (by kernel_rfl)]; exact laidMet_laidAll _ (by kernel_rfl) (by kernel_rfl))) ?_
  intro W base args ds gs before hval0 hW _ hsz hL0 _
  rw [MakeChecks.laidMetH_plain _ _ _ (by kernel_rfl)] at hL0
  have hT := tables_of_laid hL0
  have hval : ∀ (j : Nat) t v, Tryd.f4.params[j]? = some t → args[j]? = some v → Value.okWide Tryd.prog W .any base t v := hval0
  have hW' := hW
  obtain ⟨p, q, hA0, hV, rfl, hfz, hnd⟩ := hW
  have hA : DataW.TrodAll enc Tryd.prog W 0 (fun _ => true) true Tryd.f4.params.toList args.toList ds p := hA0
  rw [Tryd.params4] at hA hval
  obtain ⟨v0, vs0, d0, ds0, p0, q0, hargs, rfl, rfl, h0, r0⟩ := trodAll_cons hA
  obtain ⟨rfl, rfl, rfl⟩ := trodAll_nil r0
  obtain rfl : args = #[v0] := by cases args; simp_all
  obtain ⟨rfl, rfl⟩ := trodVars_none hV
  have k0 := h0
  have lt0 : ∀ x ∈ p0, x.block < W.heap.size := by obtain ⟨m, hm⟩ := k0; exact DataW.trod_lt m _ _ _ hm
  have wt0 : ∀ n ∈ d0.weights Tryd.prog 26, n ≤ reachBytes := fun n hn => by have := List.all_eq_true.1 hsz n (DataW.weights_mem_each (j := 0) (t := 26) (d := d0) (by rw [Tryd.params4]; rfl) rfl n hn); simpa using this
  obtain ⟨A0, C0, L0, rfl, hc0, hm0, hr0, hq0, hp0⟩ := open_steps (hval 0 _ v0 rfl rfl) h0 wt0
  clear hA0 hval0
  refine (plays_walk A0 C0 L0 W hr0 hq0 hp0 hT).mono fun e W' ⟨he, bel⟩ => ?_
  subst he
  exact ⟨_, rfl, _, _, _, [], _, [], hW', trodAll_mk1 (shut_bool Tryd.underlying4 _), (trodAll_cons_mk (Below.trod laidOut (by kernel_rfl) (of_decide_eq_true (by kernel_rfl)) k0 bel lt0) trodAll_mk0), rfl, bel.frame _, fun h => by cases h⟩
theorem spongePlays_holds : Rows.SpongePlaysSaid :=
  OpenClaim.holds_of_wide 4 Tryd.f4 rfl rfl rfl rfl rfl rfl rfl ⟨rfl, rfl, rfl, rfl, rfl⟩ rfl rfl rfl rfl rfl (by kernel_rfl) Tryd.func4 (by kernel_rfl)
    (of_decide_eq_true (by kernel_rfl)) (by unfold Func.isWrapper; first | (rw [if_pos (by decide +kernel)]; kernel_rfl) | (rw [if_neg (by decide +kernel)]; exact ⟨rfl, rfl⟩))
    (fun os started H enc _ => spongePlays_lifted os started H enc)
theorem spongePlays_card : Rows.SpongePlaysCardSaid :=
  Claim7.holds_tied_plain_at .later [] [.data, .data] true (true, "61dec8a95d45e6b6868d957416c283ac2aac3f2f7edc31fb2634f663520bf00b") false spongePlays_holds (fun _ h => by cases h) (by kernel_rfl) (fun _ h => by cases h) spongePlays_row_tie rfl ⟨rfl, rfl⟩ (by kernel_rfl) rfl
    (fun f fn hf hfn => by
      obtain rfl : f = 4 := Option.some.inj ((show Tryd.prog.funcNamed "vouch/vouchlaw2.SpongePlays" = some 4 by kernel_rfl).symm.trans hf) |>.symm
      obtain rfl : fn = Tryd.f4 := (Option.some.inj (Tryd.func4.symm.trans hfn)).symm
      exact ⟨by kernel_rfl, fun j t ht => by
        rw [Tryd.params4] at ht
        have hm : t ∈ ([26] : List TypeId) := by simpa using Array.mem_of_getElem? ht
        have hall : (([26] : List TypeId).all fun u => !Tryd.prog.wantsStandIn u) = true := by kernel_rfl
        exact (show Tryd.prog.wantsStandIn t = false by simpa using List.all_eq_true.1 hall t hm)⟩)
    (by kernel_rfl)
end Go.Proofs.YtfidjeoeaeghhaaDoor
