/- common, find, Get. -/
import Derived.Test.YtfhindffmghlaaaDoorG06
import Derived.Deep.RegionHeld3
import Derived.WalkSpells
set_option linter.unusedVariables false
set_option linter.unusedSimpArgs false
namespace Go.Proofs.YtfhindffmghlaaaDoor
open Go.RowKit
theorem common_step {a b : List UInt8} {k : Nat} (ha : k < a.length) (hb : k < b.length) : common (a.drop k) (b.drop k) = if a[k] = b[k] then common (a.drop (k + 1)) (b.drop (k + 1)) + 1 else 0 := by
  rw [List.drop_eq_getElem_cons ha, List.drop_eq_getElem_cons hb]
  rfl
theorem common_end {a b : List UInt8} {k : Nat} (h : a.length ≤ k ∨ b.length ≤ k) : common (a.drop k) (b.drop k) = 0 := by
  rcases h with h | h
  · rw [List.drop_eq_nil_of_le h]; rfl
  · rw [List.drop_eq_nil_of_le h]
    cases a.drop k <;> rfl
set_option maxHeartbeats 1000000 in
set_option maxRecDepth 20000 in
theorem common_calls (A : Option Addr) (c B : Nat) (a : List UInt8) (A2 : Option Addr) (c2 B2 : Nat) (b : List UInt8) (w : World) (hl : a.length ≤ 1099511627776) (hs : Seq w B A (bytes a)) (hs2 : Seq w B2 A2 (bytes b)) :
    Calls Tryd.prog 92 #[.slice A a.length c, .slice A2 b.length c2] w fun e w' => e = .returned (.int .i64 (common a b : Int)) ∧ ∃ m, w' = w.drewN m := by
  have HS := Lib.hid hs
  have HS2 := Lib.hid hs2
  clear hs hs2
  go_enter Tryd.func92, Tryd.ntmps92
  go_wp2_with fail
  go_loopw [5] (fun i wr => ∃ k : Nat, k ≤ a.length ∧ i = .int .i64 k ∧ common a b = k + common (a.drop k) (b.drop k) ∧ ∃ m, wr = w.drewN m) (fun i _ => a.length - (intOf i).toNat)
  case atStart => exact ⟨0, by omega, rfl, by simp, 0, rfl⟩
  case round =>
    obtain ⟨k, hk, rfl, hcm, m, hm⟩ := hrel
    have hsA : Seq wr B A (bytes a) := by rw [hm]; exact HS.out.drewN m
    have hsB : Seq wr B2 A2 (bytes b) := by rw [hm]; exact HS2.out.drewN m
    have HM := Lib.hid hm
    have HC := Lib.hid hcm
    clear hm hcm
    by_cases h1 : k < a.length
    · have d1 : decide ((k : Int) < (a.length : Int)) = true := by simp; omega
      have l1 : (k : Int) < (a.length : Int) := by omega
      obtain ⟨ad, rfl, _, hc1⟩ := hsA.byte k h1
      by_cases h2 : k < b.length
      · have d2 : decide ((k : Int) < (b.length : Int)) = true := by simp; omega
        have l2 : (k : Int) < (b.length : Int) := by omega
        obtain ⟨ad2, rfl, _, hc2⟩ := hsB.byte k h2
        have hst := common_step h1 h2
        by_cases h3 : a[k] = b[k]
        · rw [if_pos h3] at hst
          rw [← h3] at hc2
          have HSt := Lib.hid hst
          clear hst h3 hsA hsB
          generalize a[k] = x at *
          have deq : (by8 x == by8 x) = true := by simp
          go_wp2_with fail
          go_quiet (fail)
          go_wp2_with fail
          exact ⟨⟨k + 1, by omega, by go_num, by rw [HC.out, HSt.out]; omega, m + nq, by rw [HM.out, World.drewN_drewN]⟩, by simp [intOf]; omega⟩
        · rw [if_neg h3] at hst
          have HSt := Lib.hid hst
          have deq : (by8 a[k] == by8 b[k]) = false := by rw [by8_beq]; simpa using h3
          clear hst h3 hsA hsB
          generalize a[k] = x at *
          generalize b[k] = y at *
          go_wp2_with fail
          go_quiet (fail)
          go_wp2_with fail
          go_ret
          exact ⟨by rw [HC.out, HSt.out]; rfl, m + nq, by rw [HM.out, World.drewN_drewN]⟩
      · have d2 : decide ((k : Int) < (b.length : Int)) = false := by simp; omega
        have d2' : decide (k < b.length) = false := decide_eq_false h2
        have HE := Lib.hid (common_end (a := a) (b := b) (k := k) (Or.inr (by omega)))
        clear hsA hsB
        go_wp2_with fail
        go_quiet (fail)
        go_wp2_with fail
        go_ret
        exact ⟨by rw [HC.out, HE.out]; rfl, m + nq, by rw [HM.out, World.drewN_drewN]⟩
    · have d1 : decide ((k : Int) < (a.length : Int)) = false := by simp; omega
      have d1' : decide (k < a.length) = false := decide_eq_false h1
      have HE := Lib.hid (common_end (a := a) (b := b) (k := k) (Or.inl (by omega)))
      clear hsA hsB
      go_wp2_with fail
      go_quiet (fail)
      go_wp2_with fail
      go_ret
      exact ⟨by rw [HC.out, HE.out]; rfl, m + nq, by rw [HM.out, World.drewN_drewN]⟩
theorem TreeAt.drewN {w : World} {base : Nat} {t : Tr} {v : Value} {F : Nat → Prop} (h : TreeAt w base t v F) (n : Nat) : TreeAt (w.drewN n) base t v F :=
  TreeAt.kept ((Kept.refl w (fun _ => False)).drewN n) (fun _ hf => hf.elim) h (fun _ _ hf => hf)
theorem SeqB.drewN {w : World} {A : Option Addr} {l : List UInt8} (h : SeqB w A l) (n : Nat) : SeqB (w.drewN n) A l := h
theorem findT_node (p : List UInt8) (ks : Nat → Tr) (val l : List UInt8) : findT (.node p ks val) l = if p <+: l then (match l.drop p.length with | [] => .node p ks val | x :: r => findT (ks x.toNat) r) else .nil := by
  rw [findT]
  rfl
/-- A path of nibbles. -/
def Nibs (l : List UInt8) : Prop := ∀ x ∈ l, x.toNat < 16
theorem Nibs.drop {l : List UInt8} (h : Nibs l) (k : Nat) : Nibs (l.drop k) := fun x hx => h x (List.mem_of_mem_drop hx)
theorem Nibs.tail {x : UInt8} {l : List UInt8} (h : Nibs (x :: l)) : Nibs l := fun y hy => h y (List.mem_cons_of_mem _ hy)
theorem nib_nibs (l : List UInt8) : Nibs (nib l) := by
  intro y hy
  unfold nib at hy
  rw [List.mem_flatMap] at hy
  obtain ⟨x, _, hx⟩ := hy
  have hxl := x.toNat_lt
  simp only [List.mem_cons, List.mem_nil_iff, or_false] at hx
  rcases hx with rfl | rfl
  · have := by8_hi x
    unfold by8 at this
    omega
  · rw [UInt8.toNat_and]
    have : x.toNat &&& (15 : UInt8).toNat = x.toNat % 16 := Nat.and_two_pow_sub_one_eq_mod x.toNat 4
    omega
set_option maxHeartbeats 2000000 in
set_option maxRecDepth 20000 in
theorem find_calls (base : Nat) (t : Tr) (v : Value) (F : Nat → Prop) (A : Option Addr) (c : Nat) (l : List UInt8) (w : World) (hc : l.length ≤ c) (hcm : c ≤ maxLen) (hn : Nibs l) (ht : TreeAt w base t v F) (hs : SeqB w A l) :
    Calls Tryd.prog 58 #[v, .slice A l.length c] w fun e w' => ∃ v', e = .returned v' ∧ (∃ F', TreeAt w base (findT t l) v' F') ∧ ∃ m, w' = w.drewN m := by
  unfold maxLen at hcm
  have HT := Lib.hid ht
  have HS := Lib.hid hs
  have HN := Lib.hid hn
  clear ht hs hn
  go_enter Tryd.func58, Tryd.ntmps58
  go_wp2_with fail
  go_loopw [0, 1] (fun v1 s1 wr => ∃ (t1 : Tr) (F1 : Nat → Prop) (A1 : Option Addr) (c1 : Nat) (l1 : List UInt8), s1 = .slice A1 l1.length c1 ∧ l1.length ≤ c1 ∧ c1 ≤ 9223372036854775807 ∧ Nibs l1 ∧ TreeAt w base t1 v1 F1 ∧ SeqB w A1 l1 ∧ findT t1 l1 = findT t l ∧ ∃ m, wr = w.drewN m) (fun _ s1 _ => lenV s1)
  case atStart => exact ⟨t, F, A, c, l, rfl, hc, hcm, HN.out, HT.out, HS.out, rfl, 0, rfl⟩
  case round =>
    clear HT HS HN
    obtain ⟨t1, F1, A1, c1, l1, rfl, hc1, hm1, hn1, ht1, hs1, hf1, m, hm⟩ := hrel
    cases t1 with
    | nil =>
      obtain ⟨rfl, _⟩ := ht1
      have HF := Lib.hid hf1
      have HM := Lib.hid hm
      clear hf1 hm hs1 hn1
      go_wp2_with fail
      go_ret
      refine ⟨_, rfl, ⟨fun _ => False, ?_⟩, m, HM.out⟩
      rw [← HF.out]
      exact ⟨rfl, fun _ h => h⟩
    | node p ks val =>
      have ht0 := ht1
      obtain ⟨g, ⟨Ap, cp, p'⟩, ⟨Av, cv, val'⟩, kv, Fk, rfl, hbg, hB, rfl, hop, rfl, hov, hvn, hk, hkg, hkd, hF⟩ := ht1
      simp only at hop hov hf1
      have hBr : Blk wr g 99 (tab 18 (nodeV (.slice Ap p'.length cp) kv (.slice Av val'.length cv))) := by rw [hm]; exact hB
      have q0 : wr.cell? ⟨g, 0, none⟩ = some (.slice Ap p'.length cp) := hBr.at_ 0 (by omega)
      have hsp := Seq.of_own hop
      rw [findT_node] at hf1
      have hcl := (prefix_calls A1 c1 _ l1 Ap cp _ p' wr hc1 (by rw [hm]; exact hs1.seq.drewN m) (by rw [hm]; exact hsp.drewN m)).mono (fun e w' ⟨h1, h2⟩ => (⟨h1, h2.symm⟩ : e = _ ∧ wr = w'))
      by_cases hpre : p' <+: l1
      · rw [if_pos hpre] at hf1
        rw [decide_eq_true hpre] at hcl
        have hle := hpre.length_le
        have hcut := hs1.cut (k := p'.length) hc1
        have hnd := hn1.drop p'.length
        have hrl : (l1.drop p'.length).length = l1.length - p'.length := List.length_drop
        have HCl := Lib.hid hcl
        have HM := Lib.hid hm
        have HCut := Lib.hid hcut
        have HT0 := Lib.hid ht0
        have HB := Lib.hid hBr
        have HK := Lib.hid hk
        have n1 : (0 : Int) ≤ (p'.length : Int) := by omega
        have l2 : (p'.length : Int) ≤ (l1.length : Int) := by omega
        cases hr : l1.drop p'.length with
        | nil =>
          rw [hr] at hf1 hrl
          have hz : l1.length - p'.length = 0 := by rw [← hrl]; rfl
          have HF := Lib.hid hf1
          have hz0 : ((l1.length : Int) - (p'.length : Int)) = 0 := by omega
          clear hcl hm hcut ht0 hBr hk hf1 hr hrl hs1 hn1 hnd hB hop hov hsp hvn hkg hkd hF hpre
          by_cases hcc : c1 = p'.length
          · subst hcc
            go_wp2_with (go_at_call 82; refine HCl.out.mono ?_; rintro e1 w1 ⟨rfl, rfl⟩)
            go_ret
            exact ⟨_, rfl, ⟨F1, by rw [← HF.out]; exact HT0.out⟩, m, HM.out⟩
          · go_wp2_with (go_at_call 82; refine HCl.out.mono ?_; rintro e1 w1 ⟨rfl, rfl⟩)
            go_ret
            exact ⟨_, rfl, ⟨F1, by rw [← HF.out]; exact HT0.out⟩, m, HM.out⟩
        | cons x r =>
          rw [hr] at hf1 hrl hcut hnd HCut
          have hrl' : l1.length - p'.length = r.length + 1 := by rw [← hrl]; rfl
          have hx16 : x.toNat < 16 := hnd x (by simp)
          have hcc : ¬ c1 = p'.length := by omega
          rw [if_neg hcc] at HCut
          obtain ⟨a1, rfl, _, _⟩ := hs1 (by omega)
          obtain ⟨adr, hadr, _, hcx⟩ := HCut.out (by simp)
          injection hadr with hadr
          subst hadr
          have hcx0 := hcx 0 (by simp)
          rw [add_add', Nat.add_zero] at hcx0
          have hcx1 : wr.cell? (a1.add p'.length) = some (.int .u8 (by8 x)) := by rw [hm]; exact hcx0
          have qk : wr.cell? ⟨g, 1 + x.toNat, none⟩ = some (kv x.toNat) := by
            have := hBr.at_ (1 + x.toNat) (by omega)
            rw [this]
            unfold nodeV
            rw [if_neg (by omega), if_pos (by omega), Nat.add_sub_cancel_left]
          have ex : (by8 x).toNat = x.toNat := by unfold by8; omega
          have bx0 : 0 ≤ by8 x := by8_nonneg x
          have bx1 : by8 x < 16 := by unfold by8; omega
          have hkx := hk x.toNat hx16
          have hcut2 := HCut.out.cut (k := 1) (cap := c1 - p'.length) (by simp; omega)
          have HF := Lib.hid hf1
          have HKx := Lib.hid hkx
          have HCut2 := Lib.hid hcut2
          have HNr := Lib.hid hnd.tail
          have HRl := Lib.hid hrl'
          have l3 : 1 ≤ l1.length - p'.length := by omega
          have l4 : (0 : Int) < ((l1.length - p'.length : Nat) : Int) := by omega
          clear hcl hm hcut ht0 hBr hk hf1 hr hrl hs1 hn1 hnd hB hop hov hsp hvn hkg hkd hF hpre hkx hcut2 hcx hcx0 hrl' HCut HT0 HB HK
          by_cases hc2 : c1 - p'.length = 1
          · go_wp2_with (go_at_call 82; refine HCl.out.mono ?_; rintro e1 w1 ⟨rfl, rfl⟩)
            go_quiet (fail)
            go_wp2_with fail
            have hrl := HRl.out
            have hsq := HCut2.out
            rw [if_pos hc2] at hsq
            exact ⟨⟨ks x.toNat, Fk x.toNat, some (a1.add p'.length), 0, r, by rw [show l1.length - p'.length - 1 = r.length by omega], by omega, by omega, HNr.out, HKx.out, hsq, HF.out, m + nq, by rw [HM.out, World.drewN_drewN]⟩, by simp [lenV]; omega⟩
          · go_wp2_with (go_at_call 82; refine HCl.out.mono ?_; rintro e1 w1 ⟨rfl, rfl⟩)
            go_quiet (fail)
            go_wp2_with fail
            have hrl := HRl.out
            have hsq := HCut2.out
            rw [if_neg hc2] at hsq
            exact ⟨⟨ks x.toNat, Fk x.toNat, some ((a1.add p'.length).add 1), c1 - p'.length - 1, r, by rw [show l1.length - p'.length - 1 = r.length by omega]; rfl, by omega, by omega, HNr.out, HKx.out, hsq, HF.out, m + nq, by rw [HM.out, World.drewN_drewN]⟩, by simp [lenV]; omega⟩
      · rw [if_neg hpre] at hf1
        rw [decide_eq_false hpre] at hcl
        have HF := Lib.hid hf1
        have HM := Lib.hid hm
        have HCl := Lib.hid hcl
        clear hf1 hm hcl hs1 hn1 hB hop hov hsp hvn hkg hkd hF hpre hk ht0 hBr
        go_wp2_with (go_at_call 82; refine HCl.out.mono ?_; rintro e1 w1 ⟨rfl, rfl⟩)
        go_ret
        refine ⟨_, rfl, ⟨fun _ => False, ?_⟩, m, HM.out⟩
        rw [← HF.out]
        exact ⟨rfl, fun _ h => h⟩
end Go.Proofs.YtfhindffmghlaaaDoor
/- Get. -/
namespace Go.Proofs.YtfhindffmghlaaaDoor
open Go.RowKit
/-- A trie in memory: its head, its tree. -/
def TrieAt (w : World) (base gt : Nat) (t : Tr) (n : Nat) (F : Nat → Prop) : Prop := ∃ v, Blk w gt 82 #[v, .int .i64 (n : Int)] ∧ TreeAt w base t v F
theorem TrieAt.below {w w' : World} {base gt n : Nat} {t : Tr} {F : Nat → Prop} (h : TrieAt w base gt t n F) (hb : Below w.heap.size w w') : TrieAt w' base gt t n F := by
  obtain ⟨v, h1, h2⟩ := h
  exact ⟨v, h1.below hb h1.lt, h2.below hb⟩
/-- What Get answers: the value, or none. -/
def GetPost (w : World) (val : List UInt8) (e : Ending) (w' : World) : Prop :=
  ∃ (A : Option Addr) (c : Nat), e = .returned (.tuple #[.slice A val.length c, .bool (!val.isEmpty)]) ∧ w'.ownsRow w.heap.size 5 1 (.slice A val.length c) val.length (bytes val) ∧ Below w.heap.size w w'
set_option maxHeartbeats 2000000 in
set_option maxRecDepth 20000 in
theorem get_calls (base gt : Nat) (t : Tr) (n : Nat) (F : Nat → Prop) (A : Option Addr) (c B : Nat) (key : List UInt8) (w : World) (hl : key.length ≤ 140737488355328) (hB : B ≤ w.heap.size) (ht : TrieAt w base gt t n F) (hs : Seq w B A (bytes key)) (hvl : (getT t key).length ≤ 1099511627776) :
    Calls Tryd.prog 35 #[.pointer (some ⟨gt, 0, none⟩), .slice A key.length c] w (GetPost w (getT t key)) := by
  obtain ⟨v, hb, htr⟩ := ht
  have q0 : w.cell? ⟨gt, 0, none⟩ = some v := hb.cell 0
  have HS := Lib.hid hs
  have HT := Lib.hid htr
  have HBk := Lib.hid hb
  have hnl := nib_length key
  have HNl := Lib.hid hnl
  have HNb := Lib.hid (nib_nibs key)
  have hgv : getT t key = valueT (findT t (nib key)) := rfl
  have HG := Lib.hid hgv
  have HBd := Lib.hid (below_drewN (Below.refl w.heap.size w) 1)
  clear hs htr hb hnl hgv
  go_enter Tryd.func35, Tryd.ntmps35
  go_wp2_with fail
  go_region_held3 (fun w' => w'.cell? ⟨gt, 0, none⟩ = some v) (first | exact k2 | exact k1 | exact q0 | go_keep)
    (first
      | (go_at_call 52; refine (nibbles_calls A c B key w.drew (by omega) HS.out.drew hB).mono ?_; rintro e w1 ⟨A1, c1, rfl, ho1, hb1⟩; have hb1' := HBd.out.trans hb1; have k1 : w1.cell? ⟨gt, 0, none⟩ = some v := (hb1'.cell (p := ⟨gt, 0, none⟩) HBk.out.lt).trans q0; have hz1 := hb1'.size; have HO1 := Lib.hid ho1; have HB1 := Lib.hid hb1'; clear ho1 hb1 hb1')
      | (go_at_call 58; refine (find_calls base t v F A1 c1 (nib key) w1 (own_cap HO1.out) (own_capM HO1.out) HNb.out (HT.out.below HB1.out) (SeqB.of_own HO1.out)).mono ?_; rintro e w2 ⟨v2, rfl, ⟨F2, ht2⟩, m2, hm2⟩; have HT2 := Lib.hid ht2; have k2 : w2.cell? ⟨gt, 0, none⟩ = some v := hm2.symm ▸ (show (w1.drewN m2).cell? ⟨gt, 0, none⟩ = some v from k1); have HM2 := Lib.hid hm2; clear ht2 hm2))
  cases hf : findT t (nib key) with
  | nil =>
    have hval : getT t key = [] := by rw [HG.out, hf]; rfl
    have ht2 := HT2.out
    rw [hf] at ht2
    obtain ⟨rfl, _⟩ := ht2
    have HVal := Lib.hid hval
    clear hf hval
    go_wp2_with fail
    go_ret2
    unfold GetPost
    rw [HVal.out]
    exact ⟨none, 0, rfl, World.ownsRow_nil _ _ _ _, by rw [HM2.out]; exact below_drewN HB1.out m2⟩
  | node p ks val =>
    have hval : getT t key = val := by rw [HG.out, hf]; rfl
    have ht2 := HT2.out
    rw [hf] at ht2
    obtain ⟨g, ⟨Ap, cp, p'⟩, ⟨Av, cv, val'⟩, kv, Fk, rfl, hbg, hB2, rfl, hop, rfl, hov, hvn, _⟩ := ht2
    simp only at hop hov hvn hval
    have hBr : Blk w2 g 99 (tab 18 (nodeV (.slice Ap p'.length cp) kv (.slice Av val'.length cv))) := by rw [HM2.out]; exact hB2
    have q17 : w2.cell? ⟨g, 17, none⟩ = some (.slice Av val'.length cv) := hBr.at_ 17 (by omega)
    have hb2 : Below w.heap.size w w2 := by rw [HM2.out]; exact below_drewN HB1.out m2
    have hov2 : w2.ownsRow base 5 1 (.slice Av val'.length cv) val'.length (bytes val') := by rw [HM2.out]; exact hov
    rw [hval] at hvl
    have HVal := Lib.hid hval
    have HB2 := Lib.hid hb2
    have HO2 := Lib.hid hov2
    clear hf hval hop hov hbg hBr hb2 hov2 hB2
    by_cases hv0 : val' = []
    · subst hv0
      have hvn' := hvn rfl
      unfold pcV at hvn'
      injection hvn' with e1 e2 e3
      subst e1 e3
      clear hvn
      have hq := Lib.run_eql_slice_nil (P := Tryd.prog) w2 24 5 none 0 0 0 0 Tryd.underlying24
      go_wp2_with fail
      go_ret2
      unfold GetPost
      rw [HVal.out]
      exact ⟨none, 0, rfl, World.ownsRow_nil _ _ _ _, HB2.out⟩
    · have hpos : 0 < val'.length := List.length_pos_iff.2 hv0
      obtain ⟨gv, rfl, _⟩ := own_form HO2.out hpos
      have hie : val'.isEmpty = false := by simpa using hv0
      have HIE := Lib.hid hie
      have hq := Lib.run_eql_slice_nil (P := Tryd.prog) w2 24 5 (some ⟨gv, 0, none⟩) val'.length cv 0 0 Tryd.underlying24
      clear hvn hv0 hie
      go_wp2_with (go_at_call 54; refine (clone_calls _ cv _ val' w2 (by omega) (Nat.le_refl _) (Seq.of_own HO2.out)).mono ?_; rintro e3 w3 ⟨A3, c3, rfl, ho3, hb3⟩; have HO3 := Lib.hid ho3; have HB3 := Lib.hid hb3; clear ho3 hb3)
      go_ret2
      unfold GetPost
      rw [HVal.out, HIE.out]
      exact ⟨A3, c3, rfl, own_mono HO3.out HB2.out.size, HB2.out.trans (HB3.out.mono HB2.out.size)⟩
end Go.Proofs.YtfhindffmghlaaaDoor
