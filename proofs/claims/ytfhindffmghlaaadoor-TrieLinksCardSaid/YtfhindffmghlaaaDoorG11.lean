/- drop. -/
import Derived.Test.YtfhindffmghlaaaDoorG10
import Derived.Deep.RegionLaw
import Derived.Test.YtfhindffmghlaaaDoorG09
import Derived.Test.YtfhindffmghlaaaDoorG01
import Derived.Laws.Pointers
set_option linter.unusedVariables false
set_option linter.unusedSimpArgs false
namespace Go.Proofs.YtfhindffmghlaaaDoor
open Go.RowKit
/-- What drop is handed. -/
structure DropPre (base M D : Nat) (t : Tr) (v : Value) (F : Nat → Prop) (A : Option Addr) (c : Nat) (l : List UInt8) (w : World) : Prop where
  cap : l.length ≤ c
  capM : c ≤ maxLen
  nibs : Nibs l
  bound : M ≤ 1073741824
  deep : D ≤ M
  floor : base ≤ w.heap.size
  dep : Dep t D
  bnd : Bnd M t
  tree : TreeAt w base t v F
  path : SeqB w A l
  there_ : findT t l ≠ .nil
set_option maxHeartbeats 4000000 in
set_option maxRecDepth 20000 in
theorem drop_calls (base M : Nat) : ∀ (t : Tr) (D : Nat) (v : Value) (F : Nat → Prop) (A : Option Addr) (c : Nat) (l : List UInt8) (w : World), DropPre base M D t v F A c l w →
    Calls Tryd.prog 57 #[v, .slice A l.length c] w (TreePost w base F (dropT t l)) := by
  intro t
  induction t with
  | nil =>
    intro D v F A c l w h
    exact absurd (by rw [findT]) h.there_
  | node p ks val ih =>
    intro D v F A c l w h
    obtain ⟨g, ⟨Ap, cp, p'⟩, ⟨An, cn, val'⟩, kv, Fk, rfl, rfl, rfl, hN, hF⟩ := h.tree.parts
    have q0 : w.cell? ⟨g, 0, none⟩ = some (.slice Ap p'.length cp) := hN.blk.at_ 0 (by omega)
    have hlc := h.cap
    have hcm := h.capM
    unfold maxLen at hcm
    have hM := h.bound
    have hDM := h.deep
    have hpM : p'.length ≤ M := h.bnd.1
    have hth := h.there_
    rw [findT_node] at hth
    simp only at hth
    split at hth
    · rename_i hpre
      have hpl : p'.length ≤ l.length := hpre.length_le
      have hdrop := dropT_node p' ks val' l
      have HN := Lib.hid hN
      have HPre := Lib.hid h
      have HF := Lib.hid hF
      have HIh := Lib.hid ih
      have n1 : (p'.length : Int) ≤ (l.length : Int) := by omega
      clear hN h hF ih hpre
      cases hr : l.drop p'.length with
      | nil =>
        rw [hr] at hdrop
        have hz : l.length = p'.length := by
          have := congrArg List.length hr
          rw [List.length_drop] at this
          simp at this
          omega
        have HD := Lib.hid hdrop
        have hz0 : (((l.length - p'.length : Nat) : Int) == 0) = true := by rw [beq_iff_eq]; omega
        have hsv : NodeAt (w.setCell ⟨g, 17, none⟩ (.slice none 0 0)) base g (Ap, cp, p') (none, 0, []) kv ks Fk := HN.out.setValue (v2 := (none, 0, [])) (World.ownsRow_nil _ _ _ _) (fun _ => rfl)
        have hk1 : Kept w (w.setCell ⟨g, 17, none⟩ (.slice none 0 0)) F := (Kept.refl w F).only (Only.setCell w ⟨g, 17, none⟩ _) (Or.inl ((HF.out g).2 (Or.inl rfl)))
        have hfl : base ≤ (w.setCell ⟨g, 17, none⟩ (.slice none 0 0)).heap.size := by rw [size_setCell]; exact HPre.out.floor
        have hcall := fold_calls base g (Ap, cp, p') (none, 0, []) kv ks Fk _ hsv hfl M hM hpM (fun i => HPre.out.bnd.2.2.2 i)
        have q17 : w.cell? ⟨g, 17, none⟩ = some (.slice An val'.length cn) := HN.out.blk.at_ 17 (by omega)
        have f17 := HN.out.blk.frozen 17
        have HCall := Lib.hid hcall
        have HK1 := Lib.hid hk1
        clear hdrop hr hz hsv hk1 hfl hcall hth
        by_cases hcc : c = p'.length
        all_goals
          go_enter Tryd.func57, Tryd.ntmps57
          go_wp2_with (go_at_call 89; refine HCall.out.mono ?_; rintro e1 w1 ⟨v1, F1, rfl, ht1, hk1, hf1⟩)
          go_ret
          show TreePost w base F (dropT (.node p' ks val') l) _ _
          rw [HD.out]
          exact ⟨v1, F1, rfl, ht1, HK1.out.trans hk1 (fun b hb => Or.inl ((HF.out b).2 hb)), fun b hb => (hf1 b hb).imp (fun h => (HF.out b).2 h) (fun h => by rw [size_setCell] at h; exact h)⟩
      | cons x r =>
        rw [hr] at hdrop hth
        simp only at hth
        have hrl : l.length - p'.length = r.length + 1 := by
          have := congrArg List.length hr
          rw [List.length_drop] at this
          simpa using this
        have hcc : ¬ c = p'.length := by omega
        have hx16 : x.toNat < 16 := HPre.out.nibs x (List.mem_of_mem_drop (by rw [hr]; simp))
        have hcut := HPre.out.path.cut (k := p'.length) hlc
        rw [if_neg hcc, hr] at hcut
        obtain ⟨a1, rfl, _, _⟩ := HPre.out.path (by omega)
        obtain ⟨adr, hadr, hblk, hcx⟩ := hcut (by simp)
        injection hadr with hadr
        subst hadr
        have hcx0 := hcx 0 (by simp)
        rw [add_add', Nat.add_zero] at hcx0
        have ex : (by8 x).toNat = x.toNat := by unfold by8; omega
        have bx0 : 0 ≤ by8 x := by8_nonneg x
        have bx1 : by8 x < 16 := by unfold by8; omega
        have hcut2 := hcut.cut (k := 1) (cap := c - p'.length) (by simp; omega)
        obtain ⟨m, hm⟩ : ∃ m, l.length - p'.length = m := ⟨_, rfl⟩
        obtain ⟨cr, hcr⟩ : ∃ cr, c - p'.length = cr := ⟨_, rfl⟩
        have hm1 : m - 1 = r.length := by omega
        have hz0 : ((m : Int) == 0) = false := by rw [beq_eq_false_iff_ne]; omega
        have l4 : (0 : Int) < (m : Int) := by omega
        have l4n : 0 < m := by omega
        have l5 : (1 : Int) ≤ (m : Int) := by omega
        have l5n : 1 ≤ m := by omega
        have l6 : (m : Int) ≤ (cr : Int) := by omega
        have l7 : r.length ≤ cr - 1 := by omega
        have l8 : cr ≤ 9223372036854775807 := by omega
        have qx1 : w.cell? (a1.add p'.length) = some (.int .u8 (by8 x)) := hcx0
        have qk1 : w.cell? ⟨g, 1 + x.toNat, none⟩ = some (kv x.toNat) := (HN.out.blk.at_ (1 + x.toNat) (by omega)).trans (by unfold nodeV; rw [if_neg (by omega), if_pos (by omega), Nat.add_sub_cancel_left])
        have hneb : (a1.add p'.length).block ≠ g := by obtain ⟨cs, hc⟩ := hblk; exact Blk.ne hc HN.out.blk (by decide)
        rw [hcr] at hcut2
        have HP := Lib.hid hdrop
        have HR := Lib.hid hr
        have HTh := Lib.hid hth
        have HBlk := Lib.hid hblk
        have hdk : Dep (ks x.toNat) (D - p'.length - 1) := HPre.out.dep.kid x.toNat
        have HDk := Lib.hid hdk
        have l10 : D - p'.length - 1 ≤ M := by omega
        by_cases hc2 : cr = 1
        · subst hc2
          have hseq := hcut2
          first | rw [if_pos rfl] at hseq | rw [if_pos trivial] at hseq
          have hpre : DropPre base M (D - p'.length - 1) (ks x.toNat) (kv x.toNat) (Fk x.toNat) (some (a1.add p'.length)) 0 r w.drew :=
            ⟨by omega, by unfold maxLen; omega, fun y hy => HPre.out.nibs y (List.mem_of_mem_drop (by rw [HR.out]; exact List.mem_cons_of_mem _ hy)), hM, l10, HPre.out.floor, HDk.out, HPre.out.bnd.2.2.2 x.toNat, (HN.out.kids x.toNat hx16).drewN 1, hseq.drewN 1, HTh.out⟩
          have HCall := Lib.hid (HIh.out x.toNat (D - p'.length - 1) (kv x.toNat) (Fk x.toNat) (some (a1.add p'.length)) 0 r w.drew hpre)
          clear hdrop hrl hr hcut hcx hcut2 hth hblk hdk hseq hpre l7 l8 l10 hcx0
          go_enter Tryd.func57, Tryd.ntmps57
          go_upto_region 4 with fail
          clear hm hcr
          go_region_law (first | (go_simp; go_at_call 57; refine HCall.out.mono ?_; rintro e2 w2 ⟨v2, F2, rfl, ht2, hk2, hf2⟩; obtain ⟨o2, rfl⟩ := ht2.ptr; have hNx : Nodes w.drew (Fk x.toNat) := (HN.out.kids x.toNat hx16).nodes; have k1 : w2.cell? (a1.add p'.length) = some (.int .u8 (by8 x)) := (World.cell?_of_block (w := w.drew) (by obtain ⟨cs, hc⟩ := HBlk.out; exact (hk2.blk_ne hNx hc.drew (by decide)).trans hc.symm)).trans qx1; have k2 : w2.cell? ⟨g, 1 + x.toNat, none⟩ = some (kv x.toNat) := (World.cell?_of_block (w := w.drew) ((hk2.blk HN.out.blk.drew (HN.out.notIn x.toNat hx16)).trans HN.out.blk.symm)).trans qk1; have f2 : w2.frozen? ⟨g, 1 + x.toNat, none⟩ = false := (hk2.blk HN.out.blk.drew (HN.out.notIn x.toNat hx16)).frozen _; have k3 : (w2.setCell ⟨g, 1 + x.toNat, none⟩ (.pointer o2)).cell? (a1.add p'.length) = some (.int .u8 (by8 x)) := ((Only.setCell w2 ⟨g, 1 + x.toNat, none⟩ (.pointer o2)).cell hneb).trans k1; have HT2 := Lib.hid ht2; have HK2 := Lib.hid hk2; have HF2 := Lib.hid hf2; clear ht2 hk2 hf2))
          all_goals
            have hn3 := (HN.out.below (below_drewN (Below.refl _ _) 1)).setKid hx16 HK2.out (fun _ hb => hb) HT2.out HF2.out
            have hk3 : Kept w (w2.setCell ⟨g, 1 + x.toNat, none⟩ (.pointer o2)) F := ((((Kept.refl w F).drewN 1).trans HK2.out (fun b hb => Or.inl ((HF.out b).2 (Or.inr ⟨_, hx16, hb⟩)))).only (Only.setCell _ ⟨g, 1 + x.toNat, none⟩ _) (Or.inl ((HF.out g).2 (Or.inl rfl))))
            have hf3 : ∀ b, footN g (upd Fk x.toNat F2) b → F b ∨ w.heap.size ≤ b := foot_upd HF.out hx16 (fun b hb => HF2.out b hb)
            have hb3 : ∀ i, Bnd M (upd ks x.toNat (dropT (ks x.toNat) r) i) := fun i => by
              unfold upd
              split
              · exact dropT_bnd r HDk.out (by omega) (HPre.out.bnd.2.2.2 x.toNat)
              · exact HPre.out.bnd.2.2.2 i
            have hcall := fold_calls base g (Ap, cp, p') (An, cn, val') _ _ _ _ hn3 (Nat.le_trans HPre.out.floor hk3.size) M hM hpM hb3
            have HCall2 := Lib.hid hcall
            have HK3 := Lib.hid hk3
            have HF3 := Lib.hid hf3
            clear hn3 hk3 hf3 hb3 hcall
            go_wp2_with (go_at_call 89; refine HCall2.out.mono ?_; rintro e4 w4 ⟨v4, F4, rfl, ht4, hk4, hf4⟩)
            go_ret
            show TreePost w base F (dropT (.node p' ks val') l) _ _
            rw [HP.out]
            exact ⟨v4, F4, rfl, ht4, HK3.out.trans hk4 HF3.out, fun b hb => (hf4 b hb).elim (HF3.out b) (fun h => Or.inr (Nat.le_trans HK3.out.size h))⟩
        · have hseq := hcut2
          rw [if_neg hc2] at hseq
          have hpre : DropPre base M (D - p'.length - 1) (ks x.toNat) (kv x.toNat) (Fk x.toNat) (some ((a1.add p'.length).add 1)) (cr - 1) r w.drew :=
            ⟨by omega, by unfold maxLen; omega, fun y hy => HPre.out.nibs y (List.mem_of_mem_drop (by rw [HR.out]; exact List.mem_cons_of_mem _ hy)), hM, l10, HPre.out.floor, HDk.out, HPre.out.bnd.2.2.2 x.toNat, (HN.out.kids x.toNat hx16).drewN 1, hseq.drewN 1, HTh.out⟩
          have HCall := Lib.hid (HIh.out x.toNat (D - p'.length - 1) (kv x.toNat) (Fk x.toNat) (some ((a1.add p'.length).add 1)) (cr - 1) r w.drew hpre)
          clear hdrop hrl hr hcut hcx hcut2 hth hblk hdk hseq hpre l7 l8 l10 hcx0
          go_enter Tryd.func57, Tryd.ntmps57
          go_upto_region 4 with fail
          clear hm hcr
          go_region_law (first | (go_simp; go_at_call 57; refine HCall.out.mono ?_; rintro e2 w2 ⟨v2, F2, rfl, ht2, hk2, hf2⟩; obtain ⟨o2, rfl⟩ := ht2.ptr; have hNx : Nodes w.drew (Fk x.toNat) := (HN.out.kids x.toNat hx16).nodes; have k1 : w2.cell? (a1.add p'.length) = some (.int .u8 (by8 x)) := (World.cell?_of_block (w := w.drew) (by obtain ⟨cs, hc⟩ := HBlk.out; exact (hk2.blk_ne hNx hc.drew (by decide)).trans hc.symm)).trans qx1; have k2 : w2.cell? ⟨g, 1 + x.toNat, none⟩ = some (kv x.toNat) := (World.cell?_of_block (w := w.drew) ((hk2.blk HN.out.blk.drew (HN.out.notIn x.toNat hx16)).trans HN.out.blk.symm)).trans qk1; have f2 : w2.frozen? ⟨g, 1 + x.toNat, none⟩ = false := (hk2.blk HN.out.blk.drew (HN.out.notIn x.toNat hx16)).frozen _; have k3 : (w2.setCell ⟨g, 1 + x.toNat, none⟩ (.pointer o2)).cell? (a1.add p'.length) = some (.int .u8 (by8 x)) := ((Only.setCell w2 ⟨g, 1 + x.toNat, none⟩ (.pointer o2)).cell hneb).trans k1; have HT2 := Lib.hid ht2; have HK2 := Lib.hid hk2; have HF2 := Lib.hid hf2; clear ht2 hk2 hf2))
          all_goals
            have hn3 := (HN.out.below (below_drewN (Below.refl _ _) 1)).setKid hx16 HK2.out (fun _ hb => hb) HT2.out HF2.out
            have hk3 : Kept w (w2.setCell ⟨g, 1 + x.toNat, none⟩ (.pointer o2)) F := ((((Kept.refl w F).drewN 1).trans HK2.out (fun b hb => Or.inl ((HF.out b).2 (Or.inr ⟨_, hx16, hb⟩)))).only (Only.setCell _ ⟨g, 1 + x.toNat, none⟩ _) (Or.inl ((HF.out g).2 (Or.inl rfl))))
            have hf3 : ∀ b, footN g (upd Fk x.toNat F2) b → F b ∨ w.heap.size ≤ b := foot_upd HF.out hx16 (fun b hb => HF2.out b hb)
            have hb3 : ∀ i, Bnd M (upd ks x.toNat (dropT (ks x.toNat) r) i) := fun i => by
              unfold upd
              split
              · exact dropT_bnd r HDk.out (by omega) (HPre.out.bnd.2.2.2 x.toNat)
              · exact HPre.out.bnd.2.2.2 i
            have hcall := fold_calls base g (Ap, cp, p') (An, cn, val') _ _ _ _ hn3 (Nat.le_trans HPre.out.floor hk3.size) M hM hpM hb3
            have HCall2 := Lib.hid hcall
            have HK3 := Lib.hid hk3
            have HF3 := Lib.hid hf3
            clear hn3 hk3 hf3 hb3 hcall
            go_wp2_with (go_at_call 89; refine HCall2.out.mono ?_; rintro e4 w4 ⟨v4, F4, rfl, ht4, hk4, hf4⟩)
            go_ret
            show TreePost w base F (dropT (.node p' ks val') l) _ _
            rw [HP.out]
            exact ⟨v4, F4, rfl, ht4, HK3.out.trans hk4 HF3.out, fun b hb => (hf4 b hb).elim (HF3.out b) (fun h => Or.inr (Nat.le_trans HK3.out.size h))⟩
    · exact absurd rfl hth
end Go.Proofs.YtfhindffmghlaaaDoor
/- New, Len, Delete. -/
namespace Go.Proofs.YtfhindffmghlaaaDoor
open Go.RowKit
set_option maxRecDepth 20000 in
theorem lenT_calls (base gt : Nat) (t : Tr) (n : Nat) (F : Nat → Prop) (w : World) (ht : TrieAt w base gt t n F) :
    Calls Tryd.prog 32 #[.pointer (some ⟨gt, 0, none⟩)] w (fun e w' => e = .returned (.int .i64 (n : Int)) ∧ w = w') := by
  obtain ⟨v, hb, _⟩ := ht
  have q1 : w.cell? ⟨gt, 1, none⟩ = some (.int .i64 (n : Int)) := hb.cell 1
  clear hb
  go_enter Tryd.func32, Tryd.ntmps32
  go_wp2_with fail
  go_ret
  exact ⟨rfl, rfl⟩
set_option maxRecDepth 20000 in
theorem newT_calls (w : World) : Calls Tryd.prog 37 #[] w (fun e w' => e = .returned (.pointer (some ⟨w.heap.size, 0, none⟩)) ∧ TrieAt w' w.heap.size w.heap.size .nil 0 (fun _ => False) ∧ w' = w.alloc (.cells #[.pointer none, .int .i64 0] 82)) := by
  go_enter Tryd.func37, Tryd.ntmps37
  go_wp2_with fail
  go_ret
  exact ⟨rfl, ⟨.pointer none, Blk.new _ _ _, rfl, fun _ h => h⟩, rfl⟩
/-- What Delete answers. -/
def DelPost (w : World) (base gt : Nat) (t : Tr) (n : Nat) (F : Nat → Prop) (key : List UInt8) (e : Ending) (w' : World) : Prop :=
  if getT t key = [] then e = .returned (.bool false) ∧ Below w.heap.size w w'
  else e = .returned (.bool true) ∧ ∃ F', TrieAt w' base gt (dropT t (nib key)) (n - 1) F' ∧ Kept w w' (footT gt F) ∧ ∀ b, F' b → F b ∨ w.heap.size ≤ b
set_option maxHeartbeats 4000000 in
set_option maxRecDepth 20000 in
theorem delete_calls (base gt M D : Nat) (t : Tr) (n : Nat) (F : Nat → Prop) (A : Option Addr) (c : Nat) (key : List UInt8) (w : World) (hb : base ≤ gt) (hn : n ≤ 1099511627776) (hn1 : getT t key ≠ [] → 1 ≤ n) (hM : M ≤ 1073741824) (hD : D ≤ M) (hk : key.length ≤ 1073741824)
    (hdp : Dep t D) (hbd : Bnd M t) (ht : TrieAt w base gt t n F) (hs : SeqK w A key) :
    Calls Tryd.prog 34 #[.pointer (some ⟨gt, 0, none⟩), .slice A key.length c] w (DelPost w base gt t n F key) := by
  have hgl : (getT t key).length ≤ M := getT_bnd (nib key) hbd
  have HT := Lib.hid ht
  have HS := Lib.hid hs
  have HBd := Lib.hid hbd
  have HDp := Lib.hid hdp
  by_cases h3 : getT t key = []
  · have HG := Lib.hid h3
    clear h3 hn1 ht hs hbd hdp
    go_enter Tryd.func34, Tryd.ntmps34
    go_wp2_with (go_at_call 35; refine (get_calls base gt t n F A c _ key w (by omega) (Nat.le_refl _) HT.out HS.out.seq (by omega)).mono ?_; unfold GetPost; rw [HG.out]; rintro e1 w1 ⟨A1, c1, rfl, _, hb1⟩; have HB1 := Lib.hid hb1; clear hb1)
    go_ret
    unfold DelPost
    rw [if_pos HG.out]
    exact ⟨rfl, HB1.out⟩
  · have hie : (getT t key).isEmpty = false := by simpa using h3
    have hn1' := hn1 h3
    have hft : findT t (nib key) ≠ .nil := fun e => h3 (by unfold getT; rw [e]; rfl)
    have HG := Lib.hid h3
    have HIe := Lib.hid hie
    have HFt := Lib.hid hft
    clear h3 hie hn1 hft ht hs hbd hdp
    go_enter Tryd.func34, Tryd.ntmps34
    go_upto_region 4 with (go_at_call 35; refine (get_calls base gt t n F A c _ key w (by omega) (Nat.le_refl _) HT.out HS.out.seq (by omega)).mono ?_; unfold GetPost; rw [HIe.out]; rintro e1 w2 ⟨A1, c1, rfl, _, hb1⟩; obtain ⟨vt, hbt, htt⟩ := HT.out.below hb1; have HBt2 := Lib.hid hbt; have HTt2 := Lib.hid htt; have HB1 := Lib.hid hb1; clear hbt htt hb1)
    have hk2 : Kept w w2 (footT gt F) := Kept.of_below HB1.out _
    have hs3 := HS.out.below HB1.out
    have hni : ¬ F gt := HT.out.notIn
    have HK2 := Lib.hid hk2
    have HS3 := Lib.hid hs3
    have HNi := Lib.hid hni
    clear hk2 hs3 hni HT
    obtain ⟨ot, rfl⟩ := HTt2.out.ptr
    have q2 : w2.cell? ⟨gt, 0, none⟩ = some (.pointer ot) := HBt2.out.cell 0
    have hnl : (nib key).length = 2 * key.length := nib_length key
    have HNl := Lib.hid hnl
    clear hnl
    go_region_law (first
      | (go_simp; go_at_call 52; refine (nibbles_calls A c w2.heap.size key w2.drew (by omega) HS3.out.seq.drew (Nat.le_refl _)).mono ?_; rintro e3 w3 ⟨A3, c3, rfl, ho3, hb3⟩; have hb3' : Below w2.heap.size w2 w3 := (below_drewN (Below.refl _ _) 1).trans hb3; have k3 : w3.cell? ⟨gt, 0, none⟩ = some (.pointer ot) := (hb3'.cell (p := ⟨gt, 0, none⟩) HBt2.out.lt).trans q2; have HO3 := Lib.hid ho3; have HB3 := Lib.hid hb3'; clear ho3 hb3 hb3')
      | (go_simp; go_at_call 57; have hpre : DropPre base M D t (.pointer ot) F A3 c3 (nib key) w3 := ⟨own_cap HO3.out, own_capM HO3.out, nib_nibs key, hM, hD, by have := HB3.out.size; have := HBt2.out.lt; omega, HDp.out, HBd.out, HTt2.out.below HB3.out, SeqB.of_own HO3.out, HFt.out⟩; refine (drop_calls base M t D (.pointer ot) F A3 c3 (nib key) w3 hpre).mono ?_; clear hpre; rintro e5 w5 ⟨v5, F5, rfl, ht5, hk5, hf5⟩; obtain ⟨o5, rfl⟩ := ht5.ptr; have hbt5 := hk5.blk (HBt2.out.below HB3.out HBt2.out.lt) HNi.out; have k5 : w5.cell? ⟨gt, 0, none⟩ = some (.pointer ot) := hbt5.cell 0; have f5 := hbt5.frozen 0; have HBt5 := Lib.hid hbt5; have HT5 := Lib.hid ht5; have HK5 := Lib.hid hk5; have HF5 := Lib.hid hf5; clear hbt5 ht5 hk5 hf5))
    all_goals
      have hbt6 : Blk (w5.setCell ⟨gt, 0, none⟩ (.pointer o5)) gt 82 #[.pointer o5, .int .i64 (n : Int)] := HBt5.out.set_ 0 _
      have ho5 := Only.setCell w5 ⟨gt, 0, none⟩ (.pointer o5)
      have hg5 : ¬ F5 gt := fun hf => by
        rcases HF5.out gt hf with h8 | h8
        · exact HNi.out h8
        · have := HB3.out.size; have := HBt2.out.lt; omega
      have ht6 : TreeAt (w5.setCell ⟨gt, 0, none⟩ (.pointer o5)) base (dropT t (nib key)) (.pointer o5) F5 := HT5.out.keptT' (Kept.of_only ho5) (fun b hb (e : b = gt) => hg5 (by rw [← e]; exact hb)) (fun b cs hb hc => by
        have e : b = gt := hb
        subst e
        exact Blk.ne hc HBt5.out (by decide) rfl)
      have hk6 : Kept w (w5.setCell ⟨gt, 0, none⟩ (.pointer o5)) (footT gt F) := ((HK2.out.then_below HB3.out).trans HK5.out (fun b hb => Or.inl (Or.inr hb))).only ho5 (Or.inl (Or.inl rfl))
      generalize w5.setCell ⟨gt, 0, none⟩ (.pointer o5) = w6 at *
      have q6 : w6.cell? ⟨gt, 1, none⟩ = some (.int .i64 (n : Int)) := hbt6.cell 1
      have f6 := hbt6.frozen 1
      have HBt6 := Lib.hid hbt6
      have HT6 := Lib.hid ht6
      have HK6 := Lib.hid hk6
      have HG5 := Lib.hid hg5
      clear hbt6 ht6 hk6 hg5 ho5
      go_wp2_with fail
      go_ret
      unfold DelPost
      rw [if_neg HG.out]
      have ho7 := Only.setCell w6 ⟨gt, 1, none⟩ (.int .i64 ((n : Int) - 1))
      have e7 : (n : Int) - 1 = ((n - 1 : Nat) : Int) := by omega
      refine ⟨rfl, F5, ⟨.pointer o5, ?_, HT6.out.keptT' (Kept.of_only ho7) (fun b hb (e : b = gt) => HG5.out (by rw [← e]; exact hb)) (fun b cs hb hc => ?_)⟩, HK6.out.only ho7 (Or.inl (Or.inl rfl)), fun b hb => ?_⟩
      · have := HBt6.out.set_ 1 (.int .i64 ((n : Int) - 1))
        rw [e7] at this ⊢
        exact this
      · have e : b = gt := hb
        subst e
        exact Blk.ne hc HBt6.out (by decide) rfl
      · rcases HF5.out b hb with h8 | h8
        · exact Or.inl h8
        · exact Or.inr (by have := HB3.out.size; have := HK2.out.size; omega)
end Go.Proofs.YtfhindffmghlaaaDoor
/- leaf. -/
namespace Go.Proofs.YtfhindffmghlaaaDoor
open Go.RowKit
section
variable {P : Program}
theorem run_eqItems_ptr (d : Nat) (e : TypeId) (n : Nat) (a : Nat → Option Addr) (he : P.underlying e = some (.pointer (P.pointee e))) (w : World) :
    ∀ is : List Nat, (∀ i ∈ is, i < n) → (Op.eqItems (d + 1) e 1 (tab n fun i => .pointer (a i)) (tab n fun _ => .pointer none) is).run P w = .ok (is.all fun i => (a i).isNone) w
  | [], _ => by simp [Op.eqItems]
  | i :: is, h => by
    have hagg : (isAgg e).run P w = .ok false w := by
      unfold isAgg
      rw [Sem.run_bind, run_underlying he w]
      simp
    have hp : ∀ f : Nat → Option Addr, (part e (tab n fun i => .pointer (f i)) (i * 1)).run P w = .ok (.pointer (f i)) w := fun f => by
      rw [Nat.mul_one]
      have hg : (tab n fun i => Value.pointer (f i))[i]? = some (.pointer (f i)) := tab_get i (h i (by simp))
      simp [part, Sem.run_bind, hagg, hg]
    have ih := run_eqItems_ptr d e n a he w is (fun j hj => h j (by simp [hj]))
    simp only [Op.eqItems, Sem.run_bind, hp, Result.andThen_ok, run_equalIn_pointer_nil w d e (a i) he]
    cases hab : (a i).isNone
    · simp [hab]
    · simp [hab, ih]
end
def ptrOf : Value → Option Addr
  | .pointer o => o
  | _ => none
theorem ptrs_of {w : World} {base g : Nat} {pp vp : Piece} {kv : Nat → Value} {ks : Nat → Tr} {Fk : Nat → Nat → Prop} (h : NodeAt w base g pp vp kv ks Fk) :
    ∃ o : Nat → Option Addr, tab 16 kv = tab 16 (fun i => .pointer (o i)) ∧ ∀ i, i < 16 → (o i).isNone = (ks i).isNil := by
  refine ⟨fun i => ptrOf (kv i), tab_congr fun i hi => ?_, fun i hi => ?_⟩
  · obtain ⟨o, ho⟩ := (h.kids i hi).ptr
    show _ = Value.pointer (ptrOf (kv i))
    rw [ho]; rfl
  · have hk := h.kids i hi
    cases hks : ks i with
    | nil =>
      rw [hks] at hk
      show (ptrOf (kv i)).isNone = _
      rw [hk.1]
      rfl
    | node p k v =>
      rw [hks] at hk
      obtain ⟨_, _, _, _, _, e, _⟩ := hk
      show (ptrOf (kv i)).isNone = _
      rw [e]
      rfl
theorem nils_lit : (tab 16 fun _ => Value.pointer none) = #[.pointer none, .pointer none, .pointer none, .pointer none, .pointer none, .pointer none, .pointer none, .pointer none, .pointer none, .pointer none, .pointer none, .pointer none, .pointer none, .pointer none, .pointer none, .pointer none] := rfl
set_option maxRecDepth 20000 in
theorem eql_ptrs (a : Nat → Option Addr) (W : World) : (Op.equalIn 10000 97 (.agg (tab 16 fun i => .pointer (a i))) (.agg (tab 16 fun _ => .pointer none))).run Tryd.prog W = .ok ((List.range 16).all fun i => (a i).isNone) W := by
  have hi : (Tryd.prog.info? 80).isSome = true := by kernel_rfl
  obtain ⟨i, hi⟩ := Option.isSome_iff_exists.1 hi
  have hc : Tryd.prog.cellsOf 80 = 1 := by kernel_rfl
  rw [run_equalIn_array W 9999 _ _ Tryd.underlying97 hi, hc, run_eqItems_ptr 9998 80 16 a Tryd.underlying80 W _ (fun i hi => by simpa using hi)]
theorem guard_ptrs : Tryd.prog.eqGuardType Tryd.prog.depth 97 = false := by kernel_rfl
set_option maxRecDepth 20000 in
theorem leaf_calls (base g : Nat) (pp vp : Piece) (kv : Nat → Value) (ks : Nat → Tr) (Fk : Nat → Nat → Prop) (w : World) (h : NodeAt w base g pp vp kv ks Fk) :
    Calls Tryd.prog 79 #[.pointer (some ⟨g, 0, none⟩)] w (fun e w' => e = .returned (.bool (leafK ks)) ∧ w = w') := by
  obtain ⟨o, ho, hn⟩ := ptrs_of h
  have H := Lib.hid h
  have hsz : (Tryd.prog.info? 97).map (·.size) = some 16 := by kernel_rfl
  have Hsz := Lib.hid hsz
  have hall : leafK ks = (List.range 16).all fun i => (o i).isNone := by
    unfold leafK
    rw [Bool.eq_iff_iff, List.all_eq_true, List.all_eq_true]
    exact forall_congr' fun i => forall_congr' fun hi => by rw [hn i (by simpa using hi)]
  rw [hall]
  have Ho := Lib.hid ho
  clear ho hn hall hsz h
  have he := eql_ptrs o w
  rw [nils_lit] at he
  generalize ((List.range 16).all fun i => (o i).isNone) = B at *
  have hg := guard_ptrs
  go_enter Tryd.func79, Tryd.ntmps79
  go_wp2_with (refine wpL_load rfl 97 (.tmp 5) rfl (n := 16) 1 rfl _ H.out.blk (by omega) Tryd.underlying97 rfl Hsz.out ?_; rw [load_kids, Ho.out])
  go_ret
  exact ⟨rfl, rfl⟩
end Go.Proofs.YtfhindffmghlaaaDoor
