/- put: onto any tree. -/
import Derived.Test.YtfhindffmghlaaaDoorG08
import Derived.Deep.RegionLaw
set_option linter.unusedVariables false
set_option linter.unusedSimpArgs false
namespace Go.Proofs.YtfhindffmghlaaaDoor
open Go.RowKit
theorem foot_upd {F : Nat → Prop} {Fk : Nat → Nat → Prop} {g x N : Nat} {F' : Nat → Prop} (hF : ∀ b, F b ↔ footN g Fk b) (hx : x < 16) (h : ∀ b, F' b → Fk x b ∨ N ≤ b) : ∀ b, footN g (upd Fk x F') b → F b ∨ N ≤ b := by
  intro b hb
  rcases hb with rfl | ⟨i, hi, hb⟩
  · exact Or.inl ((hF b).2 (Or.inl rfl))
  · unfold upd at hb
    split at hb
    · rcases h b hb with h1 | h1
      · exact Or.inl ((hF b).2 (Or.inr ⟨x, hx, h1⟩))
      · exact Or.inr h1
    · exact Or.inl ((hF b).2 (Or.inr ⟨i, hi, hb⟩))
set_option maxHeartbeats 4000000 in
set_option maxRecDepth 20000 in
theorem put_calls (base M : Nat) (vp : Piece) : ∀ (t : Tr) (v : Value) (F : Nat → Prop) (A : Option Addr) (c : Nat) (l : List UInt8) (w : World), PutPre base M vp t v F A c l w →
    Calls Tryd.prog 67 #[v, .slice A l.length c, pcV vp] w (TreePost w base F (putT t l vp.2.2)) := by
  intro t
  induction t with
  | nil =>
    intro v F A c l w h
    obtain ⟨rfl, _⟩ := h.tree
    have := h.len
    have := h.bound
    exact putNil_calls base vp A c l F w (by omega) h.floor h.value (fun e => absurd e h.some_) h.path
  | node p ks val ih =>
    intro v F A c l w h
    by_cases hsp : common p l < p.length
    · exact putSplit_calls base M vp p val ks v F A c l w h hsp
    obtain ⟨g, ⟨Ap, cp, p'⟩, ⟨An, cn, val'⟩, kv, Fk, rfl, rfl, rfl, hN, hF⟩ := h.tree.parts
    have q0 : w.cell? ⟨g, 0, none⟩ = some (.slice Ap p'.length cp) := hN.blk.at_ 0 (by omega)
    have hlM := h.len
    have hM := h.bound
    have hlc := h.cap
    have hcm := h.capM
    unfold maxLen at hcm
    have hpM : p'.length ≤ M := h.bnd.1
    have hpo : w.ownsRow base 5 1 (.slice Ap p'.length cp) p'.length (bytes p') := hN.path
    have hcpM := own_capM hpo
    have hcpc := own_cap hpo
    unfold maxLen at hcpM
    have hcom := common_calls Ap cp _ p' A c _ l w (by omega) (Seq.of_own hpo) h.path.seq
    have hput := putT_node p' ks val' l vp.2.2
    have hkle := common_le p' l
    simp only at hsp
    generalize common p' l = k at *
    have hkp := hkle.1
    have hkl := hkle.2
    have HN := Lib.hid hN
    have HPre := Lib.hid h
    have HCom := Lib.hid hcom
    have HF := Lib.hid hF
    have HPut := Lib.hid hput
    have HIh := Lib.hid ih
    obtain ⟨Av, cv, lv⟩ := vp
    unfold pcV
    clear hN h hcom hF hput ih hkle hpo
    · obtain rfl : k = p'.length := by omega
      have dsp : decide ((p'.length : Int) < (p'.length : Int)) = false := decide_eq_false (by omega)
      have hput := HPut.out
      rw [if_neg hsp] at hput
      cases hr : l.drop p'.length with
      | nil =>
        rw [hr] at hput
        have hz : l.length = p'.length := by
          have := congrArg List.length hr
          rw [List.length_drop] at this
          simp at this
          omega
        have HP := Lib.hid hput
        have hz0 : (((l.length - p'.length : Nat) : Int) == 0) = true := by rw [beq_iff_eq]; omega
        have hz1 := Nat.le_of_eq hz
        have HZ := Lib.hid hz
        clear hput hr HPut HIh hz
        by_cases hcc : c = p'.length
        · subst hcc
          go_enter Tryd.func67, Tryd.ntmps67
          go_wp2_with (go_at_call 92; refine HCom.out.mono ?_; rintro e1 w1 ⟨rfl, m1, hm1⟩; have q01 : w1.cell? ⟨g, 0, none⟩ = some (.slice Ap p'.length cp) := hm1.symm ▸ (show (w.drewN m1).cell? ⟨g, 0, none⟩ = _ from q0); have hn1 : NodeAt w1 base g (Ap, cp, p') (An, cn, val') kv ks Fk := hm1.symm ▸ HN.out.below (below_drewN (Below.refl _ _) m1); have q17 : w1.cell? ⟨g, 17, none⟩ = some (.slice An val'.length cn) := hn1.blk.at_ 17 (by omega); have f17 := hn1.blk.frozen 17; have HN1 := Lib.hid hn1; have HM1 := Lib.hid hm1; clear hn1 hm1)
          go_ret
          show TreePost w base F (putT (.node p' ks val') l lv) _ _
          rw [HP.out]
          have hv1 : OwnP w1 base (Av, cv, lv) := HM1.out.symm ▸ own_drewN HPre.out.value m1
          exact ⟨_, _, rfl, (HN1.out.setValue hv1 (fun e => absurd e HPre.out.some_)).tree, (HM1.out.symm ▸ (Kept.refl w F).drewN m1 : Kept w w1 F).only (Only.setCell w1 ⟨g, 17, none⟩ _) (Or.inl ((HF.out g).2 (Or.inl rfl))), fun b hb => Or.inl ((HF.out b).2 hb)⟩
        · skip
          go_enter Tryd.func67, Tryd.ntmps67
          go_wp2_with (go_at_call 92; refine HCom.out.mono ?_; rintro e1 w1 ⟨rfl, m1, hm1⟩; have q01 : w1.cell? ⟨g, 0, none⟩ = some (.slice Ap p'.length cp) := hm1.symm ▸ (show (w.drewN m1).cell? ⟨g, 0, none⟩ = _ from q0); have hn1 : NodeAt w1 base g (Ap, cp, p') (An, cn, val') kv ks Fk := hm1.symm ▸ HN.out.below (below_drewN (Below.refl _ _) m1); have q17 : w1.cell? ⟨g, 17, none⟩ = some (.slice An val'.length cn) := hn1.blk.at_ 17 (by omega); have f17 := hn1.blk.frozen 17; have HN1 := Lib.hid hn1; have HM1 := Lib.hid hm1; clear hn1 hm1)
          go_ret
          show TreePost w base F (putT (.node p' ks val') l lv) _ _
          rw [HP.out]
          have hv1 : OwnP w1 base (Av, cv, lv) := HM1.out.symm ▸ own_drewN HPre.out.value m1
          exact ⟨_, _, rfl, (HN1.out.setValue hv1 (fun e => absurd e HPre.out.some_)).tree, (HM1.out.symm ▸ (Kept.refl w F).drewN m1 : Kept w w1 F).only (Only.setCell w1 ⟨g, 17, none⟩ _) (Or.inl ((HF.out g).2 (Or.inl rfl))), fun b hb => Or.inl ((HF.out b).2 hb)⟩
      | cons x r =>
        rw [hr] at hput
        have hrl : l.length - p'.length = r.length + 1 := by
          have := congrArg List.length hr
          rw [List.length_drop] at this
          simpa using this
        have hcc : ¬ c = p'.length := by omega
        have hx16 : x.toNat < 16 := HPre.out.nibs x (List.mem_of_mem_drop (by rw [hr]; simp))
        have hcut := HPre.out.path.cut (k := p'.length) hlc
        rw [if_neg hcc, hr] at hcut
        obtain ⟨a1, rfl, _, _⟩ := HPre.out.path (by omega)
        obtain ⟨adr, hadr, hblk, hcx⟩ := hcut (by simp)
        injection hadr with hadr
        subst hadr
        have hcx0 := hcx 0 (by simp)
        rw [add_add', Nat.add_zero] at hcx0
        have ex : (by8 x).toNat = x.toNat := by unfold by8; omega
        have bx0 : 0 ≤ by8 x := by8_nonneg x
        have bx1 : by8 x < 16 := by unfold by8; omega
        have hcut2 := hcut.cut (k := 1) (cap := c - p'.length) (by simp; omega)
        obtain ⟨m, hm⟩ : ∃ m, l.length - p'.length = m := ⟨_, rfl⟩
        obtain ⟨cr, hcr⟩ : ∃ cr, c - p'.length = cr := ⟨_, rfl⟩
        have hm1 : m - 1 = r.length := by omega
        have hz0 : ((m : Int) == 0) = false := by rw [beq_eq_false_iff_ne]; omega
        have l4 : (0 : Int) < (m : Int) := by omega
        have l4n : 0 < m := by omega
        have l5 : (1 : Int) ≤ (m : Int) := by omega
        have l5n : 1 ≤ m := by omega
        have l6 : (m : Int) ≤ (cr : Int) := by omega
        have l7 : r.length ≤ cr - 1 := by omega
        have l8 : cr ≤ 9223372036854775807 := by omega
        have l9 : r.length ≤ M := by omega
        rw [hcr] at hcut2
        have HP := Lib.hid hput
        have HR := Lib.hid hr
        have HCut2 := Lib.hid hcut2
        clear hput hrl hr hcut hcx hcut2 HPut
        by_cases hc2 : cr = 1
        · subst hc2
          go_enter Tryd.func67, Tryd.ntmps67
          go_wp2_with (go_at_call 92; refine HCom.out.mono ?_; rintro e1 w1 ⟨rfl, m1, hm1⟩; have q01 : w1.cell? ⟨g, 0, none⟩ = some (.slice Ap p'.length cp) := hm1.symm ▸ (show (w.drewN m1).cell? ⟨g, 0, none⟩ = _ from q0); have hn1 : NodeAt w1 base g (Ap, cp, p') (An, cn, val') kv ks Fk := hm1.symm ▸ HN.out.below (below_drewN (Below.refl _ _) m1); have qx1 : w1.cell? (a1.add p'.length) = some (.int .u8 (by8 x)) := hm1.symm ▸ (show (w.drewN m1).cell? (a1.add p'.length) = _ from hcx0); have qk1 : w1.cell? ⟨g, 1 + x.toNat, none⟩ = some (kv x.toNat) := (hn1.blk.at_ (1 + x.toNat) (by omega)).trans (by unfold nodeV; rw [if_neg (by omega), if_pos (by omega), Nat.add_sub_cancel_left]); have HN1 := Lib.hid hn1; have HM1 := Lib.hid hm1; clear hn1 hm1)
          have hseq := HCut2.out
          first | rw [if_pos rfl] at hseq | rw [if_pos trivial] at hseq
          have hpre : PutPre base M (Av, cv, lv) (ks x.toNat) (kv x.toNat) (Fk x.toNat) (some (a1.add p'.length)) 0 r w1.drew := by
            refine ⟨by omega, by unfold maxLen; omega, l9, ?_, hM, ?_, HPre.out.bnd.2.2.2 x.toNat, ?_, ?_, ?_, HPre.out.some_⟩
            · exact fun y hy => HPre.out.nibs y (List.mem_of_mem_drop (by rw [HR.out]; exact List.mem_cons_of_mem _ hy))
            · exact Nat.le_trans HPre.out.floor (by rw [HM1.out]; exact Nat.le_refl _)
            · exact (HN1.out.kids x.toNat hx16).drewN 1
            · rw [HM1.out]; exact hseq.drewN (m1 + 1)
            · rw [HM1.out]; exact own_drewN HPre.out.value (m1 + 1)
          have HCall := Lib.hid (HIh.out x.toNat (kv x.toNat) (Fk x.toNat) (some (a1.add p'.length)) 0 r w1.drew hpre)
          have hblk1 : ∃ cs, Blk w1 (a1.add p'.length).block 5 cs := by rw [HM1.out]; exact hblk
          clear hseq hpre hm hcr l7 l8
          have hneb : (a1.add p'.length).block ≠ g := by obtain ⟨cs, hc⟩ := hblk1; exact Blk.ne hc HN1.out.blk (by decide)
          go_region_law (first | (go_simp; go_at_call 67; refine HCall.out.mono ?_; rintro e2 w2 ⟨v2, F2, rfl, ht2, hk2, hf2⟩; obtain ⟨o2, rfl⟩ := ht2.ptr; have hNx : Nodes w1.drew (Fk x.toNat) := (HN1.out.kids x.toNat hx16).nodes; have k1 : w2.cell? (a1.add p'.length) = some (.int .u8 (by8 x)) := (World.cell?_of_block (w := w1.drew) (by obtain ⟨cs, hc⟩ := hblk1; exact (hk2.blk_ne hNx hc.drew (by decide)).trans hc.symm)).trans qx1; have k2 : w2.cell? ⟨g, 1 + x.toNat, none⟩ = some (kv x.toNat) := (World.cell?_of_block (w := w1.drew) ((hk2.blk HN1.out.blk.drew (HN1.out.notIn x.toNat hx16)).trans HN1.out.blk.symm)).trans qk1; have f2 : w2.frozen? ⟨g, 1 + x.toNat, none⟩ = false := (hk2.blk HN1.out.blk.drew (HN1.out.notIn x.toNat hx16)).frozen _; have k3 : (w2.setCell ⟨g, 1 + x.toNat, none⟩ (.pointer o2)).cell? (a1.add p'.length) = some (.int .u8 (by8 x)) := ((Only.setCell w2 ⟨g, 1 + x.toNat, none⟩ (.pointer o2)).cell hneb).trans k1; have HT2 := Lib.hid ht2; have HK2 := Lib.hid hk2; have HF2 := Lib.hid hf2; clear ht2 hk2 hf2))
          all_goals
            go_wp2_with fail
            go_ret
            show TreePost w base F (putT (.node p' ks val') l lv) _ _
            rw [HP.out]
            have hk1 : Kept w w1 F := HM1.out.symm ▸ (Kept.refl w F).drewN m1
            have hk2 : Kept w w1.drew F := hk1.drewN 1
            have hsz1 : w1.drew.heap.size = w.heap.size := by rw [HM1.out]; rfl
            exact ⟨_, _, rfl, ((HN1.out.below (below_drewN (Below.refl _ _) 1)).setKid hx16 HK2.out (fun _ hb => hb) HT2.out HF2.out).tree,
              (hk2.trans HK2.out (fun b hb => Or.inl ((HF.out b).2 (Or.inr ⟨_, hx16, hb⟩)))).only (Only.setCell _ ⟨g, 1 + x.toNat, none⟩ _) (Or.inl ((HF.out g).2 (Or.inl rfl))),
              foot_upd HF.out hx16 (fun b hb => hsz1 ▸ HF2.out b hb)⟩
        · skip
          go_enter Tryd.func67, Tryd.ntmps67
          go_wp2_with (go_at_call 92; refine HCom.out.mono ?_; rintro e1 w1 ⟨rfl, m1, hm1⟩; have q01 : w1.cell? ⟨g, 0, none⟩ = some (.slice Ap p'.length cp) := hm1.symm ▸ (show (w.drewN m1).cell? ⟨g, 0, none⟩ = _ from q0); have hn1 : NodeAt w1 base g (Ap, cp, p') (An, cn, val') kv ks Fk := hm1.symm ▸ HN.out.below (below_drewN (Below.refl _ _) m1); have qx1 : w1.cell? (a1.add p'.length) = some (.int .u8 (by8 x)) := hm1.symm ▸ (show (w.drewN m1).cell? (a1.add p'.length) = _ from hcx0); have qk1 : w1.cell? ⟨g, 1 + x.toNat, none⟩ = some (kv x.toNat) := (hn1.blk.at_ (1 + x.toNat) (by omega)).trans (by unfold nodeV; rw [if_neg (by omega), if_pos (by omega), Nat.add_sub_cancel_left]); have HN1 := Lib.hid hn1; have HM1 := Lib.hid hm1; clear hn1 hm1)
          have hseq := HCut2.out
          rw [if_neg hc2] at hseq
          have hpre : PutPre base M (Av, cv, lv) (ks x.toNat) (kv x.toNat) (Fk x.toNat) (some ((a1.add p'.length).add 1)) (cr - 1) r w1.drew := by
            refine ⟨by omega, by unfold maxLen; omega, l9, ?_, hM, ?_, HPre.out.bnd.2.2.2 x.toNat, ?_, ?_, ?_, HPre.out.some_⟩
            · exact fun y hy => HPre.out.nibs y (List.mem_of_mem_drop (by rw [HR.out]; exact List.mem_cons_of_mem _ hy))
            · exact Nat.le_trans HPre.out.floor (by rw [HM1.out]; exact Nat.le_refl _)
            · exact (HN1.out.kids x.toNat hx16).drewN 1
            · rw [HM1.out]; exact hseq.drewN (m1 + 1)
            · rw [HM1.out]; exact own_drewN HPre.out.value (m1 + 1)
          have HCall := Lib.hid (HIh.out x.toNat (kv x.toNat) (Fk x.toNat) (some ((a1.add p'.length).add 1)) (cr - 1) r w1.drew hpre)
          have hblk1 : ∃ cs, Blk w1 (a1.add p'.length).block 5 cs := by rw [HM1.out]; exact hblk
          clear hseq hpre hm hcr l7 l8
          have hneb : (a1.add p'.length).block ≠ g := by obtain ⟨cs, hc⟩ := hblk1; exact Blk.ne hc HN1.out.blk (by decide)
          go_region_law (first | (go_simp; go_at_call 67; refine HCall.out.mono ?_; rintro e2 w2 ⟨v2, F2, rfl, ht2, hk2, hf2⟩; obtain ⟨o2, rfl⟩ := ht2.ptr; have hNx : Nodes w1.drew (Fk x.toNat) := (HN1.out.kids x.toNat hx16).nodes; have k1 : w2.cell? (a1.add p'.length) = some (.int .u8 (by8 x)) := (World.cell?_of_block (w := w1.drew) (by obtain ⟨cs, hc⟩ := hblk1; exact (hk2.blk_ne hNx hc.drew (by decide)).trans hc.symm)).trans qx1; have k2 : w2.cell? ⟨g, 1 + x.toNat, none⟩ = some (kv x.toNat) := (World.cell?_of_block (w := w1.drew) ((hk2.blk HN1.out.blk.drew (HN1.out.notIn x.toNat hx16)).trans HN1.out.blk.symm)).trans qk1; have f2 : w2.frozen? ⟨g, 1 + x.toNat, none⟩ = false := (hk2.blk HN1.out.blk.drew (HN1.out.notIn x.toNat hx16)).frozen _; have k3 : (w2.setCell ⟨g, 1 + x.toNat, none⟩ (.pointer o2)).cell? (a1.add p'.length) = some (.int .u8 (by8 x)) := ((Only.setCell w2 ⟨g, 1 + x.toNat, none⟩ (.pointer o2)).cell hneb).trans k1; have HT2 := Lib.hid ht2; have HK2 := Lib.hid hk2; have HF2 := Lib.hid hf2; clear ht2 hk2 hf2))
          all_goals
            go_wp2_with fail
            go_ret
            show TreePost w base F (putT (.node p' ks val') l lv) _ _
            rw [HP.out]
            have hk1 : Kept w w1 F := HM1.out.symm ▸ (Kept.refl w F).drewN m1
            have hk2 : Kept w w1.drew F := hk1.drewN 1
            have hsz1 : w1.drew.heap.size = w.heap.size := by rw [HM1.out]; rfl
            exact ⟨_, _, rfl, ((HN1.out.below (below_drewN (Below.refl _ _) 1)).setKid hx16 HK2.out (fun _ hb => hb) HT2.out HF2.out).tree,
              (hk2.trans HK2.out (fun b hb => Or.inl ((HF.out b).2 (Or.inr ⟨_, hx16, hb⟩)))).only (Only.setCell _ ⟨g, 1 + x.toNat, none⟩ _) (Or.inl ((HF.out g).2 (Or.inl rfl))),
              foot_upd HF.out hx16 (fun b hb => hsz1 ▸ HF2.out b hb)⟩
end Go.Proofs.YtfhindffmghlaaaDoor
/- Put: of a trie. -/
namespace Go.Proofs.YtfhindffmghlaaaDoor
open Go.RowKit
/-- A trie's blocks. -/
def footT (gt : Nat) (F : Nat → Prop) (b : Nat) : Prop := b = gt ∨ F b
/-- What blocks of a trie are: none is a block of bytes, or of anything else. -/
def Tries (w : World) (G : Nat → Prop) : Prop := ∀ b, G b → ∃ cs, Blk w b 99 cs ∨ Blk w b 82 cs
section
variable {w w' : World} {base gt n : Nat} {t : Tr} {F G : Nat → Prop}
theorem TrieAt.tries (h : TrieAt w base gt t n F) : Tries w (footT gt F) := by
  obtain ⟨v, h1, h2⟩ := h
  intro b hb
  rcases hb with rfl | hb
  · exact ⟨_, Or.inr h1⟩
  · obtain ⟨_, cs, hc⟩ := h2.typed b hb
    exact ⟨cs, Or.inl hc⟩
theorem Kept.blkT {g : Nat} {ty : TypeId} {cs : Array Value} (h : Kept w w' G) (hN : Tries w G) (hb : Blk w g ty cs) (ht : ty ≠ 99) (ht2 : ty ≠ 82) : Blk w' g ty cs :=
  h.blk hb (fun hf => by
    obtain ⟨cs', hc | hc⟩ := hN g hf
    · exact Blk.ne hb hc ht rfl
    · exact Blk.ne hb hc ht2 rfl)
theorem SeqB.keptT {A : Option Addr} {l : List UInt8} (h : SeqB w A l) (hk : Kept w w' G) (hN : Tries w G) : SeqB w' A l := h.keep fun _ _ hb => hk.blkT hN hb (by decide) (by decide)
theorem OwnP.keptT {p : Piece} (h : OwnP w base p) (hk : Kept w w' G) (hN : Tries w G) : OwnP w' base p := by
  obtain ⟨h1, h2⟩ := h
  refine ⟨h1, ?_⟩
  rcases h2 with h2 | ⟨g', cap, cur, hv, hg', hh, r⟩
  · exact .inl h2
  · exact .inr ⟨g', cap, cur, hv, hg', hk.blkT hN hh (by decide) (by decide), r⟩
theorem TrieAt.notIn (h : TrieAt w base gt t n F) : ¬ F gt := fun hf => by
  obtain ⟨v, h1, h2⟩ := h
  obtain ⟨_, cs, hc⟩ := h2.typed gt hf
  exact Blk.ne hc h1 (by decide) rfl
end
/-- .. steps at blocks that are no bytes'. -/
theorem TreeAt.keptT' {w w' : World} {base : Nat} {F0 : Nat → Prop} (hk : Kept w w' F0) : ∀ {t : Tr} {v : Value} {F : Nat → Prop}, TreeAt w base t v F → (∀ g, F g → ¬ F0 g) → (∀ g cs, F0 g → ¬ Blk w g 5 cs) → TreeAt w' base t v F
  | .nil, v, F, h, _, _ => h
  | .node p ks val, v, F, h, hd, hu => by
    obtain ⟨g, pp, vp, kv, Fk, h1, h2, h3, h4, h5, h6, h7, h8, h9, h10, h11, h12⟩ := h
    have ho : ∀ q : Piece, OwnP w base q → OwnP w' base q := fun q hq => by
      obtain ⟨a1, a2⟩ := hq
      refine ⟨a1, ?_⟩
      rcases a2 with a2 | ⟨g', cap, cur, hv, hg', hh, r⟩
      · exact .inl a2
      · exact .inr ⟨g', cap, cur, hv, hg', hk.blk hh (fun hf => hu g' cur hf hh), r⟩
    exact ⟨g, pp, vp, kv, Fk, h1, h2, hk.blk h3 (hd g ((h12 g).2 (Or.inl rfl))), h4, ho _ h5, h6, ho _ h7, h8, fun i hi => TreeAt.keptT' hk (h9 i hi) (fun b hb => hd b ((h12 b).2 (Or.inr ⟨i, hi, hb⟩))) hu, h10, h11, h12⟩
/-- Bytes of a key, in whatever block that is no trie's. -/
def SeqK (w : World) (A : Option Addr) (l : List UInt8) : Prop := Seq w w.heap.size A (bytes l) ∧ (0 < l.length → ∃ ad, A = some ad ∧ ∀ cs, ¬ Blk w ad.block 99 cs ∧ ¬ Blk w ad.block 82 cs)
theorem SeqB.k {w : World} {A : Option Addr} {l : List UInt8} (h : SeqB w A l) : SeqK w A l := ⟨h.seq, fun hn => by
  obtain ⟨ad, e, ⟨cs, hb⟩, _⟩ := h hn
  exact ⟨ad, e, fun cs' => ⟨fun h' => Blk.ne hb h' (by decide) rfl, fun h' => Blk.ne hb h' (by decide) rfl⟩⟩⟩
theorem SeqK.seq {w : World} {A : Option Addr} {l : List UInt8} (h : SeqK w A l) : Seq w w.heap.size A (bytes l) := h.1
theorem SeqK.keptT {w w' : World} {G : Nat → Prop} {A : Option Addr} {l : List UInt8} (h : SeqK w A l) (hk : Kept w w' G) (hN : Tries w G) : SeqK w' A l := by
  refine ⟨fun hn => ?_, fun hn => ?_⟩
  · obtain ⟨ad, e, hlt, hc⟩ := h.1 hn
    rw [bytes_length] at hn
    obtain ⟨ad2, e2, hno⟩ := h.2 hn
    have e3 : ad = ad2 := Option.some.inj (e.symm.trans e2)
    subst e3
    have hng : ¬ G ad.block := fun hg => by
      obtain ⟨cs, hcs⟩ := hN _ hg
      rcases hcs with hcs | hcs
      · exact (hno cs).1 hcs
      · exact (hno cs).2 hcs
    have hbk := hk.block ad.block hlt hng
    exact ⟨ad, e, Nat.lt_of_lt_of_le hlt hk.size, fun j hj => by rw [← hc j hj]; exact World.cell?_of_block (w := w) (by rw [block_add]; exact hbk)⟩
  · obtain ⟨ad, e, hno⟩ := h.2 hn
    obtain ⟨ad2, e2, hlt, _⟩ := h.1 (by rw [bytes_length]; exact hn)
    have e3 : ad = ad2 := Option.some.inj (e.symm.trans e2)
    subst e3
    have hng : ¬ G ad.block := fun hg => by
      obtain ⟨cs, hcs⟩ := hN _ hg
      rcases hcs with hcs | hcs
      · exact (hno cs).1 hcs
      · exact (hno cs).2 hcs
    have hbk := hk.block ad.block hlt hng
    exact ⟨ad, e, fun cs => ⟨fun h' => (hno cs).1 (hbk.symm.trans h'), fun h' => (hno cs).2 (hbk.symm.trans h')⟩⟩
theorem SeqK.below {w w' : World} {A : Option Addr} {l : List UInt8} (h : SeqK w A l) (hb : Below w.heap.size w w') : SeqK w' A l := h.keptT (Kept.of_below hb (fun _ => False)) (fun _ hf => hf.elim)
/-- What Put answers. -/
def PutTPost (w : World) (base gt : Nat) (t : Tr) (n : Nat) (F : Nat → Prop) (key value : List UInt8) (e : Ending) (w' : World) : Prop :=
  if 64 < key.length then e = .returned (.int .i64 260) ∧ w' = w
  else if value = [] then e = .returned (.int .i64 111) ∧ w' = w
  else e = .returned (.int .i64 0) ∧ ∃ F', TrieAt w' base gt (putT t (nib key) value) (if getT t key = [] then n + 1 else n) F' ∧ Kept w w' (footT gt F) ∧ ∀ b, F' b → F b ∨ w.heap.size ≤ b
theorem getT_bnd {M : Nat} : ∀ {t : Tr} (path : List UInt8), Bnd M t → (valueT (findT t path)).length ≤ M
  | .nil, _, _ => by simp [findT, valueT]
  | .node p ks v, path, h => by
    rw [findT_node]
    split
    · split
      · exact h.2.2.1
      · exact getT_bnd _ (h.2.2.2 _)
    · simp [valueT]
set_option maxHeartbeats 4000000 in
set_option maxRecDepth 20000 in
theorem putM_calls (base gt M : Nat) (t : Tr) (n : Nat) (F : Nat → Prop) (A : Option Addr) (c : Nat) (key : List UInt8) (A2 : Option Addr) (c2 : Nat) (value : List UInt8) (w : World) (hb : base ≤ gt) (hn : n ≤ 1099511627776) (hM : M ≤ 1099511627776) (hM2 : 128 ≤ M) (hk : key.length ≤ 1073741824) (hvl : value.length ≤ M)
    (hbd : Bnd M t) (ht : TrieAt w base gt t n F) (hs : SeqK w A key) (hs2 : SeqB w A2 value) :
    Calls Tryd.prog 40 #[.pointer (some ⟨gt, 0, none⟩), .slice A key.length c, .slice A2 value.length c2] w (PutTPost w base gt t n F key value) := by
  by_cases h1 : 64 < key.length
  · have d1 : decide ((key.length : Int) > 64) = true := decide_eq_true (by omega)
    clear ht hs hs2 hbd
    go_enter Tryd.func40, Tryd.ntmps40
    go_wp2_with fail
    go_ret
    unfold PutTPost
    rw [if_pos h1]
    exact ⟨rfl, rfl⟩
  have d1 : decide ((key.length : Int) > 64) = false := decide_eq_false (by omega)
  by_cases h2 : value = []
  · subst h2
    clear ht hs hs2 hbd
    go_enter Tryd.func40, Tryd.ntmps40
    go_wp2_with fail
    go_ret
    unfold PutTPost
    rw [if_neg h1, if_pos rfl]
    exact ⟨rfl, rfl⟩
  have hvpos : 0 < value.length := List.length_pos_iff.2 h2
  have hgl := getT_bnd (nib key) hbd
  have HT := Lib.hid ht
  have HS := Lib.hid hs
  have HS2 := Lib.hid hs2
  have HBd := Lib.hid hbd
  have hk64 : key.length ≤ 64 := by omega
  have H1 := Lib.hid h1
  have H2 := Lib.hid h2
  have hgl2 : (getT t key).length ≤ M := hgl
  clear ht hs hs2 hbd h1 h2 hgl
  by_cases h3 : getT t key = []
  · have HG := Lib.hid h3
    clear h3
    go_enter Tryd.func40, Tryd.ntmps40
    go_upto_region 8 with (go_at_call 35; refine (get_calls base gt t n F A c _ key w (by omega) (Nat.le_refl _) HT.out HS.out.seq (by omega)).mono ?_; unfold GetPost; rw [HG.out]; rintro e1 w1 ⟨A1, c1, rfl, _, hb1⟩; obtain ⟨vt, hbt, htt⟩ := HT.out.below hb1; have q1 : w1.cell? ⟨gt, 1, none⟩ = some (.int .i64 (n : Int)) := hbt.cell 1; have f1 := hbt.frozen 1; have HBt := Lib.hid hbt; have HTt := Lib.hid htt; have HB1 := Lib.hid hb1; clear hbt htt hb1)
    have ho2 := Only.setCell w1 ⟨gt, 1, none⟩ (.int .i64 ((n : Int) + 1))
    have hbt2 : Blk (w1.setCell ⟨gt, 1, none⟩ (.int .i64 ((n : Int) + 1))) gt 82 #[vt, .int .i64 ((n + 1 : Nat) : Int)] := HBt.out.set_ 1 _
    have hni : ¬ F gt := HT.out.notIn
    have htr2 : Tries w1 (fun b => b = gt) := fun b hb => by have e : b = gt := hb; subst e; exact ⟨_, Or.inr HBt.out⟩
    have htt2 : TreeAt (w1.setCell ⟨gt, 1, none⟩ (.int .i64 ((n : Int) + 1))) base t vt F := HTt.out.keptT' (Kept.of_only ho2) (fun b hb (e : b = gt) => hni (by rw [← e]; exact hb)) (fun b cs hb hc => by have e : b = gt := hb; subst e; exact Blk.ne hc HBt.out (by decide) rfl)
    have hk2 : Kept w (w1.setCell ⟨gt, 1, none⟩ (.int .i64 ((n : Int) + 1))) (footT gt F) := (Kept.of_below HB1.out _).only ho2 (Or.inl (Or.inl rfl))
    have hs3 := (HS.out.below HB1.out).keptT (Kept.of_only ho2) htr2
    have hs4 := (HS2.out.below HB1.out).keptT (Kept.of_only ho2) htr2
    generalize w1.setCell ⟨gt, 1, none⟩ (.int .i64 ((n : Int) + 1)) = w2 at *
    have hif : (if getT t key = [] then n + 1 else n) = n + 1 := if_pos HG.out
    have HIF := Lib.hid hif
    have HBt2 := Lib.hid hbt2
    have HTt2 := Lib.hid htt2
    have HK2 := Lib.hid hk2
    have HS3 := Lib.hid hs3
    have HS4 := Lib.hid hs4
    have HNi := Lib.hid hni
    clear ho2 hbt2 hni htr2 htt2 hk2 hs3 hs4 hif q1 f1 HBt HTt HB1 HT
    obtain ⟨ot, rfl⟩ := HTt2.out.ptr
    have q2 : w2.cell? ⟨gt, 0, none⟩ = some (.pointer ot) := HBt2.out.cell 0
    have hnl : (nib key).length = 2 * key.length := nib_length key
    have HNl := Lib.hid hnl
    have hsd : w2.drew.heap.size = w2.heap.size := rfl
    have HSd := Lib.hid hsd
    clear hnl hsd
    go_region_law (first
      | (go_simp; go_at_call 52; refine (nibbles_calls A c w2.heap.size key w2.drew (by omega) HS3.out.seq.drew (Nat.le_refl _)).mono ?_; rintro e3 w3 ⟨A3, c3, rfl, ho3, hb3⟩; have hb3' : Below w2.heap.size w2 w3 := (below_drewN (Below.refl _ _) 1).trans hb3; have k3 : w3.cell? ⟨gt, 0, none⟩ = some (.pointer ot) := (hb3'.cell (p := ⟨gt, 0, none⟩) HBt2.out.lt).trans q2; have HO3 := Lib.hid ho3; have HB3 := Lib.hid hb3'; clear ho3 hb3 hb3')
      | (go_simp; go_at_call 54; refine (clone_calls A2 c2 w3.heap.size value w3 (by omega) (Nat.le_refl _) (HS4.out.below HB3.out).seq).mono ?_; rintro e4 w4 ⟨A4, c4, rfl, ho4, hb4⟩; have hz3 := HB3.out.size; have k4 : w4.cell? ⟨gt, 0, none⟩ = some (.pointer ot) := (hb4.cell (p := ⟨gt, 0, none⟩) (by have := HBt2.out.lt; show gt < w3.heap.size; omega)).trans k3; have HO4 := Lib.hid ho4; have HO34 := Lib.hid (own_below' HO3.out hb4); have HB4 := Lib.hid (HB3.out.trans (hb4.mono hz3)); clear ho4 hb4)
      | (go_simp; go_at_call 67; have hpre : PutPre base M (A4, c4, value) t (.pointer ot) F A3 c3 (nib key) w4 := ⟨own_cap HO34.out, own_capM HO34.out, by rw [HNl.out]; omega, nib_nibs key, hM, by have := HB4.out.size; have := HBt2.out.lt; omega, HBd.out, HTt2.out.below HB4.out, SeqB.of_own HO34.out, own_mono HO4.out (by have := HB3.out.size; have := HBt2.out.lt; omega), H2.out⟩; refine (put_calls base M (A4, c4, value) t (.pointer ot) F A3 c3 (nib key) w4 hpre).mono ?_; clear hpre; rintro e5 w5 ⟨v5, F5, rfl, ht5, hk5, hf5⟩; obtain ⟨o5, rfl⟩ := ht5.ptr; have hbt5 := hk5.blk (HBt2.out.below HB4.out HBt2.out.lt) HNi.out; have k5 : w5.cell? ⟨gt, 0, none⟩ = some (.pointer ot) := hbt5.cell 0; have f5 := hbt5.frozen 0; have HBt5 := Lib.hid hbt5; have HT5 := Lib.hid ht5; have HK5 := Lib.hid hk5; have HF5 := Lib.hid hf5; clear hbt5 ht5 hk5 hf5))
    all_goals
      go_wp2_with fail
      go_ret
      unfold PutTPost
      rw [if_neg H1.out, if_neg H2.out, HIF.out]
      have hk45 : Kept w w5 (footT gt F) := (HK2.out.then_below HB4.out).trans HK5.out (fun b hb => Or.inl (Or.inr hb))
      have ho5 := Only.setCell w5 ⟨gt, 0, none⟩ (.pointer o5)
      have hg5 : ¬ F5 gt := fun hf => by
        rcases HF5.out gt hf with h8 | h8
        · exact HNi.out h8
        · have := HB4.out.size; have := HBt2.out.lt; omega
      refine ⟨rfl, F5, ⟨.pointer o5, HBt5.out.set_ 0 _, HT5.out.keptT' (Kept.of_only ho5) (fun b hb (e : b = gt) => hg5 (by rw [← e]; exact hb)) (fun b cs hb hc => ?_)⟩, hk45.only ho5 (Or.inl (Or.inl rfl)), fun b hb => ?_⟩
      · have e : b = gt := hb
        subst e
        exact Blk.ne hc HBt5.out (by decide) rfl
      · rcases HF5.out b hb with h8 | h8
        · exact Or.inl h8
        · exact Or.inr (by have := HB4.out.size; have := HK2.out.size; omega)
  · have hie : (getT t key).isEmpty = false := by simpa using h3
    have HG := Lib.hid h3
    have HIe := Lib.hid hie
    clear h3 hie
    go_enter Tryd.func40, Tryd.ntmps40
    go_upto_region 8 with (go_at_call 35; refine (get_calls base gt t n F A c _ key w (by omega) (Nat.le_refl _) HT.out HS.out.seq (by omega)).mono ?_; unfold GetPost; rw [HIe.out]; rintro e1 w2 ⟨A1, c1, rfl, _, hb1⟩; obtain ⟨vt, hbt, htt⟩ := HT.out.below hb1; have HBt2 := Lib.hid hbt; have HTt2 := Lib.hid htt; have HB1 := Lib.hid hb1; clear hbt htt hb1)
    have hk2 : Kept w w2 (footT gt F) := Kept.of_below HB1.out _
    have hs3 := HS.out.below HB1.out
    have hs4 := HS2.out.below HB1.out
    have hif : (if getT t key = [] then n + 1 else n) = n := if_neg HG.out
    have hni : ¬ F gt := HT.out.notIn
    have HIF := Lib.hid hif
    have HK2 := Lib.hid hk2
    have HS3 := Lib.hid hs3
    have HS4 := Lib.hid hs4
    have HNi := Lib.hid hni
    clear hk2 hs3 hs4 hif hni HT
    obtain ⟨ot, rfl⟩ := HTt2.out.ptr
    have q2 : w2.cell? ⟨gt, 0, none⟩ = some (.pointer ot) := HBt2.out.cell 0
    have hnl : (nib key).length = 2 * key.length := nib_length key
    have HNl := Lib.hid hnl
    have hsd : w2.drew.heap.size = w2.heap.size := rfl
    have HSd := Lib.hid hsd
    clear hnl hsd
    go_region_law (first
      | (go_simp; go_at_call 52; refine (nibbles_calls A c w2.heap.size key w2.drew (by omega) HS3.out.seq.drew (Nat.le_refl _)).mono ?_; rintro e3 w3 ⟨A3, c3, rfl, ho3, hb3⟩; have hb3' : Below w2.heap.size w2 w3 := (below_drewN (Below.refl _ _) 1).trans hb3; have k3 : w3.cell? ⟨gt, 0, none⟩ = some (.pointer ot) := (hb3'.cell (p := ⟨gt, 0, none⟩) HBt2.out.lt).trans q2; have HO3 := Lib.hid ho3; have HB3 := Lib.hid hb3'; clear ho3 hb3 hb3')
      | (go_simp; go_at_call 54; refine (clone_calls A2 c2 w3.heap.size value w3 (by omega) (Nat.le_refl _) (HS4.out.below HB3.out).seq).mono ?_; rintro e4 w4 ⟨A4, c4, rfl, ho4, hb4⟩; have hz3 := HB3.out.size; have k4 : w4.cell? ⟨gt, 0, none⟩ = some (.pointer ot) := (hb4.cell (p := ⟨gt, 0, none⟩) (by have := HBt2.out.lt; show gt < w3.heap.size; omega)).trans k3; have HO4 := Lib.hid ho4; have HO34 := Lib.hid (own_below' HO3.out hb4); have HB4 := Lib.hid (HB3.out.trans (hb4.mono hz3)); clear ho4 hb4)
      | (go_simp; go_at_call 67; have hpre : PutPre base M (A4, c4, value) t (.pointer ot) F A3 c3 (nib key) w4 := ⟨own_cap HO34.out, own_capM HO34.out, by rw [HNl.out]; omega, nib_nibs key, hM, by have := HB4.out.size; have := HBt2.out.lt; omega, HBd.out, HTt2.out.below HB4.out, SeqB.of_own HO34.out, own_mono HO4.out (by have := HB3.out.size; have := HBt2.out.lt; omega), H2.out⟩; refine (put_calls base M (A4, c4, value) t (.pointer ot) F A3 c3 (nib key) w4 hpre).mono ?_; clear hpre; rintro e5 w5 ⟨v5, F5, rfl, ht5, hk5, hf5⟩; obtain ⟨o5, rfl⟩ := ht5.ptr; have hbt5 := hk5.blk (HBt2.out.below HB4.out HBt2.out.lt) HNi.out; have k5 : w5.cell? ⟨gt, 0, none⟩ = some (.pointer ot) := hbt5.cell 0; have f5 := hbt5.frozen 0; have HBt5 := Lib.hid hbt5; have HT5 := Lib.hid ht5; have HK5 := Lib.hid hk5; have HF5 := Lib.hid hf5; clear hbt5 ht5 hk5 hf5))
    all_goals
      go_wp2_with fail
      go_ret
      unfold PutTPost
      rw [if_neg H1.out, if_neg H2.out, HIF.out]
      have hk45 : Kept w w5 (footT gt F) := (HK2.out.then_below HB4.out).trans HK5.out (fun b hb => Or.inl (Or.inr hb))
      have ho5 := Only.setCell w5 ⟨gt, 0, none⟩ (.pointer o5)
      have hg5 : ¬ F5 gt := fun hf => by
        rcases HF5.out gt hf with h8 | h8
        · exact HNi.out h8
        · have := HB4.out.size; have := HBt2.out.lt; omega
      refine ⟨rfl, F5, ⟨.pointer o5, HBt5.out.set_ 0 _, HT5.out.keptT' (Kept.of_only ho5) (fun b hb (e : b = gt) => hg5 (by rw [← e]; exact hb)) (fun b cs hb hc => ?_)⟩, hk45.only ho5 (Or.inl (Or.inl rfl)), fun b hb => ?_⟩
      · have e : b = gt := hb
        subst e
        exact Blk.ne hc HBt5.out (by decide) rfl
      · rcases HF5.out b hb with h8 | h8
        · exact Or.inl h8
        · exact Or.inr (by have := HB4.out.size; have := HK2.out.size; omega)
end Go.Proofs.YtfhindffmghlaaaDoor
