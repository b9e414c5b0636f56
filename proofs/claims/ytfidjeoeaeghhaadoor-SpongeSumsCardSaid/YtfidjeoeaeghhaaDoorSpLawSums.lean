/- SpongeSums: every Sum of any pieces is the document's; what was lent stays, and is not kept. Conditions: none beyond the row's own (the two tables of package sponge read as the program's text lays them; the card ties them to it). -/
import Derived.Test.YtfidjeoeaeghhaaDoorSpHeld
import Derived.Test.YtfidjeoeaeghhaaDoorSpWeigh
import Derived.Test.YtfidjeoeaeghhaaDoorSpTables
import Derived.Test.YtfidjeoeaeghhaaDoorCards
import Derived.SevenTiedAt
namespace Go.Proofs.YtfidjeoeaeghhaaDoor
open Go.RowKit Go.ChangeShapes Go.WideShapes
def mixF (ps : List Piece) (j i : Nat) : List UInt8 := if i < j then (fullT ps i).map wip else fullT ps i
theorem mixF_step (ps : List Piece) (j i : Nat) : mixF ps (j + 1) i = if i = j then (fullT ps j).map wip else mixF ps j i := by
  unfold mixF
  by_cases e : i = j
  · subst e; rw [if_pos rfl, if_pos (by omega)]
  · rw [if_neg e]
    by_cases h : i < j
    · rw [if_pos h, if_pos (by omega)]
    · rw [if_neg h, if_neg (by omega)]
section
variable {w0 w : World} {B : Nat} {N : Nat → Nat} {F G : Nat → List UInt8} {γ κ : Nat → Nat} {n m q : Nat} {A3 : Option Addr} {xs : List Value} {s1 s2 : Value}
theorem handed_one (h : Held w0 w B N F γ κ n A3 (some ⟨q, 0, none⟩) xs (pcs (handL γ κ G n) ++ [s1, s2])) (hm : n = m) : w.cell? ⟨q, m, none⟩ = some s1 := by
  subst hm
  obtain ⟨ad, he, _, hc⟩ := h.handed.at_ (k := n) (by simp [pcs, handL_length])
  injection he with he
  subst he
  rw [addr_add, Nat.zero_add, List.getElem_append_right (by simp [pcs, handL_length])] at hc
  simpa [pcs, handL_length] using hc
theorem handed_two (h : Held w0 w B N F γ κ n A3 (some ⟨q, 0, none⟩) xs (pcs (handL γ κ G n) ++ [s1, s2])) (hm : n = m) : w.cell? ⟨q, m + 1, none⟩ = some s2 := by
  subst hm
  obtain ⟨ad, he, _, hc⟩ := h.handed.at_ (k := n + 1) (by simp [pcs, handL_length])
  injection he with he
  subst he
  rw [addr_add, Nat.zero_add, List.getElem_append_right (by simp [pcs, handL_length])] at hc
  simpa [pcs, handL_length] using hc
theorem handed_at {zs : List Value} (h : Held w0 w B N F γ κ n A3 (some ⟨q, 0, none⟩) xs (pcs (handL γ κ G n) ++ zs)) (i : Nat) (hi : i < n) : w.cell? ⟨q, i, none⟩ = some (.slice (some ⟨γ i, 0, none⟩) (G i).length (κ i)) := by
  obtain ⟨ad, he, _, hc⟩ := h.handed.at_ (k := i) (by simp [pcs, handL_length]; omega)
  injection he with he
  subst he
  have := handL_get γ κ G n i hi
  rw [List.getElem?_eq_getElem (by simp [pcs, handL_length]; omega)] at this
  injection this with this
  rw [addr_add, Nat.zero_add, List.getElem_append_left (by simp [pcs, handL_length]; omega), this] at hc
  exact hc
theorem lent_cells {ys : List Value} {A5 : Option Addr} (h : Held w0 w B N F γ κ n A3 A5 (loanC γ κ N n) ys) (i : Nat) (hi : i < n) :
    ∃ q3, A3 = some ⟨q3, 0, none⟩ ∧ w.cell? ⟨q3, i * 2, none⟩ = some (.slice (some ⟨γ i, 0, none⟩) (N i) (κ i)) ∧ w.cell? ⟨q3, i * 2 + 1, none⟩ = some (.slice (some ⟨γ i, 0, none⟩) (N i + 40) (κ i)) := by
  have h1 := loanC_get γ κ N n i hi
  obtain ⟨ad, rfl, _, hc⟩ := h.lent.at_ (k := i * 2) (by rw [loanC_length]; omega)
  obtain ⟨ad2, he, _, hc2⟩ := h.lent.at_ (k := i * 2 + 1) (by rw [loanC_length]; omega)
  injection he with he
  subst he
  rw [List.getElem?_eq_getElem (by rw [loanC_length]; omega), List.getElem?_eq_getElem (by rw [loanC_length]; omega)] at h1
  obtain ⟨h1, h2⟩ := h1
  injection h1 with h1
  injection h2 with h2
  rw [h1] at hc
  rw [h2] at hc2
  obtain ⟨q3, e3⟩ := h.head (by omega)
  injection e3 with e3
  subst e3
  rw [addr_add, Nat.zero_add] at hc hc2
  exact ⟨q3, rfl, hc, hc2⟩
end
set_option maxHeartbeats 2000000 in
set_option maxRecDepth 10000 in
theorem sums_walk (A : Option Addr) (c : Nat) (ps : List Piece) (w : World) (hl : ps.length ≤ 140737488351232) (hs : Seq w w.heap.size A (pcs ps)) (hp : ∀ q ∈ ps, q.2.2.length ≤ q.2.1 ∧ q.2.1 ≤ maxLen ∧ q.2.2.length ≤ reachBytes ∧ Seq w w.heap.size q.1 (bytes q.2.2)) (hT : Tables w) :
    Calls Tryd.prog 5 #[.slice A ps.length c] w fun e w' => e = .returned (.bool true) ∧ Below w.heap.size w w' := by
  have hp' : ∀ q ∈ ps, q.2.2.length ≤ 140737488351232 := fun q hq => by have := (hp q hq).2.2.1; unfold reachBytes at this; omega
  have HS := Lib.hid hs
  have HP := Lib.hid hp
  have HP' := Lib.hid hp'
  have HT := Lib.hid hT
  have h2 := hT.size
  clear hT hs hp hp'
  go_enter Tryd.func5, Tryd.ntmps5
  go_wp2_with fail
  refine (weight_calls A c w.heap.size ps w hl HS.out (Nat.le_refl _) HP'.out).mono ?_
  rintro e w1 ⟨⟨r, rfl, hr, hsum⟩, hb1⟩
  have HB1 := Lib.hid hb1
  clear hb1
  by_cases g1 : r > 16777216
  · have d1 : decide ((r : Int) > 16777216) = true := by simp; omega
    go_wp2_with fail
    go_ret
    exact ⟨rfl, HB1.out⟩
  have d1 : decide ((r : Int) > 16777216) = false := by simp; omega
  have hsum := hsum (by omega)
  clear hl
  go_wp2_with fail
  go_loopw [3, 4, 5, 6] (fun v u i _ wr => ∃ (k : Nat) (γ κ : Nat → Nat) (A3 : Option Addr) (c3 : Nat) (A4 : Option Addr) (c4 : Nat), k ≤ ps.length ∧ i = .int .i64 k ∧ v = .slice A3 k c3 ∧ u = .slice A4 k c4 ∧ Loans w wr (fun i => (lb ps i).length) (fullT ps) (lb ps) γ κ k A3 c3 A4 c4) (fun _ _ i _ _ => ps.length - (intOf i).toNat)
  case atStart =>
    refine ⟨0, fun _ => 0, fun _ => 0, none, 0, none, 0, by omega, rfl, rfl, rfl, HB1.out, fun i hi => absurd hi (Nat.not_lt_zero i), World.ownsRow_nil _ _ _ _, World.ownsRow_nil _ _ _ _, fun i j hi => absurd hi (Nat.not_lt_zero i), fun i hi => absurd hi (Nat.not_lt_zero i), fun i hi => absurd hi (Nat.not_lt_zero i), fun q hq => ?_⟩
    simp [Value.ownBlock] at hq
  case round =>
    clear HB1
    obtain ⟨k, γ, κ, A3, c3, A4, c4, hk, rfl, rfl, rfl, hLo⟩ := hrel
    have hsz := hLo.below.size
    by_cases hlt : k < ps.length
    · have dk : decide ((k : Int) < (ps.length : Int)) = true := by simp; omega
      have lk : (k : Int) < (ps.length : Int) := by omega
      obtain ⟨ad, rfl, hadb, hcell⟩ := (HS.out.below hLo.below (Nat.le_refl _)).at_ (k := k) (by simpa [pcs] using hlt)
      have he : (pcs ps)[k]'(by simpa [pcs] using hlt) = .slice ps[k].1 ps[k].2.2.length ps[k].2.1 := by simp [pcs, pcV]
      rw [he] at hcell
      have hpk := (HP.out _ (List.getElem_mem hlt)).2.2.2.below hLo.below (Nat.le_refl _)
      have hlk := HP'.out _ (List.getElem_mem hlt)
      have hlb := lb_get ps k hlt
      generalize ps[k] = pk at *
      obtain ⟨Ak, ck, lk'⟩ := pk
      simp only at hpk hcell hlk hlb
      have Hlb := Lib.hid hlb
      have HPK := Lib.hid hpk
      have HLo := Lib.hid hLo
      clear hpk he hlb hLo
      have em : (k : Int) % 256 = by8 (UInt8.ofNat k) := by
        unfold by8
        rw [UInt8.toNat_ofNat']
        omega
      go_wp2_with fail
      refine (lend_calls Ak ck w.heap.size lk' (UInt8.ofNat k) wr hlk hsz HPK.out).mono ?_
      rintro e w2 ⟨g, κg, rfl, hκ, hκm, ho2, hb2⟩
      have hs2 := hb2.size
      have HO2 := Lib.hid ho2
      have HB2 := Lib.hid hb2
      clear ho2 hb2
      unfold loanV
      go_wp2_with (first
        | (refine wpL_alloc rfl 37 rfl (tab 2 (two (.slice none 0 0) (.slice none 0 0))) (by kernel_rfl) ?_)
        | (refine wpL_storeA rfl 37 (.tmp 6) (.tmp 31) rfl 0 rfl (n := 2) (f := two (Value.slice (some ⟨g, 0, none⟩) lk'.length κg) (Value.slice (some ⟨g, 0, none⟩) (lk'.length + 40) κg)) rfl (Blk.new w2 _ _) (by omega) (by kernel_rfl) (two_one rfl rfl) ?_; intro w3 ho hk; have hb := ho.below ((Below.refl w2.heap.size w2).alloc (Nat.le_refl _) _) (Nat.le_refl _); have hz3 := Nat.le_of_eq ho.size.symm; rw [size_alloc] at hz3; have HB3 := Lib.hid hb; have hk' := hk.same (over_whole _ _ _); have hc0 : w3.cell? ⟨w2.heap.size, 0, none⟩ = some (Value.slice (some ⟨g, 0, none⟩) lk'.length κg) := hk'.cell 0; have hc1 : w3.cell? ⟨w2.heap.size, 1, none⟩ = some (Value.slice (some ⟨g, 0, none⟩) (lk'.length + 40) κg) := hk'.cell 1; clear ho hk hk' hb)
        | (at_builtin; refine wpL_append rfl (.tmp 32) (.tmp 34) 47 rfl elLoan rfl ((own_below' (own_below' HLo.out.lent HB2.out) HB3.out).alloc _) rfl (news := [(Value.slice (some ⟨g, 0, none⟩) lk'.length κg), (Value.slice (some ⟨g, 0, none⟩) (lk'.length + 40) κg)]) rfl (Seq.of_blk (Blk.new w3 _ _) (Nat.lt_succ_self _)) (by simp [Value.oneCell']) (by unfold maxLen; omega) (by omega) (by rw [size_alloc]; omega) ?_; intro A5 c5 w5 ho5 hg5 hf5; have HO5 := Lib.hid ho5; have HG5 := Lib.hid hg5; have HF5 := Lib.hid hf5; have hs5 := hg5.size; rw [size_alloc] at hs5; have hc5 : w5.cell? ⟨w2.heap.size, 0, none⟩ = some (Value.slice (some ⟨g, 0, none⟩) lk'.length κg) := (by rw [World.cell?_of_block (w := w3.alloc (.cells #[(Value.slice (some ⟨g, 0, none⟩) lk'.length κg), (Value.slice (some ⟨g, 0, none⟩) (lk'.length + 40) κg)] 37)) (hg5.block w2.heap.size (by rw [size_alloc]; omega) (fun e => by have := HLo.out.lent.lt _ e.symm; omega)), World.cell?_alloc_lt _ _ _ (show w2.heap.size < w3.heap.size by omega)]; exact hc0); clear ho5 hg5 hf5 hc0 hc1)
        | (at_builtin; refine wpL_append rfl (.tmp 36) (.tmp 39) 29 rfl elSlice rfl ((Loans.handedAt HLo.out ((HB2.out.trans (HB3.out.mono hs2)).alloc (by omega) _) HG5.out).alloc _) rfl (news := [(Value.slice (some ⟨g, 0, none⟩) lk'.length κg)]) rfl (Seq.of_blk (Blk.new w5 _ _) (Nat.lt_succ_self _)) (by simp [Value.oneCell']) (by unfold maxLen; omega) (by omega) (by rw [size_alloc]; omega) ?_; intro A6 c6 w6 ho6 hg6 hf6; have HO6 := Lib.hid ho6; have HG6 := Lib.hid hg6; have HF6 := Lib.hid hf6; clear ho6 hg6 hf6))
      have hN : (lb ps k).length = lk'.length := by rw [Hlb.out]
      have ho6 := HO6.out
      have ho5 := HO5.out
      have ho2 := HO2.out
      rw [← hN] at ho6
      rw [← hN] at ho5
      rw [← hN, ← Hlb.out] at ho2
      exact ⟨⟨k + 1, extG γ k g, extG κ k κg, A5, c5, A6, c6, by omega, by go_num, rfl, rfl, Loans.step HLo.out HB2.out ho2 (HB3.out.alloc (by omega) _) HG5.out ho5 HF5.out ((Below.refl w5.heap.size w5).alloc (Nat.le_refl _) _) HG6.out ho6 rfl HF6.out⟩, by simp [intOf]; omega⟩
    · have dk : decide ((k : Int) < (ps.length : Int)) = false := by simp; omega
      have HLo := Lib.hid hLo
      have hkl : k = ps.length := by omega
      have hk2 : ps.length ≤ k := by omega
      have Hk := Lib.hid hkl
      clear hLo hkl
      have b0 : Below wr.heap.size wr wr := Below.refl _ _
      go_wp2_with (first
        | (at_builtin; refine wpL_append rfl (.tmp 43) (.tmp 46) 29 rfl elSlice rfl (((HLo.out.handed.alloc _).alloc _).alloc _) rfl (news := [.slice (some ⟨wr.heap.size, 0, none⟩) 1 1, .slice (some ⟨wr.heap.size + 1, 0, none⟩) 1 1]) rfl (Seq.of_blk (Blk.new' _ _ _ (by simp only [size_alloc])) (Nat.lt_succ_self _)) (by simp [Value.oneCell']) (by unfold maxLen; omega) (by omega) (by simp only [size_alloc]; omega) ?_; intro A5 c5 w5 ho5 hg5 hf5; have hs5 := hg5.size; simp only [size_alloc] at hs5; obtain ⟨q5, rfl, hq5, _, hcap5, _⟩ := own_form ho5 (by omega); have lc5 : (ps.length : Int) ≤ (c5 : Int) := (by omega); have HE5 := Lib.hid (Held.of_loans HLo.out (((b0.alloc (Nat.le_refl _) _).alloc (by simp only [size_alloc]; omega) _).alloc (by simp only [size_alloc]; omega) _) hg5 ho5 (by omega) hf5); have HX1 := Lib.hid (show Blk w5 wr.heap.size 5 #[.int .u8 201] from (hg5.block _ (by simp only [size_alloc]; omega) (fun e => by have := HLo.out.handed.lt _ e.symm; omega)).trans (((Blk.new wr _ _).alloc _).alloc _)); have HX2 := Lib.hid (show Blk w5 (wr.heap.size + 1) 5 #[.int .u8 202] from (hg5.block _ (by simp only [size_alloc]; omega) (fun e => by have := HLo.out.handed.lt _ e.symm; omega)).trans ((Blk.new' (wr.alloc _) _ _ (by simp only [size_alloc])).alloc _)); clear ho5 hg5 hf5))
      have hJ0 : joinP (handL γ κ (lb ps) k) = joinP ps := by rw [handL_join, Hk.out, lb_join]
      obtain ⟨J, hJ⟩ : ∃ J, joinP ps = J := ⟨_, rfl⟩
      rw [hJ] at hsum hJ0
      obtain ⟨E, hE⟩ : ∃ E, hashS J = E := ⟨_, rfl⟩
      have HJ0 := Lib.hid hJ0
      have HJ := Lib.hid hJ
      have HE := Lib.hid hE
      have hsz5 := HE5.out.below.size
      clear hJ0 hJ hE hs5 b0
      refine (joined_calls A c w.heap.size ps w5 (by omega) (by rw [HJ.out]; omega) (HS.out.below HE5.out.below (Nat.le_refl _)) hsz5 (fun p hp => (HP.out p hp).2.2.2.below HE5.out.below (Nat.le_refl _))).mono ?_
      rintro e w6 ⟨A6, c6, rfl, ho6, hb6⟩
      rw [HJ.out] at ho6 ⊢
      have hs6 := hb6.size
      have HQ6 := Lib.hid (Seq.of_own ho6)
      have HE6 := Lib.hid (HE5.out.next hb6)
      have HX16 := Lib.hid (HX1.out.below hb6 HX1.out.lt)
      have HX26 := Lib.hid (HX2.out.below hb6 HX2.out.lt)
      clear ho6 hb6 HX1 HX2 HE5
      go_wp2_with fail
      refine (sumR_one A6 c6 J w6 (by omega) HQ6.out _).mono ?_
      rintro e w7 ⟨he, hb7⟩
      rw [HE.out] at he
      subst he
      have HE7 := Lib.hid (HE6.out.next hb7)
      have HX17 := Lib.hid (HX16.out.below hb7 HX16.out.lt)
      have HX27 := Lib.hid (HX26.out.below hb7 HX26.out.lt)
      have hs7 := hb7.size
      clear hb7 HE6 HX16 HX26 HQ6
      go_wp2_with (first
        | (refine wpL_alloc rfl 42 rfl (tab 32 fun _ => .int .u8 0) (by kernel_rfl) ?_)
        | (refine wpL_storeA rfl 42 (.tmp 9) (.tmp 55) rfl 0 rfl rfl (Blk.new w7 _ _) (by omega) (by kernel_rfl) (fun _ => rfl) ?_; intro w8 ho hk; have hb := ho.below ((Below.refl w7.heap.size w7).alloc (Nat.le_refl _) _) (Nat.le_refl _); have HE8 := Lib.hid (HE7.out.next hb); have HX18 := Lib.hid (HX17.out.below hb HX17.out.lt); have HX28 := Lib.hid (HX27.out.below hb HX27.out.lt); have hz8 := Nat.le_of_eq ho.size.symm; rw [size_alloc] at hz8; have HW8 := Lib.hid (hk.same (over_whole _ _ _)); clear ho hk hb HE7 HX17 HX27))
      refine (HE8.out.sum (G := lb ps) (M := fun i => marksL (UInt8.ofNat i) 40) rfl (fun i _ => rfl) (HT.out.below HE8.out.below h2) c5 ps.length Hk.out.symm (by omega) (by rw [HJ0.out]; omega)).mono ?_
      rintro e w9 ⟨he, hb9⟩
      rw [HJ0.out, HE.out] at he
      subst he
      have HE9 := Lib.hid (HE8.out.next hb9)
      have HX19 := Lib.hid (HX18.out.below hb9 HX18.out.lt)
      have HX29 := Lib.hid (HX28.out.below hb9 HX28.out.lt)
      have HW9 := Lib.hid (HW8.out.below hb9 HW8.out.lt)
      have hs9 := hb9.size
      clear hb9 HE8 HX18 HX28 HW8
      go_wp2_with (first
        | (refine wpL_alloc rfl 42 rfl (tab 32 fun _ => .int .u8 0) (by kernel_rfl) ?_)
        | (refine wpL_storeA rfl 42 (.tmp 10) (.tmp 57) rfl 0 rfl rfl (Blk.new w9 _ _) (by omega) (by kernel_rfl) (fun _ => rfl) ?_; intro wa ho hk; have hb := ho.below ((Below.refl w9.heap.size w9).alloc (Nat.le_refl _) _) (Nat.le_refl _); have HEa := Lib.hid (HE9.out.next hb); have HX1a := Lib.hid (HX19.out.below hb HX19.out.lt); have HX2a := Lib.hid (HX29.out.below hb HX29.out.lt); have HWa := Lib.hid (HW9.out.below hb HW9.out.lt); have hza := Nat.le_of_eq ho.size.symm; rw [size_alloc] at hza; have HAa := Lib.hid (hk.same (over_whole _ _ _)); clear ho hk hb HE9 HX19 HX29 HW9))
      refine (HEa.out.sum (G := lb ps) (M := fun i => marksL (UInt8.ofNat i) 40) rfl (fun i _ => rfl) (HT.out.below HEa.out.below h2) c5 ps.length Hk.out.symm (by omega) (by rw [HJ0.out]; omega)).mono ?_
      rintro e wb ⟨he, hbb⟩
      rw [HJ0.out, HE.out] at he
      subst he
      have HEb := Lib.hid (HEa.out.next hbb)
      have HX1b := Lib.hid (HX1a.out.below hbb HX1a.out.lt)
      have HX2b := Lib.hid (HX2a.out.below hbb HX2a.out.lt)
      have HWb := Lib.hid (HWa.out.below hbb HWa.out.lt)
      have HAb := Lib.hid (HAa.out.below hbb HAa.out.lt)
      have hsb := hbb.size
      clear hbb HEa HX1a HX2a HWa HAa
      have heq := eql_hash E E
      rw [show sameH E E = true from sameH_refl E] at heq
      have hgd := guard_hash
      have e88 : IntKind.i64.wrap ((ps.length : Int) + 1) = ((ps.length + 1 : Nat) : Int) := by rw [IntWalk.i64_in _ (by omega)]; omega
      have la1 : (ps.length : Int) < ((k + 2 : Nat) : Int) := by omega
      have la2 : ((ps.length + 1 : Nat) : Int) < ((k + 2 : Nat) : Int) := by omega
      go_wp2_with (first
        | (refine wpL_alloc rfl 42 rfl (tab 32 fun _ => .int .u8 0) (by kernel_rfl) ?_)
        | (refine wpL_storeA rfl 42 (.tmp 11) (.tmp 59) rfl 0 rfl rfl (Blk.new wb _ _) (by omega) (by kernel_rfl) (fun _ => rfl) ?_; intro wc ho hk; have hb := ho.below ((Below.refl wb.heap.size wb).alloc (Nat.le_refl _) _) (Nat.le_refl _); have HEc := Lib.hid (HEb.out.next hb); have HX1c := Lib.hid (HX1b.out.below hb HX1b.out.lt); have HX2c := Lib.hid (HX2b.out.below hb HX2b.out.lt); have HWc := Lib.hid (HWb.out.below hb HWb.out.lt); have HAc := Lib.hid (HAb.out.below hb HAb.out.lt); have hzc := Nat.le_of_eq ho.size.symm; rw [size_alloc] at hzc; have HBc := Lib.hid (hk.same (over_whole _ _ _)); have hx1 : wc.cell? ⟨wr.heap.size, 0, none⟩ = some (.int .u8 201) := HX1c.out.cell 0; have hx2 : wc.cell? ⟨wr.heap.size + 1, 0, none⟩ = some (.int .u8 202) := HX2c.out.cell 0; have hy1 := handed_one HEc.out Hk.out; have hy2 := handed_two HEc.out Hk.out; clear ho hk hb HEb HX1b HX2b HWb HAb)
        | (refine wpL_load0 rfl 42 (.tmp 10) rfl rfl _ HAc.out Tryd.underlying42 rfl (by kernel_rfl) ?_)
        | (refine wpL_load0 rfl 42 (.tmp 9) rfl rfl _ HWc.out Tryd.underlying42 rfl (by kernel_rfl) ?_)
        | (refine wpL_load0 rfl 42 (.tmp 11) rfl rfl _ HBc.out Tryd.underlying42 rfl (by kernel_rfl) ?_))
      obtain ⟨zs, hE0⟩ : ∃ zs, Held w wc w5.heap.size (fun i => (lb ps i).length) (fullT ps) γ κ k A3 (some ⟨q5, 0, none⟩) (loanC γ κ (fun i => (lb ps i).length) k) (pcs (handL γ κ (lb ps) k) ++ zs) := ⟨_, HEc.out⟩
      have HE0 := Lib.hid hE0
      clear hE0 HEc hx1 hx2 hy1 hy2 heq hgd e88 la1 la2 HX1c HX2c HWc HAc HBc
      go_loopw [12, 13] (fun i _ wq => ∃ (j : Nat), j ≤ ps.length ∧ i = .int .i64 j ∧ Held w wq w5.heap.size (fun i => (lb ps i).length) (fullT ps) γ κ k A3 (some ⟨q5, 0, none⟩) (loanC γ κ (fun i => (lb ps i).length) k) (pcs (handL γ κ (lb ps) k) ++ zs)) (fun i _ _ => ps.length - (intOf i).toNat)
      case atStart => exact ⟨0, by omega, rfl, HE0.out⟩
      case round =>
        clear HE0
        obtain ⟨j, hj, rfl, hE⟩ := hrel
        have HE2 := Lib.hid hE
        clear hE
        have hs2 := HE2.out.below.size
        by_cases hjl : j < ps.length
        · have dj : decide ((j : Int) < (ps.length : Int)) = true := by simp; omega
          have lj : (j : Int) < (ps.length : Int) := by omega
          have lk : (j : Int) < (k : Int) := by omega
          obtain ⟨q3, rfl, hl0, hl1⟩ := lent_cells HE2.out j (by omega)
          have hh := handed_at HE2.out j (by omega)
          obtain ⟨ad, rfl, hadb, hcell⟩ := (HS.out.below HE2.out.below (Nat.le_refl _)).at_ (k := j) (by simpa [pcs] using hjl)
          have he : (pcs ps)[j]'(by simpa [pcs] using hjl) = .slice ps[j].1 ps[j].2.2.length ps[j].2.1 := by simp [pcs, pcV]
          rw [he] at hcell
          have hpk := (HP.out _ (List.getElem_mem hjl)).2.2.2.below HE2.out.below (Nat.le_refl _)
          have hlk := HP'.out _ (List.getElem_mem hjl)
          have hlb := lb_get ps j hjl
          have hfl := HE2.out.seq j (by omega)
          unfold fullT at hfl
          rw [hlb] at hl0 hl1 hfl
          have hlj : (lb ps j).length = ps[j].2.2.length := by rw [hlb]
          generalize ps[j] = pk at *
          obtain ⟨Aj, cj, lj'⟩ := pk
          simp only at hpk hcell hlk hl0 hl1 hfl hlj
          have Hlj := Lib.hid hlj
          clear hh hlj
          have HPK := Lib.hid hpk
          have HFL := Lib.hid hfl
          clear hpk he hlb hfl
          have em : (j : Int) % 256 = by8 (UInt8.ofNat j) := by
            unfold by8
            rw [UInt8.toNat_ofNat']
            omega
          go_wp2_with fail
          go_still_tail 10, (by kernel_rfl)
          change wpList _ _ _ _ _ wr.drew
          go_wp2_with fail
          rw [em]
          have hbd : Below wr.heap.size wr wr.drew := ⟨rfl, rfl, rfl, Nat.le_refl _, fun _ _ => rfl⟩
          refine (whole_calls (γ j) (κ j) Aj cj wr.heap.size lj' (UInt8.ofNat j) wr.drew hlk (Nat.le_refl _) HFL.out (HPK.out.more hs2)).mono ?_
          rintro e w3 ⟨rfl, hb3⟩
          have HE3 := Lib.hid (HE2.out.next (hbd.trans hb3))
          have hh := handed_at HE3.out j (by omega)
          rw [Hlj.out] at hh
          have hcell := (hbd.trans hb3).cell (p := ad.add j) (by rw [block_add]; omega) ▸ hcell
          clear hl0 hl1 hbd hb3 HE2 HPK HFL em
          go_wp2_with fail
          go_quiet (fail)
          go_wp2_with fail
          exact ⟨⟨j + 1, by omega, by go_num, HE3.out.next (below_drewN (Below.refl _ _) nq)⟩, by simp [intOf]; omega⟩
        · have dj : decide ((j : Int) < (ps.length : Int)) = false := by simp; omega
          go_wp2_with fail
          go_loopw [14] (fun i wq => ∃ (j : Nat), j ≤ ps.length ∧ i = .int .i64 j ∧ Held w wq w5.heap.size (fun i => (lb ps i).length) (mixF ps j) γ κ k A3 (some ⟨q5, 0, none⟩) (loanC γ κ (fun i => (lb ps i).length) k) (pcs (handL γ κ (lb ps) k) ++ zs)) (fun i _ => ps.length - (intOf i).toNat)
          case atStart => exact ⟨0, by omega, rfl, HE2.out.congr fun i _ => by unfold mixF; rw [if_neg (Nat.not_lt_zero i)]⟩
          case round =>
            clear HE2
            obtain ⟨j, hj, rfl, hE⟩ := hrel
            have HE2 := Lib.hid hE
            clear hE
            have hs2 := HE2.out.below.size
            by_cases hjl : j < ps.length
            · have dj : decide ((j : Int) < (ps.length : Int)) = true := by simp; omega
              have lj : (j : Int) < (ps.length : Int) := by omega
              have lk : (j : Int) < (k : Int) := by omega
              obtain ⟨q3, rfl, hl0, hl1⟩ := lent_cells HE2.out j (by omega)
              have hrow := HE2.out.row j (by omega)
              have hlen := fullT_length ps j
              have hlbj : (lb ps j).length ≤ 16777216 := by rw [lb_get ps j hjl]; have := join_mem (List.getElem_mem hjl); rw [HJ.out] at this; omega
              have hmix : mixF ps j j = fullT ps j := by unfold mixF; rw [if_neg (Nat.lt_irrefl j)]
              rw [hmix] at hrow
              have hglt := (HE2.out.lt j (by omega)).2
              have HR := Lib.hid hrow
              have HLen := Lib.hid hlen
              clear hrow hmix hlen
              go_wp2_with fail
              refine (wipe_calls (γ j) (κ j) w.heap.size _ _ (fullT ps j) HLen.out (by omega) wr HR.out hglt).mono ?_
              rintro e w3 ⟨rfl, hg3, ho3⟩
              have HE3 := Lib.hid ((HE2.out.wiped (by omega) hg3 ho3).congr fun i _ => (mixF_step ps j i).symm)
              clear hg3 ho3 HE2 HR hl0 hl1
              go_wp2_with fail
              exact ⟨⟨j + 1, by omega, by go_num, HE3.out⟩, by simp [intOf]; omega⟩
            · have dj : decide ((j : Int) < (ps.length : Int)) = false := by simp; omega
              go_wp2_with fail
              have hF : ∀ i, i < k → mixF ps j i = (lb ps i).map wip ++ (marksL (UInt8.ofNat i) 40).map wip := fun i hi => by
                unfold mixF
                rw [if_pos (by omega)]
                unfold fullT
                rw [List.map_append]
              have hy : pcs (handL γ κ (lb ps) k) ++ zs = pcs (handL γ κ (fun i => (lb ps i).map wip) k) ++ zs := by rw [handL_pcs γ κ (lb ps) (fun i => (lb ps i).map wip) k (fun i _ => by simp)]
              have hJl : (joinP (handL γ κ (fun i => (lb ps i).map wip) k)).length = J.length := by
                rw [← HJ0.out, handL_join, handL_join]
                exact flat_len _ _ k fun i _ => by simp
              obtain ⟨J2, hJ2⟩ : ∃ J2, joinP (handL γ κ (fun i => (lb ps i).map wip) k) = J2 := ⟨_, rfl⟩
              obtain ⟨E2, hE2⟩ : ∃ E2, hashS J2 = E2 := ⟨_, rfl⟩
              rw [hJ2] at hJl
              have hJl1 := Nat.le_of_eq hJl
              have HF := Lib.hid hF
              have HY := Lib.hid hy
              have HJ2 := Lib.hid hJ2
              have HE2' := Lib.hid hE2
              clear hF hy hJl hJ2 hE2
              refine (HE2.out.sum (G := fun i => (lb ps i).map wip) (M := fun i => (marksL (UInt8.ofNat i) 40).map wip) HY.out HF.out (HT.out.below HE2.out.below h2) c5 ps.length Hk.out.symm (by omega) (by rw [HJ2.out]; omega)).mono ?_
              rintro e w3 ⟨he, hb3⟩
              rw [HJ2.out, HE2'.out] at he
              subst he
              have hs3 := hb3.size
              have HE3 := Lib.hid (HE2.out.next hb3)
              clear hb3 HE2
              go_wp2_with (first
                | (refine wpL_alloc rfl 42 rfl (tab 32 fun _ => .int .u8 0) (by kernel_rfl) ?_)
                | (refine wpL_storeA rfl 42 (.tmp 15) (.tmp 148) rfl 0 rfl rfl (Blk.new w3 _ _) (by omega) (by kernel_rfl) (fun _ => rfl) ?_; intro w4 ho hk; have hb := ho.below ((Below.refl w3.heap.size w3).alloc (Nat.le_refl _) _) (Nat.le_refl _); have HE4 := Lib.hid (HE3.out.next hb); have HH4 := Lib.hid (hk.same (over_whole _ _ _)); have hz4 := Nat.le_of_eq ho.size.symm; rw [size_alloc] at hz4; clear ho hk hb HE3))
              have hu42 := Tryd.underlying42
              have hi42 : (Tryd.prog.info? 42).map (·.size) = some (tab 32 (hashV E2)).toList.length := by
                rw [show (tab 32 (hashV E2)).toList.length = 32 by simp [tab]]
                kernel_rfl
              have heq := eql_hash E2 E2
              rw [sameH_refl] at heq
              have hgd := guard_hash
              have hbd : Below w4.heap.size w4 w4.drew := ⟨rfl, rfl, rfl, Nat.le_refl _, fun _ _ => rfl⟩
              have HE4d := Lib.hid (HE4.out.next hbd)
              refine wp_region_held_drew (S := fun w' => w'.rangeAt w3.heap.size 0 (tab 32 (hashV E2)).toList) (by kernel_rfl) (rangeAt_blk HH4.out) (fun hHeld => ?_)
              refine wpAnyH_take (i := 0) (oi := _) (v := .agg (tab 32 (hashV E2))) rfl (by kernel_rfl) (by kernel_rfl) (by kernel_rfl) (fun _ _ _ h => h) (yieldsIf_load_mid (by rfl) _ _ rfl w3.heap.size 0 rfl (tab 32 (hashV E2)).toList _ (fun w h => h) hu42 rfl hi42) hHeld ?_
              try simp only [Act.put, List.getElem_toArray, List.getElem_cons_zero, List.getElem_cons_succ, List.setIfInBounds_toArray, List.set_cons_zero, List.set_cons_succ]
              refine wpAnyH_take (i := 1) (oi := _) (v := .slice (some ⟨q5, 0, none⟩) ps.length c5) rfl (by kernel_rfl) (by kernel_rfl) (by kernel_rfl) (fun _ _ _ h => h) (Or.inl ⟨by rfl, by intro w hSw; go_simp⟩) hHeld ?_
              try simp only [Act.put, List.getElem_toArray, List.getElem_cons_zero, List.getElem_cons_succ, List.setIfInBounds_toArray, List.set_cons_zero, List.set_cons_succ]
              refine wpAnyH_ready (rs := [2]) (by kernel_rfl) (by simp) ?_
              refine AllReadyH.cons (o := _) rfl (fun K hK => ?_) AllReadyH.nil
              simp only [List.getElem_toArray, List.getElem_cons_succ, List.getElem_cons_zero]
              go_simp
              go_at_call 24
              refine (HE4d.out.joined (G := fun i => (lb ps i).map wip) (M := fun i => (marksL (UInt8.ofNat i) 40).map wip) HY.out HF.out c5 ps.length Hk.out.symm (by omega) (by rw [HJ2.out]; omega)).mono ?_
              rintro e w7 ⟨A7, c7, rfl, ho7, hb7⟩
              rw [HJ2.out] at ho7 ⊢
              have hs7 := hb7.size
              have HQ7 := Lib.hid (Seq.of_own ho7)
              have HH7 := Lib.hid (HH4.out.below (hbd.trans hb7) HH4.out.lt)
              have HE7 := Lib.hid (HE4d.out.next hb7)
              clear ho7 hb7 HE4d HE4
              refine hK.out _ _ (rangeAt_blk HH7.out) (fun hHeld2 => ?_)
              clear hK K hHeld
              try simp only [Act.put, List.getElem_toArray, List.getElem_cons_zero, List.getElem_cons_succ, List.setIfInBounds_toArray, List.set_cons_zero, List.set_cons_succ]
              refine wpAnyH_ready (rs := [3]) (by kernel_rfl) (by simp) ?_
              refine AllReadyH.cons (o := _) rfl (fun K hK => ?_) AllReadyH.nil
              simp only [List.getElem_toArray, List.getElem_cons_succ, List.getElem_cons_zero]
              go_simp
              refine hK.out _ _ (rangeAt_blk (HH7.out.alloc _)) (fun hHeld3 => ?_)
              clear hK K hHeld2
              try simp only [Act.put, List.getElem_toArray, List.getElem_cons_zero, List.getElem_cons_succ, List.setIfInBounds_toArray, List.set_cons_zero, List.set_cons_succ]
              refine wpAnyH_ready (rs := [4]) (by kernel_rfl) (by simp) ?_
              refine AllReadyH.cons (o := _) rfl (fun K hK => ?_) AllReadyH.nil
              simp only [List.getElem_toArray, List.getElem_cons_succ, List.getElem_cons_zero]
              go_simp
              go_at_call 21
              refine (sumR_one A7 c7 J2 w7 (by omega) HQ7.out _).mono ?_
              rintro e w8 ⟨he, hb8⟩
              rw [HE2'.out] at he
              subst he
              have HE8 := Lib.hid (HE7.out.next hb8)
              refine hK.out _ _ (rangeAt_blk (HH7.out.below hb8 HH7.out.lt)) (fun hHeld4 => ?_)
              clear hK K hHeld3 hb8
              try simp only [Act.put, List.getElem_toArray, List.getElem_cons_zero, List.getElem_cons_succ, List.setIfInBounds_toArray, List.set_cons_zero, List.set_cons_succ]
              refine wpAnyH_take (i := 5) (oi := _) (v := .bool true) rfl (by kernel_rfl) (by kernel_rfl) (by kernel_rfl) (fun _ _ _ h => h) (Or.inl ⟨by rfl, by intro w hSw; go_simp⟩) hHeld4 ?_
              try simp only [Act.put, List.getElem_toArray, List.getElem_cons_zero, List.getElem_cons_succ, List.setIfInBounds_toArray, List.set_cons_zero, List.set_cons_succ]
              refine wpAnyH_take (i := 6) (oi := _) (v := .bool true) rfl (by kernel_rfl) (by kernel_rfl) (by kernel_rfl) (fun _ _ _ h => h) (Or.inl ⟨by rfl, by intro w hSw; go_simp⟩) hHeld4 ?_
              try simp only [Act.put, List.getElem_toArray, List.getElem_cons_zero, List.getElem_cons_succ, List.setIfInBounds_toArray, List.set_cons_zero, List.set_cons_succ]
              refine wpAnyH_done (by kernel_rfl) ?_ _
              go_wp2_with fail
              go_ret
              exact ⟨rfl, HE8.out.below⟩
-- CARD
set_option maxRecDepth 100000 in
theorem spongeSums_lifted (os : Os) (started : os.Started) (H : Type) (enc : TypeId × Value → H) :
    ReturnsInHanded {} Tryd.checked os 5 .any (fun w args => (Rows.spongeSumsSpec.pre enc Tryd.prog Tryd.f5 [] false w args ∧ laidMetH Tryd.prog seatLaid w) ∧ sizedMet enc Tryd.prog Tryd.f5 (OpenSpec.ofChange Rows.spongeSumsSpec) false w args)
      (Rows.spongeSumsSpec.post enc Tryd.prog Tryd.f5 false true false false) := by
  refine returnsInHanded_of_change_and (C := Tryd.checked) (X := fun w _ => laidMetH Tryd.prog seatLaid w) (fun _ _ _ hh h => h.of_heap hh) own started (by kernel_rfl) Tryd.func5
    (ChangeSpec.witness_shaped (enc := enc) (C := Tryd.checked) (os := os) (X := fun w _ => laidMetH Tryd.prog seatLaid w) false (World.laidAll Tryd.prog os seatLaid) #[.slice none 0 0] 8 (World.laidAll_os _ _ _)
      (World.shaped_of_ZipB (by kernel_rfl) (by kernel_rfl)) (by kernel_rfl) (by kernel_rfl) (by kernel_rfl)
      (by rw [MakeChecks.laidMetH_plain _ _ _ (by kernel_rfl)]; exact laidMet_laidAll _ (by kernel_rfl) (by kernel_rfl))) ?_
  intro W base args ds gs before hval0 hW _ hsz hL0 _
  rw [MakeChecks.laidMetH_plain _ _ _ (by kernel_rfl)] at hL0
  have hT := tables_of_laid hL0
  have hval : ∀ (j : Nat) t v, Tryd.f5.params[j]? = some t → args[j]? = some v → Value.okWide Tryd.prog W .any base t v := hval0
  have hW' := hW
  obtain ⟨p, q, hA0, hV, rfl, hfz, hnd⟩ := hW
  have hA : DataW.TrodAll enc Tryd.prog W 0 (fun _ => true) true Tryd.f5.params.toList args.toList ds p := hA0
  rw [Tryd.params5] at hA hval
  obtain ⟨v0, vs0, d0, ds0, p0, q0, hargs, rfl, rfl, h0, r0⟩ := trodAll_cons hA
  obtain ⟨rfl, rfl, rfl⟩ := trodAll_nil r0
  obtain rfl : args = #[v0] := by cases args; simp_all
  obtain ⟨rfl, rfl⟩ := trodVars_none hV
  have k0 := h0
  have lt0 : ∀ x ∈ p0, x.block < W.heap.size := by obtain ⟨m, hm⟩ := k0; exact DataW.trod_lt m _ _ _ hm
  have wt0 : ∀ n ∈ d0.weights Tryd.prog 29, n ≤ reachBytes := fun n hn => by have := List.all_eq_true.1 hsz n (DataW.weights_mem_each (j := 0) (t := 29) (d := d0) (by rw [Tryd.params5]; rfl) rfl n hn); simpa using this
  obtain ⟨A0, C0, L0, rfl, hc0, hm0, hr0, hq0, hp0⟩ := open_pieces Tryd.underlying29 Tryd.underlying32 Tryd.underlying5 (by kernel_rfl) (by kernel_rfl) (by kernel_rfl) (by kernel_rfl) (hval 0 _ v0 rfl rfl) h0 wt0
  clear hA0 hval0
  refine (sums_walk A0 C0 L0 W hr0 hq0 hp0 hT).mono fun e W' ⟨he, bel⟩ => ?_
  subst he
  exact ⟨_, rfl, _, _, _, [], _, [], hW', trodAll_mk1 (shut_bool Tryd.underlying4 _), (trodAll_cons_mk (Below.trod laidOut (by kernel_rfl) (of_decide_eq_true (by kernel_rfl)) k0 bel lt0) trodAll_mk0), rfl, bel.frame _, fun h => by cases h⟩
theorem spongeSums_holds : Rows.SpongeSumsSaid :=
  OpenClaim.holds_of_wide 5 Tryd.f5 rfl rfl rfl rfl rfl rfl rfl ⟨rfl, rfl, rfl, rfl, rfl⟩ rfl rfl rfl rfl rfl (by kernel_rfl) Tryd.func5 (by kernel_rfl)
    (of_decide_eq_true (by kernel_rfl)) (by unfold Func.isWrapper; first | (rw [if_pos (by decide +kernel)]; kernel_rfl) | (rw [if_neg (by decide +kernel)]; exact ⟨rfl, rfl⟩))
    (fun os started H enc _ => spongeSums_lifted os started H enc)
theorem spongeSums_card : Rows.SpongeSumsCardSaid :=
  Claim7.holds_tied_plain_at .later [] [.data, .data] true (true, "61dec8a95d45e6b6868d957416c283ac2aac3f2f7edc31fb2634f663520bf00b") false spongeSums_holds (fun _ h => by cases h) (by kernel_rfl) (fun _ h => by cases h) spongeSums_row_tie rfl ⟨rfl, rfl⟩ (by kernel_rfl) rfl
    (fun f fn hf hfn => by
      obtain rfl : f = 5 := Option.some.inj ((show Tryd.prog.funcNamed "vouch/vouchlaw2.SpongeSums" = some 5 by kernel_rfl).symm.trans hf) |>.symm
      obtain rfl : fn = Tryd.f5 := (Option.some.inj (Tryd.func5.symm.trans hfn)).symm
      exact ⟨by kernel_rfl, fun j t ht => by
        rw [Tryd.params5] at ht
        have hm : t ∈ ([29] : List TypeId) := by simpa using Array.mem_of_getElem? ht
        have hall : (([29] : List TypeId).all fun u => !Tryd.prog.wantsStandIn u) = true := by kernel_rfl
        exact (show Tryd.prog.wantsStandIn t = false by simpa using List.all_eq_true.1 hall t hm)⟩)
    (by kernel_rfl)
end Go.Proofs.YtfidjeoeaeghhaaDoor
