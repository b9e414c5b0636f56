/- ownTexts: a row of texts, copied. -/
import Derived.Test.YtfhindffmghlaaaDoorG18
set_option linter.unusedVariables false
set_option linter.unusedSimpArgs false
namespace Go.Proofs.YtfhindffmghlaaaDoor
open Go.RowKit
/-- A row of texts of its own, all apart. -/
structure TextsAt (w : World) (base : Nat) (A : Option Addr) (c : Nat) (us : List Piece) : Prop where
  row : w.ownsRow base 24 1 (.slice A us.length c) us.length (pcs us)
  own : ∀ p ∈ us, OwnP w base p
  apart : us.Pairwise (fun a b => Apart (pcV a) (pcV b))
section
variable {w w' : World} {base : Nat} {A : Option Addr} {c : Nat} {us : List Piece}
theorem TextsAt.below (h : TextsAt w base A c us) (hb : Below w.heap.size w w') : TextsAt w' base A c us := ⟨own_below' h.row hb, fun p hp => own_below' (h.own p hp) hb, h.apart⟩
theorem TextsAt.mono {base' : Nat} (h : TextsAt w base A c us) (hb : base' ≤ base) : TextsAt w base' A c us := ⟨own_mono h.row hb, fun p hp => own_mono (h.own p hp) hb, h.apart⟩
theorem TextsAt.nil (w : World) (base : Nat) : TextsAt w base none 0 [] := ⟨World.ownsRow_nil _ _ _ _, fun _ h => (List.not_mem_nil h).elim, List.Pairwise.nil⟩
theorem TextsAt.seqs (h : TextsAt w base A c us) : ∀ p ∈ us, Seq w w.heap.size p.1 (bytes p.2.2) := fun p hp => (h.own p hp).seq
/-- A text of its own put behind. -/
theorem TextsAt.snoc {A1 : Option Addr} {c1 : Nat} {p : Piece} (h : TextsAt w base A c us) (hp : OwnP w base p) (hx : ∀ a ∈ us, Apart (pcV a) (pcV p))
    (h2 : w'.ownsRow base 24 1 (.slice A1 (us.length + 1) c1) (us.length + 1) (pcs us ++ [pcV p])) (hg : w.grownBy w' (Value.slice A us.length c).ownBlock) : TextsAt w' base A1 c1 (us ++ [p]) := by
  refine ⟨?_, fun y hy => ?_, ?_⟩
  · rw [← pcs_snoc, List.length_append]
    exact h2
  · rcases List.mem_append.1 hy with hy | hy
    · exact (h.own y hy).grown h.row (by decide) hg
    · rw [List.mem_singleton] at hy
      subst hy
      exact hp.grown h.row (by decide) hg
  · rw [List.pairwise_append]
    exact ⟨h.apart, List.pairwise_singleton _ _, fun a ha b hb => by rw [List.mem_singleton] at hb; subst hb; exact hx a ha⟩
end
theorem TextsAt.post {w w' : World} {A : Option Addr} {c : Nat} {us : List Piece} {L : List (List UInt8)} (h : TextsAt w' w.heap.size A c us) (hL : us.map txt = L) (hb : Below w.heap.size w w') : TextsPost w L (.returned (.slice A us.length c)) w' :=
  ⟨A, c, us, rfl, hL, h.row, h.own, h.apart, hb⟩
set_option maxHeartbeats 4000000 in
set_option maxRecDepth 20000 in
theorem ownTexts_calls (A : Option Addr) (c : Nat) (ps : List Piece) (w : World) (hl : ps.length ≤ 1099511627776) (hs : Seq w w.heap.size A (pcs ps)) (hp : ∀ p ∈ ps, Seq w w.heap.size p.1 (bytes p.2.2) ∧ p.2.2.length ≤ 1099511627776) :
    Calls Tryd.prog 20 #[.slice A ps.length c] w (TextsPost w (ps.map txt)) := by
  have HS := Lib.hid hs
  have HP := Lib.hid hp
  clear hs hp
  go_enter Tryd.func20, Tryd.ntmps20
  go_wp2_with fail
  go_loopw [3, 4] (fun o i wr => ∃ (k : Nat) (A1 : Option Addr) (c1 : Nat) (us : List Piece), k ≤ ps.length ∧ i = .int .i64 k ∧ o = .slice A1 us.length c1 ∧ us.length = k ∧ us.map txt = (ps.take k).map txt ∧ TextsAt wr w.heap.size A1 c1 us ∧ Below w.heap.size w wr) (fun _ i _ => ps.length - (intOf i).toNat)
  case atStart => exact ⟨0, none, 0, [], by omega, rfl, rfl, rfl, rfl, TextsAt.nil _ _, Below.refl _ _⟩
  case round =>
    obtain ⟨k, A1, c1, us, hk, rfl, rfl, hul, hm, ht, hbl⟩ := hrel
    have hsz := hbl.size
    have HM := Lib.hid hm
    have HT := Lib.hid ht
    have HBl := Lib.hid hbl
    clear hm ht
    by_cases hlt : k < ps.length
    · have dk : decide ((k : Int) < (ps.length : Int)) = true := by simp; omega
      have lk : (k : Int) < (ps.length : Int) := by omega
      obtain ⟨ad, rfl, _, hc0⟩ := (HS.out.below hbl (Nat.le_refl _)).piece k hlt
      obtain ⟨hpb, hpl⟩ := HP.out _ (List.getElem_mem hlt)
      have htk : (ps.take (k + 1)).map txt = (ps.take k).map txt ++ [txt ps[k]] := by rw [List.take_succ_eq_append_getElem hlt, List.map_append]; rfl
      rw [← HM.out] at htk
      have HTk := Lib.hid htk
      have hpb' := hpb.below hbl (Nat.le_refl _)
      generalize ps[k] = p at *
      obtain ⟨Ap, cp, lp⟩ := p
      simp only at hpb' hpl hc0
      have HPb := Lib.hid hpb'
      clear htk hpb hpb' hbl HM
      have hul1 := Nat.le_of_eq hul
      have hul2 := Nat.le_of_eq hul.symm
      have HUl := Lib.hid hul
      clear hul
      go_wp2_with (first
        | (go_at_call 19; (refine (ownL_calls Ap cp w.heap.size lp wr (by omega) HPb.out).mono ?_; rintro e2 w2 ⟨A2, c2, rfl, ho2, hb2⟩; have hz2 := hb2.size; have HO2 := Lib.hid ho2; have HT2 := Lib.hid (HT.out.below hb2); have HB2 := Lib.hid (HBl.out.trans (hb2.mono hsz)); clear ho2 hb2))
        | (at_builtin; refine wpL_append rfl (.tmp 11) (.tmp 17) 25 rfl elText rfl (own_alloc HT2.out.row _) rfl rfl (Seq.one_new _ _ _) (by simp [Value.oneCell']) (by unfold maxLen; omega) (by omega) (by rw [size_alloc]; omega) ?_; intro A4 c4 w4 ho4 hg4 _; have HO4 := Lib.hid ho4; have HG4 := Lib.hid hg4; clear ho4 hg4))
      have hba := (Below.refl w2.heap.size w2).alloc (Nat.le_refl _) (.cells #[.slice A2 lp.length c2] 24)
      have ht4 := (HT2.out.below hba).snoc (p := (A2, c2, lp)) (OwnP.alloc (own_mono HO2.out hsz) _) (fun a ha => apart_old (HT.out.own a ha) (p' := (A2, c2, lp)) HO2.out (Nat.le_refl _)) HO4.out HG4.out
      refine ⟨⟨k + 1, A4, c4, us ++ [(A2, c2, lp)], by omega, by go_num, by rw [List.length_append]; rfl, by rw [List.length_append, HUl.out]; rfl, ?_, ht4, ?_⟩, by simp [intOf]; omega⟩
      · rw [HTk.out, List.map_append]
        rfl
      · exact (HB2.out.alloc (by omega) _).grown HG4.out (by rw [size_alloc]; omega) (fun g hg => (HT2.out.row.lt g hg).1)
    · have dk : decide ((k : Int) < (ps.length : Int)) = false := by simp; omega
      have he : (ps.take k).map txt = ps.map txt := by rw [List.take_of_length_le (by omega)]
      have HE := Lib.hid he
      clear he hul hbl
      go_wp2_with fail
      go_ret
      exact HT.out.post (by rw [HM.out, HE.out]) HBl.out
end Go.Proofs.YtfhindffmghlaaaDoor
