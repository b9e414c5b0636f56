/- read, shaped. -/
import Derived.Test.YtfhindffmghlaaaDoorG20
import Derived.Deep.RegionLaw
set_option linter.unusedVariables false
set_option linter.unusedSimpArgs false
namespace Go.Proofs.YtfhindffmghlaaaDoor
open Go.RowKit It
theorem and16 : ∀ c : Fin 256, bits .and .u8 (c.val : Int) 16 = ((c.val &&& 16 : Nat) : Int) := by decide +kernel
theorem u8_and16 (x : UInt8) : bits .and .u8 (by8 x) 16 = by8 (x &&& 16) := by
  have := and16 ⟨x.toNat, x.toNat_lt⟩
  unfold by8
  rw [UInt8.toNat_and]
  exact this
theorem by8_mark (x : UInt8) : by8 x / (2 : Int) ^ 5 = by8 (x >>> 5) := by
  unfold by8
  rw [UInt8.toNat_shiftRight, Nat.shiftRight_eq_div_pow]
  simp
theorem by8_zero (x : UInt8) : (by8 x == 0) = (x == 0) := by
  rw [show (0 : Int) = by8 0 from rfl, by8_beq]
theorem grown_cell {w0 w w' : World} {row : Option Nat} (hg : w.grownBy w' row) {p : Addr} (hs : p.block < w.heap.size) (hr : ∀ g, row = some g → w0.heap.size ≤ g) (hp : p.block < w0.heap.size) : w'.cell? p = w.cell? p :=
  World.cell?_of_block (hg.block p.block hs (fun e => by have := hr _ e.symm; omega))
/-- What read answers. -/
def ReadPost (w : World) (r : Option (List UInt8 × UInt8)) (e : Ending) (w' : World) : Prop := match r with
  | none => e = .returned (.tuple #[.slice none 0 0, .int .u8 0, .bool false]) ∧ Below w.heap.size w w'
  | some (p, m) => ∃ (A : Option Addr) (c : Nat), e = .returned (.tuple #[.slice A p.length c, .int .u8 (by8 m), .bool true]) ∧ OwnP w' w.heap.size (A, c, p) ∧ Below w.heap.size w w'
set_option maxHeartbeats 4000000 in
set_option maxRecDepth 20000 in
theorem readT_calls (A : Option Addr) (c : Nat) (b : List UInt8) (w : World) (hl : b.length ≤ 1073741824) (hc : b.length ≤ c) (hm : c ≤ maxLen) (hs : SeqB w A b) :
    Calls Tryd.prog 106 #[.slice A b.length c] w (ReadPost w (readT b)) := by
  cases b with
  | nil =>
    clear hs
    go_enter Tryd.func106, Tryd.ntmps106
    go_wp2_with fail
    exact bodyPost_ret (results_tmp3 rfl _ _ _) rfl ⟨rfl, Below.refl _ _⟩
  | cons x r =>
    have hrc := readT_cons x r
    obtain ⟨ad, rfl, hlt, hcell⟩ := hs.seq.byte 0 (by simp)
    have hadd : ad.add 0 = ad := by unfold Addr.add; simp
    rw [hadd] at hcell
    simp only [List.getElem_cons_zero] at hcell
    have d0 : (((x :: r).length : Int) == 0) = false := by
      have : ((x :: r).length : Int) ≠ 0 := by simp; omega
      simpa using this
    have l0 : (0 : Int) < ((x :: r).length : Int) := by simp
    have hx16 := u8_and16 x
    have hx15 := u8_and15 x
    have HRc := Lib.hid hrc
    have HS := Lib.hid hs
    clear hrc hs hadd
    by_cases h64 : 64 ≤ x.toNat
    · have d1 : decide (by8 x ≥ 64) = true := decide_eq_true (by unfold by8; omega)
      have hr := HRc.out
      rw [if_pos (Or.inl h64)] at hr
      have HR := Lib.hid hr
      clear hr HRc
      go_enter Tryd.func106, Tryd.ntmps106
      go_wp2_with fail
      refine bodyPost_ret (results_tmp3 rfl _ _ _) rfl ?_
      unfold ReadPost
      rw [HR.out]
      exact ⟨rfl, Below.refl _ _⟩
    · have d1 : decide (by8 x ≥ 64) = false := decide_eq_false (by unfold by8; omega)
      by_cases h16 : x &&& 16 = 0
      · have e16 : (by8 (x &&& 16) == 0) = true := by rw [by8_zero, h16]; rfl
        by_cases h15 : x &&& 15 = 0
        · have e15 : (by8 (x &&& 15) != 0) = false := by
            unfold bne
            rw [by8_zero, h15]
            rfl
          have n16 : (by8 (x &&& 16) != 0) = false := by
            unfold bne
            rw [by8_zero, h16]
            rfl
          have hr := HRc.out
          rw [if_neg (by rintro (h | h); exact h64 h; exact h.2 h15), if_neg (by simp [h16]), List.nil_append] at hr
          have HR := Lib.hid hr
          clear hr HRc h16 h15
          go_enter Tryd.func106, Tryd.ntmps106
          go_upto_region 5 with fail
          have HOwn := Lib.hid (World.ownsRow_nil w w.heap.size 5 1)
          have HBel := Lib.hid (Below.refl w.heap.size w)
          have hsW := HBel.out.size
          have hcN : r.length + 1 ≤ c := hc
          have hcI : (r.length : Int) + 1 ≤ (c : Int) := by omega
          have l1i : (1 : Int) ≤ (r.length : Int) + 1 := by omega
          have hadl : ad.block < w.heap.size := Nat.lt_of_lt_of_le hlt HBel.out.size
          have qx : w.cell? ad = some (.int .u8 (by8 x)) := (HBel.out.cell (p := ad) hlt).trans hcell
          have hsx := (HS.out.below HBel.out).cut (k := 1) hc
          have HSx := Lib.hid hsx
          have l1 : (1 : Int) ≤ ((x :: r).length : Int) := by simp; omega
          have l1n : 1 ≤ r.length + 1 := by omega
          have esh := by8_mark x
          have esh2 : by8 x / (32 : Int) = by8 (x >>> 5) := by8_mark x
          have hbd := below_drewN (Below.refl w.heap.size w) 1
          have HBd := Lib.hid hbd
          clear hsx hbd HS
          by_cases hc1 : c = 1
          · have hr0 : r = [] := List.eq_nil_of_length_eq_zero (by simp at hc; omega)
            subst hr0
            subst hc1
            clear HSx
            go_region_law (first
              | (go_simp; go_at_call 52; (refine (nibbles_calls (some ad) 0 0 [] w.drew (by simp) Seq.none_ (Nat.zero_le _)).mono ?_; rintro e5 w5 ⟨A5, c5, rfl, ho5, hb5⟩; have hb5' := HBd.out.trans hb5; have hs5 := hb5'.size; have k5 : w5.cell? ad = some (.int .u8 (by8 x)) := (hb5'.cell (p := ad) hadl).trans qx; have HO5 := Lib.hid ho5; have HB5 := Lib.hid hb5'; have HQ5 := Lib.hid (own_below' HOwn.out hb5'); clear ho5 hb5 hb5'))
              | ((refine step_append_seq rfl (.tmp 40) (.tmp 43) 24 rfl elByte rfl HQ5.out rfl (by rw [bytes_length, Nat.mul_one]) (Seq.of_own HO5.out) (bytes_one _) (by rw [nib_length]; unfold maxLen; simp) (by rw [nib_length]; simp) (by omega) ?_; intro A7 c7 w7 ho7 hg7; have k7 : w7.cell? ad = some (.int .u8 (by8 x)) := (grown_cell (w0 := w) hg7 (p := ad) (by omega) (fun g hg => (HQ5.out.lt g hg).1) hlt).trans k5; have HO7 := Lib.hid ho7; have HG7 := Lib.hid hg7; clear ho7 hg7)))
            all_goals
              go_wp2_with fail
              refine bodyPost_ret (results_tmp3 rfl _ _ _) rfl ?_
              unfold ReadPost
              rw [HR.out]
              have ho7 := HO7.out
              rw [Nat.zero_add, List.nil_append] at ho7
              exact ⟨A7, c7, rfl, ho7, (HBel.out.trans (HB5.out.mono hsW)).grown HG7.out (by omega) (fun g hg => (HQ5.out.lt g hg).1)⟩
          · have hsx := HSx.out
            rw [if_neg hc1] at hsx
            have hsr : SeqB w (some ⟨ad.block, ad.off + 1, none⟩) r := hsx
            have HSr := Lib.hid hsr
            clear hsx hsr HSx
            go_region_law (first
              | (go_simp; go_at_call 52; (refine (nibbles_calls (some ⟨ad.block, ad.off + 1, none⟩) (c - 1) w.heap.size r w.drew (by simp at hl; omega) HSr.out.seq.drew (Nat.le_refl _)).mono ?_; rintro e5 w5 ⟨A5, c5, rfl, ho5, hb5⟩; have hb5' := HBd.out.trans hb5; have hs5 := hb5'.size; have k5 : w5.cell? ad = some (.int .u8 (by8 x)) := (hb5'.cell (p := ad) hadl).trans qx; have HO5 := Lib.hid ho5; have HB5 := Lib.hid hb5'; have HQ5 := Lib.hid (own_below' HOwn.out hb5'); clear ho5 hb5 hb5'))
              | ((refine step_append_seq rfl (.tmp 40) (.tmp 43) 24 rfl elByte rfl HQ5.out rfl (by rw [bytes_length, Nat.mul_one]) (Seq.of_own HO5.out) (bytes_one _) (by rw [nib_length]; unfold maxLen; simp at hl; omega) (by rw [nib_length]; simp at hl; omega) (by omega) ?_; intro A7 c7 w7 ho7 hg7; have k7 : w7.cell? ad = some (.int .u8 (by8 x)) := (grown_cell (w0 := w) hg7 (p := ad) (by omega) (fun g hg => (HQ5.out.lt g hg).1) hlt).trans k5; have HO7 := Lib.hid ho7; have HG7 := Lib.hid hg7; clear ho7 hg7)))
            all_goals
              go_wp2_with fail
              refine bodyPost_ret (results_tmp3 rfl _ _ _) rfl ?_
              unfold ReadPost
              rw [HR.out]
              have ho7 := HO7.out
              rw [Nat.zero_add, List.nil_append] at ho7
              exact ⟨A7, c7, rfl, ho7, (HBel.out.trans (HB5.out.mono hsW)).grown HG7.out (by omega) (fun g hg => (HQ5.out.lt g hg).1)⟩

        · have e15 : (by8 (x &&& 15) != 0) = true := by
            unfold bne
            rw [by8_zero]
            simpa using h15
          have hr := HRc.out
          rw [if_pos (Or.inr ⟨h16, h15⟩)] at hr
          have HR := Lib.hid hr
          clear hr HRc h16 h15
          go_enter Tryd.func106, Tryd.ntmps106
          go_wp2_with fail
          refine bodyPost_ret (results_tmp3 rfl _ _ _) rfl ?_
          unfold ReadPost
          rw [HR.out]
          exact ⟨rfl, Below.refl _ _⟩
      · have e16 : (by8 (x &&& 16) == 0) = false := by rw [by8_zero]; simpa using h16
        have n16 : (by8 (x &&& 16) != 0) = true := by
          unfold bne
          rw [by8_zero]
          simpa using h16
        have hr := HRc.out
        rw [if_neg (by rintro (h | h); exact h64 h; exact h16 h.1), if_pos h16] at hr
        have HR := Lib.hid hr
        clear hr HRc h16
        go_enter Tryd.func106, Tryd.ntmps106
        go_upto_region 5 with (at_builtin; ((refine wpL_append rfl (.tmp 33) (.tmp 38) 24 rfl elByte rfl (World.ownsRow_nil _ w.heap.size 5 1) rfl rfl (Seq.of_blk (xs := bytes [x &&& 15]) (Blk.new' _ _ _ rfl) (Nat.lt_succ_self _)) (bytes_one _) (by unfold maxLen; omega) (by omega) (by rw [size_alloc]; omega) ?_; intro A4 c4 w4 ho4 hg4 _; have HO4 := Lib.hid ho4; have HB4 := Lib.hid (((Below.refl w.heap.size w).alloc (Nat.le_refl _) (.cells #[.int .u8 (by8 (x &&& 15))] 5)).grown hg4 (by rw [size_alloc]; omega) (fun g hg => by simp [Value.ownBlock] at hg)); clear ho4 hg4)))
        have HOwn := Lib.hid (HO4.out)
        have HBel := Lib.hid (HB4.out)
        have hsW := HBel.out.size
        have hcN : r.length + 1 ≤ c := hc
        have hcI : (r.length : Int) + 1 ≤ (c : Int) := by omega
        have l1i : (1 : Int) ≤ (r.length : Int) + 1 := by omega
        have hadl : ad.block < w4.heap.size := Nat.lt_of_lt_of_le hlt HBel.out.size
        have qx : w4.cell? ad = some (.int .u8 (by8 x)) := (HBel.out.cell (p := ad) hlt).trans hcell
        have hsx := (HS.out.below HBel.out).cut (k := 1) hc
        have HSx := Lib.hid hsx
        have l1 : (1 : Int) ≤ ((x :: r).length : Int) := by simp; omega
        have l1n : 1 ≤ r.length + 1 := by omega
        have esh := by8_mark x
        have esh2 : by8 x / (32 : Int) = by8 (x >>> 5) := by8_mark x
        have hbd := below_drewN (Below.refl w4.heap.size w4) 1
        have HBd := Lib.hid hbd
        clear hsx hbd HS
        by_cases hc1 : c = 1
        · have hr0 : r = [] := List.eq_nil_of_length_eq_zero (by simp at hc; omega)
          subst hr0
          subst hc1
          clear HSx
          go_region_law (first
            | (go_simp; go_at_call 52; (refine (nibbles_calls (some ad) 0 0 [] w4.drew (by simp) Seq.none_ (Nat.zero_le _)).mono ?_; rintro e5 w5 ⟨A5, c5, rfl, ho5, hb5⟩; have hb5' := HBd.out.trans hb5; have hs5 := hb5'.size; have k5 : w5.cell? ad = some (.int .u8 (by8 x)) := (hb5'.cell (p := ad) hadl).trans qx; have HO5 := Lib.hid ho5; have HB5 := Lib.hid hb5'; have HQ5 := Lib.hid (own_below' HOwn.out hb5'); clear ho5 hb5 hb5'))
            | ((refine step_append_seq rfl (.tmp 40) (.tmp 43) 24 rfl elByte rfl HQ5.out rfl (by rw [bytes_length, Nat.mul_one]) (Seq.of_own HO5.out) (bytes_one _) (by rw [nib_length]; unfold maxLen; simp) (by rw [nib_length]; simp) (by omega) ?_; intro A7 c7 w7 ho7 hg7; have k7 : w7.cell? ad = some (.int .u8 (by8 x)) := (grown_cell (w0 := w) hg7 (p := ad) (by omega) (fun g hg => (HQ5.out.lt g hg).1) hlt).trans k5; have HO7 := Lib.hid ho7; have HG7 := Lib.hid hg7; clear ho7 hg7)))
          all_goals
            go_wp2_with fail
            refine bodyPost_ret (results_tmp3 rfl _ _ _) rfl ?_
            unfold ReadPost
            rw [HR.out]
            have el : ([x &&& 15] ++ nib []).length = 1 + (nib []).length := by simp; omega
            have ho7 := HO7.out
            rw [List.nil_append, ← bytes_append] at ho7
            simp only
            rw [el]
            have hoq : OwnP w7 w.heap.size (A7, c7, [x &&& 15] ++ nib []) := by
              show w7.ownsRow _ _ _ (.slice A7 ([x &&& 15] ++ nib []).length c7) ([x &&& 15] ++ nib []).length _
              rw [el]
              exact ho7
            exact ⟨A7, c7, rfl, hoq, (HBel.out.trans (HB5.out.mono hsW)).grown HG7.out (by omega) (fun g hg => (HQ5.out.lt g hg).1)⟩
        · have hsx := HSx.out
          rw [if_neg hc1] at hsx
          have hsr : SeqB w4 (some ⟨ad.block, ad.off + 1, none⟩) r := hsx
          have HSr := Lib.hid hsr
          clear hsx hsr HSx
          go_region_law (first
            | (go_simp; go_at_call 52; (refine (nibbles_calls (some ⟨ad.block, ad.off + 1, none⟩) (c - 1) w4.heap.size r w4.drew (by simp at hl; omega) HSr.out.seq.drew (Nat.le_refl _)).mono ?_; rintro e5 w5 ⟨A5, c5, rfl, ho5, hb5⟩; have hb5' := HBd.out.trans hb5; have hs5 := hb5'.size; have k5 : w5.cell? ad = some (.int .u8 (by8 x)) := (hb5'.cell (p := ad) hadl).trans qx; have HO5 := Lib.hid ho5; have HB5 := Lib.hid hb5'; have HQ5 := Lib.hid (own_below' HOwn.out hb5'); clear ho5 hb5 hb5'))
            | ((refine step_append_seq rfl (.tmp 40) (.tmp 43) 24 rfl elByte rfl HQ5.out rfl (by rw [bytes_length, Nat.mul_one]) (Seq.of_own HO5.out) (bytes_one _) (by rw [nib_length]; unfold maxLen; simp at hl; omega) (by rw [nib_length]; simp at hl; omega) (by omega) ?_; intro A7 c7 w7 ho7 hg7; have k7 : w7.cell? ad = some (.int .u8 (by8 x)) := (grown_cell (w0 := w) hg7 (p := ad) (by omega) (fun g hg => (HQ5.out.lt g hg).1) hlt).trans k5; have HO7 := Lib.hid ho7; have HG7 := Lib.hid hg7; clear ho7 hg7)))
          all_goals
            go_wp2_with fail
            refine bodyPost_ret (results_tmp3 rfl _ _ _) rfl ?_
            unfold ReadPost
            rw [HR.out]
            have el : ([x &&& 15] ++ nib r).length = 1 + (nib r).length := by simp; omega
            have ho7 := HO7.out
            rw [List.nil_append, ← bytes_append] at ho7
            simp only
            rw [el]
            have hoq : OwnP w7 w.heap.size (A7, c7, [x &&& 15] ++ nib r) := by
              show w7.ownsRow _ _ _ (.slice A7 ([x &&& 15] ++ nib r).length c7) ([x &&& 15] ++ nib r).length _
              rw [el]
              exact ho7
            exact ⟨A7, c7, rfl, hoq, (HBel.out.trans (HB5.out.mono hsW)).grown HG7.out (by omega) (fun g hg => (HQ5.out.lt g hg).1)⟩

end Go.Proofs.YtfhindffmghlaaaDoor
/- shaped. -/
namespace Go.Proofs.YtfhindffmghlaaaDoor
open Go.RowKit It
theorem shapedT_else {xs : List It} (h : xs.length ≠ 2) : shapedT xs = (xs.length == 17) := by
  unfold shapedT
  split
  · simp at h
  · rfl
theorem ListAt.kid_of {w : World} {v : Value} {xs : List It} {i : Nat} {it : It} (h : ListAt w v xs) (hi : xs[i]? = some it) : ∃ ad c u, v = .slice (some ad) xs.length c ∧ ad.block < w.heap.size ∧ w.cell? (ad.add i) = some u ∧ ItAt w u it := by
  obtain ⟨hlt, rfl⟩ := List.getElem?_eq_some_iff.1 hi
  exact h.kid hlt
def listI : It → Bool
  | .bytes _ => false
  | .list _ => true
def cntI : It → Int
  | .bytes _ => 0
  | .list xs => (xs.length : Int)
def bytesI : It → List UInt8
  | .bytes l => l
  | .list _ => []
/-- The head of an item's row. -/
theorem ItAt.head {w : World} {v : Value} {it : It} (h : ItAt w v it) : ∃ (ad : Addr) (c : Nat) (Ab : Option Addr) (cb : Nat) (lb : List UInt8), v = .slice (some ad) it.flat.length c ∧ it.flat.length ≤ c ∧ c ≤ maxLen ∧ ad.block < w.heap.size ∧
    w.cell? ad = some (.bool (listI it)) ∧ w.cell? ⟨ad.block, ad.off + 1, none⟩ = some (.int .i64 (cntI it)) ∧ w.cell? ⟨ad.block, ad.off + 2, none⟩ = some (.slice Ab lb.length cb) ∧ lb = bytesI it ∧ SeqB w Ab lb ∧ lb.length ≤ cb ∧ cb ≤ maxLen ∧ lb.length ≤ 524288 := by
  obtain ⟨A, c, its, rfl, hc, hm, hs, hq, hby, hl, hbl, hcp⟩ := h
  have hlen : its.length = it.flat.length := by rw [← hs, List.length_map]
  have hp := flat_pos it
  obtain ⟨ad, rfl, hlt, h0, h1, h2⟩ := (ItemsAt.of_seq hq.seq).get 0 (by omega)
  have hsd := said_at hs (j := 0) (by omega)
  have hm0 : its[0]'(by omega) ∈ its := List.getElem_mem _
  have hb1 := hby _ hm0
  have hb2 := hbl _ hm0
  have hb3 := hcp _ hm0
  rw [add_zero'] at h0 h1 h2
  generalize its[0]'(by omega) = x at *
  obtain ⟨isL, cnt, Ab, cb, lb⟩ := x
  refine ⟨ad, c, Ab, cb, lb, by rw [hlen], by omega, hm, hlt, ?_, ?_, h2, ?_, hb1, hb3.1, hb3.2, hb2⟩
  · cases it with
    | bytes l => simp only [It.flat, List.getElem?_cons_zero, Option.some.injEq, said, Prod.mk.injEq] at hsd; rw [h0, ← hsd.1]; rfl
    | list xs => simp only [It.flat, List.getElem?_cons_zero, Option.some.injEq, said, Prod.mk.injEq] at hsd; rw [h0, ← hsd.1]; rfl
  · cases it with
    | bytes l => simp only [It.flat, List.getElem?_cons_zero, Option.some.injEq, said, Prod.mk.injEq] at hsd; rw [h1, ← hsd.2.1]; rfl
    | list xs => simp only [It.flat, List.getElem?_cons_zero, Option.some.injEq, said, Prod.mk.injEq] at hsd; rw [h1, ← hsd.2.1]; rfl
  · cases it with
    | bytes l => simp only [It.flat, List.getElem?_cons_zero, Option.some.injEq, said, Prod.mk.injEq] at hsd; exact hsd.2.2.symm
    | list xs => simp only [It.flat, List.getElem?_cons_zero, Option.some.injEq, said, Prod.mk.injEq] at hsd; exact hsd.2.2.symm
set_option maxHeartbeats 4000000 in
set_option maxRecDepth 20000 in
theorem shaped_calls (v : Value) (xs : List It) (w : World) (h : ListAt w v xs) :
    Calls Tryd.prog 86 #[v] w fun e w' => e = .returned (.bool (shapedT xs)) ∧ Below w.heap.size w w' := by
  by_cases h2 : xs.length = 2
  · obtain ⟨x0, x1, rfl⟩ : ∃ x0 x1, xs = [x0, x1] := by
      match xs, h2 with
      | [a, b], _ => exact ⟨a, b, rfl⟩
    obtain ⟨ad, c, u, rfl, hlt, hcell, hit⟩ := h.kid_of (i := 0) (it := x0) rfl
    have hadd : ad.add 0 = ad := by unfold Addr.add; simp
    rw [hadd] at hcell
    have hh := hit.head
    clear hit
    obtain ⟨a0, c0, Ab, cb, lb, rfl, hc0, hm0, hlt0, q0, q1, q2, hlb, hsb, hlc, hcbm, hll⟩ := hh
    clear hadd h h2
    cases x0 with
    | bytes l =>
      simp only [listI, cntI, bytesI] at q0 q1 hlb
      subst hlb
      have hsh : shapedT [.bytes lb, x1] = (readT lb).isSome := rfl
      have HSh := Lib.hid hsh
      have HSb := Lib.hid hsb
      rw [It.flat] at hcell
      clear hsh hsb hc0
      have hcall := readT_calls Ab cb lb w (by omega) hlc hcbm HSb.out
      cases hr : readT lb with
      | none =>
        rw [hr] at hcall
        have HCall := Lib.hid hcall
        have HRn := Lib.hid hr
        clear hcall hr
        go_enter Tryd.func86, Tryd.ntmps86
        go_wp2_with (go_at_call 106; (refine HCall.out.mono ?_; rintro e w2 ⟨rfl, hb2⟩; have HB2 := Lib.hid hb2; clear hb2))
        go_ret
        exact ⟨by rw [HSh.out, HRn.out]; rfl, HB2.out⟩
      | some pm =>
        obtain ⟨p, m⟩ := pm
        rw [hr] at hcall
        have HCall := Lib.hid hcall
        have HRn := Lib.hid hr
        clear hcall hr
        go_enter Tryd.func86, Tryd.ntmps86
        go_wp2_with (go_at_call 106; (refine HCall.out.mono ?_; rintro e w2 ⟨A2, c2, rfl, _, hb2⟩; have HB2 := Lib.hid hb2; clear hb2))
        go_ret
        exact ⟨by rw [HSh.out, HRn.out]; rfl, HB2.out⟩
    | list ys =>
      simp only [listI, cntI, bytesI] at q0 q1 hlb
      have hsh : shapedT [.list ys, x1] = false := rfl
      have HSh := Lib.hid hsh
      rw [It.flat] at hcell
      clear hsh hc0 hlb
      obtain ⟨n, hn⟩ : ∃ n, ((true, (ys.length : Int), ([] : List UInt8)) :: flats ys).length = n := ⟨_, rfl⟩
      rw [hn] at hcell
      clear hn
      by_cases h1 : n = 1
      · subst h1
        go_enter Tryd.func86, Tryd.ntmps86
        go_wp2_with fail
        go_ret
        exact ⟨by rw [HSh.out]; rfl, Below.refl _ _⟩
      · have d1 : ((n : Int) == 1) = false := by
          have : (n : Int) ≠ 1 := by omega
          simpa using this
        go_enter Tryd.func86, Tryd.ntmps86
        go_wp2_with fail
        go_ret
        exact ⟨by rw [HSh.out]; rfl, Below.refl _ _⟩
  · obtain ⟨A, c, vs, rfl, _, _, hxl, _⟩ := h
    have hsh := shapedT_else h2
    have d2 : ((xs.length : Int) == 2) = false := by
      have : (xs.length : Int) ≠ 2 := by omega
      simpa using this
    obtain ⟨b, hb⟩ : ∃ b, (xs.length == 17) = b := ⟨_, rfl⟩
    have d17 : ((xs.length : Int) == 17) = b := by
      rw [← hb, Bool.eq_iff_iff, beq_iff_eq, beq_iff_eq]
      omega
    rw [hsh, hb]
    clear hsh hb h2
    generalize xs.length = n at *
    go_enter Tryd.func86, Tryd.ntmps86
    go_wp2_with fail
    go_ret
    exact ⟨rfl, Below.refl _ _⟩
end Go.Proofs.YtfhindffmghlaaaDoor
/- The state of a proof's way in memory. No walk. -/
namespace Go.Proofs.YtfhindffmghlaaaDoor
open Go.RowKit It
/-- The three errors are there. -/
def Errs (w : World) : Prop := ∀ g, g = 0 ∨ g = 1 ∨ g = 2 → ∃ tp ev, w.cell? ⟨g, 0, none⟩ = some (.iface tp ev)
/-- The variables lie below. -/
def Lows (gp : Nat) : Prop := 0 < gp ∧ 1 < gp ∧ 2 < gp ∧ 4 < gp ∧ 3 < gp
theorem Errs.kept {w w' : World} {gp : Nat} (h : Errs w) (hk : Kept w w' (fun b => b = gp)) (hl : Lows gp) (hs : gp ≤ w.heap.size) : Errs w' := fun g hg => by
  obtain ⟨tp, ev, hc⟩ := h g hg
  have hlt : g < gp := by
    obtain ⟨h1, h2, h3, _⟩ := hl
    rcases hg with rfl | rfl | rfl <;> assumption
  exact ⟨tp, ev, by rw [← hc]; exact World.cell?_of_block (w := w) (hk.block g (by omega) (by omega))⟩
theorem Errs.below {w w' : World} {B : Nat} (h : Errs w) (hb : Below B w w') (hl : Lows B) : Errs w' := fun g hg => by
  obtain ⟨tp, ev, hc⟩ := h g hg
  have hlt : g < B := by
    obtain ⟨h1, h2, h3, _⟩ := hl
    rcases hg with rfl | rfl | rfl <;> assumption
  exact ⟨tp, ev, (hb.cell (p := ⟨g, 0, none⟩) hlt).trans hc⟩
theorem Tables.kept {w w' : World} {gp : Nat} (h : Tables w) (hk : Kept w w' (fun b => b = gp)) (hl : Lows gp) (hs : gp ≤ w.heap.size) : Tables w' := by
  obtain ⟨_, _, _, h4, h5⟩ := hl
  have hz := hk.size
  refine ⟨fun i hi => ?_, fun i hi => ?_, by omega⟩
  · rw [← h.turns i hi]
    exact World.cell?_of_block (w := w) (hk.block 4 (by omega) (by omega))
  · rw [← h.marks i hi]
    exact World.cell?_of_block (w := w) (hk.block 3 (by omega) (by omega))
/-- A row of texts that were handed in. -/
def RowAt (w : World) (v : Value) (texts : List (List UInt8)) : Prop :=
  ∃ (A : Option Addr) (c : Nat) (ps : List Piece), v = .slice A ps.length c ∧ ps.map txt = texts ∧ ps.length ≤ c ∧ c ≤ maxLen ∧ SeqT w 24 A (pcs ps) ∧ ∀ p ∈ ps, SeqB w p.1 p.2.2 ∧ p.2.2.length ≤ p.2.1 ∧ p.2.1 ≤ maxLen ∧ p.2.2.length ≤ 524288
/-- A path that is left. -/
def PathAt (w : World) (v : Value) (path : List UInt8) : Prop := ∃ (A : Option Addr) (c : Nat), v = .slice A path.length c ∧ path.length ≤ c ∧ c ≤ maxLen ∧ SeqB w A path
structure PrAt (w : World) (gp : Nat) (texts : List (List UInt8)) (path : List UInt8) : Prop where
  tables : Tables w
  errs : Errs w
  low : Lows gp
  nibs : Nibs path
  len : path.length ≤ 281474976710656
  at_ : ∃ vt vp, Blk w gp 88 #[vt, vp] ∧ RowAt w vt texts ∧ PathAt w vp path
section
variable {w w' : World} {v : Value} {texts : List (List UInt8)} {path : List UInt8} {gp : Nat}
theorem RowAt.keep (h : RowAt w v texts) (hk : ∀ g cs, Blk w g 24 cs → Blk w' g 24 cs) (hk2 : ∀ g cs, Blk w g 5 cs → Blk w' g 5 cs) : RowAt w' v texts := by
  obtain ⟨A, c, ps, h1, h2, h3, h4, h5, h6⟩ := h
  exact ⟨A, c, ps, h1, h2, h3, h4, h5.keep hk, fun p hp => ⟨(h6 p hp).1.keep hk2, (h6 p hp).2⟩⟩
theorem PathAt.keep (h : PathAt w v path) (hk2 : ∀ g cs, Blk w g 5 cs → Blk w' g 5 cs) : PathAt w' v path := by
  obtain ⟨A, c, h1, h2, h3, h4⟩ := h
  exact ⟨A, c, h1, h2, h3, h4.keep hk2⟩
/-- What a step at a proof leaves of other kinds. -/
theorem Kept.other {g : Nat} {ty : TypeId} {cs cs' : Array Value} (hk : Kept w w' (fun b => b = gp)) (hp : Blk w gp 88 cs') (ht : ty ≠ 88) (hb : Blk w g ty cs) : Blk w' g ty cs :=
  hk.blk hb (fun e => Blk.ne hb hp ht e)
theorem PrAt.lt (h : PrAt w gp texts path) : gp < w.heap.size := by
  obtain ⟨vt, vp, hb, _⟩ := h.at_
  exact hb.lt
theorem PrAt.below (h : PrAt w gp texts path) (hb : Below w.heap.size w w') : PrAt w' gp texts path := by
  have hlt := h.lt
  obtain ⟨vt, vp, h1, h2, h3⟩ := h.at_
  exact ⟨h.tables.below hb h.tables.size, h.errs.below hb ⟨by have := h.low.1; omega, by have := h.low.2.1; omega, by have := h.low.2.2.1; omega, by have := h.low.2.2.2.1; omega, by have := h.low.2.2.2.2; omega⟩, h.low, h.nibs, h.len, vt, vp, h1.below hb h1.lt,
    h2.keep (fun _ _ hq => hq.below hb hq.lt) (fun _ _ hq => hq.below hb hq.lt), h3.keep (fun _ _ hq => hq.below hb hq.lt)⟩
theorem ListAt.kept {xs : List It} {cs' : Array Value} (h : ListAt w v xs) (hk : Kept w w' (fun b => b = gp)) (hp : Blk w gp 88 cs') : ListAt w' v xs :=
  h.keep (fun _ _ hq => hk.other hp (by decide) hq) (fun _ _ hq => hk.other hp (by decide) hq) (fun _ _ hq => hk.other hp (by decide) hq)
theorem ItAt.kept {it : It} {cs' : Array Value} (h : ItAt w v it) (hk : Kept w w' (fun b => b = gp)) (hp : Blk w gp 88 cs') : ItAt w' v it :=
  h.keep (fun _ _ hq => hk.other hp (by decide) hq) (fun _ _ hq => hk.other hp (by decide) hq)
/-- Its texts or its path are put. -/
theorem PrAt.put {texts' : List (List UInt8)} {path' : List UInt8} {vt vp : Value} (h : PrAt w gp texts path) (hk : Kept w w' (fun b => b = gp)) (hb : Blk w' gp 88 #[vt, vp]) (hn : Nibs path') (hl : path'.length ≤ 281474976710656) (h1 : RowAt w vt texts') (h2 : PathAt w vp path') : PrAt w' gp texts' path' := by
  have hlt := h.lt
  obtain ⟨_, _, hp, _⟩ := h.at_
  exact ⟨h.tables.kept hk h.low (by omega), h.errs.kept hk h.low (by omega), h.low, hn, hl, vt, vp, hb, h1.keep (fun _ _ hq => hk.other hp (by decide) hq) (fun _ _ hq => hk.other hp (by decide) hq), h2.keep (fun _ _ hq => hk.other hp (by decide) hq)⟩
theorem RowAt.tail {t : List UInt8} {ts : List (List UInt8)} (h : RowAt w v (t :: ts)) : ∃ (ad : Addr) (c : Nat) (p : Piece), v = .slice (some ad) (ts.length + 1) c ∧ ts.length + 1 ≤ c ∧ c ≤ maxLen ∧ ad.block < w.heap.size ∧ w.cell? ad = some (pcV p) ∧ p.2.2 = t ∧ SeqB w p.1 t ∧ t.length ≤ p.2.1 ∧ p.2.1 ≤ maxLen ∧ t.length ≤ 524288 ∧
    (∀ (ad' : Addr), ad' = (if c = 1 then ad else ad.add 1) → RowAt w (.slice (some ad') ts.length (c - 1)) ts) := by
  obtain ⟨A, c, ps, rfl, hm, hc, hcm, hs, hp⟩ := h
  cases ps with
  | nil => simp at hm
  | cons p ps =>
    simp only [List.map_cons, List.cons.injEq] at hm
    obtain ⟨h1, rfl⟩ := hm
    have h1 : p.2.2 = t := h1
    obtain ⟨ad, rfl, hlt, h0⟩ := hs.at_ (k := 0) (by simp [pcs])
    have hadd : ad.add 0 = ad := by unfold Addr.add; simp
    rw [hadd] at h0
    obtain ⟨a1, a2, a3, a4⟩ := hp p (by simp)
    rw [h1] at a1 a2 a4
    simp only [List.length_cons] at hc
    refine ⟨ad, c, p, by simp, by simpa using hc, hcm, hlt, h0, h1, a1, a2, a3, a4, fun ad' e => ⟨some ad', c - 1, ps, by simp, rfl, by omega, by omega, ?_, fun q hq => hp q (by simp [hq])⟩⟩
    subst e
    split
    · have e0 : ps = [] := List.eq_nil_of_length_eq_zero (by omega)
      subst e0
      exact SeqT.nil
    · exact hs.drop 1
end
/-- What a way's two results are. -/
def WayIs (gp : Nat) (r : WayR) (a b : Value) (w' : World) : Prop := match r with
  | none => a = .slice none 0 0 ∧ ∃ tp ev, b = .iface tp ev
  | some (v, ts) => b = .nilIface ∧ ∃ (A : Option Addr) (c : Nat) (path' : List UInt8), a = .slice A v.length c ∧ SeqB w' A v ∧ v.length ≤ c ∧ v.length ≤ 524288 ∧ PrAt w' gp ts path'
/-- What a step along a way answers. -/
def WayPost (w : World) (gp : Nat) (r : WayR) (e : Ending) (w' : World) : Prop :=
  ∃ a b, e = .returned (.tuple #[a, b]) ∧ Kept w w' (fun b => b = gp) ∧ WayIs gp r a b w'
theorem WayPost.mk {w w' : World} {gp : Nat} {r r' : WayR} {a b : Value} (hr : r' = r) (hk : Kept w w' (fun b => b = gp)) (h : WayIs gp r a b w') : WayPost w gp r' (.returned (.tuple #[a, b])) w' := by
  subst hr
  exact ⟨a, b, rfl, hk, h⟩
end Go.Proofs.YtfhindffmghlaaaDoor
