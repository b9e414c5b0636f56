/- in. -/
import Derived.Test.YtfhindffmghlaaaDoorG22
import Derived.LaidEql
set_option linter.unusedVariables false
set_option linter.unusedSimpArgs false
namespace Go.Proofs.YtfhindffmghlaaaDoor
open Go.RowKit It
/-- What a way that ends here gives. -/
def endI (texts : List (List UInt8)) : It → WayR
  | .list _ => none
  | .bytes v => some (v, texts)
theorem ListAt.kidT {w : World} {v : Value} {xs : List It} {i : Nat} {it : It} (h : ListAt w v xs) (hi : xs[i]? = some it) : ∃ ad c u, v = .slice (some ad) xs.length c ∧ (∃ cs, Blk w ad.block 105 cs) ∧ w.cell? (ad.add i) = some u ∧ ItAt w u it := by
  obtain ⟨A, c, vs, h1, h2, h3, h4, h5⟩ := h
  obtain ⟨hlt, rfl⟩ := List.getElem?_eq_some_iff.1 hi
  obtain ⟨ad, rfl, hb, hc⟩ := h3 (by omega)
  exact ⟨ad, c, _, h1, hb, hc i (by omega), h5 i _ _ (List.getElem?_eq_getElem (by omega)) hi⟩
theorem look_end (hash : List UInt8 → List UInt8) (k : List It → List (List UInt8) → List UInt8 → WayR) {xs : List It} {texts : List (List UInt8)} {it : It} (h : xs.length = 17) (hi : xs[16]? = some it) :
    lookT hash k xs texts [] = endI texts it := by
  unfold lookT
  rw [if_pos h]
  simp only
  have : xs.getD 16 (.bytes []) = it := by rw [List.getD_eq_getElem?_getD, hi]; rfl
  rw [this]
  cases it <;> rfl
theorem look_kid (hash : List UInt8 → List UInt8) (k : List It → List (List UInt8) → List UInt8 → WayR) {xs : List It} {texts : List (List UInt8)} {it : It} {x : UInt8} {r : List UInt8} (h : xs.length = 17) (hi : xs[x.toNat]? = some it) :
    lookT hash k xs texts (x :: r) = atT hash k it texts r := by
  unfold lookT
  rw [if_pos h]
  simp only
  have : xs.getD x.toNat (.bytes []) = it := by rw [List.getD_eq_getElem?_getD, hi]; rfl
  rw [this]
set_option maxHeartbeats 4000000 in
set_option maxRecDepth 20000 in
theorem in17_calls (gp : Nat) (k : List It → List (List UInt8) → List UInt8 → WayR) (v : Value) (xs : List It) (texts : List (List UInt8)) (path : List UInt8) (w : World) (h : PrAt w gp texts path) (hl : ListAt w v xs) (h17 : xs.length = 17)
    (hat : ∀ (v : Value) (it : It) (ts : List (List UInt8)) (path' : List UInt8) (w' : World), path'.length < path.length → PrAt w' gp ts path' → ItAt w' v it → Calls Tryd.prog 107 #[.pointer (some ⟨gp, 0, none⟩), v] w' (WayPost w' gp (atT hashL k it ts path'))) :
    Calls Tryd.prog 87 #[.pointer (some ⟨gp, 0, none⟩), v] w (WayPost w gp (lookT hashL k xs texts path)) := by
  obtain ⟨tp2, ev2, g2⟩ := h.errs 2 (by decide)
  have hlow := h.low.2.2.1
  have hgp := h.lt
  obtain ⟨vt, vp, hgb, hrt, hpt⟩ := h.at_
  have HP := Lib.hid h
  have HAt := Lib.hid hat
  have H17 := Lib.hid h17
  cases path with
  | nil =>
    obtain ⟨it, hi⟩ : ∃ it, xs[16]? = some it := ⟨_, List.getElem?_eq_getElem (by omega)⟩
    have hlk := look_end hashL k (texts := texts) h17 hi
    obtain ⟨ad, c, u, rfl, hlt, hcell, hit⟩ := hl.kid_of hi
    obtain ⟨a0, c0, Al, cl, ll, rfl, hc0, hm0, hlt0, r0, r1, r2, hlb, hsb, hlc, hlm, hl2⟩ := hit.head
    obtain ⟨Ap, cp, rfl, _, _, _⟩ := hpt
    have q1 : w.cell? ⟨gp, 1, none⟩ = some (.slice Ap 0 cp) := hgb.cell 1
    have hfp := flat_pos it
    obtain ⟨fl, hfl⟩ : ∃ n, it.flat.length = n := ⟨_, rfl⟩
    rw [hfl] at hcell hfp
    have hcell16 : w.cell? ⟨ad.block, ad.off + 16, none⟩ = some (.slice (some a0) fl c0) := hcell
    have l0 : (0 : Int) < (fl : Int) := by omega
    have HLk := Lib.hid hlk
    have HSb := Lib.hid hsb
    rw [h17]
    clear hlk hi hit hl h hat h17 hgb hrt hsb hc0 hfl
    cases it with
    | list ys =>
      simp only [listI, cntI, bytesI] at r0 r1 hlb
      go_enter Tryd.func87, Tryd.ntmps87
      go_upto_region 4 with fail
      go_quiet (fail)
      go_wp2_with fail
      go_ret2
      exact .mk HLk.out ((Kept.refl _ _).drewN nq) ⟨rfl, tp2, ev2, rfl⟩
    | bytes l =>
      simp only [listI, cntI, bytesI] at r0 r1 hlb
      subst hlb
      go_enter Tryd.func87, Tryd.ntmps87
      go_wp2_with fail
      go_ret2
      exact .mk HLk.out (Kept.refl _ _) ⟨rfl, Al, cl, [], rfl, HSb.out, hlc, hl2, HP.out⟩
  | cons x r =>
    have hx := HP.out.nibs.head
    obtain ⟨it, hi⟩ : ∃ it, xs[x.toNat]? = some it := ⟨_, List.getElem?_eq_getElem (by omega)⟩
    have hlk := look_kid hashL k (texts := texts) (r := r) h17 hi
    obtain ⟨ad, c, u, rfl, hbt, hcell, hit⟩ := hl.kidT hi
    have hne : ad.block ≠ gp := by
      obtain ⟨cs, hb⟩ := hbt
      exact Blk.ne hb hgb (by decide)
    have hbn : (by8 x).toNat = x.toNat := by unfold by8; simp
    obtain ⟨Ap, cp, rfl, hpc, hpm, hps⟩ := hpt
    obtain ⟨ap, rfl, hapl, hxc⟩ := hps.seq.byte 0 (by simp)
    have hadd : ap.add 0 = ap := by unfold Addr.add; simp
    rw [hadd] at hxc
    simp only [List.getElem_cons_zero] at hxc
    have q1 : w.cell? ⟨gp, 1, none⟩ = some (.slice (some ap) (r.length + 1) cp) := hgb.cell 1
    have f1 := hgb.frozen 1
    have lx : by8 x < 17 := by unfold by8; omega
    have lx0 : 0 ≤ by8 x := by unfold by8; omega
    have l0 : (0 : Int) < (r.length : Int) + 1 := by omega
    have l1 : (1 : Int) ≤ (r.length : Int) + 1 := by omega
    have d0 : ((r.length : Int) + 1 == 0) = false := by
      have : (r.length : Int) + 1 ≠ 0 := by omega
      simpa using this
    simp only [List.length_cons] at hpc
    unfold maxLen at hpm
    have HLk := Lib.hid hlk
    have HIt := Lib.hid hit
    have HGb := Lib.hid hgb
    have HRt := Lib.hid hrt
    have HPs := Lib.hid hps
    rw [h17]
    clear hlk hi hit h hat hl h17 hgb hrt hps hadd
    go_enter Tryd.func87, Tryd.ntmps87
    go_upto_region 7 with fail
    go_cut [] from 39 to 46 (fun wx => ∃ ad', ad' = (if cp = 1 then ap else ap.add 1) ∧ wx = w.setCell ⟨gp, 1, none⟩ (.slice (some ad') r.length (cp - 1)))
    case first =>
      by_cases hc1 : cp = 1
      · subst hc1
        go_wp2_with fail
        go_meet
        case rel => exact ⟨ap, by simp, by rw [show r.length = 0 by omega]⟩
      · go_wp2_with fail
        go_meet
        case rel => exact ⟨ap.add 1, (if_neg hc1).symm, rfl⟩
    case rest =>
      obtain ⟨ad', had', rfl⟩ := hcut
      have hk2 : Kept w (w.setCell ⟨gp, 1, none⟩ (.slice (some ad') r.length (cp - 1))) (fun b => b = gp) := Kept.of_only (Only.setCell w ⟨gp, 1, none⟩ _)
      have hgb2 : Blk (w.setCell ⟨gp, 1, none⟩ (.slice (some ad') r.length (cp - 1))) gp 88 #[vt, .slice (some ad') r.length (cp - 1)] := HGb.out.set_ 1 _
      have hpa : PathAt w (.slice (some ad') r.length (cp - 1)) r := ⟨some ad', cp - 1, rfl, by omega, by unfold maxLen; omega, by
        have := HPs.out.drop 1
        rw [had']
        split
        · have e0 : r = [] := List.eq_nil_of_length_eq_zero (by omega)
          subst e0
          exact SeqB.nil
        · exact this⟩
      have hp2 := HP.out.put hk2 hgb2 HP.out.nibs.tail' (by have := HP.out.len; simp at this; omega) HRt.out hpa
      have hit2 := HIt.out.kept hk2 HGb.out
      have hcell2 : (w.setCell ⟨gp, 1, none⟩ (.slice (some ad') r.length (cp - 1))).cell? (ad.add x.toNat) = some u := by
        rw [(Only.setCell w ⟨gp, 1, none⟩ (.slice (some ad') r.length (cp - 1))).cell (p := ad.add x.toNat) (by rw [block_add]; exact hne)]
        exact hcell
      have HP2 := Lib.hid hp2
      have HIt2 := Lib.hid hit2
      have HK2 := Lib.hid hk2
      clear hgb2 hpa hp2 hit2 hk2 had'
      generalize w.setCell ⟨gp, 1, none⟩ (.slice (some ad') r.length (cp - 1)) = w2 at *
      go_wp2_with (go_at_call 107; (refine (HAt.out u it texts r w2 (by simp) HP2.out HIt2.out).mono ?_; rintro e7 w7 ⟨a7, b7, rfl, hk7, hw7⟩; have HK7 := Lib.hid hk7; have HW7 := Lib.hid hw7; clear hk7 hw7))
      go_ret2
      exact .mk HLk.out (HK2.out.trans HK7.out (fun b hb => Or.inl hb)) HW7.out
end Go.Proofs.YtfhindffmghlaaaDoor
/- in, at a leaf or an extension. -/
namespace Go.Proofs.YtfhindffmghlaaaDoor
open Go.RowKit It
def nextI (hash : List UInt8 → List UInt8) (k : List It → List (List UInt8) → List UInt8 → WayR) (p : List UInt8) (far : It) (texts : List (List UInt8)) (path : List UInt8) : WayR :=
  if p = [] then none else if ¬ p <+: path then some ([], texts) else if voidI far then none else atT hash k far texts (path.drop p.length)
def leafI (p : List UInt8) (far : It) (texts : List (List UInt8)) (path : List UInt8) : WayR :=
  if bytesI far = [] then none else if p = path then some (bytesI far, texts) else some ([], texts)
theorem look_two (hash : List UInt8 → List UInt8) (k : List It → List (List UInt8) → List UInt8 → WayR) {b p : List UInt8} {mark : UInt8} {far : It} {texts : List (List UInt8)} {path : List UInt8} (hr : readT b = some (p, mark)) :
    lookT hash k [.bytes b, far] texts path = if mark = 1 then leafI p far texts path else nextI hash k p far texts path := by
  unfold lookT
  rw [if_neg (by simp)]
  simp only [hr]
  unfold leafI nextI
  by_cases hm : mark = 1
  · rw [if_pos hm, if_pos hm]
    cases far with
    | list ys => simp [bytesI]
    | bytes l =>
      by_cases hl : l = []
      · rw [if_pos (show bytesI (.bytes l) = [] from hl)]
        simp only [hl, if_true]
      · rw [if_neg (show ¬ bytesI (.bytes l) = [] from hl)]
        simp only [hl, if_false]
        rfl
  · rw [if_neg hm, if_neg hm]
set_option maxHeartbeats 4000000 in
set_option maxRecDepth 20000 in
theorem in2_calls (gp : Nat) (k : List It → List (List UInt8) → List UInt8 → WayR) (v : Value) (b p : List UInt8) (mark : UInt8) (far : It) (texts : List (List UInt8)) (path : List UInt8) (w : World) (h : PrAt w gp texts path) (hl : ListAt w v [.bytes b, far]) (hr : readT b = some (p, mark))
    (hat : ∀ (v : Value) (it : It) (ts : List (List UInt8)) (path' : List UInt8) (w' : World), path'.length < path.length → PrAt w' gp ts path' → ItAt w' v it → Calls Tryd.prog 107 #[.pointer (some ⟨gp, 0, none⟩), v] w' (WayPost w' gp (atT hashL k it ts path'))) :
    Calls Tryd.prog 87 #[.pointer (some ⟨gp, 0, none⟩), v] w (WayPost w gp (lookT hashL k [.bytes b, far] texts path)) := by
  have hlk := look_two hashL k (far := far) (texts := texts) (path := path) hr
  obtain ⟨ad, c, u0, rfl, hbt, hc0, hit0⟩ := hl.kidT (i := 0) (it := .bytes b) rfl
  obtain ⟨ad1, c1, u1, e1, _, hc1, hit1⟩ := hl.kidT (i := 1) (it := far) rfl
  obtain ⟨rfl, rfl⟩ : ad = ad1 ∧ c = c1 := by
    injection e1 with e1 _ e2
    injection e1 with e1
    exact ⟨e1, e2⟩
  have hgp := h.lt
  have hlow := h.low.2.2.1
  obtain ⟨vt, vp, hgb, hrt, hpt⟩ := h.at_
  have hne : ad.block ≠ gp := by
    obtain ⟨cs, hb⟩ := hbt
    exact Blk.ne hb hgb (by decide)
  have hadl : ad.block < w.heap.size := by
    obtain ⟨cs, hb⟩ := hbt
    exact hb.lt
  obtain ⟨a0, k0, Ab, cb, lb, rfl, hk0, hm0, hlt0, r00, r01, r02, hlb, hsb, hlc, hlm, hll⟩ := hit0.head
  simp only [bytesI] at hlb
  subst hlb
  rw [show (It.bytes lb).flat.length = 1 by rw [It.flat]; rfl] at hc0
  have hadd : ad.add 0 = ad := by unfold Addr.add; simp
  rw [hadd] at hc0
  obtain ⟨Ap, cp, rfl, hpc, hpm, hps⟩ := hpt
  have hrd := readT_calls Ab cb lb w (by omega) hlc hlm hsb
  rw [hr] at hrd
  have HRd := Lib.hid hrd
  have HP := Lib.hid h
  have HAt := Lib.hid hat
  have HLk := Lib.hid hlk
  have HIt1 := Lib.hid hit1
  have HGb := Lib.hid hgb
  have HRt := Lib.hid hrt
  have HPs := Lib.hid hps
  unfold maxLen at hpm
  rw [show ([It.bytes lb, far] : List It).length = 2 from rfl]
  clear hl e1 hbt hadd hrd h hat hlk hit0 hgb hrt hps r00 r01 hr hk0 hsb
  go_enter Tryd.func87, Tryd.ntmps87
  go_upto_region 10 with (go_at_call 106; (refine HRd.out.mono ?_; rintro e2 w2 ⟨A2, c2, rfl, ho2, hb2⟩; have HO2 := Lib.hid ho2; have HB2 := Lib.hid hb2; clear ho2 hb2))
  have hz2 := HB2.out.size
  have hc1' : w2.cell? ⟨ad.block, ad.off + 1, none⟩ = some u1 := (HB2.out.cell (p := ⟨ad.block, ad.off + 1, none⟩) hadl).trans hc1
  have hp2 := HP.out.below HB2.out
  have hit2 := HIt1.out.below HB2.out
  have hgb2 := HGb.out.below HB2.out hgp
  have HGb2 := Lib.hid hgb2
  have HPs2 := Lib.hid (HPs.out.below HB2.out)
  have HRt2 := Lib.hid (HRt.out.keep (fun _ _ hq => hq.below HB2.out hq.lt) (fun _ _ hq => hq.below HB2.out hq.lt) : RowAt w2 vt texts)
  have q1 : w2.cell? ⟨gp, 1, none⟩ = some (.slice Ap path.length cp) := hgb2.cell 1
  have f1 := hgb2.frozen 1
  obtain ⟨tp2, ev2, g2⟩ := hp2.errs 2 (by decide)
  have HIt2 := Lib.hid hit2
  obtain ⟨a1, k1, Af, cf, lf, rfl, hk1, hm1, hlt1, s0, s1, s2, hlf, hsf, hfc, hfm, hfl⟩ := hit2.head
  have hfp := flat_pos far
  obtain ⟨fl, hfle⟩ : ∃ n, far.flat.length = n := ⟨_, rfl⟩
  rw [hfle] at hc1' hk1 hfp
  have HFl := Lib.hid hfle
  have l0 : (0 : Int) < (fl : Int) := by omega
  have HP2 := Lib.hid hp2
  have HSf := Lib.hid hsf
  have HLf := Lib.hid hlf
  have HO2' := Lib.hid (SeqB.of_own HO2.out)
  clear hc0 r02 hp2 hit2 hgb2 hsf hlf hfle hc1 HP HGb HPs HRt HIt1 HRd
  have hba3 := (Below.refl w2.heap.size w2).alloc (Nat.le_refl _) (.cells #[.bool (listI far), .int .i64 (cntI far), .slice Af lf.length cf] 109)
  have hx3 : Blk (w2.alloc (.cells #[.bool (listI far), .int .i64 (cntI far), .slice Af lf.length cf] 109)) w2.heap.size 109 #[.bool (listI far), .int .i64 (cntI far), .slice Af lf.length cf] := Blk.new _ _ _
  have hz3 := size_alloc w2 (.cells #[.bool (listI far), .int .i64 (cntI far), .slice Af lf.length cf] 109)
  have hz3a := Nat.le_of_eq hz3.symm
  clear hz3
  have HBa3 := Lib.hid hba3
  have HX3 := Lib.hid hx3
  clear hba3 hx3
  go_upto_region 11 with fail
  generalize w2.alloc (.cells #[.bool (listI far), .int .i64 (cntI far), .slice Af lf.length cf] 109) = w3 at *
  have t0 : w3.cell? ⟨w2.heap.size, 0, none⟩ = some (.bool (listI far)) := HX3.out.cell 0
  have t2 : w3.cell? ⟨w2.heap.size, 2, none⟩ = some (.slice Af lf.length cf) := HX3.out.cell 2
  have g3 : w3.cell? ⟨2, 0, none⟩ = some (.iface tp2 ev2) := (HBa3.out.cell (p := ⟨2, 0, none⟩) (by show 2 < w2.heap.size; omega)).trans g2
  have hb3 := HGb2.out.below HBa3.out HGb2.out.lt
  have u1 : w3.cell? ⟨gp, 1, none⟩ = some (.slice Ap path.length cp) := hb3.cell 1
  have uf1 := hb3.frozen 1
  have uc1 : w3.cell? ⟨ad.block, ad.off + 1, none⟩ = some (.slice (some a1) fl k1) := (HBa3.out.cell (p := ⟨ad.block, ad.off + 1, none⟩) (by show ad.block < w2.heap.size; omega)).trans hc1'
  have HGb3 := Lib.hid hb3
  have HB23 := Lib.hid (HB2.out.trans (HBa3.out.mono hz2))
  have HP3 := Lib.hid (HP2.out.below HBa3.out)
  have HPs3 := Lib.hid (HPs2.out.below HBa3.out)
  have HO3 := Lib.hid (HO2'.out.below HBa3.out)
  have HSf3 := Lib.hid (HSf.out.below HBa3.out)
  have hit3 := HIt2.out.below HBa3.out
  rw [HFl.out] at hit3
  have HIt3 := Lib.hid hit3
  have HRt3 := Lib.hid (HRt2.out.keep (fun _ _ hq => hq.below HBa3.out hq.lt) (fun _ _ hq => hq.below HBa3.out hq.lt) : RowAt w3 vt texts)
  clear hb3 hit3 hc1' q1 f1 g2 s0 s1 s2 HX3 HIt2 HSf HO2' HP2 HRt2 HPs2 HGb2 HBa3 HO2
  by_cases hmk : mark = 1
  · have hlk := HLk.out
    rw [if_pos hmk] at hlk
    unfold leafI at hlk
    rw [← HLf.out] at hlk
    subst hmk
    by_cases hlf0 : lf = []
    · rw [if_pos hlf0] at hlk
      have HK := Lib.hid hlk
      subst hlf0
      clear hlk HLk
      cases hli : listI far with
      | true =>
        rw [hli] at t0
        clear hli
        go_upto_region 13 with fail
        go_quiet (fail)
        go_wp2_with fail
        go_ret2
        exact .mk HK.out ((Kept.of_below HB23.out _).drewN nq) ⟨rfl, tp2, ev2, rfl⟩
      | false =>
        rw [hli] at t0
        clear hli
        go_upto_region 13 with fail
        go_quiet (fail)
        go_wp2_with fail
        go_ret2
        exact .mk HK.out ((Kept.of_below HB23.out _).drewN nq) ⟨rfl, tp2, ev2, rfl⟩
    · rw [if_neg hlf0] at hlk
      have hli : listI far = false := by
        cases far with
        | bytes l => rfl
        | list ys => exact absurd HLf.out hlf0
      rw [hli] at t0
      have dlf : ((lf.length : Int) == 0) = false := by
        have := List.length_pos_iff.2 hlf0
        have : (lf.length : Int) ≠ 0 := by omega
        simpa using this
      have heq := equal_calls A2 c2 w3.heap.size p Ap cp w3.heap.size path w3 HO3.out.seq HPs3.out.seq
      by_cases hpp : p = path
      · rw [if_pos hpp] at hlk
        have e : (p == path) = true := by rw [hpp]; simp
        rw [e] at heq
        have HK := Lib.hid hlk
        have HEq := Lib.hid heq
        clear hlk HLk e heq hpp hlf0 hli
        go_wp2_with (go_at_call 104; (refine HEq.out.mono ?_; rintro e9 w9 ⟨rfl, h9⟩; subst h9))
        go_ret2
        exact .mk HK.out (Kept.of_below HB23.out _) ⟨rfl, Af, cf, path, rfl, HSf3.out, hfc, hfl, HP3.out⟩
      · rw [if_neg hpp] at hlk
        have e : (p == path) = false := by simpa using hpp
        rw [e] at heq
        have HK := Lib.hid hlk
        have HEq := Lib.hid heq
        clear hlk HLk e heq hpp hlf0 hli
        go_wp2_with (go_at_call 104; (refine HEq.out.mono ?_; rintro e9 w9 ⟨rfl, h9⟩; subst h9))
        go_ret2
        exact .mk HK.out (Kept.of_below HB23.out _) ⟨rfl, none, 0, path, rfl, SeqB.nil, by simp, by simp, HP3.out⟩
  · have hlk := HLk.out
    rw [if_neg hmk] at hlk
    unfold nextI at hlk
    have dmk : (by8 mark == 1) = false := by
      rw [show (1 : Int) = by8 1 from rfl, by8_beq]
      simpa using hmk
    clear HLk hmk
    by_cases hp0 : p = []
    · rw [if_pos hp0] at hlk
      have HK := Lib.hid hlk
      subst hp0
      clear hlk
      go_upto_region 18 with fail
      go_quiet (fail)
      go_wp2_with fail
      go_ret2
      exact .mk HK.out ((Kept.of_below HB23.out _).drewN nq) ⟨rfl, tp2, ev2, rfl⟩
    · rw [if_neg hp0] at hlk
      have hp0l := List.length_pos_iff.2 hp0
      have dp0 : ((p.length : Int) == 0) = false := by
        have : (p.length : Int) ≠ 0 := by omega
        simpa using this
      clear hp0
      have hpx := prefix_calls Ap cp w3.heap.size path A2 c2 w3.heap.size p w3 hpc HPs3.out.seq HO3.out.seq
      by_cases hpf : p <+: path
      · rw [decide_eq_true hpf] at hpx
        rw [if_neg (by simp [hpf])] at hlk
        have HPx := Lib.hid (hpx.mono (fun e w' ⟨h1, h2⟩ => (⟨h1, h2.symm⟩ : e = _ ∧ w3 = w')))
        have hpl := hpf.length_le
        clear hpx hpf
        have hvoid : voidI far = true ∧ lf = [] ∧ listI far = false ∨ voidI far = false ∧ (listI far = true ∨ lf ≠ []) := by
          have hlf := HLf.out
          cases far with
          | list ys => exact Or.inr ⟨rfl, Or.inl rfl⟩
          | bytes l =>
            cases l with
            | nil => exact Or.inl ⟨rfl, hlf, rfl⟩
            | cons y l => exact Or.inr ⟨rfl, Or.inr (by rw [hlf]; simp [bytesI])⟩
        go_upto_region 21 with (go_at_call 82; (refine HPx.out.mono ?_; rintro e9 w9 ⟨rfl, rfl⟩))
        rcases hvoid with ⟨hv, hlf0, hli⟩ | ⟨hv, hor⟩
        · rw [hv, if_pos rfl] at hlk
          have HK := Lib.hid hlk
          subst hlf0
          rw [hli] at t0
          clear hlk hv hli
          go_upto_region 22 with fail
          go_quiet (fail)
          go_wp2_with fail
          go_ret2
          exact .mk HK.out ((Kept.of_below HB23.out _).drewN nq) ⟨rfl, tp2, ev2, rfl⟩
        · rw [hv, if_neg (by simp)] at hlk
          have HK := Lib.hid hlk
          clear hlk hv
          have hx : (listI far = true) ∨ (listI far = false ∧ ((lf.length : Int) == 0) = false) := by
            cases hli : listI far with
            | true => exact Or.inl rfl
            | false =>
              refine Or.inr ⟨rfl, ?_⟩
              rcases hor with hor | hor
              · rw [hli] at hor; cases hor
              · have := List.length_pos_iff.2 hor
                have : (lf.length : Int) ≠ 0 := by omega
                simpa using this
          clear hor
          rcases hx with hli | ⟨hli, dlf⟩
          all_goals
            rw [hli] at t0
            clear hli
            have hcut := HPs3.out.cut (k := p.length) hpc
            have HCut := Lib.hid hcut
            have lp : (p.length : Int) ≤ (path.length : Int) := by omega
            clear hcut
            go_upto_region 23 with fail
            go_cut [] from 112 to 121 (fun wx => ∃ Ar cr, SeqB w3 Ar (path.drop p.length) ∧ path.length - p.length ≤ cr ∧ cr ≤ maxLen ∧ wx = w3.setCell ⟨gp, 1, none⟩ (.slice Ar (path.length - p.length) cr))
            case first =>
              by_cases hcc : cp = p.length
              · have hc2 := HCut.out
                rw [if_pos hcc] at hc2
                subst hcc
                have h0 : path.length - p.length = 0 := by omega
                go_wp2_with fail
                go_meet
                case rel => exact ⟨Ap, 0, hc2, by omega, by simp [maxLen], by rw [h0]⟩
              · have hc2 := HCut.out
                rw [if_neg hcc] at hc2
                go_wp2_with fail
                go_meet
                case rel => exact ⟨_, cp - p.length, hc2, by omega, by unfold maxLen; omega, rfl⟩
            case rest =>
              obtain ⟨Ar, cr, hrs, hrc, hrm, rfl⟩ := hcut
              have hdl : (path.drop p.length).length = path.length - p.length := List.length_drop
              have hk4 : Kept w3 (w3.setCell ⟨gp, 1, none⟩ (.slice Ar (path.length - p.length) cr)) (fun b => b = gp) := Kept.of_only (Only.setCell w3 ⟨gp, 1, none⟩ _)
              have hgb4 : Blk (w3.setCell ⟨gp, 1, none⟩ (.slice Ar (path.length - p.length) cr)) gp 88 #[vt, .slice Ar (path.length - p.length) cr] := HGb3.out.set_ 1 _
              have hp4 := HP3.out.put hk4 hgb4 (HP3.out.nibs.drop p.length) (by rw [hdl]; have := HP3.out.len; omega) HRt3.out (⟨Ar, cr, by rw [hdl], by rw [hdl]; exact hrc, hrm, hrs⟩ : PathAt w3 (.slice Ar (path.length - p.length) cr) (path.drop p.length))
              have hit4 := HIt3.out.kept hk4 HGb3.out
              have hc4 : (w3.setCell ⟨gp, 1, none⟩ (.slice Ar (path.length - p.length) cr)).cell? ⟨ad.block, ad.off + 1, none⟩ = some (.slice (some a1) fl k1) := by
                rw [(Only.setCell w3 ⟨gp, 1, none⟩ (.slice Ar (path.length - p.length) cr)).cell (p := ⟨ad.block, ad.off + 1, none⟩) hne]
                exact uc1
              have HP4 := Lib.hid hp4
              have HIt4 := Lib.hid hit4
              have HK4 := Lib.hid ((Kept.of_below HB23.out (fun b => b = gp)).trans hk4 (fun b hb => Or.inl hb))
              have HDl := Lib.hid hdl
              clear hrs hk4 hgb4 hp4 hit4 hdl u1 uf1 uc1 t0 t2 g3 HCut
              generalize w3.setCell ⟨gp, 1, none⟩ (.slice Ar (path.length - p.length) cr) = w4 at *
              go_wp2_with (go_at_call 107; (refine (HAt.out (.slice (some a1) fl k1) far texts (path.drop p.length) w4 (by rw [HDl.out]; omega) HP4.out HIt4.out).mono ?_; rintro e7 w7 ⟨a7, b7, rfl, hk7, hw7⟩; have HK7 := Lib.hid hk7; have HW7 := Lib.hid hw7; clear hk7 hw7))
              go_ret2
              exact .mk HK.out (HK4.out.trans HK7.out (fun b hb => Or.inl hb)) HW7.out
      · rw [decide_eq_false hpf] at hpx
        rw [if_pos hpf] at hlk
        have HPx := Lib.hid hpx
        have HK := Lib.hid hlk
        clear hpx hpf hlk
        go_wp2_with (go_at_call 82; (refine HPx.out.mono ?_; rintro e9 w9 ⟨rfl, h9⟩; subst h9))
        go_ret2
        exact .mk HK.out (Kept.of_below HB23.out _) ⟨rfl, none, 0, path, rfl, SeqB.nil, by simp, by simp, HP3.out⟩
end Go.Proofs.YtfhindffmghlaaaDoor
/- Check. -/
namespace Go.Proofs.YtfhindffmghlaaaDoor
open Go.RowKit It
theorem shaped_two {xs : List It} (h : shapedT xs = true) (h17 : xs.length ≠ 17) : ∃ b far p m, xs = [.bytes b, far] ∧ readT b = some (p, m) := by
  unfold shapedT at h
  split at h
  · rename_i b far
    obtain ⟨⟨p, m⟩, hr⟩ := Option.isSome_iff_exists.1 h
    exact ⟨b, far, p, m, rfl, hr⟩
  · exact absurd (by simpa using h) h17
theorem way_in (gp : Nat) : ∀ (f : Nat) (v : Value) (xs : List It) (texts : List (List UInt8)) (path : List UInt8) (w : World), path.length < f → PrAt w gp texts path → ListAt w v xs → shapedT xs = true →
    Calls Tryd.prog 87 #[.pointer (some ⟨gp, 0, none⟩), v] w (WayPost w gp (inT hashL f xs texts path)) := by
  intro f
  induction f with
  | zero => intro v xs texts path w hlt; exact absurd hlt (by omega)
  | succ f ih =>
    intro v xs texts path w hlt hP hL hs
    have hat : ∀ (v : Value) (it : It) (ts : List (List UInt8)) (path' : List UInt8) (w' : World), path'.length < path.length → PrAt w' gp ts path' → ItAt w' v it → Calls Tryd.prog 107 #[.pointer (some ⟨gp, 0, none⟩), v] w' (WayPost w' gp (atT hashL (inT hashL f) it ts path')) :=
      fun v it ts path' w' hl hp hit => at_calls gp (inT hashL f) v it ts path' w' hp hit (fun v xs ts w'' hp' hl' hs' => ih v xs ts path' w'' (by omega) hp' hl' hs')
    rw [inT]
    by_cases h17 : xs.length = 17
    · exact in17_calls gp _ v xs texts path w hP hL h17 hat
    · obtain ⟨b, far, p, m, rfl, hr⟩ := shaped_two hs h17
      exact in2_calls gp _ v b p m far texts path w hP hL hr hat
/-- What Check answers. -/
def CheckPost (w : World) (r : Option (List UInt8)) (e : Ending) (w' : World) : Prop := match r with
  | none => e = .returned (.tuple #[.slice none 0 0, .bool false, .int .i64 262]) ∧ Below w.heap.size w w'
  | some v => ∃ (A : Option Addr) (c : Nat), e = .returned (.tuple #[.slice A v.length c, .bool (!v.isEmpty), .int .i64 0]) ∧ OwnP w' w.heap.size (A, c, v) ∧ Below w.heap.size w w'
set_option maxHeartbeats 4000000 in
set_option maxRecDepth 20000 in
theorem check_calls (f : Nat → UInt8) (A : Option Addr) (c : Nat) (key : List UInt8) (v : Value) (texts : List (List UInt8)) (w : World) (hT : Tables w) (hE : Errs w) (hLw : Lows w.heap.size) (hk : key.length ≤ 140737488355328) (hs : Seq w w.heap.size A (bytes key)) (hr : RowAt w v texts) :
    Calls Tryd.prog 24 #[.agg (tab 32 (hashV f)), .slice A key.length c, v] w (CheckPost w (checkT hashL (listOf f 32) texts (nib key))) := by
  have hba := (Below.refl w.heap.size w).alloc (Nat.le_refl _) (.cells (tab 32 (hashV f)) 23)
  have hb1 : Blk (w.alloc (.cells (tab 32 (hashV f)) 23)) w.heap.size 23 (tab 32 (hashV f)) := Blk.new _ _ _
  have hz1 := size_alloc w (.cells (tab 32 (hashV f)) 23)
  have hz1b := Nat.le_of_eq hz1.symm
  have hnl := nib_length key
  have hck : checkT hashL (listOf f 32) texts (nib key) = match nextT hashL (inT hashL ((nib key).length + 1)) (listOf f 32) texts (nib key) with
    | some (v, []) => some v
    | _ => none := rfl
  have HCk := Lib.hid hck
  have HNl := Lib.hid hnl
  have HBa := Lib.hid hba
  have HB1 := Lib.hid hb1
  have HT := Lib.hid hT
  have HE := Lib.hid hE
  have HLw := Lib.hid hLw
  have HS := Lib.hid hs
  have HR := Lib.hid hr
  clear hck hnl hba hb1 hT hE hLw hs hr hz1
  obtain ⟨At, ct, ps, rfl, _⟩ := HR.out
  go_enter Tryd.func24, Tryd.ntmps24
  go_upto_region 2 with (go_at_call 52; (refine (nibbles_calls A c w.heap.size key _ (by omega) (HS.out.below HBa.out (Nat.le_refl _)) (by rw [size_alloc]; omega)).mono ?_; rintro e2 w2 ⟨A2, c2, rfl, ho2, hb2⟩; have HO2 := Lib.hid ho2; have HB2 := Lib.hid (HBa.out.trans (hb2.mono (by rw [size_alloc]; omega))); have HX2 := Lib.hid (HB1.out.below hb2 (by rw [size_alloc]; omega)); clear ho2 hb2))
  have hba3 := (Below.refl w2.heap.size w2).alloc (Nat.le_refl _) (.cells #[.slice At ps.length ct, .slice A2 (nib key).length c2] 88)
  have hgb3 : Blk (w2.alloc (.cells #[.slice At ps.length ct, .slice A2 (nib key).length c2] 88)) w2.heap.size 88 #[.slice At ps.length ct, .slice A2 (nib key).length c2] := Blk.new _ _ _
  have hz2 := HB2.out.size
  have hb03 := HB2.out.trans (hba3.mono hz2)
  have hlw2 : Lows w2.heap.size := by
    obtain ⟨h1, h2, h3, h4, h5⟩ := HLw.out
    exact ⟨by omega, by omega, by omega, by omega, by omega⟩
  have hnn := nib_nibs key
  have ho3 := own_below' HO2.out hba3
  have hP : PrAt (w2.alloc (.cells #[.slice At ps.length ct, .slice A2 (nib key).length c2] 88)) w2.heap.size texts (nib key) :=
    ⟨HT.out.below hb03 HT.out.size, HE.out.below hb03 HLw.out, hlw2, hnn, by rw [HNl.out]; omega, _, _, hgb3, HR.out.keep (fun _ _ hq => hq.below hb03 hq.lt) (fun _ _ hq => hq.below hb03 hq.lt), ⟨A2, c2, rfl, own_cap ho3, own_capM ho3, SeqB.of_own ho3⟩⟩
  have hx3 := HX2.out.below hba3 HX2.out.lt
  have HP := Lib.hid hP
  have HX3 := Lib.hid hx3
  have HB03 := Lib.hid hb03
  have hnx := next_calls w2.heap.size (inT hashL ((nib key).length + 1)) f texts (nib key) _ hP (fun v xs ts w' hp hl hs => way_in w2.heap.size ((nib key).length + 1) v xs ts (nib key) w' (by omega) hp hl hs)
  have HNx := Lib.hid hnx
  obtain ⟨r, hr⟩ : ∃ r, nextT hashL (inT hashL ((nib key).length + 1)) (listOf f 32) texts (nib key) = r := ⟨_, rfl⟩
  rw [hr] at hnx
  have hck := HCk.out
  rw [hr] at hck
  have HNx := Lib.hid hnx
  have HCk2 := Lib.hid hck
  clear hba3 hgb3 hb03 hlw2 hnn ho3 hP hx3 hnx hr hck HCk HX2 HB1 HO2
  generalize w2.alloc (.cells #[.slice At ps.length ct, .slice A2 (nib key).length c2] 88) = w3 at *
  go_upto_region 3 with (first
    | (refine wpL_load0 rfl 23 (.tmp 3) rfl rfl _ HX3.out Tryd.underlying23 rfl (by kernel_rfl) ?_)
    | (go_at_call 53; (refine HNx.out.mono ?_; rintro e4 w4 ⟨a4, b4, rfl, hk4, hw4⟩; have HK4 := Lib.hid hk4; have HW4 := Lib.hid hw4; clear hk4 hw4)))
  have hb4 : Below w.heap.size w w4 := HB03.out.trans (HK4.out.below (fun g hg => by have e : g = w2.heap.size := hg; omega) HB03.out.size)
  have HB4 := Lib.hid hb4
  clear hb4
  cases r with
  | none =>
    obtain ⟨rfl, tp, ev, rfl⟩ := HW4.out
    have hck : checkT hashL (listOf f 32) texts (nib key) = none := HCk2.out
    have HCk3 := Lib.hid hck
    clear hck HCk2
    go_wp2_with fail
    refine bodyPost_ret (results_tmp3 rfl _ _ _) rfl ?_
    rw [HCk3.out]
    exact ⟨rfl, HB4.out⟩
  | some vr =>
    obtain ⟨vl, ts⟩ := vr
    obtain ⟨rfl, Av, cv, path', rfl, hsv, hvc, hvl, hP4⟩ := HW4.out
    obtain ⟨vt4, vp4, hgb4, hr4, _⟩ := hP4.at_
    obtain ⟨At4, ct4, ps4, rfl, hm4, _⟩ := hr4
    have q4 : w4.cell? ⟨w2.heap.size, 0, none⟩ = some (.slice At4 ps4.length ct4) := hgb4.cell 0
    have hpl : ps4.length = ts.length := by rw [← hm4, List.length_map]
    have HSv := Lib.hid hsv
    cases ts with
    | nil =>
      have hck : checkT hashL (listOf f 32) texts (nib key) = some vl := HCk2.out
      have HCk3 := Lib.hid hck
      obtain rfl : ps4 = [] := List.eq_nil_of_length_eq_zero hpl
      have q4' : w4.cell? ⟨w2.heap.size, 0, none⟩ = some (.slice At4 0 ct4) := q4
      clear hck HCk2 q4 hpl hm4 hgb4 hP4 hsv
      have hcc := clone_calls Av cv w4.heap.size vl w4 (by omega) (Nat.le_refl _) HSv.out.seq
      have HCc := Lib.hid hcc
      clear hcc
      by_cases hv0 : vl = []
      · subst hv0
        go_wp2_with (go_at_call 54; (refine HCc.out.mono ?_; rintro e5 w5 ⟨A5, c5, rfl, ho5, hb5⟩; have HO5 := Lib.hid ho5; have HB5 := Lib.hid hb5; clear ho5 hb5))
        refine bodyPost_ret (results_tmp3 rfl _ _ _) rfl ?_
        rw [HCk3.out]
        exact ⟨A5, c5, rfl, own_mono HO5.out HB4.out.size, HB4.out.trans (HB5.out.mono HB4.out.size)⟩
      · have hvp := List.length_pos_iff.2 hv0
        have hie : vl.isEmpty = false := by simpa using hv0
        have dv : decide ((vl.length : Int) > 0) = true := decide_eq_true (by omega)
        have HIe := Lib.hid hie
        clear hv0 hie
        go_wp2_with (go_at_call 54; (refine HCc.out.mono ?_; rintro e5 w5 ⟨A5, c5, rfl, ho5, hb5⟩; have HO5 := Lib.hid ho5; have HB5 := Lib.hid hb5; clear ho5 hb5))
        refine bodyPost_ret (results_tmp3 rfl _ _ _) rfl ?_
        rw [HCk3.out]
        exact ⟨A5, c5, by rw [HIe.out]; rfl, own_mono HO5.out HB4.out.size, HB4.out.trans (HB5.out.mono HB4.out.size)⟩
    | cons t ts =>
      have hck : checkT hashL (listOf f 32) texts (nib key) = none := HCk2.out
      have HCk3 := Lib.hid hck
      simp only [List.length_cons] at hpl
      have dp : decide (0 < ps4.length) = true := decide_eq_true (by omega)
      obtain ⟨tp, ev, g4⟩ := hP4.errs 0 (by decide)
      clear hck HCk2 hpl hm4 hgb4 hP4 hsv
      go_wp2_with fail
      refine bodyPost_ret (results_tmp3 rfl _ _ _) rfl ?_
      rw [HCk3.out]
      exact ⟨rfl, HB4.out⟩
end Go.Proofs.YtfhindffmghlaaaDoor
