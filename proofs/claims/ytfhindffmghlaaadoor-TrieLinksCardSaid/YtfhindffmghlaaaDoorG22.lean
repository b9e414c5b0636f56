/- next. -/
import Derived.Test.YtfhindffmghlaaaDoorG21
import Derived.Deep.RegionHeld3
import Derived.Deep.CutRange
import Derived.BigQuiet
import Derived.Test.YtfhindffmghlaaaDoorG01
set_option linter.unusedVariables false
set_option linter.unusedSimpArgs false
namespace Go.Proofs.YtfhindffmghlaaaDoor
open Go.RowKit It
theorem rangeAt_blk {w : World} {g : Nat} {t : TypeId} {cs : Array Value} (h : Blk w g t cs) : w.rangeAt g 0 cs.toList := fun j v hv => by
  rw [Nat.zero_add, h.cell]
  simpa using hv
theorem same_hash (t : List UInt8) (f : Nat → UInt8) : sameH (hashS t) f = decide (hashL t = listOf f 32) := by
  rw [Bool.eq_iff_iff, sameH_iff, decide_eq_true_iff]
  unfold hashL listOf
  constructor
  · intro h
    exact List.map_congr_left fun i hi => h i (List.mem_range.1 hi)
  · intro h i hi
    have := congrArg (fun l : List UInt8 => l[i]?) h
    simpa [List.getElem?_map, List.getElem?_range, hi] using this
section
variable {hash : List UInt8 → List UInt8} {k : List It → List (List UInt8) → List UInt8 → WayR} {h t path : List UInt8} {ts : List (List UInt8)}
theorem next_none (hq : hash t = h) (hi : itemOf t = none) : nextT hash k h (t :: ts) path = none := by
  unfold nextT
  simp only [hi]
  rw [if_neg (fun e => e hq)]
theorem next_bytes {l : List UInt8} (hq : hash t = h) (hi : itemOf t = some (.bytes l)) : nextT hash k h (t :: ts) path = if l = [] then some ([], ts) else none := by
  unfold nextT
  simp only [hi]
  rw [if_neg (fun e => e hq)]
theorem next_lists {xs : List It} (hq : hash t = h) (hi : itemOf t = some (.list xs)) : nextT hash k h (t :: ts) path = if shapedT xs then k xs ts path else none := by
  unfold nextT
  simp only [hi]
  rw [if_neg (fun e => e hq)]
end
set_option maxHeartbeats 4000000 in
set_option maxRecDepth 20000 in
theorem next_calls (gp : Nat) (k : List It → List (List UInt8) → List UInt8 → WayR) (f : Nat → UInt8) (texts : List (List UInt8)) (path : List UInt8) (w : World) (h : PrAt w gp texts path)
    (hin : ∀ (v : Value) (xs : List It) (ts : List (List UInt8)) (w' : World), PrAt w' gp ts path → ListAt w' v xs → shapedT xs = true → Calls Tryd.prog 87 #[.pointer (some ⟨gp, 0, none⟩), v] w' (WayPost w' gp (k xs ts path))) :
    Calls Tryd.prog 53 #[.pointer (some ⟨gp, 0, none⟩), .agg (tab 32 (hashV f))] w (WayPost w gp (nextT hashL k (listOf f 32) texts path)) := by
  have hba := (Below.refl w.heap.size w).alloc (Nat.le_refl _) (.cells (tab 32 (hashV f)) 23)
  have hp1 := h.below hba
  have hb1 : Blk (w.alloc (.cells (tab 32 (hashV f)) 23)) w.heap.size 23 (tab 32 (hashV f)) := Blk.new _ _ _
  have hgp := h.lt
  have hk1 : Kept w (w.alloc (.cells (tab 32 (hashV f)) 23)) (fun b => b = gp) := Kept.of_below hba _
  have hz1 := size_alloc w (.cells (tab 32 (hashV f)) 23)
  have hz1a := Nat.le_of_eq hz1
  have hz1b := Nat.le_of_eq hz1.symm
  obtain ⟨vt, vp, hgb, hrt, hpt⟩ := hp1.at_
  have q0 := hgb.cell 0
  have f0 := hgb.frozen 0
  obtain ⟨tp0, ev0, g0⟩ := hp1.errs 0 (by decide)
  obtain ⟨tp1, ev1, g1⟩ := hp1.errs 1 (by decide)
  obtain ⟨tp2, ev2, g2⟩ := hp1.errs 2 (by decide)
  have HP1 := Lib.hid hp1
  have HB1 := Lib.hid hb1
  have HK1 := Lib.hid hk1
  have HGb := Lib.hid hgb
  have HIn := Lib.hid hin
  have HPt := Lib.hid hpt
  clear hba hp1 hb1 hk1 hz1 hgb hin h hpt
  cases texts with
  | nil =>
    obtain ⟨A, c, ps, rfl, hm, _⟩ := hrt
    obtain rfl : ps = [] := by cases ps with | nil => rfl | cons p ps => simp at hm
    have q0' : (w.alloc (.cells (tab 32 (hashV f)) 23)).cell? ⟨gp, 0, none⟩ = some (.slice A 0 c) := q0
    clear q0 hm
    go_enter Tryd.func53, Tryd.ntmps53
    go_upto_region 2 with fail
    generalize w.alloc (.cells (tab 32 (hashV f)) 23) = w1 at *
    go_quiet (fail)
    go_wp2_with fail
    go_ret2
    exact .mk rfl (HK1.out.drewN nq) ⟨rfl, tp0, ev0, rfl⟩
  | cons t ts =>
    obtain ⟨ad, c, ⟨Ab, cb, lb⟩, rfl, hc, hcm, hlt, hcell, rfl, hsb, hlc, hcbm, hll, htl⟩ := hrt.tail
    simp only at hsb hlc hcbm hll
    have q0' : (w.alloc (.cells (tab 32 (hashV f)) 23)).cell? ⟨gp, 0, none⟩ = some (.slice (some ad) (ts.length + 1) c) := q0
    have HSb := Lib.hid hsb
    have HTl := Lib.hid htl
    unfold pcV at hcell
    unfold maxLen at hcm
    have l0 : (0 : Int) < (ts.length : Int) + 1 := by omega
    have l1 : (1 : Int) ≤ (ts.length : Int) + 1 := by omega
    have d0 : ((ts.length : Int) + 1 == 0) = false := by
      have : (ts.length : Int) + 1 ≠ 0 := by omega
      simpa using this
    clear q0 hrt hsb htl
    go_enter Tryd.func53, Tryd.ntmps53
    go_upto_region 4 with fail
    generalize w.alloc (.cells (tab 32 (hashV f)) 23) = w1 at *
    go_cut [] from 25 to 32 (fun wx => ∃ ad', ad' = (if c = 1 then ad else ad.add 1) ∧ wx = w1.setCell ⟨gp, 0, none⟩ (.slice (some ad') ts.length (c - 1)))
    case first =>
      by_cases hc1 : c = 1
      · subst hc1
        go_wp2_with fail
        go_meet
        case rel => exact ⟨ad, by simp, by rw [show ts.length = 0 by omega]⟩
      · go_wp2_with fail
        go_meet
        case rel => exact ⟨ad.add 1, (if_neg hc1).symm, rfl⟩
    case rest =>
      obtain ⟨ad', had', rfl⟩ := hcut
      have hrow := HTl.out ad' had'
      have hk12 : Kept w1 (w1.setCell ⟨gp, 0, none⟩ (.slice (some ad') ts.length (c - 1))) (fun b => b = gp) := Kept.of_only (Only.setCell w1 ⟨gp, 0, none⟩ _)
      have hgb2 : Blk (w1.setCell ⟨gp, 0, none⟩ (.slice (some ad') ts.length (c - 1))) gp 88 #[.slice (some ad') ts.length (c - 1), vp] := HGb.out.set_ 0 _
      have hp2 := HP1.out.put hk12 hgb2 HP1.out.nibs HP1.out.len hrow HPt.out
      have hb2 := hk12.blk HB1.out (by omega)
      have hsb2 := HSb.out.keep (fun g cs hb => hk12.other HGb.out (by decide) hb)
      have hk2 : Kept w (w1.setCell ⟨gp, 0, none⟩ (.slice (some ad') ts.length (c - 1))) (fun b => b = gp) := HK1.out.trans hk12 (fun b hb => Or.inl hb)
      have hz2 := hk2.size
      have hlt2 := hb2.lt
      obtain ⟨tq1, eq1, g1'⟩ := hp2.errs 1 (by decide)
      clear hrow hk12 hgb2 had' HTl HP1 HB1 HK1 HGb HSb q0' f0 hcell g0 g1 g2 hlt hz1a hz1b
      generalize w1.setCell ⟨gp, 0, none⟩ (.slice (some ad') ts.length (c - 1)) = w2 at *
      obtain ⟨E, hE⟩ : ∃ E, hashS lb = E := ⟨_, rfl⟩
      obtain ⟨sb, hsbq⟩ : ∃ b, sameH E f = b := ⟨_, rfl⟩
      have hsq := same_hash lb f
      rw [hE, hsbq] at hsq
      have heq : ∀ W : World, (Op.equalIn 10000 23 (.agg (tab 32 (hashV E))) (.agg (tab 32 (hashV f)))).run Tryd.prog W = .ok sb W := fun W => by rw [← hsbq]; exact eql_hash E f W
      have hgd := guard_hash
      have hu42 := Tryd.underlying23
      have hi42 : (Tryd.prog.info? 23).map (·.size) = some (tab 32 (hashV f)).toList.length := by
        rw [show (tab 32 (hashV f)).toList.length = 32 by simp [tab]]
        kernel_rfl
      have hba3 := (Below.refl w2.heap.size w2).alloc (Nat.le_refl _) (.cells #[.slice Ab lb.length cb] 24)
      have hbd3 := below_drewN hba3 1
      have HBd3 := Lib.hid (show Below w2.heap.size w2 (w2.alloc (.cells #[.slice Ab lb.length cb] 24)).drew from hbd3)
      have hzd : (w2.alloc (.cells #[.slice Ab lb.length cb] 24)).drew.heap.size = w2.heap.size + 1 := size_alloc _ _
      have hzd1 := Nat.le_of_eq hzd.symm
      have hzd2 := Nat.le_of_eq hzd
      have HE := Lib.hid hE
      have HSq := Lib.hid hsq
      have HP2 := Lib.hid hp2
      have HB2 := Lib.hid hb2
      have HSb2 := Lib.hid hsb2
      have HK2 := Lib.hid hk2
      clear hE hsbq hsq hp2 hb2 hsb2 hk2 hba3 hbd3 hzd
      go_upto_region 5 with fail
      go_region_held3 (fun w' => w'.rangeAt w.heap.size 0 (tab 32 (hashV f)).toList) (first | exact rangeAt_blk k1 | exact rangeAt_blk HB2.out | exact rangeAt_blk (Blk.alloc HB2.out _))
        (first | (go_at_call 18; (refine (sumF_calls (some ⟨w2.heap.size, 0, none⟩) 1 (w2.heap.size + 1) [(Ab, cb, lb)] (w2.alloc (.cells #[.slice Ab lb.length cb] 24)).drew (HP2.out.tables.below HBd3.out HP2.out.tables.size) (by simp) (show Seq (w2.alloc (.cells #[.slice Ab lb.length cb] 24)).drew (w2.heap.size + 1) (some ⟨w2.heap.size, 0, none⟩) [.slice Ab lb.length cb] from (Seq.one_new w2 _ _).drew) hzd1 (by intro p hp; simp at hp; subst hp; exact ⟨(HSb2.out.below HBd3.out).seq.more hzd2, by show lb.length ≤ _; omega⟩)).mono ?_; rintro e w3 ⟨he, hb3⟩; rw [show joinP [(Ab, cb, lb)] = lb from by simp [joinP], HE.out] at he; subst he; have hb3' := HBd3.out.trans (hb3.mono (by omega)); have k1 := HB2.out.below hb3' HB2.out.lt; have HB3 := Lib.hid hb3'; clear hb3 hb3')))
      have hp3 := HP2.out.below HB3.out
      have hk3 := HK2.out.then_below HB3.out
      have hsb3 := HSb2.out.below HB3.out
      obtain ⟨tr1, er1, g1⟩ := hp3.errs 1 (by decide)
      obtain ⟨tr2, er2, g2⟩ := hp3.errs 2 (by decide)
      have HP3 := Lib.hid hp3
      have HK3 := Lib.hid hk3
      have HSb3 := Lib.hid hsb3
      have hz23 := HB3.out.size
      clear hp3 hk3 hsb3 g1' HP2 HK2 HSb2 HB2 HB3 heq hgd hu42 hi42 HBd3
      cases sb with
      | false =>
        have hne : ¬ hashL lb = listOf f 32 := of_decide_eq_false HSq.out.symm
        have hnx : nextT hashL k (listOf f 32) (lb :: ts) path = none := by
          unfold nextT
          simp only
          rw [if_pos hne]
        have HNx := Lib.hid hnx
        clear hne hnx
        go_upto_region 6 with fail
        go_quiet (fail)
        go_wp2_with fail
        go_ret2
        exact .mk HNx.out (HK3.out.drewN nq) ⟨rfl, tr1, er1, rfl⟩
      | true =>
        have heq : hashL lb = listOf f 32 := of_decide_eq_true HSq.out.symm
        have hdc := decode_calls Ab cb w3.heap.size lb w3 (by omega) hlc (Nat.le_refl _) HSb3.out.seq
        have hbd := decM_bound lb
        cases hi : itemOf lb with
        | none =>
          have hne := decM_none hi
          have hnx := next_none (k := k) (ts := ts) (path := path) heq hi
          have HNx := Lib.hid hnx
          generalize (decM lb).2.1 = ee at *
          have dne : ((ee : Int) != 0) = true := by
            have : (ee : Int) ≠ 0 := by omega
            simpa using this
          have HDc := Lib.hid hdc
          clear hdc hbd hi heq hnx hne
          go_upto_region 9 with (go_at_call 84; (refine HDc.out.mono ?_; rintro e4 w4 ⟨v4, rfl, _, hb4⟩; have g2' : w4.cell? ⟨2, 0, none⟩ = some (.iface tr2 er2) := (hb4.cell (p := ⟨2, 0, none⟩) (by have := HP3.out.low.2.2.1; show 2 < w3.heap.size; omega)).trans g2; have HK4 := Lib.hid (HK3.out.then_below hb4); clear hb4))
          go_quiet (fail)
          go_wp2_with fail
          go_ret2
          exact .mk HNx.out (HK4.out.drewN nq) ⟨rfl, tr2, er2, rfl⟩
        | some it =>
          have hds := decM_some hi
          rw [hds] at hdc hbd
          obtain ⟨hb1, hb2, _⟩ := hbd
          simp only at hb1 hb2
          have hrow : ∀ (W : World) (v : Value), RowIs W w3.heap.size v it.flat → ItAt W v it := fun W v hr => ItAt.of_row hr (by omega) (fun s hs => by have := (hb2 s hs).2.2; omega)
          have HRow := Lib.hid hrow
          have HDc := Lib.hid hdc
          have d00 : (((0 : Nat) : Int) != 0) = false := by decide
          clear hrow hdc hds hb2
          cases it with
          | bytes l =>
            have hnx := next_bytes (k := k) (ts := ts) (path := path) heq hi
            have HNx := Lib.hid hnx
            clear hnx hi heq
            go_upto_region 10 with (go_at_call 84; (refine HDc.out.mono ?_; rintro e4 w4 ⟨v4, rfl, hr4, hb4⟩; have hit4 := HRow.out w4 v4 hr4; have HIt4 := Lib.hid hit4; have HB4 := Lib.hid hb4; clear hr4 hb4 hit4))
            have hil := items_bytes v4 l w4 HIt4.out
            have HIl := Lib.hid hil
            clear hil
            go_upto_region 12 with (go_at_call 85; (refine HIl.out.mono ?_; rintro e5 w5 ⟨rfl, hb5⟩; have HIt5 := Lib.hid (HIt4.out.below hb5); have HB5 := Lib.hid (HB4.out.trans (hb5.mono HB4.out.size)); clear hb5))
            have hh := HIt5.out.head
            obtain ⟨a0, c0, Al, cl, ll, rfl, hc0, hm0, hlt0, r0, r1, r2, hlb, _, _, _, hl2⟩ := hh
            simp only [listI, cntI, bytesI, It.flat, List.length_cons, List.length_nil] at hc0 r0 r1 hlb
            subst hlb
            rw [show (It.bytes ll).flat.length = 1 by rw [It.flat]; rfl]
            clear r0 r1 HIt4 HIt5
            have g2' : w5.cell? ⟨2, 0, none⟩ = some (.iface tr2 er2) := (HB5.out.cell (p := ⟨2, 0, none⟩) (by have := HP3.out.low.2.2.1; show 2 < w3.heap.size; omega)).trans g2
            have HK5 := Lib.hid (HK3.out.then_below HB5.out)
            have HP5 := Lib.hid (HP3.out.below HB5.out)
            by_cases hl0 : ll = []
            · subst hl0
              have hnx := HNx.out
              rw [if_pos rfl] at hnx
              have HNy := Lib.hid hnx
              clear hnx
              go_wp2_with fail
              go_ret2
              exact .mk HNy.out HK5.out ⟨rfl, none, 0, path, rfl, SeqB.nil, by simp, by simp, HP5.out⟩
            · have hnx := HNx.out
              rw [if_neg hl0] at hnx
              have HNy := Lib.hid hnx
              have hlp : 0 < ll.length := List.length_pos_iff.2 hl0
              have dl : decide ((ll.length : Int) > 0) = true := decide_eq_true (by omega)
              clear hnx hl0
              go_upto_region 13 with fail
              go_quiet (fail)
              go_wp2_with fail
              go_ret2
              exact .mk HNy.out (HK5.out.drewN nq) ⟨rfl, tr2, er2, rfl⟩
          | list xs =>
            have hnx := next_lists (k := k) (ts := ts) (path := path) heq hi
            have HNx := Lib.hid hnx
            clear hnx hi heq
            go_upto_region 10 with (go_at_call 84; (refine HDc.out.mono ?_; rintro e4 w4 ⟨v4, rfl, hr4, hb4⟩; have hit4 := HRow.out w4 v4 hr4; have HIt4 := Lib.hid hit4; have HB4 := Lib.hid hb4; clear hr4 hb4 hit4))
            have hil := items_list v4 xs w4 HIt4.out
            have HIl := Lib.hid hil
            clear hil
            go_upto_region 15 with (go_at_call 85; (refine HIl.out.mono ?_; rintro e5 w5 ⟨v5, rfl, hl5, hb5⟩; have HL5 := Lib.hid hl5; have HB5 := Lib.hid (HB4.out.trans (hb5.mono HB4.out.size)); clear hl5 hb5))
            have hsc := shaped_calls v5 xs w5 HL5.out
            cases hsh : shapedT xs with
            | false =>
              rw [hsh] at hsc
              have HSc := Lib.hid hsc
              have hnx := HNx.out
              rw [hsh, if_neg (by simp)] at hnx
              have HNy := Lib.hid hnx
              clear hsc hnx hsh
              go_upto_region 16 with (go_at_call 86; (refine HSc.out.mono ?_; rintro e6 w6 ⟨rfl, hb6⟩; have hb36 := HB5.out.trans (hb6.mono HB5.out.size); have g2' : w6.cell? ⟨2, 0, none⟩ = some (.iface tr2 er2) := (hb36.cell (p := ⟨2, 0, none⟩) (by have := HP3.out.low.2.2.1; show 2 < w3.heap.size; omega)).trans g2; have HK6 := Lib.hid (HK3.out.then_below hb36); clear hb6 hb36))
              go_quiet (fail)
              go_wp2_with fail
              go_ret2
              exact .mk HNy.out (HK6.out.drewN nq) ⟨rfl, tr2, er2, rfl⟩
            | true =>
              rw [hsh] at hsc
              have HSc := Lib.hid hsc
              have hnx := HNx.out
              rw [hsh, if_pos rfl] at hnx
              have HNy := Lib.hid hnx
              have HSh := Lib.hid hsh
              clear hsc hnx hsh
              go_wp2_with (first
                | (go_at_call 86; (refine HSc.out.mono ?_; rintro e6 w6 ⟨rfl, hb6⟩; have hb36 := HB5.out.trans (hb6.mono HB5.out.size); have HK6 := Lib.hid (HK3.out.then_below hb36); have HP6 := Lib.hid (HP3.out.below hb36); have HL6 := Lib.hid (HL5.out.below hb6); clear hb6 hb36))
                | (go_at_call 87; (refine (HIn.out v5 xs ts w6 HP6.out HL6.out HSh.out).mono ?_; rintro e7 w7 ⟨a7, b7, rfl, hk7, hw7⟩; have HK7 := Lib.hid hk7; have HW7 := Lib.hid hw7; clear hk7 hw7)))
              go_ret2
              exact .mk HNy.out (HK6.out.trans HK7.out (fun b hb => Or.inl hb)) HW7.out
end Go.Proofs.YtfhindffmghlaaaDoor
/- at. -/
namespace Go.Proofs.YtfhindffmghlaaaDoor
open Go.RowKit It
section
variable {P : Program} {w : World} {n : Nat} {V : Nat → Value}
/-- A whole array read out of cells that are known one by one. -/
theorem run_loadVar_cells (ty : TypeId) (ad : Addr) (d : TypeDesc) (hB : ∀ j, j < n → w.cell? (ad.add j) = some (V j)) (hu : P.underlying ty = some d)
    (hd : (match d with | .struct _ | .array _ _ => true | _ => false) = true) (hi : (P.info? ty).map (·.size) = some n) :
    (loadVar ty ad).run P w = .ok (.agg (tab n V)) w := by
  have hl : (loadCells ad n).run P w = .ok (tab n V) w := run_loadCells (P := P) w ad n V hB
  cases hq : P.info? ty with
  | none => simp [hq] at hi
  | some i =>
    have hs : i.size = n := by simpa [hq] using hi
    have hagg : (isAgg ty).run P w = .ok true w := by
      unfold isAgg
      rw [Sem.run_bind, run_underlying hu w]
      cases d <;> simp_all
    simp [loadVar, Sem.run_bind, hagg, sizeOf, typeInfo, hq, hs, hl]
theorem wpL_loadC {ops : Array Oper} {rest : List Oper} {o : Oper} {a : Act} {Q : Exit → Act → World → Prop} (hgd : o.guard = none) (ty : TypeId) (x : Operand) (ho : o.op = .load ty x)
    (ad : Addr) (hx : a.eval x = .pointer (some ad)) (d : TypeDesc) (hB : ∀ j, j < n → w.cell? (ad.add j) = some (V j)) (hu : P.underlying ty = some d)
    (hd : (match d with | .struct _ | .array _ _ => true | _ => false) = true) (hi : (P.info? ty).map (·.size) = some n)
    (h : wpList P ops Q rest (a.put o.dst (.agg (tab n V))) w) : wpList P ops Q (o :: rest) a w := by
  refine wpList_plain hgd fun _ hK => ?_
  unfold Oper.wp execOp
  simp only [ho, hx, Instr.loadAt, Instr.sureAddr, Sem.run_bind, Sem.run_pure, Result.andThen_ok, run_loadVar_cells ty ad d hB hu hd hi]
  exact hK _ _ h
end
theorem wpL_toArray {P : Program} {w : World} {n : Nat} {ops : Array Oper} {rest : List Oper} {o : Oper} {a : Act} {Q : Exit → Act → World → Prop} (hgd : o.guard = none) (ty e : TypeId) (x : Operand) (ho : o.op = .sliceToArrayPointer ty x)
    (A : Option Addr) (m c : Nat) (hx : a.eval x = .slice A m c) (hu : P.underlying ty = some (.array n e)) (hn : n ≤ m) (h : wpList P ops Q rest (a.put o.dst (.pointer A)) w) : wpList P ops Q (o :: rest) a w := by
  refine wpList_plain hgd fun _ hK => ?_
  have hr : (Instr.arrayAt ty (.slice A m c)).run P w = .ok (.pointer A) w := by
    simp [Instr.arrayAt, Sem.run_bind, run_underlying hu w, show ¬ m < n by omega]
  unfold Oper.wp execOp
  simp only [ho, hx, Sem.run_bind, hr, Result.andThen_ok, Sem.run_pure]
  exact hK _ _ h
theorem SeqB.cells32 {w : World} {ad : Addr} {l : List UInt8} (h : SeqB w (some ad) l) (hl : l.length = 32) : ∀ j, j < 32 → w.cell? (ad.add j) = some (hashV (fun i => l.getD i 0) j) := fun j hj => by
  obtain ⟨a2, e, _, hc⟩ := h (by omega)
  injection e with e
  subst e
  rw [hc j (by omega)]
  unfold hashV
  simp only
  rw [getD_at (by omega)]
theorem listOf_getD {l : List UInt8} (hl : l.length = 32) : listOf (fun i => l.getD i 0) 32 = l := by
  apply List.ext_getElem
  · rw [listOf_length, hl]
  · intro i h1 h2
    have : (listOf (fun i => l.getD i 0) 32)[i]? = l[i]? := by
      unfold listOf
      rw [List.getElem?_map, List.getElem?_range (by omega), Option.map_some, List.getElem?_eq_getElem h2, getD_at h2]
    rw [List.getElem?_eq_getElem h1, List.getElem?_eq_getElem h2] at this
    exact Option.some.inj this
set_option maxHeartbeats 4000000 in
set_option maxRecDepth 20000 in
theorem at_calls (gp : Nat) (k : List It → List (List UInt8) → List UInt8 → WayR) (v : Value) (it : It) (texts : List (List UInt8)) (path : List UInt8) (w : World) (h : PrAt w gp texts path) (hit : ItAt w v it)
    (hin : ∀ (v : Value) (xs : List It) (ts : List (List UInt8)) (w' : World), PrAt w' gp ts path → ListAt w' v xs → shapedT xs = true → Calls Tryd.prog 87 #[.pointer (some ⟨gp, 0, none⟩), v] w' (WayPost w' gp (k xs ts path))) :
    Calls Tryd.prog 107 #[.pointer (some ⟨gp, 0, none⟩), v] w (WayPost w gp (atT hashL k it texts path)) := by
  obtain ⟨tp2, ev2, g2⟩ := h.errs 2 (by decide)
  have hlow := h.low.2.2.1
  have hgp := h.lt
  have HP := Lib.hid h
  have HIn := Lib.hid hin
  cases it with
  | bytes b =>
    have hh := hit.head
    obtain ⟨a0, c0, Al, cl, ll, rfl, hc0, hm0, hlt0, r0, r1, r2, hlb, hsb, hlc, hlm, hl2⟩ := hh
    simp only [bytesI] at hlb
    subst hlb
    have e1 : (It.bytes ll).flat.length = 1 := by rw [It.flat]; rfl
    have hil := items_bytes _ ll w hit
    rw [e1] at hil ⊢
    have HIl := Lib.hid hil
    have HSb := Lib.hid hsb
    have hat : atT hashL k (.bytes ll) texts path = if ll = [] then some ([], texts) else if ll.length = 32 then nextT hashL k ll texts path else none := rfl
    have HAt := Lib.hid hat
    clear hil hsb h hin hit r0 r1 hc0 e1 hat
    by_cases hl0 : ll = []
    · subst hl0
      have ha := HAt.out
      rw [if_pos rfl] at ha
      have HA := Lib.hid ha
      clear ha HAt
      go_enter Tryd.func107, Tryd.ntmps107
      go_wp2_with (go_at_call 85; (refine HIl.out.mono ?_; rintro e1 w1 ⟨rfl, hb1⟩; have r2' := (hb1.cell (p := ⟨a0.block, a0.off + 2, none⟩) hlt0).trans r2; have HB1 := Lib.hid hb1; clear hb1))
      go_ret2
      exact .mk HA.out (Kept.of_below HB1.out _) ⟨rfl, none, 0, path, rfl, SeqB.nil, by simp, by simp, HP.out.below HB1.out⟩
    · have hlp : 0 < ll.length := List.length_pos_iff.2 hl0
      have d0 : ((ll.length : Int) == 0) = false := by
        have : (ll.length : Int) ≠ 0 := by omega
        simpa using this
      by_cases h32 : ll.length = 32
      · have ha := HAt.out
        rw [if_neg hl0, if_pos h32] at ha
        have hcs := fun (W : World) (hW : Below w.heap.size w W) (ad : Addr) (hA : Al = some ad) => (hA ▸ HSb.out.below hW : SeqB W (some ad) ll).cells32 h32
        obtain ⟨ad, rfl, _, _⟩ := HSb.out.seq.byte 0 hlp
        have HCs := Lib.hid (fun (W : World) (hW : Below w.heap.size w W) => hcs W hW ad rfl)
        have hlo := listOf_getD h32
        have HLo := Lib.hid hlo
        have HA := Lib.hid ha
        have H32 := Lib.hid h32
        clear ha HAt hl0 hcs hlo
        have d32 : ((ll.length : Int) == 32) = true := by rw [h32]; rfl
        have l32 : (32 : Int) ≤ (ll.length : Int) := by omega
        have l32n : 32 ≤ ll.length := by omega
        clear h32
        generalize hfn : (fun i => ll.getD i 0) = fn at *
        clear hfn
        go_enter Tryd.func107, Tryd.ntmps107
        go_wp2_with (first
          | (go_at_call 85; (refine HIl.out.mono ?_; rintro e1 w1 ⟨rfl, hb1⟩; have r2' := (hb1.cell (p := ⟨a0.block, a0.off + 2, none⟩) hlt0).trans r2; have HB1 := Lib.hid hb1; clear hb1))
          | (refine wpL_toArray rfl 23 5 (.tmp 48) rfl _ _ _ rfl Tryd.underlying23 l32n ?_)
          | (refine wpL_loadC rfl 23 (.tmp 49) rfl ad rfl _ (HCs.out w1 HB1.out) Tryd.underlying23 rfl (by kernel_rfl) ?_)
          | (go_at_call 53; (refine (next_calls gp k fn texts path w1 (HP.out.below HB1.out) HIn.out).mono ?_; rintro e7 w7 ⟨a7, b7, rfl, hk7, hw7⟩; have HK7 := Lib.hid hk7; have HW7 := Lib.hid hw7; clear hk7 hw7)))
        go_ret2
        have hw := HW7.out
        rw [HLo.out] at hw
        exact .mk HA.out ((Kept.of_below HB1.out _).trans HK7.out (fun b hb => Or.inl hb)) hw
      · have ha := HAt.out
        rw [if_neg hl0, if_neg h32] at ha
        have d32 : ((ll.length : Int) == 32) = false := by
          have : (ll.length : Int) ≠ 32 := by omega
          simpa using this
        have HA := Lib.hid ha
        clear ha HAt hl0 h32
        go_enter Tryd.func107, Tryd.ntmps107
        go_upto_region 12 with (go_at_call 85; (refine HIl.out.mono ?_; rintro e1 w1 ⟨rfl, hb1⟩; have r2' := (hb1.cell (p := ⟨a0.block, a0.off + 2, none⟩) hlt0).trans r2; have g2' : w1.cell? ⟨2, 0, none⟩ = some (.iface tp2 ev2) := (hb1.cell (p := ⟨2, 0, none⟩) (by show 2 < w.heap.size; omega)).trans g2; have HB1 := Lib.hid hb1; clear hb1))
        go_quiet (fail)
        go_wp2_with fail
        go_ret2
        exact .mk HA.out ((Kept.of_below HB1.out _).drewN nq) ⟨rfl, tp2, ev2, rfl⟩
  | list xs =>
    have hil := items_list v xs w hit
    have HIl := Lib.hid hil
    have HIt := Lib.hid hit
    have hat : atT hashL k (.list xs) texts path = if 32 ≤ (It.list xs).enc.length ∨ shapedT xs = false then none else k xs texts path := rfl
    have HAt := Lib.hid hat
    clear hil hat h hin hit
    go_enter Tryd.func107, Tryd.ntmps107
    go_upto_region 3 with (go_at_call 85; (refine HIl.out.mono ?_; rintro e1 w1 ⟨v1, rfl, hl1, hb1⟩; have HL1 := Lib.hid hl1; have HIt1 := Lib.hid (HIt.out.below hb1); have HB1 := Lib.hid hb1; clear hb1 hl1))
    obtain ⟨A, c, its, rfl, hc, hm, hs, hq, hby, hln, hbl, _⟩ := HIt1.out
    have hen := encM_flat hs
    have hbb : its.length * (524288 + 9) ≤ 1099511627776 := Nat.le_trans (Nat.mul_le_mul_right _ hln) (by decide)
    have hec := encR_calls A c 524288 its _ hen w1 (by omega) hbb (ItemsAt.of_seq hq.seq) (fun x hx => ⟨hbl x hx, (hby x hx).seq⟩)
    obtain ⟨out, hout⟩ : ∃ out, (It.list xs).enc = out := ⟨_, rfl⟩
    rw [hout] at hec
    have HEc := Lib.hid hec
    have hat := HAt.out
    rw [hout] at hat
    have HAt2 := Lib.hid hat
    clear hen hec hs hq hby hln hbl hbb hout hat HAt HIt HIt1
    go_upto_region 4 with (go_at_call 118; (refine HEc.out.mono ?_; rintro e2 w2 ⟨A2, c2, rfl, _, hb2⟩; have HL2 := Lib.hid (HL1.out.below hb2); have HB2 := Lib.hid (HB1.out.trans (hb2.mono HB1.out.size)); clear hb2))
    have hp2 := HP.out.below HB2.out
    have g2' : w2.cell? ⟨2, 0, none⟩ = some (.iface tp2 ev2) := (HB2.out.cell (p := ⟨2, 0, none⟩) (by show 2 < w.heap.size; omega)).trans g2
    have HP2 := Lib.hid hp2
    clear hp2
    by_cases h32 : 32 ≤ out.length
    · have ha := HAt2.out
      rw [if_pos (Or.inl h32)] at ha
      have HA := Lib.hid ha
      have d32 : decide ((out.length : Int) ≥ 32) = true := decide_eq_true (by omega)
      clear ha HAt2
      go_upto_region 5 with fail
      go_quiet (fail)
      go_wp2_with fail
      go_ret2
      exact .mk HA.out ((Kept.of_below HB2.out _).drewN nq) ⟨rfl, tp2, ev2, rfl⟩
    · have d32 : decide ((out.length : Int) ≥ 32) = false := decide_eq_false (by omega)
      have hsc := shaped_calls v1 xs w2 HL2.out
      cases hsh : shapedT xs with
      | false =>
        rw [hsh] at hsc
        have ha := HAt2.out
        rw [if_pos (Or.inr hsh)] at ha
        have HA := Lib.hid ha
        have HSc := Lib.hid hsc
        clear ha HAt2 hsc hsh h32
        go_upto_region 5 with (go_at_call 86; (refine HSc.out.mono ?_; rintro e6 w6 ⟨rfl, hb6⟩; have hb36 := HB2.out.trans (hb6.mono HB2.out.size); have g3' : w6.cell? ⟨2, 0, none⟩ = some (.iface tp2 ev2) := (hb36.cell (p := ⟨2, 0, none⟩) (by show 2 < w.heap.size; omega)).trans g2; have HB6 := Lib.hid hb36; clear hb6 hb36))
        go_quiet (fail)
        go_wp2_with fail
        go_ret2
        exact .mk HA.out ((Kept.of_below HB6.out _).drewN nq) ⟨rfl, tp2, ev2, rfl⟩
      | true =>
        rw [hsh] at hsc
        have ha := HAt2.out
        rw [if_neg (by rintro (h | h); exact h32 h; rw [hsh] at h; cases h)] at ha
        have HA := Lib.hid ha
        have HSc := Lib.hid hsc
        have HSh := Lib.hid hsh
        clear ha HAt2 hsc hsh h32
        go_wp2_with (first
          | (go_at_call 86; (refine HSc.out.mono ?_; rintro e6 w6 ⟨rfl, hb6⟩; have HP6 := Lib.hid (HP2.out.below hb6); have HL6 := Lib.hid (HL2.out.below hb6); have HB6 := Lib.hid (HB2.out.trans (hb6.mono HB2.out.size)); clear hb6))
          | (go_at_call 87; (refine (HIn.out v1 xs texts w6 HP6.out HL6.out HSh.out).mono ?_; rintro e7 w7 ⟨a7, b7, rfl, hk7, hw7⟩; have HK7 := Lib.hid hk7; have HW7 := Lib.hid hw7; clear hk7 hw7)))
        go_ret2
        exact .mk HA.out ((Kept.of_below HB6.out _).trans HK7.out (fun b hb => Or.inl hb)) HW7.out
end Go.Proofs.YtfhindffmghlaaaDoor
