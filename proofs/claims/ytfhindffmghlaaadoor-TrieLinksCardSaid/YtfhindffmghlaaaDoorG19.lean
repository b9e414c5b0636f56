/- Decode's rows in memory: turned in place, taken off, put on. -/
import Derived.Test.YtfhindffmghlaaaDoorG03
import Derived.Test.YtfhindffmghlaaaDoorG05
import Derived.Deep.LoopGhost
import Derived.Deep.CutRange
import Derived.Test.YtfhindffmghlaaaDoorMREncode
set_option linter.unusedVariables false
set_option linter.unusedSimpArgs false
namespace Go.Proofs.YtfhindffmghlaaaDoor
open Go.RowKit
section
variable {W W' : World} {base : Nat} {st : List (Nat × Nat)} {L : List SaidI} {A : Option Addr} {n c : Nat} {q : Nat × Nat}
theorem StackIs.top (h : StackIs W base (.slice A n c) (q :: st)) : n = st.length + 1 ∧ ∃ g, A = some ⟨g, 0, none⟩ ∧ base ≤ g ∧ g < W.heap.size ∧ st.length + 1 ≤ c ∧ c ≤ maxLen ∧
    W.cell? ⟨g, st.length * 2, none⟩ = some (.int .i64 q.1) ∧ W.cell? ⟨g, st.length * 2 + 1, none⟩ = some (.int .i64 q.2) := by
  obtain ⟨A', c', e, h⟩ := h
  injection e with e1 e2 e3
  subst e1 e2 e3
  refine ⟨rfl, ?_⟩
  obtain ⟨g, rfl, h1, h2, h3, h4⟩ := own_form h (by simp)
  have hc : ∀ i, i < 2 → (opensC (q :: st))[st.length * 2 + i]? = [Value.int .i64 q.1, .int .i64 q.2][i]? := fun i hi => by
    rw [opensC_cons, List.getElem?_append_right (by rw [opensC_length]; omega), opensC_length, Nat.add_sub_cancel_left]
  refine ⟨g, rfl, h1, h2, by simpa using h3, h4, ?_, ?_⟩
  · have := h.cells (g := g) rfl (st.length * 2) _ (hc 0 (by omega))
    rwa [addr_add, Nat.zero_add] at this
  · have := h.cells (g := g) rfl (st.length * 2 + 1) _ (hc 1 (by omega))
    rwa [addr_add, Nat.zero_add] at this
theorem own_cut {e : TypeId} {size m : Nat} {xs : List Value} (h : W.ownsRow base e size (.slice A n c) n xs) (hm : m ≤ n) (hn : 0 < n) : W.ownsRow base e size (.slice A m c) m (xs.take (m * size)) := by
  obtain ⟨h1, h2⟩ := h
  have hle : m * size ≤ n * size := Nat.mul_le_mul_right _ hm
  refine ⟨by rw [List.length_take]; omega, ?_⟩
  rcases h2 with ⟨h2, h3⟩ | ⟨g, cap, cur, hv, hg, hh, hnc, hcm, hcs, htake⟩
  · omega
  · injection hv with e1 e2 e3
    subst e1 e3
    exact .inr ⟨g, c, cur, rfl, hg, hh, by omega, hcm, hcs, by rw [← htake, List.take_take, Nat.min_eq_left hle]⟩
theorem StackIs.pop (h : StackIs W base (.slice A n c) (q :: st)) : StackIs W base (.slice A st.length c) st := by
  obtain ⟨A', c', e, h⟩ := h
  injection e with e1 e2 e3
  subst e1 e2 e3
  refine ⟨A, c, rfl, ?_⟩
  have := own_cut h (m := st.length) (by simp) (by simp)
  rw [opensC_cons, List.take_append_of_le_length (by rw [opensC_length]; exact Nat.le_refl _), List.take_of_length_le (by rw [opensC_length]; exact Nat.le_refl _)] at this
  exact this
theorem RowIs.shape {v : Value} (h : RowIs W base v L) : ∃ A c, v = .slice A L.length c := by
  obtain ⟨A, c, l, e, _⟩ := h
  exact ⟨A, c, e⟩
theorem StackIs.shape {v : Value} (h : StackIs W base v st) : ∃ A c, v = .slice A st.length c ∧ W.ownsRow base 149 2 (.slice A st.length c) st.length (opensC st) := by
  obtain ⟨A, c, rfl, h⟩ := h
  exact ⟨A, c, rfl, h⟩
theorem map_modify_said (l : List ItemL) (j : Nat) : (l.modify j fun x => (x.1, x.2.1 + 1, x.2.2)).map said = (l.map said).modify j up := by
  apply List.ext_getElem
  · simp
  · intro i h1 h2
    simp only [List.getElem_map, List.getElem_modify]
    split <;> rfl
theorem itemsC_modify (l : List ItemL) (j : Nat) (hj : j < l.length) : itemsC (l.modify j fun x => (x.1, x.2.1 + 1, x.2.2)) = (itemsC l).set (j * 3 + 1) (.int .i64 (l[j].2.1 + 1)) := by
  induction l generalizing j with
  | nil => simp at hj
  | cons x l ih =>
    cases j with
    | zero => rfl
    | succ j =>
      have hj' : j < l.length := by simpa using hj
      rw [List.modify_succ_cons]
      have e1 : ∀ y (m : List ItemL), itemsC (y :: m) = itemC y ++ itemsC m := fun _ _ => rfl
      rw [e1, e1, ih j hj', List.set_append_right _ _ (by simp [itemC]; omega)]
      have : (j + 1) * 3 + 1 - (itemC x).length = j * 3 + 1 := by simp [itemC]; omega
      rw [this]
      rfl
theorem RowIs.bump {j : Nat} (h : RowIs W base (.slice A n c) L) (hj : j < L.length) : n = L.length ∧ ∃ g, A = some ⟨g, 0, none⟩ ∧ base ≤ g ∧ g < W.heap.size ∧ W.cell? ⟨g, j * 3 + 1, none⟩ = some (.int .i64 L[j].2.1) ∧ W.frozen? ⟨g, j * 3 + 1, none⟩ = false ∧
    (∀ {e' : TypeId} {size' n' base' : Nat} {v' : Value} {xs' : List Value}, e' ≠ 109 → W.ownsRow base' e' size' v' n' xs' → (W.setCell ⟨g, j * 3 + 1, none⟩ (.int .i64 (L[j].2.1 + 1))).ownsRow base' e' size' v' n' xs') ∧
    RowIs (W.setCell ⟨g, j * 3 + 1, none⟩ (.int .i64 (L[j].2.1 + 1))) base (.slice A n c) (L.modify j up) := by
  obtain ⟨A', c', l, e, hl, h, ho⟩ := h
  injection e with e1 e2 e3
  subst e1 e2 e3 hl
  refine ⟨rfl, ?_⟩
  have hj' := hj
  rw [List.length_map] at hj'
  obtain ⟨g, rfl, h1, h2, h3, h4⟩ := own_form h (by omega)
  have hlen := itemsC_length l
  have hc := itemsC_get l j 1 hj' (by omega)
  obtain ⟨cur, hb⟩ := own_blk h g rfl
  have hother : ∀ {e' : TypeId} {size' n' base' : Nat} {v' : Value} {xs' : List Value}, e' ≠ 109 → W.ownsRow base' e' size' v' n' xs' → (W.setCell ⟨g, j * 3 + 1, none⟩ (.int .i64 ((l[j]'hj').2.1 + 1))).ownsRow base' e' size' v' n' xs' :=
    fun he ho' => own_only ho' (Only.setCell _ _ _) (fun e => own_two ho' h he g e rfl)
  refine ⟨g, rfl, h1, h2, ?_, Blk.frozen hb _, ?_, ?_⟩
  · rw [List.getElem_map]
    have hcc := h.cells (g := g) rfl _ _ hc
    rwa [addr_add, Nat.zero_add] at hcc
  · rw [List.getElem_map]
    exact hother
  · rw [List.getElem_map]
    have hset := own_set h (i := j * 3 + 1) (by omega) (.int .i64 ((l[j]'hj').2.1 + 1))
    rw [← itemsC_modify l j hj'] at hset
    refine ⟨some ⟨g, 0, none⟩, c, l.modify j fun x => (x.1, x.2.1 + 1, x.2.2), by simp, map_modify_said l j, ?_, ?_⟩
    · rw [List.length_modify]
      exact hset
    · intro x hx
      obtain ⟨i, hi, rfl⟩ := List.getElem_of_mem hx
      rw [List.getElem_modify]
      have hi' : i < l.length := by simpa using hi
      have := hother (by decide) (ho (l[i]'hi') (List.getElem_mem hi'))
      split <;> exact this
theorem RowIs.only {v : Value} {e' : TypeId} {size' n' base' g : Nat} {v' : Value} {xs' : List Value} (h : RowIs W base v L) (ho : W.ownsRow base' e' size' v' n' xs') (hg : v'.ownBlock = some g) (he : e' ≠ 109) (he2 : e' ≠ 5) (hw : Only g W W') : RowIs W' base v L := by
  obtain ⟨A, c, l, e, hl, h, hi⟩ := h
  exact ⟨A, c, l, e, hl, own_only h hw (fun e => own_two ho h he g hg e), fun x hx => own_only (hi x hx) hw (fun e => own_two ho (hi x hx) he2 g hg e)⟩
/-- An item put behind the row. -/
theorem RowIs.snoc {A1 : Option Addr} {c1 : Nat} {l : List ItemL} {x : ItemL} (h : W.ownsRow base 109 3 (.slice A n c) n (itemsC l)) (hi : ∀ y ∈ l, OwnI W base y) (hx : OwnI W base x) (hn : n = l.length)
    (h2 : W'.ownsRow base 109 3 (.slice A1 (n + 1) c1) (n + 1) (itemsC l ++ itemC x)) (hg : W.grownBy W' (Value.slice A n c).ownBlock) : RowIs W' base (.slice A1 (n + 1) c1) (l.map said ++ [said x]) := by
  refine ⟨A1, c1, l ++ [x], by simp [hn], by simp, ?_, ?_⟩
  · rw [itemsC_append]
    have e : (l.map said ++ [said x]).length = n + 1 := by simp [hn]
    rw [e]
    simpa [itemsC] using h2
  · intro y hy
    rcases List.mem_append.1 hy with hy | hy
    · exact (hi y hy).grown h (by decide) hg
    · rw [List.mem_singleton] at hy
      subst hy
      exact hx.grown h (by decide) hg
theorem OwnI.none_ (W : World) (base : Nat) (b : Bool) (i : Int) : OwnI W base (b, i, none, 0, []) := World.ownsRow_nil _ _ _ _
end
end Go.Proofs.YtfhindffmghlaaaDoor
/- Decode of any bytes. -/
namespace Go.Proofs.YtfhindffmghlaaaDoor
open Go.RowKit
theorem DecInv.tail {n p en : Nat} {L : List SaidI} {q : Nat × Nat} {st : List (Nat × Nat)} (h : DecInv n L (q :: st) p en) : DecInv n L st p (endOf n st) :=
  ⟨h.hp, by
    cases st with
    | nil => exact Nat.le_refl _
    | cons q' st => exact (h.hst q' (by simp)).2, h.hlen, h.hcnt, fun q hq => h.hst q (List.mem_cons_of_mem _ hq), by have := h.hsize; simp at this; omega⟩
theorem results_tmp3 {fn : Func} {t u v : Tmp} (h : fn.results = #[.tmp t, .tmp u, .tmp v]) (tmps : Array Value) (P : Program) (w : World) :
    (results fn tmps).run P w = .ok (.tuple #[tmps.getD t undef, tmps.getD u undef, tmps.getD v undef]) w := by
  simp [results, h]
set_option maxHeartbeats 4000000 in
set_option maxRecDepth 20000 in
theorem decode_calls (A : Option Addr) (c B : Nat) (b : List UInt8) (w : World) (hl : b.length ≤ 1073741824) (hc : b.length ≤ c) (hB : B ≤ w.heap.size) (hs : Seq w B A (bytes b)) :
    Calls Tryd.prog 84 #[.slice A b.length c] w fun e w' => ∃ v, e = .returned (.tuple #[v, .int .i64 (decM b).2.1, .int .i64 (decM b).2.2]) ∧ RowIs w' w.heap.size v (decM b).1 ∧ Below w.heap.size w w' := by
  have HS := Lib.hid hs
  obtain ⟨r0, hr0⟩ : ∃ r, decM b = r := ⟨_, rfl⟩
  have HR0 := Lib.hid hr0
  rw [hr0]
  clear hs hr0
  go_enter Tryd.func84, Tryd.ntmps84
  go_wp2_with fail
  go_step3
  go_wp2_with fail
  go_step3
  go_wp2_with fail
  go_loopg [5, 6, 7, 8] (b.length + 1) (fun g vl vs vp ve wr => ∃ (L : List SaidI) (st : List (Nat × Nat)) (p en : Nat), vp = .int .i64 p ∧ ve = .int .i64 en ∧ RowIs wr w.heap.size vl L ∧ StackIs wr w.heap.size vs st ∧ DecInv b.length L st p en ∧ decGo b g L st p en = r0 ∧ b.length < p + g ∧ Below w.heap.size w wr)
  case atStart => exact ⟨[], [], 0, b.length, rfl, rfl, RowIs.nil _ _, StackIs.nil _ _, DecInv.start _, HR0.out, by omega, Below.refl _ _⟩
  case round =>
    obtain ⟨L, st, p, en, rfl, rfl, hrow, hstk, hinv, hdec, hgk, hBl⟩ := hrel
    have hp := hinv.hp
    have hen := hinv.hen
    have hlp := hinv.hlen
    obtain ⟨k, rfl⟩ : ∃ k, gk = k + 1 := ⟨gk - 1, by omega⟩
    unfold decGo at hdec
    have hrd := read_calls A c B b p en (by omega) hc hen (by omega) wr (HS.out.below hBl hB) (Nat.le_trans hB hBl.size)
    have hok : (readM b p en).2.2.2 = 0 → _ := fun h => readM_ok h hen
    have hnx : (readM b p en).2.2.2 = 0 → _ := fun h => hinv.next h
    have hat : (readM b p en).2.2.2 = 0 → _ := fun h => atN_lt h hen
    have her := readM_err b p en
    generalize readM b p en = r at *
    obtain ⟨dp, f, t, e⟩ := r
    simp only [readV] at hok hnx hat her hrd
    have hsz := hBl.size
    have HRow := Lib.hid hrow
    have HStk := Lib.hid hstk
    have HInv := Lib.hid hinv
    have HRd := Lib.hid hrd
    have HB := Lib.hid hBl
    clear hrow hstk hinv hrd hBl
    by_cases he : e = 0
    · subst he
      obtain ⟨h1, h2, h3, h4, h5, h6⟩ := hok rfl
      have HNx := Lib.hid (hnx rfl)
      have hat2 := hat rfl
      rw [if_neg (by simp)] at hdec
      have HDec := Lib.hid hdec
      clear hnx hdec her hok hat
      obtain ⟨As, cs, rfl, hos⟩ := HStk.out.shape
      have hls := HInv.out.hsize
      obtain ⟨Al, cl, rfl⟩ := HRow.out.shape
      go_upto_if 30 with (go_at_call 105; refine HRd.out.mono ?_; rintro e1 w1 ⟨rfl, hb1⟩; have HB1 := Lib.hid hb1; clear hb1)
      have hrow1 := HRow.out.below HB1.out
      have hstk1 := HStk.out.below HB1.out
      have HRow1 := Lib.hid hrow1
      have HStk1 := Lib.hid hstk1
      have hbl1 := HB.out.trans (HB1.out.mono hsz)
      have HBl1 := Lib.hid hbl1
      have hsz1 := HB1.out.size
      clear hrow1 hstk1 hbl1 hos
      go_cut [5] from 15 to 91 (fun v5 wx => RowIs wx w.heap.size v5 (upL L st) ∧ StackIs wx w.heap.size (.slice As st.length cs) st ∧ Below w.heap.size w wx ∧ w1.heap.size ≤ wx.heap.size)
      case first =>
        cases st with
        | nil =>
          go_wp2_with fail
          go_meet
          case rel => exact ⟨HRow1.out, HStk1.out, HBl1.out, Nat.le_refl _⟩
        | cons q st =>
          obtain ⟨_, gs, rfl, hs1, hs2, hs3, hs4, hq1, hq2⟩ := HStk1.out.top
          have hjl := (HInv.out.hst q (by simp)).1
          obtain ⟨_, gr, rfl, hr1, hr2, hcell, hfr, hoth, hbump⟩ := HRow1.out.bump hjl
          have hcn := HInv.out.hcnt _ (List.getElem_mem hjl)
          have hst2 : StackIs (w1.setCell ⟨gr, q.1 * 3 + 1, none⟩ (.int .i64 (L[q.1].2.1 + 1))) w.heap.size (.slice (some ⟨gs, 0, none⟩) (q :: st).length cs) (q :: st) := by
            obtain ⟨a1, a2, a3, a4⟩ := HStk1.out
            exact ⟨a1, a2, a3, hoth (by decide) a4⟩
          have HBump := Lib.hid hbump
          have HSt2 := Lib.hid hst2
          clear hoth hbump hst2
          generalize L[q.1].2.1 = x at *
          obtain ⟨qn, qe⟩ := q
          simp only at hjl hq1 hq2 hcell hfr hr1
          go_wp2_with fail
          go_meet
          case rel => exact ⟨HBump.out, HSt2.out, (Only.setCell _ _ _).below HBl1.out hr1, Nat.le_of_eq (size_setCell _ _ _).symm⟩
      case rest =>
        obtain ⟨hrw, hsk, hbl, hsz2⟩ := hcut
        obtain ⟨A5, c5, l5, rfl, hs5, ho5, hi5⟩ := hrw
        have hlen := upL_length L st
        have h5l : l5.length = L.length := by rw [← hlen, ← hs5, List.length_map]
        rw [hlen] at ho5 ⊢
        obtain ⟨As', cs', e6, ho6⟩ := hsk.shape
        injection e6 with e7 e8 e9
        subst e7 e9
        have HS5 := Lib.hid hs5
        have HO5 := Lib.hid ho5
        have HI5 := Lib.hid hi5
        have HL5 := Lib.hid h5l
        have HO6 := Lib.hid ho6
        have HBl2 := Lib.hid hbl
        have hsz3 := hbl.size
        clear hlen hs5 ho5 hi5 h5l ho6 hbl hsk e8
        go_upto_if 46 with fail
        go_cut [5, 6, 7, 8] from 15 to 91 (fun v5 v6 v7 v8 wx => RowIs wx w.heap.size v5 (upL L st ++ [newI b (dp, f, t, 0)]) ∧ StackIs wx w.heap.size v6 (openN (dp, f, t, 0) L st) ∧ v7 = .int .i64 ((atN (dp, f, t, 0) : Nat) : Int) ∧ v8 = .int .i64 ((enN (dp, f, t, 0) en : Nat) : Int) ∧ Below w.heap.size w wx)
        case first =>
          cases dp with
          | true =>
            go_wp2_with (first
              | (at_builtin; first
                | (refine wpL_append rfl (.tmp 47) (.tmp 52) 145 rfl elOpened rfl (own_alloc HO6.out _) rfl rfl (Seq.of_blk (xs := [.int .i64 L.length, .int .i64 t]) (Blk.new' _ _ _ rfl) (Nat.lt_succ_self _)) (by simp [Value.oneCell']) (by unfold maxLen; omega) (by omega) (by rw [size_alloc]; omega) ?_; intro A6 c6 W6 ho7 hg7 _; have hs7 := hg7.size; rw [size_alloc] at hs7; have HO7 := Lib.hid ho7; have HG7 := Lib.hid hg7; have HO8 := Lib.hid (own_grown (own_alloc HO5.out _) hg7 (fun q hq e => own_two HO6.out HO5.out (by decide) q e hq)); clear ho7 hg7)
                | (refine wpL_append rfl (.tmp 54) (.tmp 56) 105 rfl elItem rfl (own_alloc HO8.out _) rfl rfl (Seq.of_blk (xs := [.bool true, .int .i64 0, .slice none 0 0]) (Blk.new' _ _ _ rfl) (Nat.lt_succ_self _)) (by simp [Value.oneCell']) (by unfold maxLen; omega) (by omega) (by rw [size_alloc]; omega) ?_; intro A9 c9 W9 ho9 hg9 _; have hs9 := hg9.size; rw [size_alloc] at hs9; have HO9 := Lib.hid ho9; have HG9 := Lib.hid hg9; clear ho9 hg9)))
            go_meet
            case rel =>
              have hO7 := own_alloc HO7.out (.cells #[.bool true, .int .i64 0, .slice none 0 0] 109)
              have hO8 := own_alloc HO8.out (.cells #[.bool true, .int .i64 0, .slice none 0 0] 109)
              have hfin := RowIs.snoc (x := (true, 0, none, 0, [])) hO8 (fun y hy => own_alloc (OwnI.grown (x := y) (own_alloc (HI5.out y hy) _) (own_alloc HO6.out _) (by decide) HG7.out) _) (OwnI.none_ _ _ _ _) HL5.out.symm HO9.out HG9.out
              rw [HS5.out] at hfin
              refine ⟨hfin, ⟨A6, c6, rfl, ?_⟩, rfl, rfl, ((((HBl2.out.alloc hsz3 _).grown HG7.out (by rw [size_alloc]; omega) (fun g hg => (HO6.out.lt g hg).1)).alloc (by omega) _).grown HG9.out (by rw [size_alloc]; omega) (fun g hg => (HO8.out.lt g hg).1))⟩
              have := own_grown hO7 HG9.out (fun q hq e => own_two hO8 hO7 (by decide) q e hq)
              rw [← opensC_cons (L.length, t) st] at this
              exact this
          | false =>
            have hsq0 : Seq wc B (A.map (·.add f)) (bytes ((b.take t).drop f)) := by
              have := ((HS.out.below HBl2.out hB).drop f).take (t - f)
              rwa [show ((bytes b).drop f).take (t - f) = bytes ((b.take t).drop f) by simp [bytes, List.drop_take]] at this
            have hsq1 : c = f → Seq wc B A (bytes ((b.take t).drop f)) := fun e => by
              have : (b.take t).drop f = [] := by apply List.drop_eq_nil_of_le; simp; omega
              rw [this]
              exact Seq.none_
            have hll : ((b.take t).drop f).length = t - f := by simp; omega
            have hnw : newI b (false, f, t, 0) = (false, 0, (b.take t).drop f) := rfl
            have HNw := Lib.hid hnw
            clear hnw
            generalize (b.take t).drop f = lb at *
            have hll' := hll.symm
            have hlb : lb.length ≤ 1073741824 := by omega
            have HSq0 := Lib.hid hsq0
            have HSq1 := Lib.hid hsq1
            clear hsq0 hsq1 hll
            by_cases hcf : c = f
            · subst hcf
              go_wp2_with (first
                | (go_at_call 54; (refine (clone_calls _ _ B lb wc (by omega) (by omega) (HSq1.out rfl)).mono ?_; rintro e1 w2 ⟨A7, c7, rfl, ho7, hb7⟩; have hs7 := hb7.size; have HO7 := Lib.hid ho7; have HO8 := Lib.hid (own_below' HO5.out hb7); have HB7 := Lib.hid hb7; clear ho7 hb7))
                | (at_builtin; (refine wpL_append rfl (.tmp 60) (.tmp 67) 105 rfl elItem rfl (own_alloc HO8.out _) rfl rfl (Seq.of_blk (xs := [.bool false, .int .i64 0, .slice A7 lb.length c7]) (Blk.new' _ _ _ rfl) (Nat.lt_succ_self _)) (by simp [Value.oneCell']) (by unfold maxLen; omega) (by omega) (by rw [size_alloc]; omega) ?_; intro A9 c9 W9 ho9 hg9 _; have hs9 := hg9.size; rw [size_alloc] at hs9; have HO9 := Lib.hid ho9; have HG9 := Lib.hid hg9; clear ho9 hg9)))
              go_meet
              case rel =>
                have hO7 := own_alloc (own_mono HO7.out hsz3) (.cells #[.bool false, .int .i64 0, .slice A7 lb.length c7] 109)
                have hO8 := own_alloc HO8.out (.cells #[.bool false, .int .i64 0, .slice A7 lb.length c7] 109)
                have hO6 := own_alloc (own_below' HO6.out HB7.out) (.cells #[.bool false, .int .i64 0, .slice A7 lb.length c7] 109)
                have hfin := RowIs.snoc (x := (false, 0, A7, c7, lb)) hO8 (fun y hy => own_alloc (own_below' (HI5.out y hy) HB7.out) _) hO7 HL5.out.symm HO9.out HG9.out
                rw [HS5.out] at hfin
                refine ⟨by rw [HNw.out]; exact hfin, ⟨As, cs, rfl, own_grown hO6 HG9.out (fun q hq e => own_two hO8 hO6 (by decide) q e hq)⟩, rfl, rfl, (((HBl2.out.trans (HB7.out.mono hsz3)).alloc (by omega) _).grown HG9.out (by rw [size_alloc]; omega) (fun g hg => (HO8.out.lt g hg).1))⟩
            · go_wp2_with (first
                | (go_at_call 54; (refine (clone_calls _ _ B lb wc (by omega) (by omega) HSq0.out).mono ?_; rintro e1 w2 ⟨A7, c7, rfl, ho7, hb7⟩; have hs7 := hb7.size; have HO7 := Lib.hid ho7; have HO8 := Lib.hid (own_below' HO5.out hb7); have HB7 := Lib.hid hb7; clear ho7 hb7))
                | (at_builtin; (refine wpL_append rfl (.tmp 60) (.tmp 67) 105 rfl elItem rfl (own_alloc HO8.out _) rfl rfl (Seq.of_blk (xs := [.bool false, .int .i64 0, .slice A7 lb.length c7]) (Blk.new' _ _ _ rfl) (Nat.lt_succ_self _)) (by simp [Value.oneCell']) (by unfold maxLen; omega) (by omega) (by rw [size_alloc]; omega) ?_; intro A9 c9 W9 ho9 hg9 _; have hs9 := hg9.size; rw [size_alloc] at hs9; have HO9 := Lib.hid ho9; have HG9 := Lib.hid hg9; clear ho9 hg9)))
              go_meet
              case rel =>
                have hO7 := own_alloc (own_mono HO7.out hsz3) (.cells #[.bool false, .int .i64 0, .slice A7 lb.length c7] 109)
                have hO8 := own_alloc HO8.out (.cells #[.bool false, .int .i64 0, .slice A7 lb.length c7] 109)
                have hO6 := own_alloc (own_below' HO6.out HB7.out) (.cells #[.bool false, .int .i64 0, .slice A7 lb.length c7] 109)
                have hfin := RowIs.snoc (x := (false, 0, A7, c7, lb)) hO8 (fun y hy => own_alloc (own_below' (HI5.out y hy) HB7.out) _) hO7 HL5.out.symm HO9.out HG9.out
                rw [HS5.out] at hfin
                refine ⟨by rw [HNw.out]; exact hfin, ⟨As, cs, rfl, own_grown hO6 HG9.out (fun q hq e => own_two hO8 hO6 (by decide) q e hq)⟩, rfl, rfl, (((HBl2.out.trans (HB7.out.mono hsz3)).alloc (by omega) _).grown HG9.out (by rw [size_alloc]; omega) (fun g hg => (HO8.out.lt g hg).1))⟩
        case rest =>
          obtain ⟨hrw, hsk, rfl, rfl, hbl⟩ := hcut
          clear HO5 HI5 HO6 HBl2 HS5 HL5 HRow1 HStk1 HBl1
          generalize atN (dp, f, t, 0) = p2 at *
          generalize enN (dp, f, t, 0) en = en2 at *
          generalize openN (dp, f, t, 0) L st = st2 at *
          generalize upL L st ++ [newI b (dp, f, t, 0)] = L2 at *
          have hinv2 := HNx.out
          have hp2 := hinv2.hp
          have he2 := hinv2.hen
          have hsz4 := hbl.size
          have HRw := Lib.hid hrw
          have HSk := Lib.hid hsk
          have HBl3 := Lib.hid hbl
          clear hrw hsk hbl hinv2
          go_wp2_with fail
          go_loopg [6, 8] (st2.length + 1) (fun g v6 v8 wx => ∃ (st3 : List (Nat × Nat)) (en3 : Nat), st3.length < g ∧ v8 = .int .i64 (en3 : Int) ∧ wx = wc ∧ StackIs wx w.heap.size v6 st3 ∧ DecInv b.length L2 st3 p2 en3 ∧ popM b.length p2 en3 st3 = popM b.length p2 en2 st2)
          case atStart => exact ⟨st2, en2, by omega, rfl, rfl, HSk.out, HNx.out, rfl⟩
          case round =>
            obtain ⟨st3, en3, hst3, rfl, hwr, hsk3, hinv3, hpop⟩ := hrel
            subst hwr
            have hp3 := hinv3.hp
            have he3 := hinv3.hen
            have hq3 := hinv3.hsize
            have hq4 := hinv3.hlen
            have hdec := HDec.out
            cases st3 with
            | nil =>
              obtain ⟨A3, c3, rfl, ho3⟩ := hsk3.shape
              rw [show popM b.length p2 en3 [] = none from rfl] at hpop
              rw [← hpop] at hdec
              simp only at hdec
              by_cases hlt : p2 < b.length
              · rw [if_pos hlt] at hdec
                have HDc := Lib.hid hdec
                have d1 : decide ((p2 : Int) < (b.length : Int)) = true := decide_eq_true (by omega)
                clear hdec hpop hinv3 hsk3 ho3
                go_wp2_with fail
                try rw [Exit.noGoto_ret]
                refine bodyPost_ret (results_tmp3 rfl _ _ _) rfl ?_
                rw [← HDc.out]
                exact ⟨_, rfl, RowIs.nil _ _, HBl3.out⟩
              · rw [if_neg hlt] at hdec
                have HDc := Lib.hid hdec
                have d1 : decide ((p2 : Int) < (b.length : Int)) = false := decide_eq_false (by omega)
                clear hdec hpop hinv3 hsk3 ho3
                go_wp2_with fail
                try rw [Exit.noGoto_ret]
                refine bodyPost_ret (results_tmp3 rfl _ _ _) rfl ?_
                rw [← HDc.out]
                exact ⟨_, rfl, HRw.out, HBl3.out⟩
            | cons q st3 =>
              obtain ⟨A3, c3, rfl, ho3⟩ := hsk3.shape
              by_cases hlt : p2 < en3
              · rw [show popM b.length p2 en3 (q :: st3) = some (en3, q :: st3) by rw [popM, if_pos hlt]] at hpop
                rw [← hpop] at hdec
                simp only at hdec
                have HDc := Lib.hid hdec
                have HSk3 := Lib.hid hsk3
                have HI3 := Lib.hid hinv3
                have d1 : decide ((p2 : Int) < (en3 : Int)) = true := decide_eq_true (by omega)
                clear hdec hpop hinv3 hsk3 ho3
                go_wp2_with fail
                go_roundg k
                case measure => omega
                case rel => exact ⟨L2, q :: st3, p2, en3, rfl, rfl, HRw.out, HSk3.out, HI3.out, HDc.out, by omega, HBl3.out⟩
              · rw [show popM b.length p2 en3 (q :: st3) = popM b.length p2 (endOf b.length st3) st3 by rw [popM, if_neg hlt]] at hpop
                have d1 : decide ((p2 : Int) < (en3 : Int)) = false := decide_eq_false (by omega)
                obtain ⟨_, g3, rfl, hg1, hg2, hg3, hg4, hq1, hq2⟩ := hsk3.top
                have HSk3 := Lib.hid hsk3.pop
                have HI3 := Lib.hid hinv3.tail
                have HPp := Lib.hid hpop
                simp only [List.length_cons] at hst3 hq3
                clear hdec hpop hinv3 hsk3 ho3
                cases st3 with
                | nil =>
                  go_wp2_with fail
                  go_roundg (gk - 1)
                  case measure => omega
                  case rel => exact ⟨[], b.length, by simp; omega, rfl, rfl, HSk3.out, HI3.out, HPp.out⟩
                | cons q2 st4 =>
                  have HSk4 := HSk3
                  obtain ⟨_, g4, e4, _, _, _, _, hr1, hr2⟩ := HSk3.out.top
                  injection e4 with e4
                  injection e4 with e4
                  subst e4
                  simp only [List.length_cons] at hst3 hq3 hg3
                  clear hq1 hq2
                  go_wp2_with fail
                  go_roundg (gk - 1)
                  case measure => omega
                  case rel => exact ⟨q2 :: st4, q2.2, by simp; omega, rfl, rfl, HSk3.out, HI3.out, HPp.out⟩
    · rw [if_pos (by simpa using he)] at hdec
      have HDec := Lib.hid hdec
      clear hdec hok hnx hat
      rcases her with her | her | her
      · exact absurd her he
      all_goals
        subst her
        go_wp2_with (first | (go_at_call 105; refine HRd.out.mono ?_; rintro e1 w1 ⟨rfl, hb1⟩; have HB1 := Lib.hid hb1; clear hb1))
        try rw [Exit.noGoto_ret]
        refine bodyPost_ret (results_tmp3 rfl _ _ _) rfl ?_
        rw [← HDec.out]
        exact ⟨_, rfl, RowIs.nil _ _, HB.out.trans (HB1.out.mono hsz)⟩
end Go.Proofs.YtfhindffmghlaaaDoor
/- Encode and Decode, as their callers want them. -/
namespace Go.Proofs.YtfhindffmghlaaaDoor
open Go.RowKit
theorem ItemsAt.of_seq {w : World} {B : Nat} {A : Option Addr} {l : List ItemL} (h : Seq w B A (itemsC l)) : ItemsAt w B A l := fun j hj => by
  have hl := itemsC_length l
  obtain ⟨ad, e, hlt, hc⟩ := h (by omega)
  refine ⟨ad, e, hlt, fun i hi => ?_⟩
  rw [hc (j * 3 + i) (by omega), ← itemsC_get l j i hj hi, List.getElem?_eq_getElem (by omega)]
theorem RowIs.at_ {w : World} {base : Nat} {v : Value} {L : List SaidI} (h : RowIs w base v L) : ∃ A c, ∃ l : List ItemL, v = .slice A l.length c ∧ l.length = L.length ∧ l.map said = L ∧ ItemsAt w w.heap.size A l ∧ ∀ x ∈ l, Seq w w.heap.size x.2.2.1 (bytes x.2.2.2.2) := by
  obtain ⟨A, c, l, rfl, hl, h, ho⟩ := h
  have hlen : l.length = L.length := by rw [← hl, List.length_map]
  refine ⟨A, c, l, by rw [hlen], hlen, hl, ?_, fun x hx => (ho x hx).seq⟩
  rw [← hlen] at h
  exact ItemsAt.of_own h
theorem encR_calls (A : Option Addr) (c M : Nat) (l : List ItemL) (out : List UInt8) (he : encM l = some out) (w : World) (hl : l.length ≤ 16777216) (hb : l.length * (M + 9) ≤ 1099511627776) (hs : ItemsAt w w.heap.size A l)
    (hp : ∀ x ∈ l, x.2.2.2.2.length ≤ M ∧ Seq w w.heap.size x.2.2.1 (bytes x.2.2.2.2)) :
    Calls Tryd.prog 118 #[.slice A l.length c] w fun e w' => ∃ (A' : Option Addr) (c' : Nat), e = .returned (.tuple #[.slice A' out.length c', .int .i64 0]) ∧ w'.ownsRow w.heap.size 5 1 (.slice A' out.length c') out.length (bytes out) ∧ Below w.heap.size w w' := by
  refine (encode_calls A c M l w hl hb hs hp).mono ?_
  rintro e w' ⟨h, hb⟩
  unfold encPost at h
  rw [he] at h
  obtain ⟨A', c', rfl, ho⟩ := h
  exact ⟨A', c', rfl, ho, hb⟩
theorem decR_calls (A : Option Addr) (c B : Nat) (b : List UInt8) (L : List SaidI) (n m : Nat) (hd : decM b = (L, n, m)) (w : World) (hl : b.length ≤ 1073741824) (hc : b.length ≤ c) (hB : B ≤ w.heap.size) (hs : Seq w B A (bytes b)) :
    Calls Tryd.prog 84 #[.slice A b.length c] w fun e w' => ∃ v, e = .returned (.tuple #[v, .int .i64 n, .int .i64 m]) ∧ RowIs w' w.heap.size v L ∧ Below w.heap.size w w' := by
  have := decode_calls A c B b w hl hc hB hs
  rw [hd] at this
  exact this
theorem said_len {l : List ItemL} {L : List SaidI} {M : Nat} (h : l.map said = L) (hL : ∀ s ∈ L, s.2.2.length ≤ M) : ∀ x ∈ l, x.2.2.2.2.length ≤ M := fun x hx => hL (said x) (by rw [← h]; exact List.mem_map_of_mem hx)
end Go.Proofs.YtfhindffmghlaaaDoor
