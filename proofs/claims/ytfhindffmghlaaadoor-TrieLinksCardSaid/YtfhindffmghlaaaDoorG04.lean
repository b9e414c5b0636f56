/- Encode: what it computes; the state of its first loop. -/
import Derived.Test.YtfhindffmghlaaaDoorG03
import Derived.Test.YtfhindffmghlaaaDoorG01
set_option linter.unusedVariables false
set_option linter.unusedSimpArgs false
namespace Go.Proofs.YtfhindffmghlaaaDoor
open Go.RowKit Go.Shelf
def small (l : List UInt8) : Bool := decide (l.length = 1) && decide (l.headD 0 < 128)
/-- How many bytes an item of bytes has. -/
def ownN (l : List UInt8) : Nat := if small l then 1 else wholeN l.length
/-- One item, met from behind: the stack behind it, and its size. -/
def stepE (x : ItemL) (st : List Nat) : Option (List Nat × Nat) :=
  if x.1 then
    if 0 ≤ x.2.1 ∧ x.2.1 ≤ st.length ∧ x.2.2.2.2.length = 0 then some (st.take (st.length - x.2.1.toNat) ++ [wholeN (topSum st x.2.1.toNat)], topSum st x.2.1.toNat) else none
  else if x.2.1 = 0 then some (st ++ [ownN x.2.2.2.2], x.2.2.2.2.length) else none
def nextE (its : List ItemL) (o : Option (List Nat × (Nat → Nat))) (x : Fin its.length) : Option (List Nat × (Nat → Nat)) :=
  o.bind fun s => (stepE its[x.val] s.1).map fun t => (t.1, upd s.2 x.val t.2)
def runE (its : List ItemL) (pre : List (Fin its.length)) : Option (List Nat × (Nat → Nat)) := pre.foldl (nextE its) (some ([], fun _ => 0))
theorem runE_snoc (its : List ItemL) (pre : List (Fin its.length)) (x : Fin its.length) : runE its (pre ++ [x]) = nextE its (runE its pre) x := by unfold runE; rw [List.foldl_append]; rfl
theorem runE_some {its : List ItemL} {pre : List (Fin its.length)} {st : List Nat} {sz : Nat → Nat} (h : runE its pre = some (st, sz)) (x : Fin its.length) : runE its (pre ++ [x]) = (stepE its[x.val] st).map fun t => (t.1, upd sz x.val t.2) := by
  rw [runE_snoc, h]; rfl
theorem wholeN_le (n : Nat) (h : n ≤ 281474976710656) : wholeN n ≤ n + 9 := by
  have := nb_le n 7 (by omega)
  unfold wholeN
  split <;> omega
theorem ownN_le (l : List UInt8) (h : l.length ≤ 281474976710656) : ownN l ≤ l.length + 9 := by
  have := wholeN_le l.length h
  unfold ownN
  split <;> omega
theorem sum_take_top (st : List Nat) (k : Nat) : (st.take (st.length - k)).sum + topSum st k = st.sum := by
  unfold topSum
  rw [← List.sum_append, List.take_append_drop]
/-- The stack holds no more than the bytes and nine a step. -/
theorem stepE_le {x : ItemL} {st st' : List Nat} {s M B : Nat} (h : stepE x st = some (st', s)) (hl : x.2.2.2.2.length ≤ M) (hs : st.sum ≤ B) (hB : B + M + 9 ≤ 281474976710656) : st'.sum ≤ B + M + 9 ∧ s ≤ B + M ∧ st'.length ≤ st.length + 1 := by
  unfold stepE at h
  split at h
  · split at h
    · injection h with h
      injection h with h1 h2
      have ht := sum_take_top st x.2.1.toNat
      have hw := wholeN_le (topSum st x.2.1.toNat) (by omega)
      subst h1 h2
      rw [List.sum_append, List.length_append, List.length_take]
      simp
      omega
    · cases h
  · split at h
    · injection h with h
      injection h with h1 h2
      have hw := ownN_le x.2.2.2.2 (by omega)
      subst h1 h2
      rw [List.sum_append, List.length_append]
      simp
      omega
    · cases h
theorem fold_none (its : List ItemL) : ∀ pre : List (Fin its.length), pre.foldl (nextE its) none = none
  | [] => rfl
  | _ :: pre => fold_none its pre
theorem fold_le {its : List ItemL} {M : Nat} (hM : ∀ x ∈ its, x.2.2.2.2.length ≤ M) : ∀ (pre : List (Fin its.length)) (st0 : List Nat) (sz0 : Nat → Nat) (B L : Nat) {st : List Nat} {sz : Nat → Nat}, st0.sum ≤ B → st0.length ≤ L →
    pre.foldl (nextE its) (some (st0, sz0)) = some (st, sz) → B + pre.length * (M + 9) ≤ 281474976710656 → st.sum ≤ B + pre.length * (M + 9) ∧ st.length ≤ L + pre.length
  | [], st0, sz0, B, L, st, sz, h1, h2, h, _ => by
    injection h with h
    injection h with h3 _
    subst h3
    simp
    omega
  | x :: pre, st0, sz0, B, L, st, sz, h1, h2, h, hb => by
    rw [List.length_cons, Nat.add_mul, Nat.one_mul] at hb ⊢
    rw [List.foldl_cons] at h
    cases hs : stepE its[x.val] st0 with
    | none =>
      rw [show nextE its (some (st0, sz0)) x = none by simp [nextE, hs], fold_none] at h
      cases h
    | some t =>
      obtain ⟨st1, s1⟩ := t
      rw [show nextE its (some (st0, sz0)) x = some (st1, upd sz0 x.val s1) by simp [nextE, hs]] at h
      have h3 := stepE_le hs (hM _ (List.getElem_mem x.2)) h1 (by omega)
      have := fold_le hM pre st1 _ (B + M + 9) (L + 1) h3.1 (by omega) h (by omega)
      omega
theorem runE_le {its : List ItemL} {M : Nat} (hM : ∀ x ∈ its, x.2.2.2.2.length ≤ M) {pre : List (Fin its.length)} {st : List Nat} {sz : Nat → Nat} (h : runE its pre = some (st, sz)) (hb : pre.length * (M + 9) ≤ 281474976710656) : st.sum ≤ pre.length * (M + 9) ∧ st.length ≤ pre.length := by
  have := fold_le hM pre [] (fun _ => 0) 0 0 (by simp) (by simp) h (by omega)
  omega
structure EncAt (w0 W : World) (Ai : Option Addr) (ci : Nat) (its : List ItemL) (st : List Nat) (sz : Nat → Nat) (A : Option Addr) (c : Nat) : Prop where
  below : Below w0.heap.size w0 W
  size : w0.heap.size + 7 ≤ W.heap.size
  res : Blk W w0.heap.size 24 #[.slice none 0 0]
  err : Blk W (w0.heap.size + 1) 41 #[.int .i64 0]
  szb : Blk W (w0.heap.size + 2) 3 (tab its.length fun i => .int .i64 (sz i : Int))
  szh : Blk W (w0.heap.size + 3) 31 #[.slice (some ⟨w0.heap.size + 2, 0, none⟩) its.length its.length]
  opn : Blk W (w0.heap.size + 4) 31 #[.slice A st.length c]
  fn : Blk W (w0.heap.size + 5) 164 #[.func (.func 122) #[] #[.pointer (some ⟨w0.heap.size + 4, 0, none⟩)]]
  box : Blk W (w0.heap.size + 6) 105 #[.slice Ai its.length ci]
  row : W.ownsRow (w0.heap.size + 7) 3 1 (.slice A st.length c) st.length (nums st)
theorem Blk.keptN {W W' : World} {g : Nat} {t : TypeId} {cs : Array Value} {row : Option Nat} (h : Blk W g t cs) (hg : W.grownBy W' row) (hr : ∀ r, row = some r → ∃ o : Obj, W.heap[r]? = some o ∧ o.isCells = false) : Blk W' g t cs :=
  (hg.block g h.lt (fun e => by
    obtain ⟨o, ho, hc⟩ := hr g e.symm
    have h : W.heap[g]? = some (.cells cs t (0, 0)) := h
    rw [h] at ho
    injection ho with ho
    subst ho
    cases hc)).trans h
theorem own_keptN {W W' : World} {base : Nat} {e : TypeId} {size n : Nat} {v : Value} {xs : List Value} {row : Option Nat} (h : W.ownsRow base e size v n xs) (hg : W.grownBy W' row) (hr : ∀ r, row = some r → ∃ o : Obj, W.heap[r]? = some o ∧ o.isCells = false) : W'.ownsRow base e size v n xs :=
  own_grown h hg fun q hq e => by
    obtain ⟨cur, hb⟩ := own_blk h q hq
    obtain ⟨o, ho, hc⟩ := hr q e
    have hb : W.heap[q]? = some (.cells cur _ (0, 0)) := hb
    rw [hb] at ho
    injection ho with ho
    subst ho
    cases hc
section
variable {w0 W W' : World} {Ai : Option Addr} {ci : Nat} {its : List ItemL} {st : List Nat} {sz : Nat → Nat} {A : Option Addr} {c : Nat}
theorem EncAt.next (h : EncAt w0 W Ai ci its st sz A c) (hb : Below W.heap.size W W') : EncAt w0 W' Ai ci its st sz A c :=
  ⟨h.below.trans (hb.mono h.below.size), Nat.le_trans h.size hb.size, h.res.below hb h.res.lt, h.err.below hb h.err.lt, h.szb.below hb h.szb.lt, h.szh.below hb h.szh.lt, h.opn.below hb h.opn.lt, h.fn.below hb h.fn.lt, h.box.below hb h.box.lt, own_below' h.row hb⟩
theorem EncAt.own {row : Option Nat} (h : EncAt w0 W Ai ci its st sz A c) (hg : W.grownBy W' row) (hr : ∀ r, row = some r → w0.heap.size ≤ r ∧ ∃ o : Obj, W.heap[r]? = some o ∧ o.isCells = false) : EncAt w0 W' Ai ci its st sz A c :=
  ⟨h.below.grown hg h.below.size (fun q e => (hr q e).1), Nat.le_trans h.size hg.size, h.res.keptN hg (fun r e => (hr r e).2), h.err.keptN hg (fun r e => (hr r e).2), h.szb.keptN hg (fun r e => (hr r e).2), h.szh.keptN hg (fun r e => (hr r e).2),
    h.opn.keptN hg (fun r e => (hr r e).2), h.fn.keptN hg (fun r e => (hr r e).2), h.box.keptN hg (fun r e => (hr r e).2), own_keptN h.row hg (fun r e => (hr r e).2)⟩
/-- What the head of the stack holds has turned. -/
theorem EncAt.popped (h : EncAt w0 W Ai ci its st sz A c) {st' : List Nat} {A' : Option Addr} {c' : Nat} (ho : Only (w0.heap.size + 4) W W') (hb : Blk W' (w0.heap.size + 4) 31 #[.slice A' st'.length c']) (hr : W.ownsRow (w0.heap.size + 7) 3 1 (.slice A' st'.length c') st'.length (nums st')) : EncAt w0 W' Ai ci its st' sz A' c' :=
  ⟨ho.below h.below (by omega), by rw [ho.size]; exact h.size, ho.blk h.res (by omega), ho.blk h.err (by omega), ho.blk h.szb (by omega), ho.blk h.szh (by omega), hb, ho.blk h.fn (by omega), ho.blk h.box (by omega), own_only hr ho (fun e => by have := (hr.lt _ e).1; omega)⟩
theorem EncAt.sized (h : EncAt w0 W Ai ci its st sz A c) (i s : Nat) : EncAt w0 (W.setCell ⟨w0.heap.size + 2, i, none⟩ (.int .i64 (s : Int))) Ai ci its st (upd sz i s) A c := by
  have ho := Only.setCell W ⟨w0.heap.size + 2, i, none⟩ (.int .i64 (s : Int))
  refine ⟨ho.below h.below (show w0.heap.size ≤ w0.heap.size + 2 by omega), by rw [ho.size]; exact h.size, ho.blk h.res (show w0.heap.size ≠ w0.heap.size + 2 by omega), ho.blk h.err (show w0.heap.size + 1 ≠ w0.heap.size + 2 by omega), ?_, ho.blk h.szh (show w0.heap.size + 3 ≠ w0.heap.size + 2 by omega),
    ho.blk h.opn (show w0.heap.size + 4 ≠ w0.heap.size + 2 by omega), ho.blk h.fn (show w0.heap.size + 5 ≠ w0.heap.size + 2 by omega), ho.blk h.box (show w0.heap.size + 6 ≠ w0.heap.size + 2 by omega), own_only h.row ho (fun e => by have : w0.heap.size + 7 ≤ w0.heap.size + 2 := (h.row.lt _ e).1; omega)⟩
  have := h.szb.put i (.int .i64 (s : Int))
  rw [upd_comp (fun n : Nat => Value.int .i64 (n : Int)) sz i s] at this
  exact this
/-- One length more on the stack: the row, then the slot that holds it. -/
theorem EncAt.pushed {w1 : World} (h : EncAt w0 W Ai ci its st sz A c) {n : Nat} {A' : Option Addr} {c' : Nat} (hg : W.grownBy w1 (Value.slice A st.length c).ownBlock) (hr : w1.ownsRow (w0.heap.size + 7) 3 1 (.slice A' (st.length + 1) c') (st.length + 1) (nums st ++ [.int .i64 (n : Int)])) :
    EncAt w0 (w1.setCell ⟨w0.heap.size + 4, 0, none⟩ (.slice A' (st.length + 1) c')) Ai ci its (st ++ [n]) sz A' c' := by
  have hlt := fun q e => h.row.lt q e
  have keep : ∀ {g : Nat} {t : TypeId} {cs : Array Value}, g < w0.heap.size + 7 → Blk W g t cs → Blk w1 g t cs := fun hg7 hb => (hg.block _ hb.lt (fun e => by have := (hlt _ e.symm).1; omega)).trans hb
  have ho := Only.setCell w1 ⟨w0.heap.size + 4, 0, none⟩ (.slice A' (st.length + 1) c')
  have hn : nums (st ++ [n]) = nums st ++ [.int .i64 (n : Int)] := by rw [nums_append]; rfl
  refine ⟨ho.below (h.below.grown hg h.below.size (fun q e => by have := (hlt q e).1; omega)) (show w0.heap.size ≤ w0.heap.size + 4 by omega), by rw [ho.size]; exact Nat.le_trans h.size hg.size, ho.blk (keep (by omega) h.res) (show w0.heap.size ≠ w0.heap.size + 4 by omega), ho.blk (keep (by omega) h.err) (show w0.heap.size + 1 ≠ w0.heap.size + 4 by omega),
    ho.blk (keep (by omega) h.szb) (show w0.heap.size + 2 ≠ w0.heap.size + 4 by omega), ho.blk (keep (by omega) h.szh) (show w0.heap.size + 3 ≠ w0.heap.size + 4 by omega), ?_, ho.blk (keep (by omega) h.fn) (show w0.heap.size + 5 ≠ w0.heap.size + 4 by omega), ho.blk (keep (by omega) h.box) (show w0.heap.size + 6 ≠ w0.heap.size + 4 by omega), ?_⟩
  · have := (keep (by omega) h.opn).set_ 0 (.slice A' (st.length + 1) c')
    rw [List.length_append]
    exact this
  · rw [List.length_append, hn]
    exact own_only hr ho (fun e => by have : w0.heap.size + 7 ≤ w0.heap.size + 4 := (hr.lt _ e).1; omega)
end
theorem run_none {its : List ItemL} {pre : List (Fin its.length)} {k : Nat} (hk : pre = (down its.length).take k) (h : runE its pre = none) : runE its (down its.length) = none := by
  have e : down its.length = pre ++ (down its.length).drop k := by rw [hk, List.take_append_drop]
  rw [e]
  unfold runE at h ⊢
  rw [List.foldl_append, h, fold_none]
end Go.Proofs.YtfhindffmghlaaaDoor
/- make of a slice, as a law for an operation. -/
namespace Go.Proofs.YtfhindffmghlaaaDoor
open Go.RowKit
theorem made_tab (v : Value) (n : Nat) : madeCells #[v] n = tab n fun _ => v := by
  unfold madeCells
  apply Array.ext
  · simp [tab_size]
  · intro i h1 h2
    simp [tab, Nat.mod_one]
theorem wpL_make {P : Program} {w : World} {ops : Array Oper} {rest : List Oper} {o : Oper} {a : Act} {Q : Exit → Act → World → Prop} (hgd : o.guard = none) (l c : Operand) (t : TypeId) (ho : o.op = .makeSlice t l c) {e : TypeId} {z : Value} {b : Nat}
    (ht : P.underlying t = some (.slice e)) (hi : (P.info? e).map (fun i => (i.zero, i.size, i.bytes)) = some (some z, 1, b)) (hz : z.cells = #[z]) (kl kc : IntKind) (N C : Nat) (hl : a.eval l = .int kl (N : Int)) (hc : a.eval c = .int kc (C : Int)) (hNC : N ≤ C) (hb : b * C ≤ 281474976710656) (hC : C ≤ 281474976710656)
    (h : wpList P ops Q rest (a.put o.dst (.slice (some ⟨w.heap.size, 0, none⟩) N C)) (w.alloc (.cells (tab C fun _ => z) e))) : wpList P ops Q (o :: rest) a w := by
  cases hq : P.info? e with
  | none => simp [hq] at hi
  | some i =>
    simp [hq] at hi
    obtain ⟨h1, h2, h3⟩ := hi
    have hr := run_make (P := P) w t e i z ht hq h1 kl kc (N : Int) (C : Int) (by omega) (by omega) (by rw [h3]; omega) (by omega)
    rw [hz, h2, Nat.mul_one, Int.toNat_natCast, Int.toNat_natCast, made_tab] at hr
    refine wpList_plain hgd fun K hK => ?_
    unfold Oper.wp execOp
    simp only [ho, hl, hc, Sem.run_bind, hr, Result.andThen_ok, Sem.run_pure]
    exact hK _ _ h
end Go.Proofs.YtfhindffmghlaaaDoor
