/- Words for memory: blocks that are known whole, tables of cells, lanes of 64 bits. No program in sight. -/
import Derived.WalkKit
import Derived.WalkLawsBesides
import Derived.StillTailTactics
import Derived.Deep.QuietTactic
import Derived.BigQuiet
import Derived.Lib.Hide
import Derived.Deep.Draws
import Derived.Maps.AppendAt
import Derived.Deep.AppendLies
import Derived.RegionTactic
import Derived.ChangeKeysEq
import Derived.Test.YtfhindffmghlaaaDoorChecked
set_option linter.unusedVariables false
set_option linter.unusedSimpArgs false
namespace Go.Proofs.YtfhindffmghlaaaDoor
open Go.RowKit

def Blk (w : World) (g : Nat) (t : TypeId) (cs : Array Value) : Prop := w.heap[g]? = some (.cells cs t (0, 0))
def tab (n : Nat) (V : Nat → Value) : Array Value := ((List.range n).map V).toArray
def upd {α : Type} (S : Nat → α) (i : Nat) (v : α) : Nat → α := fun j => if j = i then v else S j
section
variable {w w' : World} {g : Nat} {t : TypeId} {cs : Array Value} {n : Nat} {V : Nat → Value}
theorem Blk.lt (h : Blk w g t cs) : g < w.heap.size := by
  rcases Nat.lt_or_ge g w.heap.size with hlt | hge
  · exact hlt
  · unfold Blk at h; rw [Array.getElem?_eq_none hge] at h; cases h
theorem Blk.cell (h : Blk w g t cs) (i : Nat) : w.cell? ⟨g, i, none⟩ = cs[i]? := cell_of_row w g i cs t (0, 0) h
theorem Blk.frozen (h : Blk w g t cs) (i : Nat) : w.frozen? ⟨g, i, none⟩ = false := by
  unfold Blk at h
  simp [World.frozen?, h]
theorem Blk.new (w : World) (t : TypeId) (cs : Array Value) : Blk (w.alloc (.cells cs t)) w.heap.size t cs := heap_alloc_new w _
theorem Blk.new' (w : World) (t : TypeId) (cs : Array Value) (hg : g = w.heap.size) : Blk (w.alloc (.cells cs t)) g t cs := by subst hg; exact heap_alloc_new w _
theorem size_alloc (w : World) (o : Obj) : (w.alloc o).heap.size = w.heap.size + 1 := by simp
theorem size_setCell (w : World) (a : Addr) (v : Value) : (w.setCell a v).heap.size = w.heap.size := by simp [World.setCell]
theorem Blk.drew (h : Blk w g t cs) : Blk w.drew g t cs := h
theorem Blk.drewN (h : Blk w g t cs) (n : Nat) : Blk (w.drewN n) g t cs := h
theorem Blk.alloc (h : Blk w g t cs) (o : Obj) : Blk (w.alloc o) g t cs := (Below.heap_alloc w o g h.lt).trans h
theorem Blk.set_ (h : Blk w g t cs) (i : Nat) (u : Value) : Blk (w.setCell ⟨g, i, none⟩ u) g t (cs.setIfInBounds i u) := by
  unfold Blk at h ⊢
  simp [World.setCell, Array.getElem?_modify, h]
theorem Blk.same {cs2 : Array Value} (h : Blk w g t cs) (e : cs = cs2) : Blk w g t cs2 := e ▸ h
theorem Blk.far (h : Blk w g t cs) {p : Addr} (hp : g ≠ p.block) (u : Value) : Blk (w.setCell p u) g t cs := (Below.heap_setCell w p u g hp).trans h
theorem Blk.below {B : Nat} (h : Blk w g t cs) (hb : Below B w w') (hg : g < B) : Blk w' g t cs := (hb.block g hg).trans h
theorem tab_size : (tab n V).size = n := by simp [tab]
theorem tab_get (i : Nat) (h : i < n) : (tab n V)[i]? = some (V i) := by
  simp [tab, h]
theorem tab_set (i : Nat) (v : Value) : (tab n V).setIfInBounds i v = tab n (upd V i v) := by
  unfold tab
  rw [List.setIfInBounds_toArray]
  congr 1
  apply List.ext_getElem
  · simp
  · intro j h1 h2
    simp only [List.getElem_set, List.getElem_map, List.getElem_range, upd]
    by_cases h : i = j
    · rw [if_pos h, if_pos h.symm]
    · rw [if_neg h, if_neg (fun e => h e.symm)]
theorem tab_congr {n : Nat} {S T : Nat → Value} (h : ∀ i, i < n → S i = T i) : tab n S = tab n T := by
  unfold tab
  congr 1
  apply List.map_congr_left
  intro i hi
  rw [h i (by simpa using hi)]
theorem Blk.at_ (h : Blk w g t (tab n V)) (i : Nat) (hi : i < n) : w.cell? ⟨g, i, none⟩ = some (V i) := by
  rw [h.cell, tab_get i hi]
theorem Blk.put (h : Blk w g t (tab n V)) (i : Nat) (v : Value) : Blk (w.setCell ⟨g, i, none⟩ v) g t (tab n (upd V i v)) := by
  have := h.set_ i v
  rwa [tab_set] at this
theorem upd_comp {α β : Type} (f : α → β) (S : Nat → α) (i : Nat) (v : α) : upd (fun j => f (S j)) i (f v) = fun j => f (upd S i v j) := by
  funext j
  unfold upd
  split <;> rfl
end
/-- V with f laid over the n places from off on. -/
def over (V : Nat → Value) (off n : Nat) (f : Nat → Value) (j : Nat) : Value := if off ≤ j ∧ j < off + n then f (j - off) else V j
section
variable {P : Program} {w : World} {g : Nat} {t : TypeId} {N n : Nat} {V f : Nat → Value}
theorem Blk.setRow {cs cs' : Array Value} (h : Blk w g t cs) : Blk (w.setRow g cs') g t cs' := setRow_heap w g cs cs' t _ h
theorem Blk.setRow_far {cs : Array Value} {g' : Nat} {cs' : Array Value} (h : Blk w g t cs) (hne : g ≠ g') : Blk (w.setRow g' cs') g t cs := (setRow_other w g' g cs' hne).trans h
theorem size_setRow' (w : World) (g : Nat) (cs : Array Value) : (w.setRow g cs).heap.size = w.heap.size := size_setRow w g cs
theorem below_setRow {B : Nat} {a : World} (h : Below B a w) {g : Nat} (hg : B ≤ g) (cs : Array Value) : Below B a (w.setRow g cs) :=
  h.trans ⟨rfl, rfl, rfl, by simp, fun k hk => setRow_other w g k cs (by omega)⟩
theorem addr_add (g off i : Nat) : (⟨g, off, none⟩ : Addr).add i = ⟨g, off + i, none⟩ := by
  unfold Addr.add
  split <;> simp_all
theorem setRow_same {cs : Array Value} (h : Blk w g t cs) : w.setRow g cs = w := by
  have hlt : g < w.heap.size := (Array.getElem?_eq_some_iff.1 h).1
  have hv : w.heap[g] = .cells cs t (0, 0) := (Array.getElem?_eq_some_iff.1 h).2
  unfold World.setRow
  cases w with
  | mk heap tape drawn os output =>
    congr 1
    apply Array.ext
    · simp
    · intro k h1 h2
      simp only [Array.getElem_modify]
      split
      · rename_i hk; subst hk; simp at hv; simp [hv]
      · rfl
theorem run_storeCells_part (off : Nat) (h1 : ∀ j, (f j).oneCell' = true) : ∀ (m i : Nat) (w : World) (V : Nat → Value), Blk w g t (tab N V) → off + i + m ≤ N →
    (storeCells ⟨g, off, none⟩ ((List.range' i m).map f) i).run P w = .ok () (w.setRow g (tab N (fun j => if off + i ≤ j ∧ j < off + i + m then f (j - off) else V j)))
  | 0, i, w, V, hB, _ => by
    have e : tab N (fun j => if off + i ≤ j ∧ j < off + i + 0 then f (j - off) else V j) = tab N V := tab_congr fun j _ => by rw [if_neg (by omega)]
    rw [e, setRow_same hB]
    rfl
  | m + 1, i, w, V, hB, hle => by
    have hst : (store ((⟨g, off, none⟩ : Addr).add i) (f i)).run P w = .ok () (w.setRow g (tab N (upd V (off + i) (f i)))) := by
      rw [addr_add, run_store P w _ (f i) _ (h1 i), hB.at_ (off + i) (by omega)]
      simp only [hB.frozen]
      rw [setCell_eq_setRow w g (off + i) (tab N V) t (0, 0) (f i) hB, tab_set]
      rfl
    have hB' : Blk (w.setRow g (tab N (upd V (off + i) (f i)))) g t (tab N (upd V (off + i) (f i))) := hB.setRow
    have ih := run_storeCells_part off h1 m (i + 1) _ _ hB' (by omega)
    simp only [List.range'_succ, List.map_cons, storeCells, Sem.run_bind, hst, Result.andThen_ok, ih, setRow_setRow]
    congr 2
    refine tab_congr fun j _ => ?_
    unfold upd
    by_cases hj : j = off + i
    · subst hj
      rw [if_neg (by omega), if_pos rfl, if_pos (by omega)]
      congr 1
      omega
    · rw [if_neg hj]
      by_cases h2 : off + i ≤ j ∧ j < off + i + (m + 1)
      · rw [if_pos h2, if_pos (by omega)]
      · rw [if_neg h2, if_neg (by omega)]
theorem run_storeVar_part (ty off : Nat) (hB : Blk w g t (tab N V)) (hle : off + n ≤ N) (hi : (P.info? ty).map (·.size) = some n) (h1 : ∀ j, (f j).oneCell' = true) :
    (storeVar ty ⟨g, off, none⟩ (.agg (tab n f))).run P w = .ok () (w.setRow g (tab N (over V off n f))) := by
  have h := run_storeCells_part (P := P) off h1 n 0 w V hB (by omega)
  have e : (tab n f).toList = (List.range' 0 n).map f := by simp [tab, List.range_eq_range']
  cases hq : P.info? ty with
  | none => simp [hq] at hi
  | some i =>
    have hs : i.size = n := by simpa [hq] using hi
    simp only [Nat.add_zero] at h
    simp [storeVar, sizeOf, typeInfo, hq, Value.cells, hs, tab_size, e, h]
    rfl
theorem run_loadVar_part (ty off : Nat) (d : TypeDesc) (hB : Blk w g t (tab N V)) (hle : off + n ≤ N) (hu : P.underlying ty = some d)
    (hd : (match d with | .struct _ | .array _ _ => true | _ => false) = true) (hi : (P.info? ty).map (·.size) = some n) :
    (loadVar ty ⟨g, off, none⟩).run P w = .ok (.agg (tab n fun j => V (off + j))) w := by
  have hl : (loadCells ⟨g, off, none⟩ n).run P w = .ok (tab n fun j => V (off + j)) w :=
    run_loadCells (P := P) w ⟨g, off, none⟩ n (fun j => V (off + j)) (fun j hj => by rw [addr_add]; exact hB.at_ _ (by omega))
  cases hq : P.info? ty with
  | none => simp [hq] at hi
  | some i =>
    have hs : i.size = n := by simpa [hq] using hi
    have hagg : (isAgg ty).run P w = .ok true w := by
      unfold isAgg
      rw [Sem.run_bind, run_underlying hu w]
      cases d <;> simp_all
    simp [loadVar, Sem.run_bind, hagg, sizeOf, typeInfo, hq, hs, hl]
theorem wp_load_part {o : Oper} {a : Act} {K : Act → World → Prop} {Q : Exit → Act → World → Prop} (ty : TypeId) (x : Operand) (ho : o.op = .load ty x)
    (off : Nat) (hx : a.eval x = .pointer (some ⟨g, off, none⟩)) (d : TypeDesc) (hB : Blk w g t (tab N V)) (hle : off + n ≤ N) (hu : P.underlying ty = some d)
    (hd : (match d with | .struct _ | .array _ _ => true | _ => false) = true) (hi : (P.info? ty).map (·.size) = some n)
    (h : K (a.put o.dst (.agg (tab n fun j => V (off + j)))) w) : o.wp P a w K Q := by
  unfold Oper.wp execOp
  simp only [ho, hx, Instr.loadAt, Instr.sureAddr, Sem.run_bind, Sem.run_pure, Result.andThen_ok, run_loadVar_part ty off d hB hle hu hd hi]
  exact h
theorem wpL_load {ops : Array Oper} {rest : List Oper} {o : Oper} {a : Act} {Q : Exit → Act → World → Prop} (hgd : o.guard = none) (ty : TypeId) (x : Operand) (ho : o.op = .load ty x)
    (off : Nat) (hx : a.eval x = .pointer (some ⟨g, off, none⟩)) (d : TypeDesc) (hB : Blk w g t (tab N V)) (hle : off + n ≤ N) (hu : P.underlying ty = some d)
    (hd : (match d with | .struct _ | .array _ _ => true | _ => false) = true) (hi : (P.info? ty).map (·.size) = some n)
    (h : wpList P ops Q rest (a.put o.dst (.agg (tab n fun j => V (off + j)))) w) : wpList P ops Q (o :: rest) a w :=
  wpList_plain hgd fun _ hK => wp_load_part ty x ho off hx d hB hle hu hd hi (hK _ _ h)
theorem wp_store_part {o : Oper} {a : Act} {K : Act → World → Prop} {Q : Exit → Act → World → Prop} (ty : TypeId) (x y : Operand) (ho : o.op = .store ty x y)
    (off : Nat) (hx : a.eval x = .pointer (some ⟨g, off, none⟩)) (hy : a.eval y = .agg (tab n f)) (hB : Blk w g t (tab N V)) (hle : off + n ≤ N)
    (hi : (P.info? ty).map (·.size) = some n) (h1 : ∀ j, (f j).oneCell' = true)
    (h : K (a.put o.dst undef) (w.setRow g (tab N (over V off n f)))) : o.wp P a w K Q := by
  unfold Oper.wp execOp
  simp only [ho, hx, hy, Instr.storeAt, Instr.sureAddr, Sem.run_bind, Sem.run_pure, Result.andThen_ok, run_storeVar_part ty off hB hle hi h1]
  exact h
theorem wpL_store {ops : Array Oper} {rest : List Oper} {o : Oper} {a : Act} {Q : Exit → Act → World → Prop} (hgd : o.guard = none) (ty : TypeId) (x y : Operand) (ho : o.op = .store ty x y)
    (off : Nat) (hx : a.eval x = .pointer (some ⟨g, off, none⟩)) (hy : a.eval y = .agg (tab n f)) (hB : Blk w g t (tab N V)) (hle : off + n ≤ N)
    (hi : (P.info? ty).map (·.size) = some n) (h1 : ∀ j, (f j).oneCell' = true)
    (h : wpList P ops Q rest (a.put o.dst undef) (w.setRow g (tab N (over V off n f)))) : wpList P ops Q (o :: rest) a w :=
  wpList_plain hgd fun _ hK => wp_store_part ty x y ho off hx hy hB hle hi h1 (hK _ _ h)
theorem run_index_tab (ty e : TypeId) (d : TypeDesc) (hu : P.underlying ty = some (.array n e)) (he : P.underlying e = some d)
    (hd : (match d with | .struct _ | .array _ _ => true | _ => false) = false) (hi : (P.info? e).map (·.size) = some 1) (kd : IntKind) (i : Nat) (hin : i < n) (w : World) :
    (Instr.index ty (.agg (tab n V)) (.int kd (i : Int))).run P w = .ok (V i) w := by
  cases hq : P.info? e with
  | none => simp [hq] at hi
  | some j =>
    have hs : j.size = 1 := by simpa [hq] using hi
    have hagg : (isAgg e).run P w = .ok false w := by
      unfold isAgg
      rw [Sem.run_bind, run_underlying he w]
      cases d <;> simp_all
    have hlt : (0 : Int) ≤ (i : Int) ∧ (i : Int) < (n : Int) := by omega
    have hg : (tab n V)[i]? = some (V i) := tab_get i hin
    simp [Instr.index, asIntOf, Sem.run_bind, run_underlying hu w, hin, sizeOf, typeInfo, hq, hs, part, hagg, hg]
theorem wp_alloc {o : Oper} {a : Act} {w : World} {K : Act → World → Prop} {Q : Exit → Act → World → Prop} (ty : TypeId) (ho : o.op = .alloc ty)
    (cs : Array Value) (hz : ((P.info? ty).bind (·.zero)).map (·.cells) = some cs) (h : K (a.put o.dst (.pointer (some ⟨w.heap.size, 0, none⟩))) (w.alloc (.cells cs ty))) : o.wp P a w K Q := by
  cases hq : P.info? ty with
  | none => simp [hq] at hz
  | some i =>
    cases hq2 : i.zero with
    | none => simp [hq, hq2] at hz
    | some v =>
      have hc : v.cells = cs := by simpa [hq, hq2] using hz
      subst hc
      unfold Oper.wp execOp
      have hr : (Instr.alloc ty true (.tuple #[])).run P w = .ok (.pointer (some ⟨w.heap.size, 0, none⟩)) (w.alloc (.cells v.cells ty)) := by
        simp [Instr.alloc, zeroValue, typeInfo, hq, hq2, newVar, newRow, newObj, Sem.run_bind, Sem.run]
      simp only [ho, Sem.run_bind, hr, Result.andThen_ok, Sem.run_pure]
      exact h
theorem wpL_alloc {ops : Array Oper} {rest : List Oper} {o : Oper} {a : Act} {w : World} {Q : Exit → Act → World → Prop} (hgd : o.guard = none) (ty : TypeId) (ho : o.op = .alloc ty)
    (cs : Array Value) (hz : ((P.info? ty).bind (·.zero)).map (·.cells) = some cs)
    (h : wpList P ops Q rest (a.put o.dst (.pointer (some ⟨w.heap.size, 0, none⟩))) (w.alloc (.cells cs ty))) : wpList P ops Q (o :: rest) a w :=
  wpList_plain hgd fun _ hK => wp_alloc ty ho cs hz (hK _ _ h)
/-- From w to w' only block g has turned. -/
structure Only (g : Nat) (w w' : World) : Prop where
  os : w'.os = w.os
  tape : w'.tape = w.tape
  output : w'.output = w.output
  size : w'.heap.size = w.heap.size
  block : ∀ k, k ≠ g → w'.heap[k]? = w.heap[k]?
theorem Only.below {B g : Nat} {a w w' : World} (h : Only g w w') (hb : Below B a w) (hg : B ≤ g) : Below B a w' :=
  hb.trans ⟨h.os, h.tape, h.output, Nat.le_of_eq h.size.symm, fun k hk => h.block k (by omega)⟩
theorem Only.blk {g g' : Nat} {w w' : World} {t : TypeId} {cs : Array Value} (h : Only g w w') (hb : Blk w g' t cs) (hne : g' ≠ g) : Blk w' g' t cs := (h.block g' hne).trans hb
theorem Only.cell {g : Nat} {w w' : World} (h : Only g w w') {p : Addr} (hne : p.block ≠ g) : w'.cell? p = w.cell? p := World.cell?_of_block (w := w) (h.block p.block hne)
theorem Only.frozen {g : Nat} {w w' : World} (h : Only g w w') {p : Addr} (hne : p.block ≠ g) : w'.frozen? p = w.frozen? p := World.frozen?_of_block (w := w) (h.block p.block hne)
theorem Only.refl (g : Nat) (w : World) : Only g w w := ⟨rfl, rfl, rfl, rfl, fun _ _ => rfl⟩
theorem Only.trans {g : Nat} {a b c : World} (h : Only g a b) (k : Only g b c) : Only g a c :=
  ⟨k.os.trans h.os, k.tape.trans h.tape, k.output.trans h.output, k.size.trans h.size, fun i hi => (k.block i hi).trans (h.block i hi)⟩
theorem Only.drew {g : Nat} {a w : World} (h : Only g a w) : Only g a w.drew := ⟨h.os, h.tape, h.output, h.size, h.block⟩
theorem Only.setRow (g : Nat) (w : World) (cs : Array Value) : Only g w (w.setRow g cs) :=
  ⟨rfl, rfl, rfl, by simp, fun k hk => setRow_other w g k cs hk⟩
theorem Only.setCell (w : World) (p : Addr) (v : Value) : Only p.block w (w.setCell p v) :=
  ⟨rfl, rfl, rfl, by simp [World.setCell], fun k hk => Below.heap_setCell w p v k hk⟩
theorem wpL_storeA {ops : Array Oper} {rest : List Oper} {o : Oper} {a : Act} {Q : Exit → Act → World → Prop} (hgd : o.guard = none) (ty : TypeId) (x y : Operand) (ho : o.op = .store ty x y)
    (off : Nat) (hx : a.eval x = .pointer (some ⟨g, off, none⟩)) (hy : a.eval y = .agg (tab n f)) (hB : Blk w g t (tab N V)) (hle : off + n ≤ N)
    (hi : (P.info? ty).map (·.size) = some n) (h1 : ∀ j, (f j).oneCell' = true)
    (h : ∀ w', Only g w w' → Blk w' g t (tab N (over V off n f)) → wpList P ops Q rest (a.put o.dst undef) w') : wpList P ops Q (o :: rest) a w :=
  wpL_store hgd ty x y ho off hx hy hB hle hi h1 (h _ (Only.setRow g w _) hB.setRow)
/-- A return of one result that lies in a cell row of the call's own. -/
theorem ret_cell {fn : Func} {R : Ending → World → Prop} {a : Act} {p : Tmp} {ty : TypeId} (hf : fn.results = #[.cell p ty]) (hp : a.tmps.getD p undef = .pointer (some ⟨g, 0, none⟩))
    (d : TypeDesc) (hB : Blk w g t (tab n V)) (hu : P.underlying ty = some d) (hd : (match d with | .struct _ | .array _ _ => true | _ => false) = true)
    (hi : (P.info? ty).map (·.size) = some n) (hdef : a.defers = []) (hR : R (.returned (.agg (tab n V))) w) : bodyPost P fn R .ret a w :=
  bodyPost_ret (results_cell_row hf a.tmps w g t (tab n V) (0, 0) d hp hB hu hd (by rw [hi, tab_size])) hdef hR
theorem over_whole (V : Nat → Value) (n : Nat) (f : Nat → Value) : tab n (over V 0 n f) = tab n f :=
  tab_congr fun j hj => by unfold over; rw [if_pos (by omega), Nat.sub_zero]
end
section
variable {w w' : World} {base : Nat} {e : TypeId} {size n : Nat} {v : Value} {xs : List Value}
theorem own_below {B : Nat} (h : w.ownsRow base e size v n xs) (hb : Below B w w') (hlt : ∀ k, v.ownBlock = some k → k < B) : w'.ownsRow base e size v n xs := by
  obtain ⟨h1, h2⟩ := h
  refine ⟨h1, ?_⟩
  rcases h2 with h2 | ⟨g, cap, cur, rfl, hg, hh, r⟩
  · exact .inl h2
  · exact .inr ⟨g, cap, cur, rfl, hg, (hb.block g (hlt g rfl)).trans hh, r⟩
theorem own_below' (h : w.ownsRow base e size v n xs) (hb : Below w.heap.size w w') : w'.ownsRow base e size v n xs :=
  own_below h hb (fun k hk => (h.lt k hk).2)
theorem own_only {g : Nat} (h : w.ownsRow base e size v n xs) (ho : Only g w w') (hne : v.ownBlock ≠ some g) : w'.ownsRow base e size v n xs := by
  obtain ⟨h1, h2⟩ := h
  refine ⟨h1, ?_⟩
  rcases h2 with h2 | ⟨g', cap, cur, rfl, hg, hh, r⟩
  · exact .inl h2
  · exact .inr ⟨g', cap, cur, rfl, hg, (ho.block g' (fun e => hne (by rw [e]; rfl))).trans hh, r⟩
theorem own_mono {base' : Nat} (h : w.ownsRow base e size v n xs) (hb : base' ≤ base) : w.ownsRow base' e size v n xs := by
  obtain ⟨h1, h2⟩ := h
  refine ⟨h1, ?_⟩
  rcases h2 with h2 | ⟨g', cap, cur, rfl, hg, r⟩
  · exact .inl h2
  · exact .inr ⟨g', cap, cur, rfl, by omega, r⟩
theorem own_drewN (h : w.ownsRow base e size v n xs) (k : Nat) : (w.drewN k).ownsRow base e size v n xs := h
/-- A row of the call's own that has an element lies at the head of a block. -/
theorem own_form {A : Option Addr} {c : Nat} (h : w.ownsRow base e size (.slice A n c) n xs) (hn : 0 < n) : ∃ g, A = some ⟨g, 0, none⟩ ∧ base ≤ g ∧ g < w.heap.size ∧ n ≤ c ∧ c ≤ maxLen := by
  rcases h.2 with ⟨_, h0⟩ | ⟨g, cap, cur, hv, hg, hh, hc, hm, _⟩
  · omega
  · injection hv with h1 h2 h3
    subst h1 h3
    exact ⟨g, rfl, hg, (Array.getElem?_eq_some_iff.1 hh).1, hc, hm⟩
theorem own_shape (h : w.ownsRow base e size v n xs) : ∃ A c, v = .slice A n c ∧ n ≤ c ∧ c ≤ maxLen := by
  rcases h.2 with ⟨rfl, rfl⟩ | ⟨g, cap, cur, rfl, hg, hh, hc, hm, _⟩
  · exact ⟨none, 0, rfl, Nat.le_refl _, by simp [maxLen]⟩
  · exact ⟨_, _, rfl, hc, hm⟩
end
/-- A slice's cells, one behind the other: they are xs, in a block below B; of none nothing is asked. -/
def Seq (w : World) (B : Nat) (A : Option Addr) (xs : List Value) : Prop :=
  0 < xs.length → ∃ ad, A = some ad ∧ ad.block < B ∧ ∀ j, (h : j < xs.length) → w.cell? (ad.add j) = some xs[j]
theorem block_add (a : Addr) (n : Nat) : (a.add n).block = a.block := by unfold Addr.add; split <;> rfl
theorem add_add' (a : Addr) (i j : Nat) : (a.add i).add j = a.add (i + j) := by
  unfold Addr.add
  by_cases hi : i = 0 <;> by_cases hj : j = 0 <;> simp [hi, hj, Nat.add_assoc]
section
variable {w w' : World} {B B' : Nat} {A : Option Addr} {xs : List Value}
theorem Seq.none_ : Seq w B A [] := fun h => absurd h (by simp)
theorem Seq.at_ (h : Seq w B A xs) {k : Nat} (hk : k < xs.length) : ∃ ad, A = some ad ∧ ad.block < B ∧ w.cell? (ad.add k) = some xs[k] := by
  obtain ⟨ad, e, hb, hc⟩ := h (by omega)
  exact ⟨ad, e, hb, hc k hk⟩
theorem Seq.keep (h : Seq w B A xs) (hk : ∀ p : Addr, p.block < B → w'.cell? p = w.cell? p) : Seq w' B A xs := fun hn => by
  obtain ⟨ad, e, hb, hc⟩ := h hn
  exact ⟨ad, e, hb, fun j hj => (hk _ (by rw [block_add]; exact hb)).trans (hc j hj)⟩
theorem Seq.more (h : Seq w B A xs) (hB : B ≤ B') : Seq w B' A xs := fun hn => by
  obtain ⟨ad, e, hb, hc⟩ := h hn
  exact ⟨ad, e, by omega, hc⟩
theorem Seq.below (h : Seq w B A xs) (hb : Below B' w w') (hB : B ≤ B') : Seq w' B A xs := h.keep fun _ hp => hb.cell (by omega)
theorem Seq.drewN (h : Seq w B A xs) (k : Nat) : Seq (w.drewN k) B A xs := h
theorem Seq.drew (h : Seq w B A xs) : Seq w.drew B A xs := h
theorem Seq.alloc (h : Seq w B A xs) (hB : B ≤ w.heap.size) (o : Obj) : Seq (w.alloc o) B A xs := h.keep fun p hp => World.cell?_alloc_lt w o p (by omega)
theorem Seq.only (h : Seq w B A xs) {g : Nat} (ho : Only g w w') (hB : B ≤ g) : Seq w' B A xs := h.keep fun p hp => ho.cell (by omega)
theorem Seq.setCell (h : Seq w B A xs) {p : Addr} (hB : B ≤ p.block) (u : Value) : Seq (w.setCell p u) B A xs := h.only (Only.setCell w p u) hB
theorem Seq.grown (h : Seq w B A xs) {row : Option Nat} (hg : w.grownBy w' row) (hB : B ≤ w.heap.size) (hr : ∀ g, row = some g → B ≤ g) : Seq w' B A xs :=
  h.keep fun p hp => World.cell?_of_block (hg.block p.block (by omega) (fun e => by have := hr _ e.symm; omega))
theorem Seq.drop (h : Seq w B A xs) (k : Nat) : Seq w B (A.map (·.add k)) (xs.drop k) := fun hn => by
  rw [List.length_drop] at hn
  obtain ⟨ad, rfl, hb, hc⟩ := h (by omega)
  refine ⟨ad.add k, rfl, by rw [block_add]; exact hb, fun j hj => ?_⟩
  rw [List.length_drop] at hj
  rw [add_add', hc (k + j) (by omega), List.getElem_drop]
theorem Seq.take (h : Seq w B A xs) (k : Nat) : Seq w B A (xs.take k) := fun hn => by
  rw [List.length_take] at hn
  obtain ⟨ad, rfl, hb, hc⟩ := h (by omega)
  refine ⟨ad, rfl, hb, fun j hj => ?_⟩
  rw [List.length_take] at hj
  rw [hc j (by omega), List.getElem_take]
/-- A cut s[k:] as the model has it. -/
theorem Seq.cut (h : Seq w B A xs) {k cap n : Nat} (hn : xs.length = n) (hc : n ≤ cap) : Seq w B (if cap = k then A else A.map (·.add k)) (xs.drop k) := by
  split
  · exact fun hl => by rw [List.length_drop] at hl; omega
  · exact h.drop k
theorem Seq.of_own {base : Nat} {e : TypeId} {size n c : Nat} (h : w.ownsRow base e size (.slice A n c) n xs) : Seq w w.heap.size A xs := fun hn => by
  rcases h.2 with ⟨_, h0⟩ | ⟨g, cap, cur, hv, hg, hh, _, _, _, ht⟩
  · have h1 := h.1
    rw [h0, Nat.zero_mul] at h1
    omega
  · injection hv with h1 h2 h3
    subst h1 h3
    refine ⟨_, rfl, (Array.getElem?_eq_some_iff.1 hh).1, fun j hj => ?_⟩
    have hc := h.cells (g := g) rfl j _ (List.getElem?_eq_getElem hj)
    exact hc
theorem Seq.one (u : Value) (g : Nat) (hg : g < B) (h : w.cell? ⟨g, 0, none⟩ = some u) : Seq w B (some ⟨g, 0, none⟩) [u] := fun _ => by
  refine ⟨_, rfl, hg, fun j hj => ?_⟩
  obtain rfl : j = 0 := by simpa using hj
  exact h
theorem Seq.one_new (w : World) (u : Value) (t : TypeId) : Seq (w.alloc (.cells #[u] t)) (w.heap.size + 1) (some ⟨w.heap.size, 0, none⟩) [u] :=
  Seq.one u _ (by omega) (by rw [(Blk.new w t #[u]).cell]; rfl)
end
/-- What an append asks of the type of the elements. -/
structure Elem (P : Program) (t e : TypeId) (size bytes : Nat) : Prop where
  slice : P.underlying t = some (.slice e)
  row : ∃ i z, P.info? e = some i ∧ i.zero = some z ∧ i.size = size ∧ i.bytes = bytes ∧ z.cells.size = size
  pos : 0 < size
theorem Elem.mk' {P : Program} {t e : TypeId} {size bytes : Nat} {z : Value} (h1 : P.underlying t = some (.slice e)) (h2 : (P.info? e).map (fun i => (i.zero, i.size, i.bytes)) = some (some z, size, bytes))
    (h3 : z.cells.size = size) (h4 : 0 < size) : Elem P t e size bytes := by
  obtain ⟨i, hi, h⟩ := Option.map_eq_some_iff.1 h2
  simp only [Prod.mk.injEq] at h
  exact ⟨h1, ⟨i, z, hi, h.1, h.2.1, h.2.2, h3⟩, h4⟩
section
variable {P : Program} {w : World}
theorem run_append_nothing {t ty e : TypeId} {size bytes : Nat} (el : Elem P t e size bytes) {base : Nat} {v : Value} {n : Nat} {xs : List Value} (hown : w.ownsRow base e size v n xs) (c : Nat) :
    (Builtin.append_ #[t, t] ty #[v, .slice none 0 c]).run P w = .ok v w := by
  obtain ⟨i, z, hi, _⟩ := el.row
  rcases hown.2 with ⟨rfl, rfl⟩ | ⟨g, cap, cur, rfl, _, _, hnc, _⟩
  · simp [Builtin.append_, run_underlying el.slice, sizeOf, typeInfo, hi, Builtin.lenOf, Builtin.firstCells]
  · simp [Builtin.append_, run_underlying el.slice, sizeOf, typeInfo, hi, Builtin.lenOf, Builtin.firstCells, hnc, storeCells]
/-- append onto a row of the call's own, from whatever source. -/
theorem run_append_seq {t ty e : TypeId} {size bytes : Nat} (el : Elem P t e size bytes) {base : Nat} {A : Option Addr} {n c : Nat} {xs : List Value} (hown : w.ownsRow base e size (.slice A n c) n xs)
    {B : Nat} {A2 : Option Addr} {m c2 : Nat} {news : List Value} (hl : news.length = m * size) (hr : Seq w B A2 news) (h1 : ∀ u ∈ news, u.oneCell' = true)
    (h63 : n + m ≤ maxLen) (hbytes : (n + m) * bytes ≤ 140737488355328) (hbase : base ≤ w.heap.size) :
    ∃ A' c' w', (Builtin.append_ #[t, t] ty #[.slice A n c, .slice A2 m c2]).run P w = .ok (.slice A' (n + m) c') w' ∧ w'.ownsRow base e size (.slice A' (n + m) c') (n + m) (xs ++ news) ∧
      w.grownBy w' (Value.slice A n c).ownBlock ∧ ((Value.slice A' (n + m) c').ownBlock = (Value.slice A n c).ownBlock ∨ (Value.slice A' (n + m) c').ownBlock = some w.heap.size) := by
  rcases A2 with _ | ad
  · have hm : m = 0 := by
      rcases Nat.eq_zero_or_pos m with h0 | h0
      · exact h0
      · obtain ⟨ad, h, _⟩ := hr (by rw [hl]; exact Nat.mul_pos h0 el.pos)
        cases h
    subst hm
    have hn : news = [] := List.eq_nil_of_length_eq_zero (by simpa using hl)
    subst hn
    exact ⟨A, c, w, run_append_nothing el hown c2, by simpa using hown, World.grownBy.refl w _, .inl rfl⟩
  · have hcells : ∀ j u, news[j]? = some u → w.cell? (ad.add j) = some u := by
      intro j u hu
      obtain ⟨hj, rfl⟩ := List.getElem?_eq_some_iff.1 hu
      obtain ⟨ad', h, _, hc⟩ := hr (by omega)
      injection h with h
      subst h
      exact hc j hj
    obtain ⟨i, z, hi, hz, hs, hb, hzs⟩ := el.row
    obtain ⟨v', w', hrun, h2, h3, _, h5⟩ := run_append_own_at (P := P) w base t ty e i z size bytes el.slice hi hz hs hb hzs el.pos _ n xs hown ad m c2 news hl hcells h1 h63 hbytes hbase
    obtain ⟨A', c', rfl, _⟩ := own_shape h2
    exact ⟨A', c', w', hrun, h2, h3, h5⟩
theorem wp_append_seq {o : Oper} {a : Act} {K : Act → World → Prop} {Q : Exit → Act → World → Prop} (s x : Operand) (t : TypeId)
    (ho : o.op = .call { callee := .builtin .append, args := #[s, x], argTypes := #[t, t] }) {e : TypeId} {size bytes : Nat} (el : Elem P t e size bytes)
    {base : Nat} {A : Option Addr} {n c : Nat} {xs : List Value} (hs : a.eval s = .slice A n c) (hown : w.ownsRow base e size (.slice A n c) n xs)
    {B : Nat} {A2 : Option Addr} {m c2 : Nat} {news : List Value} (hx : a.eval x = .slice A2 m c2) (hl : news.length = m * size) (hr : Seq w B A2 news) (h1 : ∀ u ∈ news, u.oneCell' = true)
    (h63 : n + m ≤ maxLen) (hbytes : (n + m) * bytes ≤ 140737488355328) (hbase : base ≤ w.heap.size)
    (h : ∀ A' c' w', w'.ownsRow base e size (.slice A' (n + m) c') (n + m) (xs ++ news) → w.grownBy w' (Value.slice A n c).ownBlock →
      ((Value.slice A' (n + m) c').ownBlock = (Value.slice A n c).ownBlock ∨ (Value.slice A' (n + m) c').ownBlock = some w.heap.size) → K (a.put o.dst (.slice A' (n + m) c')) w') : o.wp P a w K Q := by
  obtain ⟨A', c', w', hrun, h2, h3, h4⟩ := run_append_seq (P := P) (ty := o.type) el (c2 := c2) hown hl hr h1 h63 hbytes hbase
  unfold Oper.wp execOp
  simp only [ho, resolve, invoke, builtin, Sem.run_bind, Sem.run_pure, Result.andThen_ok, List.map_toArray, List.map_cons, List.map_nil, hs, hx, hrun]
  exact h A' c' w' h2 h3 h4
theorem wpL_append {ops : Array Oper} {rest : List Oper} {o : Oper} {a : Act} {Q : Exit → Act → World → Prop} (hgd : o.guard = none) (s x : Operand) (t : TypeId)
    (ho : o.op = .call { callee := .builtin .append, args := #[s, x], argTypes := #[t, t] }) {e : TypeId} {size bytes : Nat} (el : Elem P t e size bytes)
    {base : Nat} {A : Option Addr} {n c : Nat} {xs : List Value} (hs : a.eval s = .slice A n c) (hown : w.ownsRow base e size (.slice A n c) n xs)
    {B : Nat} {A2 : Option Addr} {m c2 : Nat} {news : List Value} (hx : a.eval x = .slice A2 m c2) (hl : news.length = m * size) (hr : Seq w B A2 news) (h1 : ∀ u ∈ news, u.oneCell' = true)
    (h63 : n + m ≤ maxLen) (hbytes : (n + m) * bytes ≤ 140737488355328) (hbase : base ≤ w.heap.size)
    (h : ∀ A' c' w', w'.ownsRow base e size (.slice A' (n + m) c') (n + m) (xs ++ news) → w.grownBy w' (Value.slice A n c).ownBlock →
      ((Value.slice A' (n + m) c').ownBlock = (Value.slice A n c).ownBlock ∨ (Value.slice A' (n + m) c').ownBlock = some w.heap.size) → wpList P ops Q rest (a.put o.dst (.slice A' (n + m) c')) w') :
    wpList P ops Q (o :: rest) a w :=
  wpList_plain hgd fun _ hK => wp_append_seq s x t ho el hs hown hx hl hr h1 h63 hbytes hbase fun A' c' w' h2 h3 h4 => hK _ _ (h A' c' w' h2 h3 h4)
end
def u64 (b : BitVec 64) : Int := (b.toNat : Int)
theorem u64_nonneg (b : BitVec 64) : 0 ≤ u64 b := by unfold u64; omega
theorem u64_lt (b : BitVec 64) : u64 b < 18446744073709551616 := by unfold u64; have := b.isLt; omega
@[go_sem] theorem wrap_u64_u64 (b : BitVec 64) : IntKind.u64.wrap (u64 b) = u64 b := by
  have h1 := u64_nonneg b
  have h2 := u64_lt b
  rw [IntKind.wrap_u64]
  omega
def lanes (S : Nat → BitVec 64) (j : Nat) : Value := .int .u64 (u64 (S j))
theorem lanes_upd (S : Nat → BitVec 64) (i : Nat) (v : BitVec 64) : upd (lanes S) i (.int .u64 (u64 v)) = lanes (upd S i v) :=
  upd_comp (fun b => Value.int .u64 (u64 b)) S i v
theorem Blk.lane {w : World} {g t n : Nat} {S : Nat → BitVec 64} (h : Blk w g t (tab n (lanes S))) (i : Nat) (hi : i < n) : w.cell? ⟨g, i, none⟩ = some (.int .u64 (u64 (S i))) := h.at_ i hi
theorem Blk.putLane {w : World} {g t n : Nat} {S : Nat → BitVec 64} (h : Blk w g t (tab n (lanes S))) (i : Nat) (v : BitVec 64) : Blk (w.setCell ⟨g, i, none⟩ (.int .u64 (u64 v))) g t (tab n (lanes (upd S i v))) := by
  have := h.put i (.int .u64 (u64 v))
  rwa [lanes_upd] at this

@[go_sem] theorem bv_xor (a b : BitVec 64) : bits .xor .u64 (u64 a) (u64 b) = u64 (a ^^^ b) := by
  unfold u64
  rw [u64_xor_nat _ _ a.isLt b.isLt, BitVec.toNat_xor]
@[go_sem] theorem bv_andNot (a b : BitVec 64) : bits .andNot .u64 (u64 a) (u64 b) = u64 (a &&& ~~~ b) := by
  unfold u64
  rw [u64_andNot_nat _ _ a.isLt b.isLt, BitVec.toNat_and, BitVec.toNat_not]
@[go_sem] theorem bv_or (a b : BitVec 64) : bits .or .u64 (u64 a) (u64 b) = u64 (a ||| b) := by
  unfold u64
  rw [u64_or_nat _ _ a.isLt b.isLt, BitVec.toNat_or]
theorem u64_and63 (k : Nat) (hk : k < 64) : bits .and .u64 (k : Int) 63 = (k : Int) := by
  have h := u64_and_nat k 63 (by omega) (by omega)
  rw [nat_mask6, Nat.mod_eq_of_lt hk] at h
  exact h
theorem wrap_shl (x : Nat) (k : Nat) : IntKind.u64.wrap ((x : Int) * 2 ^ k) = ((x * 2 ^ k % 18446744073709551616 : Nat) : Int) := by
  rw [IntKind.wrap_u64, Int.natCast_emod, Int.natCast_mul, Int.natCast_pow]
  rfl
@[go_sem] theorem bv_shl (x : BitVec 64) (k : Nat) : IntKind.u64.wrap (u64 x * 2 ^ k) = u64 (x <<< k) := by
  unfold u64
  rw [wrap_shl, BitVec.toNat_shiftLeft, Nat.shiftLeft_eq]
@[go_sem] theorem bv_shr (x : BitVec 64) (k : Nat) : (u64 x / 2 ^ k) = u64 (x >>> k) := by
  unfold u64
  rw [BitVec.toNat_ushiftRight, Nat.shiftRight_eq_div_pow, Int.natCast_ediv, Int.natCast_pow]
  rfl
theorem rotv (x : BitVec 64) (k : Nat) (hk : k < 64) : ((x <<< k) ||| (x >>> (64 - k))) = x.rotateLeft k := by
  rw [BitVec.rotateLeft_def, Nat.mod_eq_of_lt hk]
theorem ret_int {k : IntKind} {a b : Int} (h : a = b) : Ending.returned (.int k a) = .returned (.int k b) := by rw [h]


end Go.Proofs.YtfhindffmghlaaaDoor
/- Words, more: two tables of numbers compared. No program in sight. -/
namespace Go.Proofs.YtfhindffmghlaaaDoor
open Go.RowKit
section
variable {P : Program}
theorem wpL_loadW {g : Nat} {t : TypeId} {n N : Nat} {V : Nat → Value} {w : World} {ops : Array Oper} {rest : List Oper} {o : Oper} {a : Act} {Q : Exit → Act → World → Prop} (hw : Region.wanted o (yielded ops a.tmps) = true) (ty : TypeId) (x : Operand) (ho : o.op = .load ty x)
    (off : Nat) (hx : a.eval x = .pointer (some ⟨g, off, none⟩)) (d : TypeDesc) (hB : Blk w g t (tab N V)) (hle : off + n ≤ N) (hu : P.underlying ty = some d)
    (hd : (match d with | .struct _ | .array _ _ => true | _ => false) = true) (hi : (P.info? ty).map (·.size) = some n)
    (h : wpList P ops Q rest (a.put o.dst (.agg (tab n fun j => V (off + j)))) w) : wpList P ops Q (o :: rest) a w :=
  BigFrame.wpList_want hw fun _ hK => wp_load_part ty x ho off hx d hB hle hu hd hi (hK _ _ h)
theorem run_eqItems_tab (d : Nat) (e : TypeId) (n : Nat) (k k' : IntKind) (a b : Nat → Int) (he : P.underlying e = some (.int k')) (w : World) :
    ∀ is : List Nat, (∀ i ∈ is, i < n) → (Op.eqItems (d + 1) e 1 (tab n fun i => .int k (a i)) (tab n fun i => .int k (b i)) is).run P w = .ok (decide (∀ i ∈ is, a i = b i)) w
  | [], _ => by simp [Op.eqItems]
  | i :: is, h => by
    have hagg : (isAgg e).run P w = .ok false w := by
      unfold isAgg
      rw [Sem.run_bind, run_underlying he w]
      simp
    have hp : ∀ f : Nat → Int, (part e (tab n fun i => .int k (f i)) (i * 1)).run P w = .ok (.int k (f i)) w := fun f => by
      rw [Nat.mul_one]
      have hg : (tab n fun i => Value.int k (f i))[i]? = some (.int k (f i)) := tab_get i (h i (by simp))
      simp [part, Sem.run_bind, hagg, hg]
    have ih := run_eqItems_tab d e n k k' a b he w is (fun j hj => h j (by simp [hj]))
    simp only [Op.eqItems, Sem.run_bind, hp, Result.andThen_ok, run_equalIn_int w d e k k' (a i) (b i) he]
    by_cases hab : a i = b i
    · simp [hab, ih]
    · simp [hab]
theorem run_eql_tab (d : Nat) (t e : TypeId) (n : Nat) (k k' : IntKind) (a b : Nat → Int) (hu : P.underlying t = some (.array n e)) (he : P.underlying e = some (.int k')) (hc : P.cellsOf e = 1)
    (hi : (P.info? e).isSome = true) (w : World) :
    (Op.equalIn (d + 2) t (.agg (tab n fun i => .int k (a i))) (.agg (tab n fun i => .int k (b i)))).run P w = .ok (decide (∀ i, i < n → a i = b i)) w := by
  obtain ⟨i, hi⟩ := Option.isSome_iff_exists.1 hi
  rw [run_equalIn_array w (d + 1) _ _ hu hi, hc, run_eqItems_tab d e n k k' a b he w _ (fun i hi => by simpa using hi)]
  simp
end
end Go.Proofs.YtfhindffmghlaaaDoor
/- Words, more: arrays of a block loaded in a region that draws its order. No program in sight. -/
namespace Go.Proofs.YtfhindffmghlaaaDoor
open Go.RowKit
section
variable {P : Program} {g : Nat} {t : TypeId} {n N : Nat} {V : Nat → Value} {w : World}
theorem wpQ_load {ops : Array Oper} {rest : List Oper} {o : Oper} {a : Act} {Q : Act → Prop} (hw : Region.wanted o (yielded ops a.tmps) = true) (ty : TypeId) (x : Operand) (ho : o.op = .load ty x)
    (off : Nat) (hx : a.eval x = .pointer (some ⟨g, off, none⟩)) (d : TypeDesc) (hB : Blk w g t (tab N V)) (hle : off + n ≤ N) (hu : P.underlying ty = some d)
    (hd : (match d with | .struct _ | .array _ _ => true | _ => false) = true) (hi : (P.info? ty).map (·.size) = some n)
    (h : wpQuiet P ops (fun w' => ∃ n, w' = w.drewN n) Q rest (a.put o.dst (.agg (tab n fun j => V (off + j))))) : wpQuiet P ops (fun w' => ∃ n, w' = w.drewN n) Q (o :: rest) a :=
  BigFrame.wpQuiet_want hw fun K hK => ⟨.agg (tab n fun j => V (off + j)), fun w' ⟨m, e⟩ => by
    subst e
    unfold Oper.quietAt execOp
    simp only [ho, hx, Instr.loadAt, Instr.sureAddr, Sem.run_bind, Sem.run_pure, Result.andThen_ok, run_loadVar_part ty off d (hB.drewN m) hle hu hd hi]
    exact ⟨rfl, rfl⟩, hK _ h⟩
theorem tab_from0 (n : Nat) (V : Nat → Value) : (tab n fun j => V (0 + j)) = tab n V := tab_congr fun i _ => by rw [Nat.zero_add]
theorem wpQ_load0 {ops : Array Oper} {rest : List Oper} {o : Oper} {a : Act} {Q : Act → Prop} (hw : Region.wanted o (yielded ops a.tmps) = true) (ty : TypeId) (x : Operand) (ho : o.op = .load ty x)
    (hx : a.eval x = .pointer (some ⟨g, 0, none⟩)) (d : TypeDesc) (hB : Blk w g t (tab n V)) (hu : P.underlying ty = some d)
    (hd : (match d with | .struct _ | .array _ _ => true | _ => false) = true) (hi : (P.info? ty).map (·.size) = some n)
    (h : wpQuiet P ops (fun w' => ∃ n, w' = w.drewN n) Q rest (a.put o.dst (.agg (tab n V)))) : wpQuiet P ops (fun w' => ∃ n, w' = w.drewN n) Q (o :: rest) a :=
  wpQ_load hw ty x ho 0 hx d hB (by omega) hu hd hi (by rw [tab_from0]; exact h)
theorem wpL_load0 {ops : Array Oper} {rest : List Oper} {o : Oper} {a : Act} {Q : Exit → Act → World → Prop} (hw : Region.wanted o (yielded ops a.tmps) = true) (ty : TypeId) (x : Operand) (ho : o.op = .load ty x)
    (hx : a.eval x = .pointer (some ⟨g, 0, none⟩)) (d : TypeDesc) (hB : Blk w g t (tab n V)) (hu : P.underlying ty = some d)
    (hd : (match d with | .struct _ | .array _ _ => true | _ => false) = true) (hi : (P.info? ty).map (·.size) = some n)
    (h : wpList P ops Q rest (a.put o.dst (.agg (tab n V))) w) : wpList P ops Q (o :: rest) a w :=
  wpL_loadW hw ty x ho 0 hx d hB (by omega) hu hd hi (by rw [tab_from0]; exact h)
theorem wpS_load0 {ops : Array Oper} {rest : List Oper} {o : Oper} {a : Act} {Q : Act → Prop} (hw : Region.wanted o (yielded ops a.tmps) = true) (ty : TypeId) (x : Operand) (ho : o.op = .load ty x)
    (hx : a.eval x = .pointer (some ⟨g, 0, none⟩)) (d : TypeDesc) (hB : Blk w g t (tab n V)) (hu : P.underlying ty = some d)
    (hd : (match d with | .struct _ | .array _ _ => true | _ => false) = true) (hi : (P.info? ty).map (·.size) = some n)
    (h : wpStill P ops w Q rest (a.put o.dst (.agg (tab n V)))) : wpStill P ops w Q (o :: rest) a := by
  unfold wpStill
  rw [if_pos hw]
  unfold Oper.still execOp
  simp only [ho, hx, Instr.loadAt, Instr.sureAddr, Sem.run_bind, Sem.run_pure, Result.andThen_ok, run_loadVar_part ty 0 d hB (by omega : 0 + n ≤ n) hu hd hi]
  rw [tab_from0]
  exact ⟨rfl, h⟩
theorem Seq.of_blk {B : Nat} {xs : List Value} (h : Blk w g t xs.toArray) (hg : g < B) : Seq w B (some ⟨g, 0, none⟩) xs := fun _ =>
  ⟨_, rfl, hg, fun j hj => by rw [addr_add, Nat.zero_add, h.cell]; simp⟩
theorem Seq.of_row {B : Nat} {xs : List Value} {fz : Nat × Nat} (h : w.heap[g]? = some (.cells xs.toArray t fz)) (hg : g < B) : Seq w B (some ⟨g, 0, none⟩) xs := fun _ =>
  ⟨_, rfl, hg, fun j hj => by rw [addr_add, Nat.zero_add, cell_of_row w g j xs.toArray t fz h]; simp⟩
theorem row_new (w : World) (o : Obj) : (w.alloc o).heap[w.heap.size]? = some o := heap_alloc_new w o
end
end Go.Proofs.YtfhindffmghlaaaDoor
/- Bytes as numbers and as cells; pieces. (For the rows of chapters 25 and 26.) -/
namespace Go.Proofs.YtfhindffmghlaaaDoor
open Go.RowKit
/-- A byte as a number. -/
def by8 (b : UInt8) : Int := (b.toNat : Int)
theorem by8_nonneg (b : UInt8) : 0 ≤ by8 b := by unfold by8; omega
theorem by8_lt (b : UInt8) : by8 b < 256 := by unfold by8; have := b.toNat_lt; omega
def byt (b : UInt8) : Value := .int .u8 (by8 b)
def bytes (l : List UInt8) : List Value := l.map byt
theorem bytes_length (l : List UInt8) : (bytes l).length = l.length := by simp [bytes]
theorem bytes_get (l : List UInt8) (i : Nat) (h : i < (bytes l).length) : (bytes l)[i] = .int .u8 (by8 (l[i]'(by simpa [bytes] using h))) := by simp [bytes, byt]
theorem bytes_append (a b : List UInt8) : bytes (a ++ b) = bytes a ++ bytes b := by simp [bytes]
theorem bytes_one (l : List UInt8) : ∀ u ∈ bytes l, u.oneCell' = true := by
  intro u hu
  obtain ⟨b, _, rfl⟩ := List.mem_map.1 hu
  rfl
abbrev Piece := Option Addr × Nat × List UInt8
def pcV (p : Piece) : Value := .slice p.1 p.2.2.length p.2.1
def pcs (ps : List Piece) : List Value := ps.map pcV
def joinP (ps : List Piece) : List UInt8 := (ps.map fun p => p.2.2).flatten
theorem infoByte : (Tryd.prog.info? 5).map (fun i => (i.zero, i.size, i.bytes)) = some (some (.int .u8 0), 1, 1) := by kernel_rfl
theorem elByte : Elem Tryd.prog 24 5 1 1 := Elem.mk' Tryd.underlying24 infoByte rfl (by decide)
theorem bytes_snoc (l : List UInt8) (x : UInt8) : bytes l ++ [.int .u8 (by8 x)] = bytes (l ++ [x]) := by simp [bytes, byt]
theorem pcs_snoc (ps : List Piece) (p : Piece) : pcs ps ++ [pcV p] = pcs (ps ++ [p]) := by simp [pcs]
theorem joinP_snoc (ps : List Piece) (p : Piece) : joinP (ps ++ [p]) = joinP ps ++ p.2.2 := by simp [joinP]
theorem wrap_add8 (x y : UInt8) : IntKind.u8.wrap (by8 x + by8 y) = by8 (x + y) := by
  rw [IntKind.wrap_u8']
  unfold by8
  rw [UInt8.toNat_add]
  omega
theorem wrap_nat8 (i : Nat) (_ : i < 256) : IntKind.u8.wrap (i : Int) = by8 (UInt8.ofNat i) := by
  rw [IntKind.wrap_u8']
  unfold by8
  rw [UInt8.toNat_ofNat']
  omega
theorem own_grown {w w' : World} {base : Nat} {e : TypeId} {size n : Nat} {v : Value} {xs : List Value} {row : Option Nat} (h : w.ownsRow base e size v n xs) (hg : w.grownBy w' row) (hne : ∀ q, v.ownBlock = some q → row ≠ some q) : w'.ownsRow base e size v n xs := by
  have hlt := h.lt
  obtain ⟨h1, h2⟩ := h
  refine ⟨h1, ?_⟩
  rcases h2 with h2 | ⟨g', cap, cur, rfl, hg', hh, r⟩
  · exact .inl h2
  · exact .inr ⟨g', cap, cur, rfl, hg', (hg.block g' (hlt g' rfl).2 (fun e => hne g' rfl e.symm)).trans hh, r⟩
theorem own_front {w : World} {base n : Nat} {e : TypeId} {A : Option Addr} {m c : Nat} {l r : List UInt8} (h : w.ownsRow base e 1 (.slice A m c) n (bytes (l ++ r))) (hm : m = n) : Seq w w.heap.size A (bytes l) := by
  subst hm
  have := (Seq.of_own h).take l.length
  rw [bytes_append, List.take_append_of_le_length (by rw [bytes_length]; exact Nat.le_refl _), List.take_of_length_le (by rw [bytes_length]; exact Nat.le_refl _)] at this
  exact this
theorem Blk.ne {w : World} {g g' : Nat} {t t' : TypeId} {cs cs' : Array Value} (h : Blk w g t cs) (h' : Blk w g' t' cs') (ht : t ≠ t') : g ≠ g' := by
  intro e
  subst e
  have h : w.heap[g]? = some (.cells cs t (0, 0)) := h
  have h' : w.heap[g]? = some (.cells cs' t' (0, 0)) := h'
  rw [h] at h'
  injection h' with h'
  injection h' with _ h'
  exact ht h'
theorem own_blk {w : World} {base : Nat} {e : TypeId} {size n : Nat} {v : Value} {xs : List Value} (h : w.ownsRow base e size v n xs) (q : Nat) (hq : v.ownBlock = some q) : ∃ cur, Blk w q e cur := by
  rcases h.2 with ⟨rfl, _⟩ | ⟨g, cap, cur, rfl, hg, hh, _⟩
  · simp [Value.ownBlock] at hq
  · have : some g = some q := hq
    injection this with this
    subst this
    exact ⟨cur, hh⟩
theorem own_two {w : World} {base base' : Nat} {e e' : TypeId} {size n size' n' : Nat} {v v' : Value} {xs xs' : List Value} (h : w.ownsRow base e size v n xs) (h' : w.ownsRow base' e' size' v' n' xs') (he : e ≠ e') (q : Nat) (hq : v.ownBlock = some q) : v'.ownBlock ≠ some q := fun hq' => by
  obtain ⟨c1, h1⟩ := own_blk h q hq
  obtain ⟨c2, h2⟩ := own_blk h' q hq'
  exact h1.ne h2 he rfl
theorem Blk.grownNe' {w w' : World} {g r : Nat} {t : TypeId} {cs : Array Value} (h : Blk w g t cs) (hg : w.grownBy w' (some r)) (hne : g ≠ r) : Blk w' g t cs :=
  (hg.block g h.lt (fun e => hne (Option.some.inj e))).trans h
theorem joinP_take (ps : List Piece) (k : Nat) (h : k < ps.length) : joinP (ps.take (k + 1)) = joinP (ps.take k) ++ ps[k].2.2 := by
  rw [List.take_succ_eq_append_getElem h]
  unfold joinP
  rw [List.map_append, List.flatten_append]
  simp
theorem joinP_le (ps : List Piece) (k : Nat) : (joinP (ps.take k)).length ≤ (joinP ps).length := by
  conv => rhs; rw [← List.take_append_drop k ps]
  unfold joinP
  rw [List.map_append, List.flatten_append, List.length_append]
  omega
def lenV : Value → Nat
  | .slice _ n _ => n
  | _ => 0
theorem grown_only {a w w' : World} {g : Nat} (h : a.grownBy w (some g)) (ho : Only g w w') : a.grownBy w' (some g) :=
  ⟨ho.os.trans h.os, ho.tape.trans h.tape, ho.output.trans h.output, by rw [ho.size]; exact h.size, fun k hk hne => (ho.block k (fun e => hne (by rw [e]))).trans (h.block k hk hne)⟩
theorem grown_below {a w w' : World} {row : Option Nat} (h : a.grownBy w row) (hb : Below w.heap.size w w') : a.grownBy w' row :=
  ⟨hb.os.trans h.os, hb.tape.trans h.tape, hb.output.trans h.output, Nat.le_trans h.size hb.size, fun k hk hne => (hb.block k (Nat.lt_of_lt_of_le hk h.size)).trans (h.block k hk hne)⟩
theorem grown_refl (w : World) (row : Option Nat) : w.grownBy w row := World.grownBy.refl w row
def ext (b : UInt8) : BitVec 64 := BitVec.ofNat 64 b.toNat
@[go_sem] theorem wrap_u64_by8 (b : UInt8) : IntKind.u64.wrap (by8 b) = u64 (ext b) := by
  have h := b.toNat_lt
  rw [IntKind.wrap_u64]
  unfold by8 u64 ext
  rw [BitVec.toNat_ofNat]
  omega
theorem by8_inj {a b : UInt8} (e : by8 a = by8 b) : a = b := by
  unfold by8 at e
  exact UInt8.toNat_inj.1 (by omega)
theorem below_drewN {B : Nat} {a w : World} (h : Below B a w) (n : Nat) : Below B a (w.drewN n) := h.trans ⟨rfl, rfl, rfl, Nat.le_refl _, fun _ _ => rfl⟩
end Go.Proofs.YtfhindffmghlaaaDoor
