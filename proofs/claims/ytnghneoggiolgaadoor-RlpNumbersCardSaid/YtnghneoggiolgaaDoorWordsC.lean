/- Words, more: arrays of a block loaded in a region that draws its order. No program in sight. -/
import Derived.Test.YtnghneoggiolgaaDoorWordsB
import Derived.BigQuiet
namespace Go.Proofs.YtnghneoggiolgaaDoor
open Go.RowKit
section
variable {P : Program} {g : Nat} {t : TypeId} {n N : Nat} {V : Nat → Value} {w : World}
theorem wpQ_load {ops : Array Oper} {rest : List Oper} {o : Oper} {a : Act} {Q : Act → Prop} (hw : Region.wanted o (yielded ops a.tmps) = true) (ty : TypeId) (x : Operand) (ho : o.op = .load ty x)
    (off : Nat) (hx : a.eval x = .pointer (some ⟨g, off, none⟩)) (d : TypeDesc) (hB : Blk w g t (tab N V)) (hle : off + n ≤ N) (hu : P.underlying ty = some d)
    (hd : (match d with | .struct _ | .array _ _ => true | _ => false) = true) (hi : (P.info? ty).map (·.size) = some n)
    (h : wpQuiet P ops (fun w' => ∃ n, w' = w.drewN n) Q rest (a.put o.dst (.agg (tab n fun j => V (off + j))))) : wpQuiet P ops (fun w' => ∃ n, w' = w.drewN n) Q (o :: rest) a :=
  BigFrame.wpQuiet_want hw fun K hK => ⟨.agg (tab n fun j => V (off + j)), fun w' ⟨m, e⟩ => by
    subst e
    unfold Oper.quietAt execOp
    simp only [ho, hx, Instr.loadAt, Instr.sureAddr, Sem.run_bind, Sem.run_pure, Result.andThen_ok, run_loadVar_part ty off d (hB.drewN m) hle hu hd hi]
    exact ⟨rfl, rfl⟩, hK _ h⟩
theorem tab_from0 (n : Nat) (V : Nat → Value) : (tab n fun j => V (0 + j)) = tab n V := tab_congr fun i _ => by rw [Nat.zero_add]
theorem wpQ_load0 {ops : Array Oper} {rest : List Oper} {o : Oper} {a : Act} {Q : Act → Prop} (hw : Region.wanted o (yielded ops a.tmps) = true) (ty : TypeId) (x : Operand) (ho : o.op = .load ty x)
    (hx : a.eval x = .pointer (some ⟨g, 0, none⟩)) (d : TypeDesc) (hB : Blk w g t (tab n V)) (hu : P.underlying ty = some d)
    (hd : (match d with | .struct _ | .array _ _ => true | _ => false) = true) (hi : (P.info? ty).map (·.size) = some n)
    (h : wpQuiet P ops (fun w' => ∃ n, w' = w.drewN n) Q rest (a.put o.dst (.agg (tab n V)))) : wpQuiet P ops (fun w' => ∃ n, w' = w.drewN n) Q (o :: rest) a :=
  wpQ_load hw ty x ho 0 hx d hB (by omega) hu hd hi (by rw [tab_from0]; exact h)
theorem wpL_load0 {ops : Array Oper} {rest : List Oper} {o : Oper} {a : Act} {Q : Exit → Act → World → Prop} (hw : Region.wanted o (yielded ops a.tmps) = true) (ty : TypeId) (x : Operand) (ho : o.op = .load ty x)
    (hx : a.eval x = .pointer (some ⟨g, 0, none⟩)) (d : TypeDesc) (hB : Blk w g t (tab n V)) (hu : P.underlying ty = some d)
    (hd : (match d with | .struct _ | .array _ _ => true | _ => false) = true) (hi : (P.info? ty).map (·.size) = some n)
    (h : wpList P ops Q rest (a.put o.dst (.agg (tab n V))) w) : wpList P ops Q (o :: rest) a w :=
  wpL_loadW hw ty x ho 0 hx d hB (by omega) hu hd hi (by rw [tab_from0]; exact h)
theorem wpS_load0 {ops : Array Oper} {rest : List Oper} {o : Oper} {a : Act} {Q : Act → Prop} (hw : Region.wanted o (yielded ops a.tmps) = true) (ty : TypeId) (x : Operand) (ho : o.op = .load ty x)
    (hx : a.eval x = .pointer (some ⟨g, 0, none⟩)) (d : TypeDesc) (hB : Blk w g t (tab n V)) (hu : P.underlying ty = some d)
    (hd : (match d with | .struct _ | .array _ _ => true | _ => false) = true) (hi : (P.info? ty).map (·.size) = some n)
    (h : wpStill P ops w Q rest (a.put o.dst (.agg (tab n V)))) : wpStill P ops w Q (o :: rest) a := by
  unfold wpStill
  rw [if_pos hw]
  unfold Oper.still execOp
  simp only [ho, hx, Instr.loadAt, Instr.sureAddr, Sem.run_bind, Sem.run_pure, Result.andThen_ok, run_loadVar_part ty 0 d hB (by omega : 0 + n ≤ n) hu hd hi]
  rw [tab_from0]
  exact ⟨rfl, h⟩
theorem Seq.of_blk {B : Nat} {xs : List Value} (h : Blk w g t xs.toArray) (hg : g < B) : Seq w B (some ⟨g, 0, none⟩) xs := fun _ =>
  ⟨_, rfl, hg, fun j hj => by rw [addr_add, Nat.zero_add, h.cell]; simp⟩
theorem Seq.of_row {B : Nat} {xs : List Value} {fz : Nat × Nat} (h : w.heap[g]? = some (.cells xs.toArray t fz)) (hg : g < B) : Seq w B (some ⟨g, 0, none⟩) xs := fun _ =>
  ⟨_, rfl, hg, fun j hj => by rw [addr_add, Nat.zero_add, cell_of_row w g j xs.toArray t fz h]; simp⟩
theorem row_new (w : World) (o : Obj) : (w.alloc o).heap[w.heap.size]? = some o := heap_alloc_new w o
end
end Go.Proofs.YtnghneoggiolgaaDoor
