/- append onto a full slice, of any number of elements: the old row is left. -/
import Derived.Test.YtfhindffmghlaaaDoorMTAll
import Derived.Test.YtfhindffmghlaaaDoorG20
set_option linter.unusedVariables false
set_option linter.unusedSimpArgs false
namespace Go.Proofs.YtfhindffmghlaaaDoor
open Go.RowKit
theorem run_append_cut {P : Program} {w : World} {t ty e : TypeId} {size bytes : Nat} (el : Elem P t e size bytes) {n : Nat} {A : Option Addr} {xs : List Value} (hxl : xs.length = n * size) (hs : SeqT w e A xs)
    {A2 : Option Addr} {m c2 : Nat} {news : List Value} (hl : news.length = m * size) (hr : SeqT w e A2 news) (h63 : n + m ≤ maxLen) (hbytes : (n + m) * bytes ≤ 140737488355328) :
    ∃ A' c' w', (Builtin.append_ #[t, t] ty #[.slice A n n, .slice A2 m c2]).run P w = .ok (.slice A' (n + m) c') w' ∧ SeqT w' e A' (xs ++ news) ∧ n + m ≤ c' ∧ Below w.heap.size w w' := by
  rcases Nat.eq_zero_or_pos m with h0 | h0
  · subst h0
    obtain ⟨i, z, hi, _⟩ := el.row
    have hn : news = [] := List.eq_nil_of_length_eq_zero (by simpa using hl)
    subst hn
    refine ⟨A, n, w, ?_, by rw [List.append_nil]; exact hs, Nat.le_refl _, Below.refl _ _⟩
    cases A <;> cases A2 <;> simp [Builtin.append_, run_underlying el.slice, sizeOf, typeInfo, hi, Builtin.lenOf, Builtin.firstCells, storeCells, loadCells, loadCellsFrom]
  · obtain ⟨c', w', h1, h2, h3⟩ := run_append_full (P := P) (w := w) (ty := ty) el (c2 := c2) hxl hs.seq hl hr.seq h0 h63 hbytes
    exact ⟨_, c', w', h1, SeqT.of_own h2, own_cap h2, h3⟩
theorem step_append_cut {P : Program} {w : World} {ops : Array Oper} {o : Oper} {a : Act} {K : Act → World → Prop} {Q : Exit → Act → World → Prop} {E : Prop} (hg : o.guard = none) (s x : Operand) (t : TypeId)
    (ho : o.op = .call { callee := .builtin .append, args := #[s, x], argTypes := #[t, t] }) {e : TypeId} {size bytes : Nat} (el : Elem P t e size bytes)
    {n : Nat} {A : Option Addr} {xs : List Value} (hs : a.eval s = .slice A n n) (hxl : xs.length = n * size) (hsq : SeqT w e A xs)
    {A2 : Option Addr} {m c2 : Nat} {news : List Value} (hx : a.eval x = .slice A2 m c2) (hl : news.length = m * size) (hr : SeqT w e A2 news) (h63 : n + m ≤ maxLen) (hbytes : (n + m) * bytes ≤ 140737488355328)
    (h : ∀ A' c' w', SeqT w' e A' (xs ++ news) → n + m ≤ c' → Below w.heap.size w w' → K (a.put o.dst (.slice A' (n + m) c')) w') :
    if Region.wanted o (yielded ops a.tmps) = true then Oper.wp P o a w K Q else E := by
  have hw : Region.wanted o (yielded ops a.tmps) = true := by simp [Region.wanted, hg]
  rw [if_pos hw]
  obtain ⟨A', c', w', hrun, h2, h3, h4⟩ := run_append_cut (P := P) (ty := o.type) el (c2 := c2) hxl hsq hl hr h63 hbytes
  unfold Oper.wp execOp
  simp only [ho, resolve, invoke, builtin, Sem.run_bind, Sem.run_pure, Result.andThen_ok, List.map_toArray, List.map_cons, List.map_nil, hs, hx, hrun]
  exact h A' c' w' h2 h3 h4
end Go.Proofs.YtfhindffmghlaaaDoor
