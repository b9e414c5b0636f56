/- make of a slice, as a law for an operation. -/
import Derived.Test.YtnghneoggiolgaaDoorRBytes
namespace Go.Proofs.YtnghneoggiolgaaDoor
open Go.RowKit
theorem made_tab (v : Value) (n : Nat) : madeCells #[v] n = tab n fun _ => v := by
  unfold madeCells
  apply Array.ext
  · simp [tab_size]
  · intro i h1 h2
    simp [tab, Nat.mod_one]
theorem wpL_make {P : Program} {w : World} {ops : Array Oper} {rest : List Oper} {o : Oper} {a : Act} {Q : Exit → Act → World → Prop} (hgd : o.guard = none) (l c : Operand) (t : TypeId) (ho : o.op = .makeSlice t l c) {e : TypeId} {z : Value} {b : Nat}
    (ht : P.underlying t = some (.slice e)) (hi : (P.info? e).map (fun i => (i.zero, i.size, i.bytes)) = some (some z, 1, b)) (hz : z.cells = #[z]) (kl kc : IntKind) (N C : Nat) (hl : a.eval l = .int kl (N : Int)) (hc : a.eval c = .int kc (C : Int)) (hNC : N ≤ C) (hb : b * C ≤ 281474976710656) (hC : C ≤ 281474976710656)
    (h : wpList P ops Q rest (a.put o.dst (.slice (some ⟨w.heap.size, 0, none⟩) N C)) (w.alloc (.cells (tab C fun _ => z) e))) : wpList P ops Q (o :: rest) a w := by
  cases hq : P.info? e with
  | none => simp [hq] at hi
  | some i =>
    simp [hq] at hi
    obtain ⟨h1, h2, h3⟩ := hi
    have hr := run_make (P := P) w t e i z ht hq h1 kl kc (N : Int) (C : Int) (by omega) (by omega) (by rw [h3]; omega) (by omega)
    rw [hz, h2, Nat.mul_one, Int.toNat_natCast, Int.toNat_natCast, made_tab] at hr
    refine wpList_plain hgd fun K hK => ?_
    unfold Oper.wp execOp
    simp only [ho, hl, hc, Sem.run_bind, hr, Result.andThen_ok, Sem.run_pure]
    exact hK _ _ h
end Go.Proofs.YtnghneoggiolgaaDoor
