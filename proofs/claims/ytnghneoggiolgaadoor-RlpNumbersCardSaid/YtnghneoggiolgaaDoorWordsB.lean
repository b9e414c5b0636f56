/- Words, more: two tables of numbers compared. No program in sight. -/
import Derived.Test.YtnghneoggiolgaaDoorWords
import Derived.ChangeKeysEq
namespace Go.Proofs.YtnghneoggiolgaaDoor
open Go.RowKit
section
variable {P : Program}
theorem wpL_loadW {g : Nat} {t : TypeId} {n N : Nat} {V : Nat → Value} {w : World} {ops : Array Oper} {rest : List Oper} {o : Oper} {a : Act} {Q : Exit → Act → World → Prop} (hw : Region.wanted o (yielded ops a.tmps) = true) (ty : TypeId) (x : Operand) (ho : o.op = .load ty x)
    (off : Nat) (hx : a.eval x = .pointer (some ⟨g, off, none⟩)) (d : TypeDesc) (hB : Blk w g t (tab N V)) (hle : off + n ≤ N) (hu : P.underlying ty = some d)
    (hd : (match d with | .struct _ | .array _ _ => true | _ => false) = true) (hi : (P.info? ty).map (·.size) = some n)
    (h : wpList P ops Q rest (a.put o.dst (.agg (tab n fun j => V (off + j)))) w) : wpList P ops Q (o :: rest) a w :=
  BigFrame.wpList_want hw fun _ hK => wp_load_part ty x ho off hx d hB hle hu hd hi (hK _ _ h)
theorem run_eqItems_tab (d : Nat) (e : TypeId) (n : Nat) (k k' : IntKind) (a b : Nat → Int) (he : P.underlying e = some (.int k')) (w : World) :
    ∀ is : List Nat, (∀ i ∈ is, i < n) → (Op.eqItems (d + 1) e 1 (tab n fun i => .int k (a i)) (tab n fun i => .int k (b i)) is).run P w = .ok (decide (∀ i ∈ is, a i = b i)) w
  | [], _ => by simp [Op.eqItems]
  | i :: is, h => by
    have hagg : (isAgg e).run P w = .ok false w := by
      unfold isAgg
      rw [Sem.run_bind, run_underlying he w]
      simp
    have hp : ∀ f : Nat → Int, (part e (tab n fun i => .int k (f i)) (i * 1)).run P w = .ok (.int k (f i)) w := fun f => by
      rw [Nat.mul_one]
      have hg : (tab n fun i => Value.int k (f i))[i]? = some (.int k (f i)) := tab_get i (h i (by simp))
      simp [part, Sem.run_bind, hagg, hg]
    have ih := run_eqItems_tab d e n k k' a b he w is (fun j hj => h j (by simp [hj]))
    simp only [Op.eqItems, Sem.run_bind, hp, Result.andThen_ok, run_equalIn_int w d e k k' (a i) (b i) he]
    by_cases hab : a i = b i
    · simp [hab, ih]
    · simp [hab]
theorem run_eql_tab (d : Nat) (t e : TypeId) (n : Nat) (k k' : IntKind) (a b : Nat → Int) (hu : P.underlying t = some (.array n e)) (he : P.underlying e = some (.int k')) (hc : P.cellsOf e = 1)
    (hi : (P.info? e).isSome = true) (w : World) :
    (Op.equalIn (d + 2) t (.agg (tab n fun i => .int k (a i))) (.agg (tab n fun i => .int k (b i)))).run P w = .ok (decide (∀ i, i < n → a i = b i)) w := by
  obtain ⟨i, hi⟩ := Option.isSome_iff_exists.1 hi
  rw [run_equalIn_array w (d + 1) _ _ hu hi, hc, run_eqItems_tab d e n k k' a b he w _ (fun i hi => by simpa using hi)]
  simp
end
end Go.Proofs.YtnghneoggiolgaaDoor
