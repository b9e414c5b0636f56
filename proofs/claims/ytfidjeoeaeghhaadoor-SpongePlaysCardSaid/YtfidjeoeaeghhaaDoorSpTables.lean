/- The two tables of package sponge, out of what the row says of them. -/
import Derived.Test.YtfidjeoeaeghhaaDoorTie
import Derived.Test.YtfidjeoeaeghhaaDoorOpen
import Derived.Test.YtfidjeoeaeghhaaDoorSpPermute
import Derived.Lay
import Derived.MakeChecks
import Derived.FnData
namespace Go.Proofs.YtfidjeoeaeghhaaDoor
open Go.RowKit Go.ChangeShapes Go.WideShapes
theorem own : ownKnob Tryd.prog.godebug = none := by kernel_rfl
theorem laidOut : laidOutB Tryd.prog = true := by kernel_rfl
section
variable {H : Type} {enc : TypeId × Value → H} {P : Program} {w : World} {base : Nat} {spare : Nat → Bool} {held : Bool}
theorem laid_cells {fuel : Nat} {t e : TypeId} {n : Nat} {k : IntKind} {cs : List Value} {zs : List Int} {p : List MemPlace} (ht : P.underlying t = some (.array n e)) (he : P.underlying e = some (.int k)) (hce : P.cellsOf e = 1)
    (hn : zs.length = n) (hct : P.cellsOf t = n) (h : DataW.trod enc P w base spare held fuel t cs = some (.agg (zs.map fun z => .lit (.int k z)), p)) : ∀ i, (hi : i < zs.length) → cs[i]? = some (.int k zs[i]) := by
  obtain ⟨xs, m, _, hx, hl, hxs, hall⟩ := DataW.trod_array ht h
  intro i hi
  have h1 := hall i (by omega)
  simp only [Prod.mk.injEq, DataW.agg.injEq] at hx
  rw [hce, Nat.mul_one, List.getElem?_eq_getElem (by omega)] at h1
  have hlt : i < cs.length := by omega
  rw [List.drop_eq_getElem_cons hlt] at h1
  obtain ⟨z, hz, hy, _⟩ := DataW.trod_int he h1
  simp only [List.take_succ_cons, List.take_zero, List.cons.injEq, and_true] at hz
  rw [List.getElem?_eq_getElem hlt, hz]
  have h2 : (xs.map (·.1))[i]? = (zs.map fun z => DataW.lit (H := H) (.int k z))[i]? := by rw [← hx.1]
  rw [List.getElem?_map, List.getElem?_map, List.getElem?_eq_getElem (by omega), List.getElem?_eq_getElem hi, hy] at h2
  simp only [Option.map_some, Option.some.injEq, DataW.lit.injEq, Lit.int.injEq, true_and] at h2
  rw [h2]
end
def turnsZ : List Int := [0, 1, 62, 28, 27, 36, 44, 6, 55, 20, 3, 10, 43, 25, 39, 41, 45, 15, 21, 8, 18, 2, 61, 56, 14]
def marksZ : List Int := [1, 32898, 9223372036854808714, 9223372039002292224, 32907, 2147483649, 9223372039002292353, 9223372036854808585, 138, 136, 2147516425, 2147483658, 2147516555, 9223372036854775947, 9223372036854808713, 9223372036854808579, 9223372036854808578, 9223372036854775936, 32778, 9223372039002259466, 9223372039002292353, 9223372036854808704, 2147483649, 9223372039002292232]
theorem turnsZ_get : ∀ i : Fin 25, turnsZ[i.val]? = some (turnsN i.val : Int) := by decide +kernel
theorem marksZ_get : ∀ i : Fin 24, marksZ[i.val]? = some (u64 (marksN i.val)) := by decide +kernel
def seatLaid : List (String × DataW Unit) := [("vouch/sponge.turns", Rows.laid_vouch_sponge_turns), ("vouch/sponge.marks", Rows.laid_vouch_sponge_marks)]
theorem turns_named : Tryd.prog.globalNamed "vouch/sponge.turns" = some 1 := by kernel_rfl
theorem marks_named : Tryd.prog.globalNamed "vouch/sponge.marks" = some 0 := by kernel_rfl
theorem turns_type : (Tryd.prog.globals[1]?).map (·.type) = some 71 := by kernel_rfl
theorem marks_type : (Tryd.prog.globals[0]?).map (·.type) = some 59 := by kernel_rfl
theorem tables_of_laid {W : World} (h : laidMet Tryd.prog seatLaid W) : Tables W := by
  obtain ⟨ps, hl, _, _⟩ := h
  obtain ⟨g, t, cs, fuel, p, q, hg, ht, hvar, hd, hr, _⟩ := hl
  obtain ⟨g2, t2, cs2, fuel2, p2, q2, hg2, ht2, hvar2, hd2, _, _⟩ := hr
  obtain rfl := Option.some.inj (turns_named.symm.trans hg)
  obtain rfl := Option.some.inj (turns_type.symm.trans ht)
  obtain rfl := Option.some.inj (marks_named.symm.trans hg2)
  obtain rfl := Option.some.inj (marks_type.symm.trans ht2)
  have e1 := laid_cells (zs := turnsZ) (k := .i64) Tryd.underlying71 Tryd.underlying3 (by kernel_rfl) rfl (by kernel_rfl) hd
  have e2 := laid_cells (zs := marksZ) (k := .u64) Tryd.underlying59 Tryd.underlying22 (by kernel_rfl) rfl (by kernel_rfl) hd2
  have t1 : Holds W 1 25 turnsV := fun i hi => by
    rw [World.var?_cell turns_named hvar i, ← Array.getElem?_toList, e1 i hi]
    have := turnsZ_get ⟨i, hi⟩
    rw [List.getElem?_eq_getElem hi] at this
    rw [Option.some.inj this]
    rfl
  have t2 : Holds W 0 24 (lanes marksN) := fun i hi => by
    rw [World.var?_cell marks_named hvar2 i, ← Array.getElem?_toList, e2 i hi]
    have := marksZ_get ⟨i, hi⟩
    rw [List.getElem?_eq_getElem hi] at this
    rw [Option.some.inj this]
    rfl
  refine ⟨t1, t2, ?_⟩
  have a := t1 0 (by omega)
  have b := t2 0 (by omega)
  have a' := block_lt_of_cell a
  have b' := block_lt_of_cell b
  simp only at a' b'
  omega
end Go.Proofs.YtfidjeoeaeghhaaDoor
