/- The two tables of package sponge and the three errors of package trie, out of what the row says of them. -/
import Derived.Test.YtfhindffmghlaaaDoorTie
import Derived.Test.YtfhindffmghlaaaDoorG25
import Derived.Test.YtfhindffmghlaaaDoorG12
import Derived.Test.YtfhindffmghlaaaDoorG21
import Derived.LaidLaws
import Derived.Lay
import Derived.MakeChecks
import Derived.FnData
set_option linter.unusedVariables false
set_option linter.unusedSimpArgs false
namespace Go.Proofs.YtfhindffmghlaaaDoor
open Go.RowKit Go.ChangeShapes Go.WideShapes
theorem own : ownKnob Tryd.prog.godebug = none := by kernel_rfl
theorem laidOut : laidOutB Tryd.prog = true := by kernel_rfl
section
variable {H : Type} {enc : TypeId × Value → H} {P : Program} {w : World} {base : Nat} {spare : Nat → Bool} {held : Bool}
theorem laid_cells {fuel : Nat} {t e : TypeId} {n : Nat} {k : IntKind} {cs : List Value} {zs : List Int} {p : List MemPlace} (ht : P.underlying t = some (.array n e)) (he : P.underlying e = some (.int k)) (hce : P.cellsOf e = 1)
    (hn : zs.length = n) (hct : P.cellsOf t = n) (h : DataW.trod enc P w base spare held fuel t cs = some (.agg (zs.map fun z => .lit (.int k z)), p)) : ∀ i, (hi : i < zs.length) → cs[i]? = some (.int k zs[i]) := by
  obtain ⟨xs, m, _, hx, hl, hxs, hall⟩ := DataW.trod_array ht h
  intro i hi
  have h1 := hall i (by omega)
  simp only [Prod.mk.injEq, DataW.agg.injEq] at hx
  rw [hce, Nat.mul_one, List.getElem?_eq_getElem (by omega)] at h1
  have hlt : i < cs.length := by omega
  rw [List.drop_eq_getElem_cons hlt] at h1
  obtain ⟨z, hz, hy, _⟩ := DataW.trod_int he h1
  simp only [List.take_succ_cons, List.take_zero, List.cons.injEq, and_true] at hz
  rw [List.getElem?_eq_getElem hlt, hz]
  have h2 : (xs.map (·.1))[i]? = (zs.map fun z => DataW.lit (H := H) (.int k z))[i]? := by rw [← hx.1]
  rw [List.getElem?_map, List.getElem?_map, List.getElem?_eq_getElem (by omega), List.getElem?_eq_getElem hi, hy] at h2
  simp only [Option.map_some, Option.some.injEq, DataW.lit.injEq, Lit.int.injEq, true_and] at h2
  rw [h2]
end
def turnsZ : List Int := [0, 1, 62, 28, 27, 36, 44, 6, 55, 20, 3, 10, 43, 25, 39, 41, 45, 15, 21, 8, 18, 2, 61, 56, 14]
def marksZ : List Int := [1, 32898, 9223372036854808714, 9223372039002292224, 32907, 2147483649, 9223372039002292353, 9223372036854808585, 138, 136, 2147516425, 2147483658, 2147516555, 9223372036854775947, 9223372036854808713, 9223372036854808579, 9223372036854808578, 9223372036854775936, 32778, 9223372039002259466, 9223372039002292353, 9223372036854808704, 2147483649, 9223372039002292232]
theorem turnsZ_get : ∀ i : Fin 25, turnsZ[i.val]? = some (turnsN i.val : Int) := by decide +kernel
theorem marksZ_get : ∀ i : Fin 24, marksZ[i.val]? = some (u64 (marksN i.val)) := by decide +kernel
def seatLaid : List (String × DataW Unit) := [("vouch/sponge.turns", Rows.laid_vouch_sponge_turns), ("vouch/sponge.marks", Rows.laid_vouch_sponge_marks), ("vouch/trie.errMissing", Rows.laid_vouch_trie_errMissing), ("vouch/trie.errHash", Rows.laid_vouch_trie_errHash), ("vouch/trie.errShape", Rows.laid_vouch_trie_errShape)]
theorem turns_named : Tryd.prog.globalNamed "vouch/sponge.turns" = some 4 := by kernel_rfl
theorem marks_named : Tryd.prog.globalNamed "vouch/sponge.marks" = some 3 := by kernel_rfl
theorem turns_type : (Tryd.prog.globals[4]?).map (·.type) = some 159 := by kernel_rfl
theorem marks_type : (Tryd.prog.globals[3]?).map (·.type) = some 142 := by kernel_rfl
theorem missing_named : Tryd.prog.globalNamed "vouch/trie.errMissing" = some 0 := by kernel_rfl
theorem hash_named : Tryd.prog.globalNamed "vouch/trie.errHash" = some 1 := by kernel_rfl
theorem shape_named : Tryd.prog.globalNamed "vouch/trie.errShape" = some 2 := by kernel_rfl
theorem missing_type : (Tryd.prog.globals[0]?).map (·.type) = some 90 := by kernel_rfl
theorem hash_type : (Tryd.prog.globals[1]?).map (·.type) = some 90 := by kernel_rfl
theorem shape_type : (Tryd.prog.globals[2]?).map (·.type) = some 90 := by kernel_rfl
theorem err_cell {W : World} {g : Nat} {nm : String} {fuel : Nat} {cs : Array Value} {base : Nat} {spare : Nat → Bool} {H : Type} {enc : TypeId × Value → H} {tn : String} {d : DataW H} {p : List MemPlace} (hn : Tryd.prog.globalNamed nm = some g) (hv : W.var? Tryd.prog nm = some cs)
    (h : DataW.trod enc Tryd.prog W base spare false fuel 90 cs.toList = some (.iface tn d, p)) : ∃ tp ev, W.cell? ⟨g, 0, none⟩ = some (.iface tp ev) := by
  obtain ⟨f1, u, v, hc, _⟩ := iface_of_trod Tryd.underlying90 h
  refine ⟨u, v, ?_⟩
  rw [World.var?_cell hn hv 0, ← Array.getElem?_toList, hc]
  rfl
theorem wf_int64 {n : Int} (h : (Lit.int .i64 n).wf = true) : -9223372036854775808 ≤ n ∧ n ≤ 9223372036854775807 := by
  simp [Lit.wf, IntKind.min, IntKind.max, IntKind.signed, IntKind.bits] at h
  omega
/-- All that the rows say of the program's variables. -/
structure LaidW (W : World) : Prop where
  tables : Tables W
  errs : Errs W
  low : Lows W.heap.size
theorem tables_of_laid {W : World} (h : laidMet Tryd.prog seatLaid W) : LaidW W := by
  obtain ⟨ps, hl, _, _⟩ := h
  obtain ⟨g, t, cs, fuel, p, q, hg, ht, hvar, hd, hr, _⟩ := hl
  obtain ⟨g2, t2, cs2, fuel2, p2, q2, hg2, ht2, hvar2, hd2, hr2, _⟩ := hr
  obtain ⟨g3, t3, cs3, fuel3, p3, q3, hg3, ht3, hvar3, hd3, hr3, _⟩ := hr2
  obtain ⟨g4, t4, cs4, fuel4, p4, q4, hg4, ht4, hvar4, hd4, hr4, _⟩ := hr3
  obtain ⟨g5, t5, cs5, fuel5, p5, q5, hg5, ht5, hvar5, hd5, _, _⟩ := hr4
  obtain rfl := Option.some.inj (missing_type.symm.trans ((Option.some.inj (missing_named.symm.trans hg3)) ▸ ht3))
  obtain rfl := Option.some.inj (hash_type.symm.trans ((Option.some.inj (hash_named.symm.trans hg4)) ▸ ht4))
  obtain rfl := Option.some.inj (shape_type.symm.trans ((Option.some.inj (shape_named.symm.trans hg5)) ▸ ht5))
  have c3 := err_cell missing_named hvar3 hd3
  have c4 := err_cell hash_named hvar4 hd4
  have c5 := err_cell shape_named hvar5 hd5
  obtain rfl := Option.some.inj (turns_named.symm.trans hg)
  obtain rfl := Option.some.inj (turns_type.symm.trans ht)
  obtain rfl := Option.some.inj (marks_named.symm.trans hg2)
  obtain rfl := Option.some.inj (marks_type.symm.trans ht2)
  have e1 := laid_cells (zs := turnsZ) (k := .i64) Tryd.underlying159 Tryd.underlying3 (by kernel_rfl) rfl (by kernel_rfl) hd
  have e2 := laid_cells (zs := marksZ) (k := .u64) Tryd.underlying142 Tryd.underlying118 (by kernel_rfl) rfl (by kernel_rfl) hd2
  have t1 : Holds W 4 25 turnsV := fun i hi => by
    rw [World.var?_cell turns_named hvar i, ← Array.getElem?_toList, e1 i hi]
    have := turnsZ_get ⟨i, hi⟩
    rw [List.getElem?_eq_getElem hi] at this
    rw [Option.some.inj this]
    rfl
  have t2 : Holds W 3 24 (lanes marksN) := fun i hi => by
    rw [World.var?_cell marks_named hvar2 i, ← Array.getElem?_toList, e2 i hi]
    have := marksZ_get ⟨i, hi⟩
    rw [List.getElem?_eq_getElem hi] at this
    rw [Option.some.inj this]
    rfl
  have a := t1 0 (by omega)
  have b := t2 0 (by omega)
  have a' := block_lt_of_cell a
  have b' := block_lt_of_cell b
  have l3 : 0 < W.heap.size := by obtain ⟨_, _, h⟩ := c3; exact block_lt_of_cell h
  have l4 : 1 < W.heap.size := by obtain ⟨_, _, h⟩ := c4; exact block_lt_of_cell h
  have l5 : 2 < W.heap.size := by obtain ⟨_, _, h⟩ := c5; exact block_lt_of_cell h
  simp only at a' b'
  refine ⟨⟨t1, t2, by omega⟩, fun g hg => ?_, ⟨l3, l4, l5, a', b'⟩⟩
  rcases hg with rfl | rfl | rfl
  · exact c3
  · exact c4
  · exact c5
end Go.Proofs.YtfhindffmghlaaaDoor
