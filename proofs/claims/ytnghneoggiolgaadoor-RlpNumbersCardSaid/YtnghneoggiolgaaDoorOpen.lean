/- Arguments opened: what a reading says of the cells. No program in sight. -/
import Derived.Test.YtnghneoggiolgaaDoorWordsB
import Derived.OpenShut
import Derived.ProofKit
namespace Go.Proofs.YtnghneoggiolgaaDoor
open Go.RowKit Go.ChangeShapes Go.WideShapes
section
variable {H : Type} {enc : TypeId × Value → H} {P : Program} {w : World} {base : Nat} {spare : Nat → Bool} {held : Bool}
theorem wf_u64 {n : Int} (h : (Lit.int .u64 n).wf = true) : ∃ b : BitVec 64, n = u64 b := by
  simp [Lit.wf, IntKind.min, IntKind.max, IntKind.signed, IntKind.bits] at h
  refine ⟨BitVec.ofNat 64 n.toNat, ?_⟩
  unfold u64
  rw [BitVec.toNat_ofNat]
  omega
/-- An array of lanes. -/
theorem open_lanes {r : Reach} {b0 : Nat} {t e : TypeId} {n : Nat} {v : Value} {d : DataW H} {p : List MemPlace} (ht : P.underlying t = some (.array n e)) (he : P.underlying e = some (.int .u64)) (hce : P.cellsOf e = 1) (hct : P.cellsOf t = n)
    (hv : Value.okWide P w r b0 t v) (h : DataW.Trod enc P w base spare held t v d p) : ∃ S : Nat → BitVec 64, v = .agg (tab n (lanes S)) := by
  obtain ⟨fuel, hf⟩ := h
  obtain ⟨xs, m, _, _, hl, hx, hall⟩ := DataW.trod_array ht hf
  have hagg : ∃ cs : Array Value, v = .agg cs := by
    simp only [Value.okWide, ht] at hv
    obtain ⟨cs, h1, _⟩ := hv
    exact ⟨cs, h1⟩
  obtain ⟨cs, rfl⟩ := hagg
  rw [hct] at hl
  simp only [Value.cells] at hl hall
  have hone : ∀ i, i < n → ∃ b : BitVec 64, cs.toList[i]? = some (.int .u64 (u64 b)) := by
    intro i hi
    have h1 := hall i hi
    rw [hce, Nat.mul_one, List.getElem?_eq_getElem (by omega)] at h1
    have hlt : i < cs.toList.length := by omega
    rw [List.drop_eq_getElem_cons hlt] at h1
    obtain ⟨z, hz, _, hw⟩ := DataW.trod_int he h1
    obtain ⟨b, rfl⟩ := wf_u64 hw
    simp only [List.take_succ_cons, List.take_zero, List.cons.injEq, and_true] at hz
    exact ⟨b, by rw [List.getElem?_eq_getElem hlt, hz]⟩
  refine ⟨fun i => if h : i < n then (hone i h).choose else 0, ?_⟩
  congr 1
  apply Array.ext'
  apply List.ext_getElem?
  intro i
  by_cases hi : i < n
  · rw [(hone i hi).choose_spec]
    simp [tab, hi, lanes]
  · rw [List.getElem?_eq_none (by omega)]
    simp [tab, hi]
end
end Go.Proofs.YtnghneoggiolgaaDoor
