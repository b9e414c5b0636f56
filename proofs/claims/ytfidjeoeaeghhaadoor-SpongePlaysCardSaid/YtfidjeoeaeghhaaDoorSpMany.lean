/- Several sponges beside one another; small laws for the statements on them. -/
import Derived.Test.YtfidjeoeaeghhaaDoorSpPad
import Derived.Test.YtfidjeoeaeghhaaDoorSpKnow
import Derived.Test.YtfidjeoeaeghhaaDoorWordsC
import Derived.Test.YtfidjeoeaeghhaaDoorOpenB
import Derived.Deep.RegionHeld3
namespace Go.Proofs.YtfidjeoeaeghhaaDoor
open Go.RowKit Go.ChangeShapes Go.WideShapes
theorem wf_i64 {n : Int} (h : (Lit.int .i64 n).wf = true) : -9223372036854775808 ≤ n ∧ n ≤ 9223372036854775807 := by
  simp [Lit.wf, IntKind.min, IntKind.max, IntKind.signed, IntKind.bits] at h
  omega
def ptrV (g : Nat) : Value := .pointer (some ⟨g, 0, none⟩)
def ptrs (γ : Nat → Nat) (k : Nat) : List Value := (List.range k).map fun i => ptrV (γ i)
theorem ptrs_length (γ : Nat → Nat) (k : Nat) : (ptrs γ k).length = k := by simp [ptrs]
theorem ptrs_get (γ : Nat → Nat) (k i : Nat) (h : i < (ptrs γ k).length) : (ptrs γ k)[i] = .pointer (some ⟨γ i, 0, none⟩) := by simp [ptrs, ptrV]
theorem ptrs_succ (γ : Nat → Nat) (k : Nat) : ptrs γ (k + 1) = ptrs γ k ++ [ptrV (γ k)] := by simp [ptrs, List.range_succ]
theorem ptrs_congr {γ δ : Nat → Nat} {k : Nat} (h : ∀ i, i < k → γ i = δ i) : ptrs γ k = ptrs δ k := List.map_congr_left fun i hi => by rw [h i (by simpa using hi)]
theorem infoPtr : (Tryd.prog.info? 30).map (fun i => (i.zero, i.size, i.bytes)) = some (some (.pointer none), 1, 8) := by kernel_rfl
theorem elPtr : Elem Tryd.prog 28 30 1 8 := Elem.mk' Tryd.underlying28 infoPtr rfl (by decide)
/-- The bytes of the i-th sponge. -/
def ownL (l : List UInt8) (i : Nat) : List UInt8 := l.map fun b => b + UInt8.ofNat i
theorem ownL_take (l : List UInt8) (i k : Nat) (h : k < l.length) : ownL (l.take (k + 1)) i = ownL (l.take k) i ++ [l[k] + UInt8.ofNat i] := by
  unfold ownL
  rw [List.take_succ_eq_append_getElem h, List.map_append]
  rfl
theorem wrap_add8 (x y : UInt8) : IntKind.u8.wrap (by8 x + by8 y) = by8 (x + y) := by
  rw [IntKind.wrap_u8']
  unfold by8
  rw [UInt8.toNat_add]
  omega
theorem wrap_nat8 (i : Nat) (_ : i < 256) : IntKind.u8.wrap (i : Int) = by8 (UInt8.ofNat i) := by
  rw [IntKind.wrap_u8']
  unfold by8
  rw [UInt8.toNat_ofNat']
  omega
structure Many (w0 w : World) (γ : Nat → Nat) (n : Nat) (T : Nat → List UInt8) : Prop where
  below : Below w0.heap.size w0 w
  old : ∀ i, i < n → w0.heap.size ≤ γ i
  apart : ∀ i j, i < n → j < n → γ i = γ j → i = j
  at_ : ∀ i, i < n → SpAt w (γ i) (writeS (zeroS, 0) (T i)).1 (writeS (zeroS, 0) (T i)).2
theorem Many.belowAll {w0 w w' : World} {γ : Nat → Nat} {n : Nat} {T : Nat → List UInt8} (h : Many w0 w γ n T) (hb : Below w.heap.size w w') : Many w0 w' γ n T :=
  ⟨h.below.trans (hb.mono h.below.size), h.old, h.apart, fun i hi => Blk.below (h.at_ i hi) hb (Blk.lt (h.at_ i hi))⟩
theorem Many.wrote {w0 w w' : World} {γ : Nat → Nat} {n i : Nat} {T : Nat → List UInt8} (h : Many w0 w γ n T) (hi : i < n) (l : List UInt8) (hg : w.grownBy w' (some (γ i)))
    (hat : SpAt w' (γ i) (writeS (writeS (zeroS, 0) (T i)) l).1 (writeS (writeS (zeroS, 0) (T i)) l).2) : Many w0 w' γ n (fun j => if j = i then T i ++ l else T j) :=
  ⟨h.below.grown hg h.below.size (fun g e => by injection e with e; rw [← e]; exact h.old i hi), h.old, h.apart, fun j hj => by
    by_cases e : j = i
    · subst e
      rw [if_pos rfl, writeS_append]
      exact hat
    · simp only [if_neg e]
      exact (hg.block _ (Blk.lt (h.at_ j hj)) (fun e2 => e (h.apart _ _ hj hi (Option.some.inj e2)))).trans (h.at_ j hj)⟩
theorem Many.congr {w0 w : World} {γ : Nat → Nat} {n : Nat} {T T' : Nat → List UInt8} (h : Many w0 w γ n T) (e : ∀ i, i < n → T i = T' i) : Many w0 w γ n T' :=
  ⟨h.below, h.old, h.apart, fun i hi => by rw [← e i hi]; exact h.at_ i hi⟩
def extG (γ : Nat → Nat) (k g : Nat) (j : Nat) : Nat := if j = k then g else γ j
theorem extG_at (γ : Nat → Nat) (k g : Nat) : extG γ k g k = g := by unfold extG; rw [if_pos rfl]
theorem extG_ne {γ : Nat → Nat} {k g j : Nat} (h : j < k) : extG γ k g j = γ j := by unfold extG; rw [if_neg (by omega)]
theorem Many.extend {w0 w w' : World} {γ : Nat → Nat} {k g : Nat} {row : Option Nat} (h : Many w0 w γ k (fun _ => [])) (hsp : SpAt w g zeroS 0) (hg0 : w0.heap.size ≤ g) (hfar : ∀ j, j < k → γ j < g) (hg : w.grownBy w' row)
    (hr : ∀ j, j < k → row ≠ some (γ j)) (hr2 : row ≠ some g) (hr3 : ∀ q, row = some q → w0.heap.size ≤ q) : Many w0 w' (extG γ k g) (k + 1) (fun _ => []) :=
  ⟨h.below.grown hg h.below.size hr3, fun i hi => by
    by_cases e : i = k
    · subst e; rw [extG_at]; exact hg0
    · rw [extG_ne (by omega)]; exact h.old i (by omega), fun i j hi hj e => by
    by_cases e1 : i = k
    · by_cases e2 : j = k
      · omega
      · subst e1; rw [extG_at, extG_ne (by omega)] at e; have := hfar j (by omega); omega
    · by_cases e2 : j = k
      · subst e2; rw [extG_at, extG_ne (by omega)] at e; have := hfar i (by omega); omega
      · rw [extG_ne (by omega), extG_ne (by omega)] at e; exact h.apart i j (by omega) (by omega) e, fun i hi => by
    by_cases e : i = k
    · subst e; rw [extG_at]; exact (hg.block _ (Blk.lt hsp) (fun e => hr2 e.symm)).trans hsp
    · rw [extG_ne (by omega)]; exact (hg.block _ (Blk.lt (h.at_ i (by omega))) (fun e => hr i (by omega) e.symm)).trans (h.at_ i (by omega))⟩
theorem rangeAt_blk {w : World} {g : Nat} {t : TypeId} {cs : Array Value} (h : Blk w g t cs) : w.rangeAt g 0 cs.toList := fun j v hv => by
  rw [Nat.zero_add, h.cell]
  simpa using hv
theorem sameH_refl (E : Nat → UInt8) : sameH E E = true := (sameH_iff E E).2 fun _ _ => rfl
theorem cell_keep {wr w4 : World} {o : Obj} {g : Nat} {p : Addr} {v : Value} (hc : wr.cell? p = some v) (hlt : p.block < wr.heap.size) (hg : (wr.alloc o).drew.grownBy w4 (some g)) (hne : p.block ≠ g) : w4.cell? p = some v := by
  rw [← hc, ← World.cell?_alloc_lt wr o p hlt]
  exact World.cell?_of_block (w := (wr.alloc o).drew) (hg.block p.block (by show _ < (wr.alloc o).heap.size; simp; omega) (fun e => hne (Option.some.inj e)))
end Go.Proofs.YtfidjeoeaeghhaaDoor
