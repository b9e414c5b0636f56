/- Bytes as numbers and as cells; pieces. (For the rows of chapters 25 and 26.) -/
import Derived.Test.YtnghneoggiolgaaDoorWordsC
import Derived.Test.YtnghneoggiolgaaDoorChecked
namespace Go.Proofs.YtnghneoggiolgaaDoor
open Go.RowKit
/-- A byte as a number. -/
def by8 (b : UInt8) : Int := (b.toNat : Int)
theorem by8_nonneg (b : UInt8) : 0 ≤ by8 b := by unfold by8; omega
theorem by8_lt (b : UInt8) : by8 b < 256 := by unfold by8; have := b.toNat_lt; omega
def byt (b : UInt8) : Value := .int .u8 (by8 b)
def bytes (l : List UInt8) : List Value := l.map byt
theorem bytes_length (l : List UInt8) : (bytes l).length = l.length := by simp [bytes]
theorem bytes_get (l : List UInt8) (i : Nat) (h : i < (bytes l).length) : (bytes l)[i] = .int .u8 (by8 (l[i]'(by simpa [bytes] using h))) := by simp [bytes, byt]
theorem bytes_append (a b : List UInt8) : bytes (a ++ b) = bytes a ++ bytes b := by simp [bytes]
theorem bytes_one (l : List UInt8) : ∀ u ∈ bytes l, u.oneCell' = true := by
  intro u hu
  obtain ⟨b, _, rfl⟩ := List.mem_map.1 hu
  rfl
abbrev Piece := Option Addr × Nat × List UInt8
def pcV (p : Piece) : Value := .slice p.1 p.2.2.length p.2.1
def pcs (ps : List Piece) : List Value := ps.map pcV
def joinP (ps : List Piece) : List UInt8 := (ps.map fun p => p.2.2).flatten
theorem infoByte : (Tryd.prog.info? 5).map (fun i => (i.zero, i.size, i.bytes)) = some (some (.int .u8 0), 1, 1) := by kernel_rfl
theorem elByte : Elem Tryd.prog 26 5 1 1 := Elem.mk' Tryd.underlying26 infoByte rfl (by decide)
theorem bytes_snoc (l : List UInt8) (x : UInt8) : bytes l ++ [.int .u8 (by8 x)] = bytes (l ++ [x]) := by simp [bytes, byt]
theorem pcs_snoc (ps : List Piece) (p : Piece) : pcs ps ++ [pcV p] = pcs (ps ++ [p]) := by simp [pcs]
theorem joinP_snoc (ps : List Piece) (p : Piece) : joinP (ps ++ [p]) = joinP ps ++ p.2.2 := by simp [joinP]
theorem wrap_add8 (x y : UInt8) : IntKind.u8.wrap (by8 x + by8 y) = by8 (x + y) := by
  rw [IntKind.wrap_u8']
  unfold by8
  rw [UInt8.toNat_add]
  omega
theorem wrap_nat8 (i : Nat) (_ : i < 256) : IntKind.u8.wrap (i : Int) = by8 (UInt8.ofNat i) := by
  rw [IntKind.wrap_u8']
  unfold by8
  rw [UInt8.toNat_ofNat']
  omega
theorem own_grown {w w' : World} {base : Nat} {e : TypeId} {size n : Nat} {v : Value} {xs : List Value} {row : Option Nat} (h : w.ownsRow base e size v n xs) (hg : w.grownBy w' row) (hne : ∀ q, v.ownBlock = some q → row ≠ some q) : w'.ownsRow base e size v n xs := by
  have hlt := h.lt
  obtain ⟨h1, h2⟩ := h
  refine ⟨h1, ?_⟩
  rcases h2 with h2 | ⟨g', cap, cur, rfl, hg', hh, r⟩
  · exact .inl h2
  · exact .inr ⟨g', cap, cur, rfl, hg', (hg.block g' (hlt g' rfl).2 (fun e => hne g' rfl e.symm)).trans hh, r⟩
theorem own_front {w : World} {base n : Nat} {e : TypeId} {A : Option Addr} {m c : Nat} {l r : List UInt8} (h : w.ownsRow base e 1 (.slice A m c) n (bytes (l ++ r))) (hm : m = n) : Seq w w.heap.size A (bytes l) := by
  subst hm
  have := (Seq.of_own h).take l.length
  rw [bytes_append, List.take_append_of_le_length (by rw [bytes_length]; exact Nat.le_refl _), List.take_of_length_le (by rw [bytes_length]; exact Nat.le_refl _)] at this
  exact this
theorem Blk.ne {w : World} {g g' : Nat} {t t' : TypeId} {cs cs' : Array Value} (h : Blk w g t cs) (h' : Blk w g' t' cs') (ht : t ≠ t') : g ≠ g' := by
  intro e
  subst e
  have h : w.heap[g]? = some (.cells cs t (0, 0)) := h
  have h' : w.heap[g]? = some (.cells cs' t' (0, 0)) := h'
  rw [h] at h'
  injection h' with h'
  injection h' with _ h'
  exact ht h'
theorem own_blk {w : World} {base : Nat} {e : TypeId} {size n : Nat} {v : Value} {xs : List Value} (h : w.ownsRow base e size v n xs) (q : Nat) (hq : v.ownBlock = some q) : ∃ cur, Blk w q e cur := by
  rcases h.2 with ⟨rfl, _⟩ | ⟨g, cap, cur, rfl, hg, hh, _⟩
  · simp [Value.ownBlock] at hq
  · have : some g = some q := hq
    injection this with this
    subst this
    exact ⟨cur, hh⟩
theorem own_two {w : World} {base base' : Nat} {e e' : TypeId} {size n size' n' : Nat} {v v' : Value} {xs xs' : List Value} (h : w.ownsRow base e size v n xs) (h' : w.ownsRow base' e' size' v' n' xs') (he : e ≠ e') (q : Nat) (hq : v.ownBlock = some q) : v'.ownBlock ≠ some q := fun hq' => by
  obtain ⟨c1, h1⟩ := own_blk h q hq
  obtain ⟨c2, h2⟩ := own_blk h' q hq'
  exact h1.ne h2 he rfl
theorem Blk.grownNe' {w w' : World} {g r : Nat} {t : TypeId} {cs : Array Value} (h : Blk w g t cs) (hg : w.grownBy w' (some r)) (hne : g ≠ r) : Blk w' g t cs :=
  (hg.block g h.lt (fun e => hne (Option.some.inj e))).trans h
theorem joinP_take (ps : List Piece) (k : Nat) (h : k < ps.length) : joinP (ps.take (k + 1)) = joinP (ps.take k) ++ ps[k].2.2 := by
  rw [List.take_succ_eq_append_getElem h]
  unfold joinP
  rw [List.map_append, List.flatten_append]
  simp
theorem joinP_le (ps : List Piece) (k : Nat) : (joinP (ps.take k)).length ≤ (joinP ps).length := by
  conv => rhs; rw [← List.take_append_drop k ps]
  unfold joinP
  rw [List.map_append, List.flatten_append, List.length_append]
  omega
def lenV : Value → Nat
  | .slice _ n _ => n
  | _ => 0
theorem grown_only {a w w' : World} {g : Nat} (h : a.grownBy w (some g)) (ho : Only g w w') : a.grownBy w' (some g) :=
  ⟨ho.os.trans h.os, ho.tape.trans h.tape, ho.output.trans h.output, by rw [ho.size]; exact h.size, fun k hk hne => (ho.block k (fun e => hne (by rw [e]))).trans (h.block k hk hne)⟩
theorem grown_below {a w w' : World} {row : Option Nat} (h : a.grownBy w row) (hb : Below w.heap.size w w') : a.grownBy w' row :=
  ⟨hb.os.trans h.os, hb.tape.trans h.tape, hb.output.trans h.output, Nat.le_trans h.size hb.size, fun k hk hne => (hb.block k (Nat.lt_of_lt_of_le hk h.size)).trans (h.block k hk hne)⟩
theorem grown_refl (w : World) (row : Option Nat) : w.grownBy w row := World.grownBy.refl w row
end Go.Proofs.YtnghneoggiolgaaDoor
