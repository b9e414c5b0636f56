/- Arguments opened: what a reading says of the cells. No program in sight. -/
import Derived.Test.YtfhindffmghlaaaDoorG01
import Derived.OpenShut
import Derived.ProofKit
import Derived.SizedLaws
import Derived.Test.YtfhindffmghlaaaDoorG18
import Derived.ChangeSame
set_option linter.unusedVariables false
set_option linter.unusedSimpArgs false
namespace Go.Proofs.YtfhindffmghlaaaDoor
open Go.RowKit Go.ChangeShapes Go.WideShapes
section
variable {H : Type} {enc : TypeId × Value → H} {P : Program} {w : World} {base : Nat} {spare : Nat → Bool} {held : Bool}
theorem wf_u64 {n : Int} (h : (Lit.int .u64 n).wf = true) : ∃ b : BitVec 64, n = u64 b := by
  simp [Lit.wf, IntKind.min, IntKind.max, IntKind.signed, IntKind.bits] at h
  refine ⟨BitVec.ofNat 64 n.toNat, ?_⟩
  unfold u64
  rw [BitVec.toNat_ofNat]
  omega
/-- An array of lanes. -/
theorem open_lanes {r : Reach} {b0 : Nat} {t e : TypeId} {n : Nat} {v : Value} {d : DataW H} {p : List MemPlace} (ht : P.underlying t = some (.array n e)) (he : P.underlying e = some (.int .u64)) (hce : P.cellsOf e = 1) (hct : P.cellsOf t = n)
    (hv : Value.okWide P w r b0 t v) (h : DataW.Trod enc P w base spare held t v d p) : ∃ S : Nat → BitVec 64, v = .agg (tab n (lanes S)) := by
  obtain ⟨fuel, hf⟩ := h
  obtain ⟨xs, m, _, _, hl, hx, hall⟩ := DataW.trod_array ht hf
  have hagg : ∃ cs : Array Value, v = .agg cs := by
    simp only [Value.okWide, ht] at hv
    obtain ⟨cs, h1, _⟩ := hv
    exact ⟨cs, h1⟩
  obtain ⟨cs, rfl⟩ := hagg
  rw [hct] at hl
  simp only [Value.cells] at hl hall
  have hone : ∀ i, i < n → ∃ b : BitVec 64, cs.toList[i]? = some (.int .u64 (u64 b)) := by
    intro i hi
    have h1 := hall i hi
    rw [hce, Nat.mul_one, List.getElem?_eq_getElem (by omega)] at h1
    have hlt : i < cs.toList.length := by omega
    rw [List.drop_eq_getElem_cons hlt] at h1
    obtain ⟨z, hz, _, hw⟩ := DataW.trod_int he h1
    obtain ⟨b, rfl⟩ := wf_u64 hw
    simp only [List.take_succ_cons, List.take_zero, List.cons.injEq, and_true] at hz
    exact ⟨b, by rw [List.getElem?_eq_getElem hlt, hz]⟩
  refine ⟨fun i => if h : i < n then (hone i h).choose else 0, ?_⟩
  congr 1
  apply Array.ext'
  apply List.ext_getElem?
  intro i
  by_cases hi : i < n
  · rw [(hone i hi).choose_spec]
    simp [tab, hi, lanes]
  · rw [List.getElem?_eq_none (by omega)]
    simp [tab, hi]
end
end Go.Proofs.YtfhindffmghlaaaDoor
/- Arguments opened: slices. No program in sight. -/
namespace Go.Proofs.YtfhindffmghlaaaDoor
open Go.RowKit Go.ChangeShapes Go.WideShapes
section
variable {H : Type} {enc : TypeId × Value → H} {P : Program} {w : World} {base : Nat} {spare : Nat → Bool} {held : Bool}
theorem weights_mem_all {e : TypeId} : ∀ {l : List (DataW H)} {d : DataW H}, d ∈ l → ∀ n ∈ d.weights P e, n ∈ DataW.weightsAll P e l
  | a :: l, d, h, n, hn => by
    unfold DataW.weightsAll
    rw [List.mem_append]
    rcases List.mem_cons.1 h with rfl | h
    · exact Or.inl hn
    · exact Or.inr (weights_mem_all h n hn)
/-- A slice: its elements' cells, each with its reading and its weights. -/
theorem open_elems {t e : TypeId} {k : Nat} {c0 : Value} {fuel : Nat} {x : DataW H × List MemPlace} (ht : P.underlying t = some (.slice e)) (hc : P.cellsOf e = k) (hk : 0 < k)
    (h : DataW.trod enc P w base spare held fuel t [c0] = some x) (hw : ∀ n ∈ x.1.weights P t, n ≤ reachBytes) (Φ : List Value → Prop)
    (hΦ : ∀ m cs y, DataW.trod enc P w base spare held m e cs = some y → (∀ n ∈ y.1.weights P e, n ≤ reachBytes) → Φ cs) :
    ∃ (A : Option Addr) (cap : Nat) (xs : List (List Value)), c0 = .slice A xs.length cap ∧ xs.length ≤ cap ∧ cap ≤ maxLen ∧ xs.length * P.bytesOf e ≤ reachBytes ∧
      (∀ j (hj : j < xs.length), ∃ ad, A = some ad ∧ ad.block < w.heap.size ∧ xs[j].length = k ∧ ∀ i, i < k → w.cell? (ad.add (j * k + i)) = xs[j][i]?) ∧ ∀ y ∈ xs, Φ y := by
  rcases DataW.trod_slice ht h with ⟨h0, _⟩ | ⟨a, len, cap, elems, rest, n, _, hcs, rfl, hb, hl, hm, hlen, hel, hsp, hns⟩
  · exact ⟨none, 0, [], by simpa using h0, by simp, by simp, by simp, fun j hj => absurd hj (by simp), fun y hy => by cases hy⟩
  have hwl : (elems.length + rest.length) * P.bytesOf e ≤ reachBytes := hw _ (by simp [DataW.weights, ht])
  have hwe : ∀ y ∈ elems, ∀ n ∈ y.1.weights P e, n ≤ reachBytes := fun y hy n hn => hw n (by
    unfold DataW.weights
    rw [ht]
    exact List.mem_cons_of_mem _ (List.mem_append_left _ (weights_mem_all (List.mem_map_of_mem hy) n hn)))
  have each : ∀ i, i < len → ∃ cs y, elems[i]? = some y ∧ w.cells? base (a.add (i * k)) k = some cs ∧ DataW.trod enc P w base spare held n e cs = some y := by
    intro i hi
    have h1 := hel i hi
    rw [hc, List.getElem?_eq_getElem (by omega), Option.bind_eq_some_iff] at h1
    obtain ⟨cs, h2, h3⟩ := h1
    exact ⟨cs, _, List.getElem?_eq_getElem (by omega), h2, h3⟩
  let f : Nat → List Value := fun i => if h : i < len then (each i h).choose else []
  have hf : ∀ i, i < len → ∃ y, elems[i]? = some y ∧ w.cells? base (a.add (i * k)) k = some (f i) ∧ DataW.trod enc P w base spare held n e (f i) = some y := by
    intro i hi
    have := (each i hi).choose_spec
    simp only [f, dif_pos hi]
    exact this
  refine ⟨some a, cap, (List.range len).map f, by simpa using hcs, by simpa using hl, hm, ?_, ?_, ?_⟩
  · rw [List.length_map, List.length_range]
    refine Nat.le_trans (Nat.mul_le_mul_right _ ?_) hwl
    omega
  · intro j hj
    have hj' : j < len := by simpa using hj
    obtain ⟨y, _, h2, _⟩ := hf j hj'
    obtain ⟨_, h3, h4⟩ := World.cells?_some h2
    have e : ((List.range len).map f)[j] = f j := by simp
    have hadd : ∀ i, (a.add (j * k)).add i = a.add (j * k + i) := fun i => add_add' a (j * k) i
    refine ⟨a, rfl, ?_, by rw [e]; exact h3, fun i hi => by rw [e, ← hadd]; exact h4 i hi⟩
    have h5 := h4 0 hk
    rw [List.getElem?_eq_getElem (by omega), hadd] at h5
    have h6 : (a.add (j * k + 0)).block = a.block := block_add a _
    rcases Nat.lt_or_ge a.block w.heap.size with h7 | h7
    · exact h7
    · rw [← h6] at h7
      unfold World.cell? at h5
      rw [Array.getElem?_eq_none h7] at h5
      cases h5
  · intro y hy
    obtain ⟨i, hi, rfl⟩ := List.mem_map.1 hy
    have hi' : i < len := by simpa using hi
    obtain ⟨z, h1, _, h3⟩ := hf i hi'
    exact hΦ n _ z h3 (hwe z (List.mem_of_getElem? h1))
/-- .. whose elements are one cell each. -/
theorem open_seq {t e : TypeId} {c0 : Value} {fuel : Nat} {x : DataW H × List MemPlace} (ht : P.underlying t = some (.slice e)) (hc : P.cellsOf e = 1)
    (h : DataW.trod enc P w base spare held fuel t [c0] = some x) (hw : ∀ n ∈ x.1.weights P t, n ≤ reachBytes) (Φ : Value → Prop)
    (hΦ : ∀ m c y, DataW.trod enc P w base spare held m e [c] = some y → (∀ n ∈ y.1.weights P e, n ≤ reachBytes) → Φ c) :
    ∃ (A : Option Addr) (cap : Nat) (xs : List Value), c0 = .slice A xs.length cap ∧ xs.length ≤ cap ∧ cap ≤ maxLen ∧ xs.length * P.bytesOf e ≤ reachBytes ∧ Seq w w.heap.size A xs ∧ ∀ y ∈ xs, Φ y := by
  obtain ⟨A, cap, xs, h1, h2, h3, h4, h5, h6⟩ := open_elems ht hc (by omega) h hw (fun cs => ∀ c, cs = [c] → Φ c) (fun m cs y hy hn c hcs => by subst hcs; exact hΦ m c y hy hn)
  have hone : ∀ j (hj : j < xs.length), ∃ c, xs[j] = [c] := fun j hj => by
    obtain ⟨_, _, _, hl, _⟩ := h5 j hj
    exact List.length_eq_one_iff.1 hl
  refine ⟨A, cap, xs.map (·.headD (.bool false)), by simpa using h1, by simpa using h2, h3, by simpa using h4, fun hn => ?_, ?_⟩
  · obtain ⟨ad, rfl, hb, _, _⟩ := h5 0 (by simpa using hn)
    refine ⟨ad, rfl, hb, fun j hj => ?_⟩
    have hj' : j < xs.length := by simpa using hj
    obtain ⟨ad', e1, _, _, hcell⟩ := h5 j hj'
    obtain ⟨c, hcx⟩ := hone j hj'
    have h7 := hcell 0 (by omega)
    obtain rfl : ad = ad' := by simpa using e1
    rw [Nat.mul_one, Nat.add_zero] at h7
    rw [h7, hcx]
    simp [hcx]
  · intro y hy
    obtain ⟨z, hz, rfl⟩ := List.mem_map.1 hy
    obtain ⟨j, hj, rfl⟩ := List.getElem_of_mem hz
    obtain ⟨c, hcx⟩ := hone j hj
    rw [hcx]
    exact h6 _ hz c hcx
theorem list_of {α β : Type} (f : β → α) : ∀ (xs : List α), (∀ x ∈ xs, ∃ b, x = f b) → ∃ l : List β, xs = l.map f
  | [], _ => ⟨[], rfl⟩
  | x :: xs, h => by
    obtain ⟨b, rfl⟩ := h x (by simp)
    obtain ⟨l, rfl⟩ := list_of f xs fun y hy => h y (by simp [hy])
    exact ⟨b :: l, rfl⟩
theorem wf_u8 {n : Int} (h : (Lit.int .u8 n).wf = true) : ∃ b : UInt8, n = by8 b := by
  simp [Lit.wf, IntKind.min, IntKind.max, IntKind.signed, IntKind.bits] at h
  refine ⟨UInt8.ofNat n.toNat, ?_⟩
  unfold by8
  rw [UInt8.toNat_ofNat']
  omega
/-- A slice of bytes, by its one cell. -/
theorem open_bytes1 {t e : TypeId} {c0 : Value} {fuel : Nat} {x : DataW H × List MemPlace} (ht : P.underlying t = some (.slice e)) (he : P.underlying e = some (.int .u8)) (hc : P.cellsOf e = 1) (hb : P.bytesOf e = 1)
    (h : DataW.trod enc P w base spare held fuel t [c0] = some x) (hw : ∀ n ∈ x.1.weights P t, n ≤ reachBytes) :
    ∃ (A : Option Addr) (cap : Nat) (l : List UInt8), c0 = .slice A l.length cap ∧ l.length ≤ cap ∧ cap ≤ maxLen ∧ l.length ≤ reachBytes ∧ Seq w w.heap.size A (bytes l) := by
  obtain ⟨A, cap, xs, h1, h2, h3, h4, h5, h6⟩ := open_seq ht hc h hw (fun c => ∃ b, c = byt b) (fun m c y hy _ => by
    obtain ⟨n, hn, _, hwf⟩ := DataW.trod_int he hy
    obtain ⟨b, rfl⟩ := wf_u8 hwf
    exact ⟨b, (List.cons.inj hn).1⟩)
  obtain ⟨l, rfl⟩ := list_of byt xs h6
  rw [List.length_map] at h1 h2 h4
  exact ⟨A, cap, l, h1, h2, h3, by rw [hb, Nat.mul_one] at h4; exact h4, h5⟩
theorem open_slice {r : Reach} {b0 : Nat} {t e : TypeId} {v : Value} {d : DataW H} {p : List MemPlace} (ht : P.underlying t = some (.slice e)) (hv : Value.okWide P w r b0 t v) (h : DataW.Trod enc P w base spare held t v d p) :
    ∃ fuel, DataW.trod enc P w base spare held fuel t [v] = some (d, p) := by
  obtain ⟨a, len, cap, rfl⟩ := okWide_slice ht hv
  exact h
theorem open_bytes {r : Reach} {b0 : Nat} {t e : TypeId} {v : Value} {d : DataW H} {p : List MemPlace} (ht : P.underlying t = some (.slice e)) (he : P.underlying e = some (.int .u8)) (hc : P.cellsOf e = 1) (hb : P.bytesOf e = 1)
    (hv : Value.okWide P w r b0 t v) (h : DataW.Trod enc P w base spare held t v d p) (hw : ∀ n ∈ d.weights P t, n ≤ reachBytes) :
    ∃ (A : Option Addr) (cap : Nat) (l : List UInt8), v = .slice A l.length cap ∧ l.length ≤ cap ∧ cap ≤ maxLen ∧ l.length ≤ reachBytes ∧ Seq w w.heap.size A (bytes l) := by
  obtain ⟨fuel, hf⟩ := open_slice ht hv h
  exact open_bytes1 ht he hc hb hf hw
theorem open_pieces {r : Reach} {b0 : Nat} {t s e : TypeId} {v : Value} {d : DataW H} {p : List MemPlace} (ht : P.underlying t = some (.slice s)) (hs : P.underlying s = some (.slice e)) (he : P.underlying e = some (.int .u8)) (hc : P.cellsOf e = 1) (hb : P.bytesOf e = 1)
    (hcs : P.cellsOf s = 1) (hbs : P.bytesOf s = 24) (hv : Value.okWide P w r b0 t v) (h : DataW.Trod enc P w base spare held t v d p) (hw : ∀ n ∈ d.weights P t, n ≤ reachBytes) :
    ∃ (A : Option Addr) (cap : Nat) (ps : List Piece), v = .slice A ps.length cap ∧ ps.length ≤ cap ∧ cap ≤ maxLen ∧ ps.length ≤ reachBytes ∧ Seq w w.heap.size A (pcs ps) ∧
      ∀ q ∈ ps, q.2.2.length ≤ q.2.1 ∧ q.2.1 ≤ maxLen ∧ q.2.2.length ≤ reachBytes ∧ Seq w w.heap.size q.1 (bytes q.2.2) := by
  obtain ⟨fuel, hf⟩ := open_slice ht hv h
  obtain ⟨A, cap, xs, h1, h2, h3, h4, h5, h6⟩ := open_seq ht hcs hf hw (fun c => ∃ q : { q : Piece // q.2.2.length ≤ q.2.1 ∧ q.2.1 ≤ maxLen ∧ q.2.2.length ≤ reachBytes ∧ Seq w w.heap.size q.1 (bytes q.2.2) }, c = pcV q.1) (fun m c y hy hn => by
    obtain ⟨A, cap, l, g1, g2, g3, g4, g5⟩ := open_bytes1 hs he hc hb hy hn
    exact ⟨⟨(A, cap, l), g2, g3, g4, g5⟩, g1⟩)
  obtain ⟨l, rfl⟩ := list_of (fun q : { q : Piece // q.2.2.length ≤ q.2.1 ∧ q.2.1 ≤ maxLen ∧ q.2.2.length ≤ reachBytes ∧ Seq w w.heap.size q.1 (bytes q.2.2) } => pcV q.1) xs h6
  rw [List.length_map] at h1 h2 h4
  refine ⟨A, cap, l.map (·.1), by rw [List.length_map]; exact h1, by rw [List.length_map]; exact h2, h3, ?_, ?_, ?_⟩
  · rw [List.length_map]; rw [hbs] at h4; omega
  · have : pcs (l.map (·.1)) = l.map fun q => pcV q.1 := by simp [pcs]
    rw [this]
    exact h5
  · intro q hq
    obtain ⟨z, _, rfl⟩ := List.mem_map.1 hq
    exact z.2
/-- A slice of ints. -/
theorem open_nums {r : Reach} {b0 : Nat} {t e : TypeId} {v : Value} {d : DataW H} {p : List MemPlace} (ht : P.underlying t = some (.slice e)) (he : P.underlying e = some (.int .i64)) (hc : P.cellsOf e = 1) (hb : P.bytesOf e = 8)
    (hv : Value.okWide P w r b0 t v) (h : DataW.Trod enc P w base spare held t v d p) (hw : ∀ n ∈ d.weights P t, n ≤ reachBytes) :
    ∃ (A : Option Addr) (cap : Nat) (l : List Int), v = .slice A l.length cap ∧ l.length ≤ cap ∧ cap ≤ maxLen ∧ l.length ≤ reachBytes ∧ Seq w w.heap.size A (l.map fun n => .int .i64 n) ∧ ∀ n ∈ l, -9223372036854775808 ≤ n ∧ n ≤ 9223372036854775807 := by
  obtain ⟨fuel, hf⟩ := open_slice ht hv h
  obtain ⟨A, cap, xs, h1, h2, h3, h4, h5, h6⟩ := open_seq ht hc hf hw (fun c => ∃ b : { n : Int // -9223372036854775808 ≤ n ∧ n ≤ 9223372036854775807 }, c = .int .i64 b.1) (fun m c y hy _ => by
    obtain ⟨n, hn, _, hwf⟩ := DataW.trod_int he hy
    simp [Lit.wf, IntKind.min, IntKind.max, IntKind.signed, IntKind.bits] at hwf
    exact ⟨⟨n, by omega, by omega⟩, by simpa using hn⟩)
  obtain ⟨l, rfl⟩ := list_of (fun b : { n : Int // -9223372036854775808 ≤ n ∧ n ≤ 9223372036854775807 } => Value.int .i64 b.1) xs h6
  rw [List.length_map] at h1 h2 h4
  refine ⟨A, cap, l.map (·.1), by rw [List.length_map]; exact h1, by rw [List.length_map]; exact h2, h3, ?_, ?_, ?_⟩
  · rw [List.length_map]; rw [hb] at h4; omega
  · rw [List.map_map]; exact h5
  · intro q hq
    obtain ⟨z, _, rfl⟩ := List.mem_map.1 hq
    exact z.2
end
end Go.Proofs.YtfhindffmghlaaaDoor
/- Pairs in memory; a list of puts. No walk. -/
namespace Go.Proofs.YtfhindffmghlaaaDoor
open Go.RowKit Go.ChangeShapes Go.WideShapes
/-- A pair: key, value. -/
abbrev PairL := Piece × Piece
def pairC (x : PairL) : List Value := [pcV x.1, pcV x.2]
def saidP (x : PairL) : List UInt8 × List UInt8 := (x.1.2.2, x.2.2.2)
def PairsAt (w : World) (B : Nat) (A : Option Addr) (l : List PairL) : Prop := ∀ j (h : j < l.length), ∃ ad, A = some ad ∧ ad.block < B ∧ ∀ i, i < 2 → w.cell? (ad.add (j * 2 + i)) = (pairC l[j])[i]?
/-- Pairs, with their bytes. -/
def PairsIn (w : World) (B : Nat) (A : Option Addr) (l : List PairL) : Prop := PairsAt w B A l ∧ ∀ x ∈ l, Seq w B x.1.1 (bytes x.1.2.2) ∧ Seq w B x.2.1 (bytes x.2.2.2) ∧ x.1.2.2.length ≤ x.1.2.1 ∧ x.2.2.2.length ≤ x.2.2.1 ∧ x.1.2.2.length ≤ reachBytes ∧ x.2.2.2.length ≤ reachBytes
section
variable {w w' : World} {B : Nat} {A : Option Addr} {l : List PairL}
theorem PairsAt.below (h : PairsAt w B A l) {B' : Nat} (hb : Below B' w w') (hB : B ≤ B') : PairsAt w' B A l := fun j hj => by
  obtain ⟨ad, rfl, hlt, hc⟩ := h j hj
  exact ⟨ad, rfl, hlt, fun i hi => by rw [← hc i hi]; exact hb.cell (by rw [block_add]; omega)⟩
theorem PairsIn.below (h : PairsIn w B A l) {B' : Nat} (hb : Below B' w w') (hB : B ≤ B') : PairsIn w' B A l :=
  ⟨h.1.below hb hB, fun x hx => ⟨(h.2 x hx).1.below hb hB, (h.2 x hx).2.1.below hb hB, (h.2 x hx).2.2⟩⟩
theorem PairsAt.get (h : PairsAt w B A l) (j : Nat) (hj : j < l.length) : ∃ ad, A = some ad ∧ ad.block < B ∧ w.cell? (ad.add (j * 2)) = some (pcV l[j].1) ∧ w.cell? ⟨(ad.add (j * 2)).block, (ad.add (j * 2)).off + 1, none⟩ = some (pcV l[j].2) := by
  obtain ⟨ad, e, hlt, hc⟩ := h j hj
  refine ⟨ad, e, hlt, hc 0 (by omega), ?_⟩
  have := hc 1 (by omega)
  rw [← add_add'] at this
  exact this
end
section
variable {H : Type} {enc : TypeId × Value → H} {P : Program} {w : World} {base : Nat} {spare : Nat → Bool} {held : Bool}
/-- A slice of pairs that came in. -/
theorem open_pairs {r : Reach} {b0 : Nat} {t s bs e : TypeId} {f0 f1 : Field} {v : Value} {d : DataW H} {p : List MemPlace} (ht : P.underlying t = some (.slice s)) (hs : P.underlying s = some (.struct #[f0, f1])) (hf0 : f0.type = bs) (hf1 : f1.type = bs) (ho0 : f0.offset = 0) (ho1 : f1.offset = 1)
    (hbs : P.underlying bs = some (.slice e)) (he : P.underlying e = some (.int .u8)) (hc : P.cellsOf e = 1) (hb : P.bytesOf e = 1)
    (hcs : P.cellsOf s = 2) (hcb : P.cellsOf bs = 1) (hbb : P.bytesOf s = 48) (hv : Value.okWide P w r b0 t v) (h : DataW.Trod enc P w base spare held t v d p) (hw : ∀ n ∈ d.weights P t, n ≤ reachBytes) :
    ∃ (A : Option Addr) (cap : Nat) (l : List PairL), v = .slice A l.length cap ∧ l.length ≤ cap ∧ cap ≤ maxLen ∧ l.length ≤ reachBytes ∧ PairsIn w w.heap.size A l := by
  obtain ⟨fuel, hf⟩ := open_slice ht hv h
  obtain ⟨A, cap, xs, h1, h2, h3, h4, h5, h6⟩ := open_elems ht hcs (by omega) hf hw (fun cs => ∃ x : { x : PairL // Seq w w.heap.size x.1.1 (bytes x.1.2.2) ∧ Seq w w.heap.size x.2.1 (bytes x.2.2.2) ∧ x.1.2.2.length ≤ x.1.2.1 ∧ x.2.2.2.length ≤ x.2.2.1 ∧ x.1.2.2.length ≤ reachBytes ∧ x.2.2.2.length ≤ reachBytes }, cs = pairC x.1) (fun m cs y hy hn => by
    obtain ⟨y0, y1, n, rfl, hlen, t0, t1⟩ := trod_struct2 hs hy
    rw [hcs] at hlen
    match cs, hlen with
    | [c0, c1], _ =>
      rw [hf0, ho0, hcb] at t0
      rw [hf1, ho1, hcb] at t1
      simp only [List.drop_zero, List.take_succ_cons, List.take_zero, List.drop_succ_cons] at t0 t1
      have hwe : ∀ n ∈ DataW.weightsEach P [bs, bs] [y0.1, y1.1], n ≤ reachBytes := fun n hn' => hn n (by
        unfold DataW.weights
        rw [hs]
        simp only
        rw [show (#[f0, f1] : Array Field).toList.map (·.type) = [bs, bs] by simp [hf0, hf1]]
        exact hn')
      obtain ⟨A0, k0, l0, g1, g2, g3, g4, g5⟩ := open_bytes1 hbs he hc hb t0 (fun n hn' => hwe n (by simp [DataW.weightsEach, hn']))
      obtain ⟨A1, k1, l1, e1, e2, e3, e4, e5⟩ := open_bytes1 hbs he hc hb t1 (fun n hn' => hwe n (by simp [DataW.weightsEach, hn']))
      exact ⟨⟨((A0, k0, l0), (A1, k1, l1)), g5, e5, g2, e2, g4, e4⟩, by rw [g1, e1]; rfl⟩)
  obtain ⟨l, rfl⟩ := list_of (fun x : { x : PairL // Seq w w.heap.size x.1.1 (bytes x.1.2.2) ∧ Seq w w.heap.size x.2.1 (bytes x.2.2.2) ∧ x.1.2.2.length ≤ x.1.2.1 ∧ x.2.2.2.length ≤ x.2.2.1 ∧ x.1.2.2.length ≤ reachBytes ∧ x.2.2.2.length ≤ reachBytes } => pairC x.1) xs h6
  rw [List.length_map] at h1 h2 h4
  refine ⟨A, cap, l.map (·.1), by rw [List.length_map]; exact h1, by rw [List.length_map]; exact h2, h3, by rw [List.length_map]; rw [hbb] at h4; omega, fun j hj => ?_, fun q hq => ?_⟩
  · rw [List.length_map] at hj
    obtain ⟨ad, e, hlt, _, hc⟩ := h5 j (by rw [List.length_map]; exact hj)
    refine ⟨ad, e, hlt, fun i hi => ?_⟩
    rw [hc i hi]
    simp
  · obtain ⟨z, _, rfl⟩ := List.mem_map.1 hq
    exact z.2
end
end Go.Proofs.YtfhindffmghlaaaDoor
