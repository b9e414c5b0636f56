/- What the laws of chapter 26 begin with. No walk. -/
import Derived.Test.YtfhindffmghlaaaDoorMTClash
import Derived.Test.YtfhindffmghlaaaDoorMTAble
import Derived.Test.YtfhindffmghlaaaDoorG26
import Derived.Test.YtfhindffmghlaaaDoorG17
import Derived.Test.YtfhindffmghlaaaDoorG27
set_option linter.unusedVariables false
set_option linter.unusedSimpArgs false
namespace Go.Proofs.YtfhindffmghlaaaDoor
open Go.RowKit
section
variable {w w' : World} {B : Nat} {A : Option Addr} {l : List PairL}
theorem PairsIn.more {B' : Nat} (h : PairsIn w B A l) (hB : B ≤ B') : PairsIn w B' A l :=
  ⟨fun j hj => by
    obtain ⟨ad, e, hlt, hc⟩ := h.1 j hj
    exact ⟨ad, e, by omega, hc⟩, fun x hx => ⟨(h.2 x hx).1.more hB, (h.2 x hx).2.1.more hB, (h.2 x hx).2.2⟩⟩
theorem PairsIn.now (h : PairsIn w w.heap.size A l) (hb : Below w.heap.size w w') : PairsIn w' w'.heap.size A l := (h.below hb (Nat.le_refl _)).more hb.size
theorem Seq.now {xs : List Value} (h : Seq w w.heap.size A xs) (hb : Below w.heap.size w w') : Seq w' w'.heap.size A xs := (h.below hb (Nat.le_refl _)).more hb.size
theorem Lows.now (h : Lows w.heap.size) (hb : Below w.heap.size w w') : Lows w'.heap.size := Lows.mono h hb.size
theorem Tables.now (h : Tables w) (hb : Below w.heap.size w w') : Tables w' := h.below hb h.size
theorem Errs.now (h : Errs w) (hl : Lows w.heap.size) (hb : Below w.heap.size w w') : Errs w' := h.below hb hl
/-- Texts of its own as a row that Check takes. -/
theorem TextsAt.rowAt {base c : Nat} {us : List Piece} (h : TextsAt w base A c us) (hl : ∀ p ∈ us, p.2.2.length ≤ 524288) : RowAt w (.slice A us.length c) (us.map txt) :=
  ⟨A, c, us, rfl, rfl, own_cap h.row, own_capM h.row, SeqT.of_own h.row, fun p hp => ⟨(h.own p hp).seqB, own_cap (h.own p hp), own_capM (h.own p hp), hl p hp⟩⟩
theorem TextsAt.app {base c c1 c2 : Nat} {A1 A2 : Option Addr} {us vs : List Piece} (h : TextsAt w base A c us) (h2 : TextsAt w base A2 c2 vs) (hx : ∀ a ∈ us, ∀ b ∈ vs, Apart (pcV a) (pcV b))
    (ho : w'.ownsRow base 24 1 (.slice A1 (us.length + vs.length) c1) (us.length + vs.length) (pcs us ++ pcs vs)) (hg : w.grownBy w' (Value.slice A us.length c).ownBlock) : TextsAt w' base A1 c1 (us ++ vs) := by
  refine ⟨?_, fun y hy => ?_, ?_⟩
  · rw [List.length_append, show pcs (us ++ vs) = pcs us ++ pcs vs by simp [pcs]]
    exact ho
  · rcases List.mem_append.1 hy with hy | hy
    · exact (h.own y hy).grown h.row (by decide) hg
    · exact (h2.own y hy).grown h.row (by decide) hg
  · rw [List.pairwise_append]
    exact ⟨h.apart, h2.apart, hx⟩
theorem pcs_take (us : List Piece) (k : Nat) : (pcs us).take k = pcs (us.take k) := by simp [pcs, List.map_take]
theorem pcs_drop (us : List Piece) (k : Nat) : (pcs us).drop k = pcs (us.drop k) := by simp [pcs, List.map_drop]
theorem TextsAt.cross {base c c2 base2 : Nat} {A2 : Option Addr} {us vs : List Piece} (h : TextsAt w base A c us) (h2 : TextsAt w' base2 A2 c2 vs) (hb : w.heap.size ≤ base2) : ∀ a ∈ us, ∀ b ∈ vs, Apart (pcV a) (pcV b) := fun a ha b hb' => apart_old (h.own a ha) (h2.own b hb') hb
/-- A byte of one of its texts is put. -/
theorem TextsAt.put {base c k i g : Nat} {us : List Piece} {y : UInt8} (h : TextsAt w base A c us) (hk : k < us.length) (hA : us[k].1 = some ⟨g, 0, none⟩) (hi : i < us[k].2.2.length) :
    TextsAt (w.setCell ⟨g, i, none⟩ (byt y)) base A c (us.set k (us[k].1, us[k].2.1, us[k].2.2.set i y)) := by
  have hb : (pcV us[k]).ownBlock = some g := by unfold pcV; rw [hA]; rfl
  have hpc : ∀ j (hj : j < us.length), pcV ((us.set k (us[k].1, us[k].2.1, us[k].2.2.set i y))[j]'(by rw [List.length_set]; exact hj)) = pcV us[j] := fun j hj => by
    rw [List.getElem_set]
    split
    · rename_i e
      subst e
      unfold pcV
      rw [List.length_set]
    · rfl
  have hown := h.own _ (List.getElem_mem hk)
  refine ⟨?_, fun p hp => ?_, ?_⟩
  · have e1 : pcs (us.set k (us[k].1, us[k].2.1, us[k].2.2.set i y)) = pcs us := by
      apply List.ext_getElem
      · simp [pcs]
      · intro j h1 h2
        have hj : j < us.length := by simpa [pcs] using h2
        have := hpc j hj
        simp only [pcs, List.getElem_map]
        exact this
    rw [e1, List.length_set]
    exact own_only h.row (Only.setCell _ _ _) (fun e => own_two h.row hown (by decide) g e hb)
  · obtain ⟨j, hj, rfl⟩ := List.getElem_of_mem hp
    have hj' : j < us.length := by simpa using hj
    by_cases e : k = j
    · subst e
      rw [List.getElem_set_self]
      unfold OwnP pcV
      simp only [List.length_set]
      have h2 : w.ownsRow base 5 1 (.slice us[k].1 us[k].2.2.length us[k].2.1) us[k].2.2.length (bytes us[k].2.2) := hown
      rw [hA] at h2 ⊢
      have h3 := own_set h2 (i := i) (by rw [bytes_length]; exact hi) (byt y)
      rw [show (bytes us[k].2.2).set i (byt y) = bytes (us[k].2.2.set i y) by simp [bytes, List.map_set]] at h3
      exact h3
    · rw [List.getElem_set_ne e]
      refine own_only (h.own _ (List.getElem_mem hj')) (Only.setCell _ _ _) (fun e2 => ?_)
      rcases Nat.lt_or_ge j k with hlt | hge
      · exact List.pairwise_iff_getElem.1 h.apart j k hj' hk hlt g e2 hb
      · exact List.pairwise_iff_getElem.1 h.apart k j hk hj' (by omega) g hb e2
  · rw [List.pairwise_iff_getElem]
    intro a b ha hb' hab
    rw [hpc a (by simpa using ha), hpc b (by simpa using hb')]
    exact List.pairwise_iff_getElem.1 h.apart a b _ _ hab
theorem u8_xor (x y : UInt8) : bits .xor .u8 (by8 x) (by8 y) = by8 (x ^^^ y) := by
  have hx := x.toNat_lt
  have hy := y.toNat_lt
  have h1 : ∀ z : UInt8, BitVec.ofInt 8 (by8 z) = z.toBitVec := fun z => by
    apply BitVec.eq_of_toNat_eq
    unfold by8
    rw [BitVec.toNat_ofInt]
    have := z.toNat_lt
    show _ = z.toNat
    omega
  show IntKind.u8.wrap ((BitVec.ofInt 8 (by8 x) ^^^ BitVec.ofInt 8 (by8 y)).toNat : Nat) = by8 (x ^^^ y)
  rw [h1, h1, IntKind.wrap_u8']
  have e : (x.toBitVec ^^^ y.toBitVec).toNat = (x ^^^ y).toNat := rfl
  rw [e]
  have := (x ^^^ y).toNat_lt
  unfold by8
  omega
theorem TextsAt.seq {base c : Nat} {us : List Piece} (h : TextsAt w base A c us) : Seq w w.heap.size A (pcs us) := Seq.of_own h.row
theorem proofs_len {t : Tr} {path : List UInt8} {us : List Piece} (hb : Bnd 131072 t) (h : us.map txt = proofT hashL t path) : ∀ p ∈ us, p.2.2 ≠ [] ∧ p.2.2.length ≤ 262944 := fun p hp =>
  proofT_len hashL_length (M := 131072) (by omega) hb path _ (h ▸ List.mem_map.2 ⟨p, hp, rfl⟩)
theorem own_seqs {base : Nat} {us : List Piece} (h : ∀ p ∈ us, OwnP w base p) (hl : ∀ p ∈ us, p.2.2.length ≤ 524288) : ∀ p ∈ us, Seq w w.heap.size p.1 (bytes p.2.2) ∧ p.2.2.length ≤ 1099511627776 := fun p hp => ⟨(h p hp).seq, by have := hl p hp; omega⟩
theorem mem_txt {us vs : List Piece} {n : Nat} (h : ∀ p ∈ us, p.2.2.length ≤ n) (e : vs.map txt = us.map txt) : ∀ p ∈ vs, p.2.2.length ≤ n := fun p hp => by
  have h1 : txt p ∈ us.map txt := e ▸ List.mem_map.2 ⟨p, hp, rfl⟩
  obtain ⟨q, hq, hqe⟩ := List.mem_map.1 h1
  have := h q hq
  rw [show q.2.2 = p.2.2 from hqe] at this
  exact this
end
theorem checkT_bad {M : Nat} {t : Tr} {path : List UInt8} {texts : List (List UInt8)} (hM : M ≤ 549755813888) (hg : Good t) (hb : Bnd M t) (hn : Nibs path) (hc : NoClash hashL texts (proofT hashL t path)) (hne : texts ≠ proofT hashL t path) :
    checkT hashL (listOf (hashS (encT hashL t)) 32) texts path = none := by
  have := check_exact hashL_length hM hg hb hn hc
  rw [if_neg hne] at this
  exact this
end Go.Proofs.YtfhindffmghlaaaDoor
