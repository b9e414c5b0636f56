/- TrieOrder's second trie: with the keys that it may hold; a row of pairs by its cells. -/
import Derived.Test.YtfhindffmghlaaaDoorMTOrderW
import Derived.Test.YtfhindffmghlaaaDoorMTAppCut
set_option linter.unusedVariables false
set_option linter.unusedSimpArgs false
namespace Go.Proofs.YtfhindffmghlaaaDoor
open Go.RowKit
/-- A trie of at most K nodes and its list, all keys of which are among these. -/
structure OrdK (w : World) (base K : Nat) (ks : List (List UInt8)) (Lu : List KV) (su : Tr × Nat) : Prop where
  keep : KeepK w base base K Lu su
  among : Among ks Lu
  len : Lu.length ≤ K
section
variable {w w' : World} {base K : Nat} {ks : List (List UInt8)} {Lu : List KV} {su : Tr × Nat}
theorem OrdK.below (h : OrdK w base K ks Lu su) (hb : Below w.heap.size w w') : OrdK w' base K ks Lu su := ⟨h.keep.below hb, h.among, h.len⟩
theorem OrdK.more {K' : Nat} (h : OrdK w base K ks Lu su) (hK : K ≤ K') (hK' : K' ≤ 1073741824) : OrdK w base K' ks Lu su := ⟨⟨h.keep.trie.more hK hK', h.keep.alike, h.keep.even⟩, h.among, Nat.le_trans h.len hK⟩
theorem step_len {L : List KV} {s : Tr × Nat} (h : Alike L s) (p : KV) : (stepL L p).length ≤ L.length + 1 := by
  have h1 := stepP_le s p
  have h2 := (alike_step h p).size
  have h3 := h.size
  omega
/-- What Put leaves. -/
def OPut (w : World) (base K : Nat) (ks : List (List UInt8)) (Lu : List KV) (p : KV) (e : Ending) (w' : World) : Prop :=
  ∃ (n : Nat) (su' : Tr × Nat), e = .returned (.int .i64 (n : Nat)) ∧ OrdK w' base (K + 2) ks (stepL Lu p) su' ∧ Turned base w w'
theorem oput_calls (h : OrdK w base K ks Lu su) (A : Option Addr) (c : Nat) (key : List UInt8) (A2 : Option Addr) (c2 : Nat) (value : List UInt8) (hK : K ≤ 2000) (hk : key.length ≤ 1073741824) (hv : value.length ≤ 131072) (hm : key ∈ ks) (hs : SeqK w A key) (hs2 : SeqB w A2 value) :
    Calls Tryd.prog 40 #[.pointer (some ⟨base, 0, none⟩), .slice A key.length c, .slice A2 value.length c2] w (OPut w base K ks Lu (key, value)) := by
  have hl := h.len
  refine (kput_calls h.keep A c key A2 c2 value (by omega) (by omega) hk hv hs hs2).mono ?_
  rintro e w' ⟨rfl, hk', htu⟩
  have h2 := step_len h.keep.alike (key, value)
  exact ⟨_, _, rfl, ⟨hk', among_step h.keep.alike.rising h.among hm, by omega⟩, htu⟩
/-- What Delete leaves. -/
def ODel (w : World) (base K : Nat) (ks : List (List UInt8)) (Lu : List KV) (key : List UInt8) (e : Ending) (w' : World) : Prop :=
  ∃ (b : Bool) (su' : Tr × Nat), e = .returned (.bool b) ∧ OrdK w' base K ks (goneL key Lu) su' ∧ Turned base w w'
theorem odel_calls (h : OrdK w base K ks Lu su) (A : Option Addr) (c : Nat) (key : List UInt8) (hk : key.length ≤ 1073741824) (hs : SeqK w A key) :
    Calls Tryd.prog 34 #[.pointer (some ⟨base, 0, none⟩), .slice A key.length c] w (ODel w base K ks Lu key) := by
  refine (kdel_calls h.keep A c key hk hs).mono ?_
  rintro e w' ⟨rfl, hk', htu⟩
  have h2 : (goneL key Lu).length ≤ Lu.length := List.length_filter_le _ _
  have h3 := h.len
  exact ⟨_, _, rfl, ⟨hk', among_gone h.among key, by omega⟩, htu⟩
end
theorem SeqT.pairsAt {w : World} {A : Option Addr} {l : List PairL} (h : SeqT w 40 A (flatP l)) : PairsAt w w.heap.size A l := fun j hj => by
  have hl := flatP_length l
  obtain ⟨ad, e, ⟨cs, hb⟩, hc⟩ := h (by omega)
  refine ⟨ad, e, hb.lt, fun i hi => ?_⟩
  rw [hc (j * 2 + i) (by omega), ← flatP_get l j i hj hi, List.getElem?_eq_getElem]
theorem SeqT.turned {w w' : World} {base : Nat} {A : Option Addr} {l : List PairL} (h : SeqT w 40 A (flatP l)) (ht : Turned base w w') : SeqT w' 40 A (flatP l) := h.keep fun _ _ hb => ht.blk hb (by decide) (by decide)
theorem flatP_cut (l : List PairL) (k : Nat) (h : k ≤ l.length) : flatP l = flatP (l.take k) ++ flatP (l.drop k) ∧ (flatP (l.take k)).length = k * 2 := by
  refine ⟨by rw [← flatP_append, List.take_append_drop], ?_⟩
  rw [flatP_length, List.length_take, Nat.min_eq_left h]
theorem flatP_take (l : List PairL) (k : Nat) (h : k ≤ l.length) : flatP (l.take k) = (flatP l).take (k * 2) := by
  obtain ⟨h1, h2⟩ := flatP_cut l k h
  rw [h1, List.take_append_of_le_length (Nat.le_of_eq h2.symm), List.take_of_length_le (Nat.le_of_eq h2)]
theorem flatP_drop (l : List PairL) (k : Nat) (h : k ≤ l.length) : flatP (l.drop k) = (flatP l).drop (k * 2) := by
  obtain ⟨h1, h2⟩ := flatP_cut l k h
  rw [h1, List.drop_append, List.drop_of_length_le (Nat.le_of_eq h2), h2, Nat.sub_self, List.nil_append, List.drop_zero]
end Go.Proofs.YtfhindffmghlaaaDoor
