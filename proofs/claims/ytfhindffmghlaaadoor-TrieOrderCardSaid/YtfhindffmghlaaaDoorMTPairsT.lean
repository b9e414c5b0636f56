/- Pairs of a trie. -/
import Derived.Test.YtfhindffmghlaaaDoorMTAll
import Derived.Test.YtfhindffmghlaaaDoorG18
import Derived.Deep.RegionHeld3
set_option linter.unusedVariables false
set_option linter.unusedSimpArgs false
namespace Go.Proofs.YtfhindffmghlaaaDoor
open Go.RowKit
theorem bnd_more {M M' : Nat} (h : M ≤ M') : ∀ {t : Tr}, Bnd M t → Bnd M' t
  | .nil, _ => trivial
  | .node p ks v, hb => ⟨Nat.le_trans hb.1 h, hb.2.1, Nat.le_trans hb.2.2.1 h, fun i => bnd_more h (hb.2.2.2 i)⟩
/-- What Pairs answers: new memory, all apart. -/
def PairsPost (w : World) (L : List KV) (e : Ending) (w' : World) : Prop :=
  ∃ (A : Option Addr) (c : Nat) (out : List PairL), e = .returned (.slice A out.length c) ∧ out.map saidP = L ∧ RowP w' w.heap.size A c out ∧ (∀ p ∈ piecesL out, OwnP w' w.heap.size p) ∧ (piecesL out).Pairwise (fun a b => Apart (pcV a) (pcV b)) ∧ Below w.heap.size w w'
set_option maxHeartbeats 4000000 in
set_option maxRecDepth 20000 in
theorem pairsT_calls (base gt M K : Nat) (t : Tr) (n : Nat) (w : World) (h : TrieW w base gt M K t n) (hM : M ≤ 131072) (hK : K ≤ 1000000) (hev : ∀ path, gT t path ≠ [] → ∃ key, path = nib key) :
    Calls Tryd.prog 33 #[.pointer (some ⟨gt, 0, none⟩)] w (PairsPost w (keysT t)) := by
  obtain ⟨F, hp⟩ := h.pre
  obtain ⟨v, hgt, htr⟩ := hp.at_
  obtain ⟨o, rfl⟩ := htr.ptr
  have q0 : w.cell? ⟨gt, 0, none⟩ = some (.pointer o) := hgt.cell 0
  have hlt := hgt.lt
  have hcnt := hp.many
  have hbd := bnd_more hM hp.bnd
  have HTr := Lib.hid htr
  have HDep := Lib.hid h.dep
  have HBd := Lib.hid hbd
  have HEv := Lib.hid (show ∀ q, gT t q ≠ [] → (([] : List UInt8).length + q.length) % 2 = 0 from fun q hq => by
    obtain ⟨key, rfl⟩ := hev q hq
    rw [nib_length]
    simp)
  have HCnt := Lib.hid (Nat.le_trans hcnt hK)
  have hmf : ∀ (fn : Fn) (first cap : Array Value) (w : World), (Instr.makeFunc fn first cap).run Tryd.prog w = .ok (.func fn first cap) w := fun _ _ _ _ => rfl
  clear h hp hgt htr hcnt hbd hev
  go_enter Tryd.func33, Tryd.ntmps33
  go_upto_region 4 with fail
  have hz1 := size_alloc w (.cells #[.slice none 0 0] 34)
  have k1 : Blk ((w.alloc (.cells #[.slice none 0 0] 34)).alloc (.cells #[.func (.func 55) #[] #[.pointer (some ⟨w.heap.size, 0, none⟩), .pointer (some ⟨w.heap.size + 1, 0, none⟩)]] 93)) w.heap.size 34 #[.slice none 0 0] := (Blk.new w _ _).alloc _
  have k2 : Blk ((w.alloc (.cells #[.slice none 0 0] 34)).alloc (.cells #[.func (.func 55) #[] #[.pointer (some ⟨w.heap.size, 0, none⟩), .pointer (some ⟨w.heap.size + 1, 0, none⟩)]] 93)) (w.heap.size + 1) 93 #[.func (.func 55) #[] #[.pointer (some ⟨w.heap.size, 0, none⟩), .pointer (some ⟨w.heap.size + 1, 0, none⟩)]] := Blk.new' _ _ _ hz1.symm
  have hb2 : Below w.heap.size w ((w.alloc (.cells #[.slice none 0 0] 34)).alloc (.cells #[.func (.func 55) #[] #[.pointer (some ⟨w.heap.size, 0, none⟩), .pointer (some ⟨w.heap.size + 1, 0, none⟩)]] 93)) := ((Below.refl _ _).alloc (Nat.le_refl _) _).alloc (by rw [hz1]; omega) _
  generalize ((w.alloc (.cells #[.slice none 0 0] 34)).alloc (.cells #[.func (.func 55) #[] #[.pointer (some ⟨w.heap.size, 0, none⟩), .pointer (some ⟨w.heap.size + 1, 0, none⟩)]] 93)) = w2 at *
  have q1 : w2.cell? ⟨gt, 0, none⟩ = some (.pointer o) := (hb2.cell (p := ⟨gt, 0, none⟩) hlt).trans q0
  have q2 : w2.cell? ⟨w.heap.size + 1, 0, none⟩ = some (.func (.func 55) #[] #[.pointer (some ⟨w.heap.size, 0, none⟩), .pointer (some ⟨w.heap.size + 1, 0, none⟩)]) := k2.cell 0
  have hA : AllAt w2 w.heap.size w.heap.size (w.heap.size + 1) [] := ⟨⟨none, 0, k1, World.ownsRow_nil _ _ _ _⟩, k2, fun p hp => (List.not_mem_nil hp).elim, Nat.le_refl _, List.Pairwise.nil⟩
  have hbd2 := below_drewN (Below.refl w2.heap.size w2) 1
  have hz2 := hb2.size
  have hcall := all_calls base w.heap.size w.heap.size (w.heap.size + 1) t (.pointer o) F 128 none 0 [] [] w2.drew ((HTr.out.below hb2).below hbd2) HDep.out (Or.inr (by simp)) HBd.out HEv.out (by simpa using HCnt.out) SeqB.nil (Nat.le_refl _) (by simp [maxLen]) (hA.below hbd2)
  have HCall := Lib.hid hcall
  have HB2 := Lib.hid (hb2.trans (hbd2.mono hz2))
  clear hcall hA k1 k2 hbd2 HTr HDep HBd HEv HCnt q0 hb2 hz1
  go_region_held3 (fun w' => w'.cell? ⟨gt, 0, none⟩ = some (.pointer o) ∧ w'.cell? ⟨w.heap.size + 1, 0, none⟩ = some (.func (.func 55) #[] #[.pointer (some ⟨w.heap.size, 0, none⟩), .pointer (some ⟨w.heap.size + 1, 0, none⟩)])) (first | exact ⟨k4a, k4b⟩ | exact ⟨q1, q2⟩ | go_keep)
    (first
      | (go_at_call 55; (refine HCall.out.mono ?_; rintro e3 w3 ⟨rfl, nw, hn3, hA3, hpk3⟩; have k4a := ((hpk3.below (show w.heap.size ≤ w2.drew.heap.size from hz2)).cell (p := ⟨gt, 0, none⟩) hlt).trans q1; have k4b : w3.cell? ⟨w.heap.size + 1, 0, none⟩ = some (.func (.func 55) #[] #[.pointer (some ⟨w.heap.size, 0, none⟩), .pointer (some ⟨w.heap.size + 1, 0, none⟩)]) := hA3.fn.cell 0; have HN3 := Lib.hid hn3; have HA3 := Lib.hid hA3; have HP3 := Lib.hid hpk3; clear hn3 hA3 hpk3)))
  obtain ⟨A, c, hc, hr⟩ := HA3.out.cell
  have qc : w3.cell? ⟨w.heap.size, 0, none⟩ = some (.slice A ([] ++ nw).length c) := hc.cell 0
  go_wp2_with fail
  go_ret
  trace_state
  exact ⟨A, c, [] ++ nw, rfl, by rw [List.nil_append]; exact HN3.out, hr, HA3.out.own, HA3.out.apart, HB2.out.trans (HP3.out.below hz2)⟩
end Go.Proofs.YtfhindffmghlaaaDoor
