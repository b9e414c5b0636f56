/- A trie beside its list, with room for more: Put, Delete, Pairs. -/
import Derived.Test.YtfhindffmghlaaaDoorMTOrderP
import Derived.Test.YtfhindffmghlaaaDoorMTKeepsW
set_option linter.unusedVariables false
set_option linter.unusedSimpArgs false
namespace Go.Proofs.YtfhindffmghlaaaDoor
open Go.RowKit
/-- A trie and the list that it holds; at most K nodes. -/
structure KeepK (w : World) (base gt K : Nat) (L : List KV) (s : Tr × Nat) : Prop where
  trie : TrieW w base gt 131072 K s.1 s.2
  alike : Alike L s
  even : ∀ path, gT s.1 path ≠ [] → ∃ key, path = nib key
section
variable {w w' : World} {base gt K : Nat} {L : List KV} {s : Tr × Nat}
theorem KeepK.below (h : KeepK w base gt K L s) (hb : Below w.heap.size w w') : KeepK w' base gt K L s := ⟨h.trie.below hb, h.alike, h.even⟩
theorem KeepT.k (h : KeepT w base gt L s) : KeepK w base gt 600 L s := ⟨h.trie, h.alike, h.even⟩
theorem KeepK.bnd (h : KeepK w base gt K L s) : Bnd 131072 s.1 := by
  obtain ⟨F, hp⟩ := h.trie.pre
  exact hp.bnd
theorem KeepK.val (h : KeepK w base gt K L s) (k : List UInt8) : (getL k L).length ≤ 131072 := by
  rw [← h.alike.get k]
  exact getT_bnd (nib k) h.bnd
/-- What Delete leaves. -/
def KDel (w : World) (base gt K : Nat) (L : List KV) (s : Tr × Nat) (key : List UInt8) (e : Ending) (w' : World) : Prop :=
  e = .returned (.bool (!(getL key L).isEmpty)) ∧ KeepK w' base gt K (goneL key L) (delP s.1 key, delN s.1 s.2 key) ∧ Turned base w w'
theorem kdel_calls (h : KeepK w base gt K L s) (A : Option Addr) (c : Nat) (key : List UInt8) (hk : key.length ≤ 1073741824) (hs : SeqK w A key) :
    Calls Tryd.prog 34 #[.pointer (some ⟨gt, 0, none⟩), .slice A key.length c] w (KDel w base gt K L s key) := by
  refine (delW_calls base gt 131072 K s.1 s.2 A c key w h.trie (by decide) (fun hg => ?_) hk hs).mono ?_
  · rw [h.alike.get key] at hg
    rw [h.alike.size]
    cases L with
    | nil => exact absurd rfl hg
    | cons _ _ => exact Nat.succ_le_succ (Nat.zero_le _)
  · rintro e w' ⟨rfl, ht, htu⟩
    rw [h.alike.get key]
    exact ⟨rfl, ⟨ht, alike_del h.alike key, even_del key h.alike.good h.even⟩, htu⟩
/-- What Put leaves. -/
def KPut (w : World) (base gt K : Nat) (L : List KV) (s : Tr × Nat) (p : KV) (e : Ending) (w' : World) : Prop :=
  e = .returned (.int .i64 (putE p.1 p.2 : Nat)) ∧ KeepK w' base gt (K + 2) (stepL L p) (stepP s p) ∧ Turned base w w'
theorem kput_calls (h : KeepK w base gt K L s) (A : Option Addr) (c : Nat) (key : List UInt8) (A2 : Option Addr) (c2 : Nat) (value : List UInt8) (hL : L.length < 1099511627776) (hK : K + 2 ≤ 1073741824) (hk : key.length ≤ 1073741824) (hv : value.length ≤ 131072) (hs : SeqK w A key) (hs2 : SeqB w A2 value) :
    Calls Tryd.prog 40 #[.pointer (some ⟨gt, 0, none⟩), .slice A key.length c, .slice A2 value.length c2] w (KPut w base gt K L s (key, value)) := by
  refine (putW_calls base gt 131072 K s.1 s.2 A c key A2 c2 value w h.trie (by decide) (by rw [h.alike.size]; exact hL) hK hk hv hs hs2).mono ?_
  rintro e w' ⟨rfl, ht, htu⟩
  exact ⟨rfl, ⟨ht, alike_step h.alike (key, value), even_step (key, value) h.even⟩, htu⟩
/-- Two tries that hold one list are one tree. -/
theorem keep_one {base' gt' K' : Nat} {w2 : World} {s' : Tr × Nat} (h : KeepK w base gt K L s) (h' : KeepK w2 base' gt' K' L s') : s.1 = s'.1 := alike_tree h.alike h'.alike h.even h'.even rfl
theorem kpairs_calls (h : KeepK w base gt K L s) (hK : K ≤ 1000000) : Calls Tryd.prog 33 #[.pointer (some ⟨gt, 0, none⟩)] w (KeepPairs w L) := by
  refine (pairsT_calls base gt 131072 K s.1 s.2 w h.trie (by decide) hK h.even).mono ?_
  rintro e w' ⟨A, c, out, rfl, hL, hr, ho, _, hb⟩
  rw [keys_alike h.alike h.even] at hL
  have hlow : 131072 ≤ reachBytes ∧ 64 ≤ reachBytes := ⟨by decide, by decide⟩
  refine ⟨A, c, out, rfl, hL, ⟨hr.at_, fun x hx => ?_⟩, hb⟩
  have hm : saidP x ∈ L := by rw [← hL]; exact List.mem_map_of_mem hx
  have h1 := ho x.1 (by unfold piecesL; exact List.mem_flatMap.2 ⟨x, hx, by simp⟩)
  have h2 := ho x.2 (by unfold piecesL; exact List.mem_flatMap.2 ⟨x, hx, by simp⟩)
  have hk := (h.alike.full _ hm).2
  have hv : x.2.2.2.length ≤ 131072 := by
    have h3 := getL_mem h.alike.rising (k := (saidP x).1) (v := (saidP x).2) hm
    have h4 := h.val (saidP x).1
    rw [h3] at h4
    exact h4
  exact ⟨h1.seq, h2.seq, own_cap h1, own_cap h2, Nat.le_trans hk hlow.2, Nat.le_trans hv hlow.1⟩
end
end Go.Proofs.YtfhindffmghlaaaDoor
