/- A trie beside the list that it holds: what calls at it answer. -/
import Derived.Test.YtfhindffmghlaaaDoorMTKeepsP
import Derived.Test.YtfhindffmghlaaaDoorMTPairsT
import Derived.Test.YtfhindffmghlaaaDoorMTLawB
set_option linter.unusedVariables false
set_option linter.unusedSimpArgs false
namespace Go.Proofs.YtfhindffmghlaaaDoor
open Go.RowKit
/-- A trie and the list that it holds. -/
structure KeepT (w : World) (base gt : Nat) (L : List KV) (s : Tr × Nat) : Prop where
  trie : TrieW w base gt 131072 600 s.1 s.2
  alike : Alike L s
  even : ∀ path, gT s.1 path ≠ [] → ∃ key, path = nib key
/-- A row of pairs that came from the argument's. -/
structure KeepR (w0 w : World) (l : List PairL) (A : Option Addr) (c : Nat) (out : List PairL) : Prop where
  row : RowP w w0.heap.size A c out
  mem : ∀ x ∈ out, x ∈ l
  len : out.length ≤ 300
  below : Below w0.heap.size w0 w
section
variable {w w' w0 : World} {base gt : Nat} {L : List KV} {s : Tr × Nat} {l out : List PairL} {A Ao : Option Addr} {c co : Nat}
theorem KeepT.below (h : KeepT w base gt L s) (hb : Below w.heap.size w w') : KeepT w' base gt L s := ⟨h.trie.below hb, h.alike, h.even⟩
theorem KeepR.below' (h : KeepR w0 w l A c out) (hb : Below w.heap.size w w') : KeepR w0 w' l A c out := ⟨own_below' h.row hb, h.mem, h.len, h.below.trans (hb.mono h.below.size)⟩
theorem KeepR.turned (h : KeepR w0 w l A c out) (ht : Turned base w w') (h0 : w0.heap.size ≤ base) (hb : base ≤ w.heap.size) : KeepR w0 w' l A c out := ⟨own_turned h.row ht (by decide) (by decide), h.mem, h.len, h.below.trans ((ht.below hb).mono h0)⟩
theorem KeepR.pairs (h : KeepR w0 w l Ao co out) (hp : PairsIn w0 w0.heap.size A l) : PairsIn w w.heap.size Ao out := hp.plain h.below h.row h.mem (Below.refl _ _)
theorem keep_len (h : KeepT w base gt L s) : Calls Tryd.prog 32 #[.pointer (some ⟨gt, 0, none⟩)] w (fun e w' => e = .returned (.int .i64 (L.length : Int)) ∧ w = w') := by
  obtain ⟨F, hp⟩ := h.trie.pre
  have := lenT_calls base gt s.1 s.2 F w hp.at_
  rw [h.alike.size] at this
  exact this
theorem keep_bnd (h : KeepT w base gt L s) : Bnd 131072 s.1 := by
  obtain ⟨F, hp⟩ := h.trie.pre
  exact hp.bnd
theorem keep_val (h : KeepT w base gt L s) (k : List UInt8) : (getL k L).length ≤ 131072 := by
  rw [← h.alike.get k]
  exact getT_bnd (nib k) (keep_bnd h)
theorem keep_get (h : KeepT w base gt L s) (A : Option Addr) (c : Nat) (key : List UInt8) (hk : key.length ≤ 140737488355328) (hs : Seq w w.heap.size A (bytes key)) :
    Calls Tryd.prog 35 #[.pointer (some ⟨gt, 0, none⟩), .slice A key.length c] w (GetPost w (getL key L)) := by
  obtain ⟨F, hp⟩ := h.trie.pre
  have hv := keep_val h key
  rw [← h.alike.get key] at hv ⊢
  exact get_calls base gt s.1 s.2 F A c _ key w hk (Nat.le_refl _) hp.at_ hs (by omega)
/-- What Delete leaves. -/
def KeepDel (w : World) (base gt : Nat) (L : List KV) (s : Tr × Nat) (key : List UInt8) (e : Ending) (w' : World) : Prop :=
  e = .returned (.bool (!(getL key L).isEmpty)) ∧ KeepT w' base gt (goneL key L) (delP s.1 key, delN s.1 s.2 key) ∧ Turned base w w'
theorem keep_del (h : KeepT w base gt L s) (A : Option Addr) (c : Nat) (key : List UInt8) (hk : key.length ≤ 1073741824) (hs : SeqK w A key) :
    Calls Tryd.prog 34 #[.pointer (some ⟨gt, 0, none⟩), .slice A key.length c] w (KeepDel w base gt L s key) := by
  refine (delW_calls base gt 131072 600 s.1 s.2 A c key w h.trie (by decide) (fun hg => ?_) hk hs).mono ?_
  · rw [h.alike.get key] at hg
    rw [h.alike.size]
    cases L with
    | nil => exact absurd rfl hg
    | cons _ _ => exact Nat.succ_le_succ (Nat.zero_le _)
  · rintro e w' ⟨rfl, ht, htu⟩
    rw [h.alike.get key]
    exact ⟨rfl, ⟨ht, alike_del h.alike key, even_del key h.alike.good h.even⟩, htu⟩
/-- What Pairs answers, of such a trie. -/
def KeepPairs (w : World) (L : List KV) (e : Ending) (w' : World) : Prop :=
  ∃ (A : Option Addr) (c : Nat) (out : List PairL), e = .returned (.slice A out.length c) ∧ out.map saidP = L ∧ PairsIn w' w'.heap.size A out ∧ Below w.heap.size w w'
theorem keep_pairs (h : KeepT w base gt L s) : Calls Tryd.prog 33 #[.pointer (some ⟨gt, 0, none⟩)] w (KeepPairs w L) := by
  refine (pairsT_calls base gt 131072 600 s.1 s.2 w h.trie (by decide) (by decide) h.even).mono ?_
  rintro e w' ⟨A, c, out, rfl, hL, hr, ho, _, hb⟩
  rw [keys_alike h.alike h.even] at hL
  have hlow : 131072 ≤ reachBytes ∧ 64 ≤ reachBytes := ⟨by decide, by decide⟩
  refine ⟨A, c, out, rfl, hL, ⟨hr.at_, fun x hx => ?_⟩, hb⟩
  have hm : saidP x ∈ L := by rw [← hL]; exact List.mem_map_of_mem hx
  have h1 := ho x.1 (by unfold piecesL; exact List.mem_flatMap.2 ⟨x, hx, by simp⟩)
  have h2 := ho x.2 (by unfold piecesL; exact List.mem_flatMap.2 ⟨x, hx, by simp⟩)
  have hk := (h.alike.full _ hm).2
  have hv : x.2.2.2.length ≤ 131072 := by
    have h3 := getL_mem h.alike.rising (k := (saidP x).1) (v := (saidP x).2) hm
    have h4 := keep_val h (saidP x).1
    rw [h3] at h4
    exact h4
  exact ⟨h1.seq, h2.seq, own_cap h1, own_cap h2, Nat.le_trans hk hlow.2, Nat.le_trans hv hlow.1⟩
end
end Go.Proofs.YtfhindffmghlaaaDoor
