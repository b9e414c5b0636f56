/- Words as bytes; arrays of bytes. No walk. -/
import Derived.Test.YtnghneoggiolgaaDoorRBytes
namespace Go.Proofs.YtnghneoggiolgaaDoor
open Go.RowKit
def low (x : BitVec 64) : UInt8 := UInt8.ofNat x.toNat
@[go_sem] theorem wrap_u8_u64 (x : BitVec 64) : IntKind.u8.wrap (u64 x) = by8 (low x) := by
  rw [IntKind.wrap_u8']
  unfold u64 by8 low
  rw [UInt8.toNat_ofNat']
  omega
def hashV (h : Nat → UInt8) (j : Nat) : Value := .int .u8 (by8 (h j))
theorem hashV_upd (h : Nat → UInt8) (i : Nat) (v : UInt8) : upd (hashV h) i (.int .u8 (by8 v)) = hashV (upd h i v) := upd_comp (fun b => Value.int .u8 (by8 b)) h i v
/-- An array's bytes as a list. -/
def listOf (h : Nat → UInt8) (n : Nat) : List UInt8 := (List.range n).map h
theorem listOf_length (h : Nat → UInt8) (n : Nat) : (listOf h n).length = n := by simp [listOf]
theorem tab_listOf (h : Nat → UInt8) (n : Nat) : tab n (hashV h) = (bytes (listOf h n)).toArray := by simp [tab, bytes, listOf, hashV, byt, Function.comp_def]
theorem Seq.of_array {w : World} {g t n B : Nat} {h : Nat → UInt8} (hb : Blk w g t (tab n (hashV h))) (hg : g < B) : Seq w B (some ⟨g, 0, none⟩) (bytes (listOf h n)) :=
  Seq.of_blk (hb.same (tab_listOf h n)) hg
theorem Blk.grownRow {w w' : World} {g : Nat} {t : TypeId} {cs : Array Value} {row : Option Nat} (h : Blk w g t cs) (hg : w.grownBy w' row) (hne : row ≠ some g) : Blk w' g t cs :=
  (hg.block g h.lt (fun e => hne e.symm)).trans h
/-- A word's bytes, the highest first. -/
def wordS (S : Nat → BitVec 64) (i : Nat) : UInt8 := low (S ((31 - i) / 8) >>> ((31 - i) % 8 * 8))
end Go.Proofs.YtnghneoggiolgaaDoor
