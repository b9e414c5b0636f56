/- The program's sponge: a byte laid down; what a sponge is in memory. -/
import Derived.Test.YtfidjeoeaeghhaaDoorSpPermute
import Derived.Test.YtfidjeoeaeghhaaDoorWordsB
namespace Go.Proofs.YtfidjeoeaeghhaaDoor
open Go.RowKit
/-- A byte as a number. -/
def by8 (b : UInt8) : Int := (b.toNat : Int)
theorem by8_nonneg (b : UInt8) : 0 ≤ by8 b := by unfold by8; omega
theorem by8_lt (b : UInt8) : by8 b < 256 := by unfold by8; have := b.toNat_lt; omega
def ext (b : UInt8) : BitVec 64 := BitVec.ofNat 64 b.toNat
@[go_sem] theorem wrap_u64_by8 (b : UInt8) : IntKind.u64.wrap (by8 b) = u64 (ext b) := by
  have h := b.toNat_lt
  rw [IntKind.wrap_u64]
  unfold by8 u64 ext
  rw [BitVec.toNat_ofNat]
  omega
def byt (b : UInt8) : Value := .int .u8 (by8 b)
def bytes (l : List UInt8) : List Value := l.map byt
theorem bytes_length (l : List UInt8) : (bytes l).length = l.length := by simp [bytes]
theorem bytes_get (l : List UInt8) (i : Nat) (h : i < (bytes l).length) : (bytes l)[i] = .int .u8 (by8 (l[i]'(by simpa [bytes] using h))) := by simp [bytes, byt]
theorem bytes_append (a b : List UInt8) : bytes (a ++ b) = bytes a ++ bytes b := by simp [bytes]
theorem bytes_one (l : List UInt8) : ∀ u ∈ bytes l, u.oneCell' = true := by
  intro u hu
  obtain ⟨b, _, rfl⟩ := List.mem_map.1 hu
  rfl
/-- A sponge: its lanes, and how many bytes were laid down since the last permutation. -/
def spV (S : Nat → BitVec 64) (n : Nat) (j : Nat) : Value := if j < 25 then lanes S j else .int .i64 (n : Int)
def SpAt (w : World) (g : Nat) (S : Nat → BitVec 64) (n : Nat) : Prop := Blk w g 65 (tab 26 (spV S n))
def layS (S : Nat → BitVec 64) (at_ : Nat) (b : UInt8) : Nat → BitVec 64 := upd S (at_ / 8) (S (at_ / 8) ^^^ ext b <<< (at_ % 8 * 8))
theorem SpAt.lane {w : World} {g n : Nat} {S : Nat → BitVec 64} (h : SpAt w g S n) (i : Nat) (hi : i < 25) : w.cell? ⟨g, i, none⟩ = some (.int .u64 (u64 (S i))) := by
  have := Blk.at_ h i (by omega)
  unfold spV at this
  rw [if_pos hi] at this
  exact this
theorem SpAt.n {w : World} {g n : Nat} {S : Nat → BitVec 64} (h : SpAt w g S n) : w.cell? ⟨g, 25, none⟩ = some (.int .i64 (n : Int)) := Blk.at_ h 25 (by omega)
theorem SpAt.putLane {w : World} {g n : Nat} {S : Nat → BitVec 64} (h : SpAt w g S n) (i : Nat) (hi : i < 25) (v : BitVec 64) : SpAt (w.setCell ⟨g, i, none⟩ (.int .u64 (u64 v))) g (upd S i v) n := by
  refine (Blk.put h i _).same (tab_congr fun j _ => ?_)
  unfold upd spV lanes
  by_cases h1 : j = i
  · subst h1; simp [hi]
  · simp [h1]
theorem SpAt.putN {w : World} {g n : Nat} {S : Nat → BitVec 64} (h : SpAt w g S n) (m : Nat) (z : Int) (hz : z = (m : Int)) : SpAt (w.setCell ⟨g, 25, none⟩ (.int .i64 z)) g S m := by
  subst hz
  refine (Blk.put h 25 _).same (tab_congr fun j _ => ?_)
  unfold upd spV
  by_cases h1 : j = 25
  · subst h1; rw [if_pos rfl, if_neg (by omega)]
  · rw [if_neg h1]
    split
    · rfl
    · omega
set_option maxHeartbeats 1000000 in
theorem lay_calls (g n a : Nat) (S : Nat → BitVec 64) (b : UInt8) (ha : a < 200) (w : World) (h : SpAt w g S n) :
    Calls Tryd.prog 34 #[.pointer (some ⟨g, 0, none⟩), .int .i64 (a : Int), .int .u8 (by8 b)] w fun e w' => e = .returned (.tuple #[]) ∧ Only g w w' ∧ SpAt w' g (layS S a b) n := by
  have c0 := h.lane (a / 8) (by omega)
  have f0 := Blk.frozen h (a / 8)
  have e0 : (a : Int).tdiv 8 = (a : Int) / 8 := Int.tdiv_eq_ediv_of_nonneg (by omega)
  have e1 : IntKind.i64.wrap ((a : Int) / 8) = (a : Int) / 8 := IntWalk.i64_in _ (by omega)
  have n1 : (0 : Int) ≤ (a : Int) / 8 := by omega
  have l1 : (a : Int) / 8 < 25 := by omega
  have t1 : ((a : Int) / 8).toNat = a / 8 := by omega
  have e2 : (a : Int).tmod 8 = (a : Int) % 8 := Int.tmod_eq_emod_of_nonneg (by omega)
  have e3 : IntKind.i64.wrap ((a : Int) % 8 * 8) = (a : Int) % 8 * 8 := IntWalk.i64_in _ (by omega)
  have n3 : (0 : Int) ≤ (a : Int) % 8 * 8 := by omega
  have l3 : (a : Int) % 8 * 8 ≤ 64 := by omega
  have t3 : ((a : Int) % 8 * 8).toNat = a % 8 * 8 := by omega
  have n4 : (0 : Int) ≤ (a : Int) % 8 := by omega
  have H := Lib.hid h
  clear h
  go_enter Tryd.func34, Tryd.ntmps34
  go_wp2_with fail
  go_still_tail 17, (by kernel_rfl)
  change wpList _ _ _ _ _ w.drew
  clear e0 e1 n1 l1 t1 e2 e3 n3 l3 t3 n4
  go_wp2_with fail
  go_end0
  exact ⟨rfl, (Only.setCell w ⟨g, a / 8, none⟩ _).drew, Blk.drew (H.out.putLane (a / 8) (by omega) _)⟩
def stepS (s : (Nat → BitVec 64) × Nat) (b : UInt8) : (Nat → BitVec 64) × Nat :=
  if s.2 + 1 = 136 then (permS (layS s.1 s.2 b), 0) else (layS s.1 s.2 b, s.2 + 1)
def writeS (s : (Nat → BitVec 64) × Nat) (l : List UInt8) : (Nat → BitVec 64) × Nat := l.foldl stepS s
theorem stepS_lt {s : (Nat → BitVec 64) × Nat} (h : s.2 < 136) (b : UInt8) : (stepS s b).2 < 136 := by
  unfold stepS
  split
  · simp
  · simp; omega
theorem writeS_lt {s : (Nat → BitVec 64) × Nat} (h : s.2 < 136) (l : List UInt8) : (writeS s l).2 < 136 := by
  unfold writeS
  induction l generalizing s with
  | nil => exact h
  | cons b l ih => exact ih (stepS_lt h b)
theorem writeS_append (s : (Nat → BitVec 64) × Nat) (a b : List UInt8) : writeS s (a ++ b) = writeS (writeS s a) b := by unfold writeS; exact List.foldl_append ..
theorem writeS_take (s : (Nat → BitVec 64) × Nat) (l : List UInt8) (k : Nat) (h : k < l.length) : writeS s (l.take (k + 1)) = stepS (writeS s (l.take k)) l[k] := by
  rw [List.take_succ_eq_append_getElem h, writeS_append]
  rfl
theorem Seq.grownNe {w w' : World} {B : Nat} {A : Option Addr} {xs : List Value} {row : Option Nat} (h : Seq w B A xs) (hB : B ≤ w.heap.size) (hg : w.grownBy w' row) (hne : 0 < xs.length → ∀ ad, A = some ad → some ad.block ≠ row) : Seq w' B A xs := fun hn => by
  obtain ⟨ad, rfl, hb, hc⟩ := h hn
  refine ⟨ad, rfl, hb, fun j hj => ?_⟩
  rw [← hc j hj]
  exact World.cell?_of_block (w := w) (by rw [block_add]; exact hg.block _ (by omega) (hne hn ad rfl))
theorem grown_refl (w : World) (row : Option Nat) : w.grownBy w row := World.grownBy.refl w row
theorem grown_only {a w w' : World} {g : Nat} (h : a.grownBy w (some g)) (ho : Only g w w') : a.grownBy w' (some g) :=
  ⟨ho.os.trans h.os, ho.tape.trans h.tape, ho.output.trans h.output, by rw [ho.size]; exact h.size, fun k hk hne => (ho.block k (fun e => hne (by rw [e]))).trans (h.block k hk hne)⟩
theorem grown_below {a w w' : World} {row : Option Nat} (h : a.grownBy w row) (hb : Below w.heap.size w w') : a.grownBy w' row :=
  ⟨hb.os.trans h.os, hb.tape.trans h.tape, hb.output.trans h.output, Nat.le_trans h.size hb.size, fun k hk hne => (hb.block k (Nat.lt_of_lt_of_le hk h.size)).trans (h.block k hk hne)⟩
theorem Tables.grown {w w' : World} {g : Nat} (h : Tables w) (hg : w.grownBy w' (some g)) (h2 : 2 ≤ g) : Tables w' := by
  have hs := h.size
  refine ⟨fun i hi => ?_, fun i hi => ?_, Nat.le_trans hs hg.size⟩
  · rw [← h.turns i hi]
    exact World.cell?_of_block (w := w) (hg.block _ (by simp; omega) (by simp; omega))
  · rw [← h.marks i hi]
    exact World.cell?_of_block (w := w) (hg.block _ (by simp; omega) (by simp; omega))
set_option maxHeartbeats 1000000 in
theorem write_calls (g n : Nat) (S : Nat → BitVec 64) (A : Option Addr) (c B : Nat) (l : List UInt8) (hn : n < 136) (hl : l.length ≤ 4611686018427387904) (h2 : 2 ≤ g) (w : World) (h : SpAt w g S n) (hT : Tables w)
    (hs : Seq w B A (bytes l)) (hB : B ≤ w.heap.size) (hne : 0 < l.length → ∀ ad, A = some ad → ad.block ≠ g) :
    Calls Tryd.prog 17 #[.pointer (some ⟨g, 0, none⟩), .slice A l.length c] w fun e w' => e = .returned (.tuple #[]) ∧ w.grownBy w' (some g) ∧ SpAt w' g (writeS (S, n) l).1 (writeS (S, n) l).2 := by
  have H := Lib.hid h
  have HT := Lib.hid hT
  have HS := Lib.hid hs
  have HN := Lib.hid hne
  clear h hT hs hne
  go_enter Tryd.func17, Tryd.ntmps17
  go_wp2_with fail
  go_loopw [8] (fun i wr => ∃ k : Nat, k ≤ l.length ∧ i = .int .i64 k ∧ SpAt wr g (writeS (S, n) (l.take k)).1 (writeS (S, n) (l.take k)).2 ∧ w.grownBy wr (some g)) (fun i _ => l.length - (intOf i).toNat)
  case atStart => exact ⟨0, by omega, rfl, H.out, grown_refl _ _⟩
  case round =>
    obtain ⟨k, hk, rfl, hA, hG⟩ := hrel
    by_cases hlt : k < l.length
    · have hd : decide ((k : Int) < (l.length : Int)) = true := by simp; omega
      have hlk : (k : Int) < (l.length : Int) := by omega
      obtain ⟨ad, rfl, hadb, hcell⟩ := (HS.out.grownNe hB hG (fun _ ad e => by intro e2; injection e2 with e2; exact HN.out (by omega) ad e e2)).at_ (k := k) (by rw [bytes_length]; exact hlt)
      rw [bytes_get] at hcell
      have hstep := writeS_take (S, n) l k hlt
      have hm := writeS_lt (s := (S, n)) hn (l.take k)
      have HTr := Lib.hid (HT.out.grown hG h2)
      generalize writeS (S, n) (l.take k) = T at *
      obtain ⟨T, m⟩ := T
      simp only at hA hm
      have hgl := Blk.lt hA
      have cn := hA.n
      have Hstep := Lib.hid hstep
      have HG := Lib.hid hG
      have HA := Lib.hid hA
      clear hstep hG hA
      go_wp2_with fail
      refine (lay_calls g m m T _ (by omega) wr HA.out).mono ?_
      rintro e w1 ⟨rfl, ho1, ha1⟩
      have cn1 := ha1.n
      have f1 := Blk.frozen ha1 25
      have HG1 := Lib.hid (grown_only HG.out ho1)
      have HT1 := Lib.hid (HTr.out.grown (grown_only (grown_refl wr (some g)) ho1) h2)
      have HA1 := Lib.hid ha1
      have hs1 := ho1.size
      clear ho1 ha1 cn
      have hgl1 : g < w1.heap.size := by omega
      have hs1a := Nat.le_of_eq hs1
      clear hs1
      by_cases h136 : m + 1 = 136
      · have e136 : ((m : Int) + 1 == 136) = true := by simp; omega
        have H136 := Lib.hid h136
        have HA2 := Lib.hid (HA1.out.putN (m + 1) ((m : Int) + 1) (by omega))
        have hl25 : tab 25 (fun j => spV (layS T m l[k]) (m + 1) (0 + j)) = tab 25 (lanes (layS T m l[k])) := tab_congr fun j hj => by simp [spV, hj]
        clear h136
        go_wp2_with (first
          | (refine wpL_load rfl 23 (.tmp 35) rfl (n := 25) 0 rfl _ HA2.out (by omega) Tryd.underlying23 rfl (by kernel_rfl) ?_; rw [hl25]; clear hl25))
        refine (permute_calls _ _ (HT1.out.grown (grown_only (grown_refl w1 (some g)) (Only.setCell w1 ⟨g, 25, none⟩ _)) h2)).mono ?_
        rintro e w3 ⟨rfl, hb3⟩
        have HA3 := Lib.hid (Blk.below HA2.out hb3 (by simp; omega))
        have HG3 := Lib.hid (grown_below (grown_only HG1.out (Only.setCell w1 ⟨g, 25, none⟩ _)) hb3)
        clear hb3
        have hz : ∀ W, Blk W g 65 (tab 26 (over (spV (layS T m l[k]) (m + 1)) 0 25 (lanes (permS (layS T m l[k]))))) → SpAt W g (permS (layS T m l[k])) (m + 1) := fun W hW =>
          hW.same (tab_congr fun j _ => by unfold over spV; by_cases h : j < 25 <;> simp [h])
        have HZ := Lib.hid hz
        clear hz
        go_wp2_with (first
          | (refine wpL_storeA rfl 23 (.tmp 39) (.tmp 37) rfl 0 rfl rfl HA3.out (by omega) (by kernel_rfl) (fun _ => rfl) ?_; intro w4 ho4 hk4; have HO4 := Lib.hid ho4; have HK4 := Lib.hid (HZ.out _ hk4); have f4 := Blk.frozen hk4 25; have c4 := (HZ.out _ hk4).n; clear ho4 hk4))
        refine ⟨⟨k + 1, by omega, by go_num, ?_, grown_only (grown_only HG3.out HO4.out) (Only.setCell w4 ⟨g, 25, none⟩ _)⟩, by simp [intOf]; omega⟩
        rw [Hstep.out]
        unfold stepS
        rw [if_pos H136.out]
        exact HK4.out.putN 0 0 rfl
      · have e136 : ((m : Int) + 1 == 136) = false := by simp; omega
        have H136 := Lib.hid h136
        clear h136
        go_wp2_with fail
        refine ⟨⟨k + 1, by omega, by go_num, ?_, grown_only HG1.out (Only.setCell w1 ⟨g, 25, none⟩ _)⟩, by simp [intOf]; omega⟩
        rw [Hstep.out]
        unfold stepS
        rw [if_neg H136.out]
        exact HA1.out.putN (m + 1) _ (by omega)
    · have hd : decide ((k : Int) < (l.length : Int)) = false := by simp; omega
      have HA := Lib.hid hA
      have HG := Lib.hid hG
      have He := Lib.hid (show k = l.length by omega)
      clear hA hG
      go_wp2_with fail
      go_end0
      refine ⟨rfl, HG.out, ?_⟩
      have := HA.out
      rw [He.out, List.take_length] at this
      exact this
end Go.Proofs.YtfidjeoeaeghhaaDoor
