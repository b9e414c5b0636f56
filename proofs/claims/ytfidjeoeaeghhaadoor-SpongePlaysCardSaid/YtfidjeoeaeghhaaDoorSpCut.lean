/- The bytes in pieces, as long as numbers say. -/
import Derived.Test.YtfidjeoeaeghhaaDoorSpPad
import Derived.Test.YtfidjeoeaeghhaaDoorWordsC
namespace Go.Proofs.YtfidjeoeaeghhaaDoor
open Go.RowKit
theorem infoSlice : (Tryd.prog.info? 32).map (fun i => (i.zero, i.size, i.bytes)) = some (some (.slice none 0 0), 1, 24) := by kernel_rfl
theorem elSlice : Elem Tryd.prog 29 32 1 24 := Elem.mk' Tryd.underlying29 infoSlice rfl (by decide)
theorem pcs_snoc (ps : List Piece) (p : Piece) : pcs ps ++ [pcV p] = pcs (ps ++ [p]) := by simp [pcs]
theorem joinP_snoc (ps : List Piece) (p : Piece) : joinP (ps ++ [p]) = joinP ps ++ p.2.2 := by simp [joinP]
/-- The state of cut's loop: pieces cut off, and the rest. -/
structure Cut (B : Nat) (w0 wr : World) (l : List UInt8) (ps : List Piece) (A1 : Option Addr) (c1 : Nat) (rest : List UInt8) (Ab : Option Addr) (cb : Nat) : Prop where
  below : Below w0.heap.size w0 wr
  row : wr.ownsRow w0.heap.size 32 1 (.slice A1 ps.length c1) ps.length (pcs ps)
  all : joinP ps ++ rest = l
  more : Seq wr B Ab (bytes rest)
  cap : rest.length ≤ cb
  parts : ∀ p ∈ ps, Seq wr B p.1 (bytes p.2.2)
theorem Cut.step {B : Nat} {w0 wr w6 : World} {l : List UInt8} {ps : List Piece} {A1 : Option Addr} {c1 : Nat} {rest : List UInt8} {Ab : Option Addr} {cb : Nat} {o : Obj} {A6 : Option Addr} {c6 : Nat} (hB : B ≤ w0.heap.size) (h : Cut B w0 wr l ps A1 c1 rest Ab cb) (m : Nat) (hm : m ≤ rest.length)
    (hg : (wr.alloc o).grownBy w6 (Value.slice A1 ps.length c1).ownBlock) (ho : w6.ownsRow w0.heap.size 32 1 (.slice A6 (ps.length + 1) c6) (ps.length + 1) (pcs ps ++ [.slice Ab m cb])) :
    Cut B w0 w6 l (ps ++ [(Ab, cb, rest.take m)]) A6 c6 (rest.drop m) (if cb = m then Ab else Ab.map (·.add m)) (cb - m) := by
  have hs := h.below.size
  have hr : ∀ g, (Value.slice A1 ps.length c1).ownBlock = some g → w0.heap.size ≤ g := fun g hg => (h.row.lt g hg).1
  have hk : ∀ {A : Option Addr} {xs : List Value}, Seq wr B A xs → Seq w6 B A xs := fun q => (q.alloc (Nat.le_trans hB hs) o).grown hg (by simp; omega) (fun g e => Nat.le_trans hB (hr g e))
  refine ⟨(h.below.alloc hs o).grown hg (by simp; omega) hr, ?_, ?_, ?_, ?_, ?_⟩
  · rw [List.length_append, List.length_singleton, ← pcs_snoc]
    have : pcV (Ab, cb, rest.take m) = .slice Ab m cb := by simp [pcV, Nat.min_eq_left hm]
    rw [this]
    exact ho
  · rw [joinP_snoc, List.append_assoc, List.take_append_drop]
    exact h.all
  · have := (hk h.more).cut (k := m) (cap := cb) (n := rest.length) (by rw [bytes_length]) h.cap
    rw [show bytes (rest.drop m) = (bytes rest).drop m by simp [bytes, List.map_drop]]
    exact this
  · rw [List.length_drop]
    have := h.cap
    omega
  · intro p hp
    rcases List.mem_append.1 hp with hp | hp
    · exact hk (h.parts p hp)
    · obtain rfl := List.mem_singleton.1 hp
      have := (hk h.more).take m
      rw [show bytes (rest.take m) = (bytes rest).take m by simp [bytes, List.map_take]]
      exact this
set_option maxHeartbeats 2000000 in
theorem cut_calls (B : Nat) (A : Option Addr) (c : Nat) (l : List UInt8) (An : Option Addr) (cn : Nat) (zs : List Int) (w : World) (hl : l.length ≤ 16777216) (hc : l.length ≤ c) (hm : c ≤ maxLen) (hz : zs.length ≤ 4096) (hB : B ≤ w.heap.size) (hs : Seq w B A (bytes l))
    (hn : Seq w B An (zs.map fun n => .int .i64 n)) (hr : ∀ n ∈ zs, -9223372036854775808 ≤ n ∧ n ≤ 9223372036854775807) :
    Calls Tryd.prog 29 #[.slice A l.length c, .slice An zs.length cn] w fun e w' => ∃ (ps : List Piece) (A' : Option Addr) (c' : Nat), e = .returned (.slice A' ps.length c') ∧ ps.length = zs.length + 1 ∧
      w'.ownsRow w.heap.size 32 1 (.slice A' ps.length c') ps.length (pcs ps) ∧ joinP ps = l ∧ (∀ p ∈ ps, Seq w' B p.1 (bytes p.2.2)) ∧ Below w.heap.size w w' := by
  have HS := Lib.hid hs
  have HN := Lib.hid hn
  have HR := Lib.hid hr
  clear hs hn hr
  go_enter Tryd.func29, Tryd.ntmps29
  go_wp2_with fail
  go_loopw [0, 5, 6, 7] (fun b v i _ wr => ∃ (k : Nat) (ps : List Piece) (A1 : Option Addr) (c1 : Nat) (rest : List UInt8) (Ab : Option Addr) (cb : Nat), k ≤ zs.length ∧ i = .int .i64 k ∧ ps.length = k ∧ v = .slice A1 ps.length c1 ∧ b = .slice Ab rest.length cb ∧ Cut B w wr l ps A1 c1 rest Ab cb ∧ cb ≤ maxLen)
    (fun _ _ i _ _ => zs.length - (intOf i).toNat)
  case atStart => exact ⟨0, [], none, 0, l, A, c, by omega, rfl, rfl, rfl, rfl, ⟨Below.refl _ _, World.ownsRow_nil _ _ _ _, rfl, HS.out, hc, by simp⟩, hm⟩
  case round =>
    obtain ⟨k, ps, A1, c1, rest, Ab, cb, hk, rfl, hpl, rfl, rfl, hC, hcb⟩ := hrel
    have hs1 := hC.below.size
    have hrl : rest.length ≤ 16777216 := by have := congrArg List.length hC.all; rw [List.length_append] at this; omega
    have hcap := hC.cap
    have hpl1 := Nat.le_of_eq hpl
    have hpl2 := Nat.le_of_eq hpl.symm
    clear hpl
    by_cases hlt : k < zs.length
    · have dk : decide ((k : Int) < (zs.length : Int)) = true := by simp; omega
      have lk : (k : Int) < (zs.length : Int) := by omega
      obtain ⟨ad, rfl, hadb, hcell⟩ := (HN.out.below hC.below hB).at_ (k := k) (by simpa using hlt)
      rw [List.getElem_map] at hcell
      have hzr := HR.out _ (List.getElem_mem hlt)
      generalize zs[k] = z at *
      have hab := Int.tmod_lt_of_pos z (show (0 : Int) < 301 by omega)
      have hab2 : -301 < z.tmod 301 := by have := Int.lt_tmod_of_pos z (show (0 : Int) < 301 by omega); omega
      have hcase : (∃ n : Nat, n ≤ 300 ∧ decide (z.tmod 301 < 0) = true ∧ IntKind.i64.wrap (-z.tmod 301) = (n : Int)) ∨ (∃ n : Nat, n ≤ 300 ∧ decide ((n : Int) < 0) = false ∧ z.tmod 301 = (n : Int)) := by
        by_cases hneg : z.tmod 301 < 0
        · exact Or.inl ⟨(-z.tmod 301).toNat, by omega, by simpa using hneg, by rw [IntWalk.i64_in _ (by omega)]; omega⟩
        · exact Or.inr ⟨(z.tmod 301).toNat, by omega, by simp; omega, by omega⟩
      clear hab hab2 hzr
      have HC := Lib.hid hC
      clear hC
      rcases hcase with ⟨n, hn, d1, e1⟩ | ⟨n, hn, d1, e1⟩
      all_goals
        by_cases hg : n > rest.length
        · have dg : decide ((n : Int) > (rest.length : Int)) = true := by simp; omega
          have HO := Lib.hid HC.out.row
          have hmr : rest.length ≤ rest.length := by omega
          have lcb : ((rest.length : Nat) : Int) ≤ (cb : Int) := by omega
          go_wp2_with (first
            | (at_builtin; refine wpL_append rfl (.tmp 29) (.tmp 33) 29 rfl elSlice rfl (HO.out.alloc _) rfl rfl (Seq.one_new _ _ _) (by simp [Value.oneCell']) (by unfold maxLen; omega) (by omega) (by simp; omega) ?_; intro A6 c6 w6 ho6 hg6 _; have HO6 := Lib.hid ho6; have HG6 := Lib.hid hg6; clear ho6 hg6))
          refine ⟨⟨k + 1, ps ++ [(Ab, cb, rest.take rest.length)], A6, c6, rest.drop rest.length, _, cb - rest.length, by omega, by go_num, by rw [List.length_append, List.length_singleton]; omega, by rw [List.length_append, List.length_singleton], by rw [List.length_drop]; simp, Cut.step hB HC.out rest.length hmr HG6.out HO6.out, by omega⟩, by simp [intOf]; omega⟩
        · have dg : decide ((n : Int) > (rest.length : Int)) = false := by simp; omega
          have HO := Lib.hid HC.out.row
          have hmr : n ≤ rest.length := by omega
          have lcb : ((n : Nat) : Int) ≤ (cb : Int) := by omega
          go_wp2_with (first
            | (at_builtin; refine wpL_append rfl (.tmp 29) (.tmp 33) 29 rfl elSlice rfl (HO.out.alloc _) rfl rfl (Seq.one_new _ _ _) (by simp [Value.oneCell']) (by unfold maxLen; omega) (by omega) (by simp; omega) ?_; intro A6 c6 w6 ho6 hg6 _; have HO6 := Lib.hid ho6; have HG6 := Lib.hid hg6; clear ho6 hg6))
          refine ⟨⟨k + 1, ps ++ [(Ab, cb, rest.take n)], A6, c6, rest.drop n, _, cb - n, by omega, by go_num, by rw [List.length_append, List.length_singleton]; omega, by rw [List.length_append, List.length_singleton], by rw [List.length_drop], Cut.step hB HC.out n hmr HG6.out HO6.out, by omega⟩, by simp [intOf]; omega⟩
    · have dk : decide ((k : Int) < (zs.length : Int)) = false := by simp; omega
      have HO := Lib.hid hC.row
      have HC := Lib.hid hC
      clear hC
      go_wp2_with (first
        | (at_builtin; refine wpL_append rfl (.tmp 38) (.tmp 40) 29 rfl elSlice rfl (HO.out.alloc _) rfl rfl (Seq.one_new _ _ _) (by simp [Value.oneCell']) (by unfold maxLen; omega) (by omega) (by simp; omega) ?_; intro A6 c6 w6 ho6 hg6 _; have HO6 := Lib.hid ho6; have HG6 := Lib.hid hg6; clear ho6 hg6))
      go_ret
      have hf := Cut.step hB HC.out rest.length (Nat.le_refl _) HG6.out HO6.out
      refine ⟨ps ++ [(Ab, cb, rest.take rest.length)], A6, c6, ?_, ?_, hf.row, ?_, hf.parts, hf.below⟩
      · rw [List.length_append, List.length_singleton]; rfl
      · rw [List.length_append, List.length_singleton]; omega
      · have := hf.all
        rw [List.drop_length, List.append_nil] at this
        exact this
end Go.Proofs.YtfidjeoeaeghhaaDoor
