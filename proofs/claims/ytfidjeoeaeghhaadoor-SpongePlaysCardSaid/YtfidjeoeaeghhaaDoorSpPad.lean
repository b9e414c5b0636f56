/- The document's own sponge: the padded bytes. -/
import Derived.Test.YtfidjeoeaeghhaaDoorSpSum
import Derived.Test.YtfidjeoeaeghhaaDoorSpRefG
namespace Go.Proofs.YtfidjeoeaeghhaaDoor
open Go.RowKit
def lenV : Value → Nat
  | .slice _ n _ => n
  | _ => 0
def zerosN (n : Nat) : Nat := (136 - (n + 1) % 136) % 136
def padTail (n : Nat) : List UInt8 := if zerosN n = 0 then [129] else 1 :: (List.replicate (zerosN n - 1) 0 ++ [128])
def padL (l : List UInt8) : List UInt8 := l ++ padTail l.length
theorem infoByte : (Tryd.prog.info? 5).map (fun i => (i.zero, i.size, i.bytes)) = some (some (.int .u8 0), 1, 1) := by kernel_rfl
theorem elByte : Elem Tryd.prog 32 5 1 1 := Elem.mk' Tryd.underlying32 infoByte rfl (by decide)
theorem bytes_snoc (l : List UInt8) (x : UInt8) : bytes l ++ [.int .u8 (by8 x)] = bytes (l ++ [x]) := by simp [bytes, byt]
theorem pad_set (l : List UInt8) (z : Nat) (hz : z = zerosN l.length) :
    (bytes (l ++ (1 :: List.replicate z 0))).set (l.length + 1 + z - 1) (.int .u8 (by8 (if z = 0 then 129 else 128))) = bytes (padL l) := by
  subst hz
  unfold padL padTail
  rw [bytes_append, List.set_append_right _ _ (by rw [bytes_length]; omega), bytes_length, bytes_append]
  congr 1
  generalize zerosN l.length = z
  by_cases h : z = 0
  · subst h; simp [bytes, byt]
  · obtain ⟨y, rfl⟩ : ∃ y, z = y + 1 := ⟨z - 1, by omega⟩
    rw [if_neg h, if_neg h, show l.length + 1 + (y + 1) - 1 - l.length = y + 1 by omega]
    simp only [bytes, List.map_cons, List.set_cons_succ, Nat.add_sub_cancel, List.map_append, List.map_replicate, List.map_nil]
    congr 1
    rw [List.replicate_succ', List.set_append_right _ _ (by simp)]
    simp [byt]
theorem pad_last (l : List UInt8) (z : Nat) : (l ++ (1 :: List.replicate z 0))[l.length + 1 + z - 1]? = some (if z = 0 then 1 else (0 : UInt8)) := by
  rw [List.getElem?_append_right (by omega)]
  by_cases h : z = 0
  · subst h; simp
  · obtain ⟨y, rfl⟩ : ∃ y, z = y + 1 := ⟨z - 1, by omega⟩
    rw [if_neg h, show l.length + 1 + (y + 1) - 1 - l.length = y + 1 by omega]
    simp
set_option maxHeartbeats 1000000 in
theorem padded_calls (A : Option Addr) (c B : Nat) (l : List UInt8) (w : World) (hl : l.length ≤ 1099511627776) (hs : Seq w B A (bytes l)) :
    Calls Tryd.prog 35 #[.slice A l.length c] w fun e w' => ∃ A' c', e = .returned (.slice A' (padL l).length c') ∧ w'.ownsRow w.heap.size 5 1 (.slice A' (padL l).length c') (padL l).length (bytes (padL l)) ∧ Below w.heap.size w w' := by
  have HS := Lib.hid hs
  clear hs
  go_enter Tryd.func35, Tryd.ntmps35
  go_wp2_with (first
    | (at_builtin; refine wpL_append rfl (.tmp 4) (.tmp 5) 32 rfl elByte rfl (World.ownsRow_nil w w.heap.size 5 1) rfl (by rw [bytes_length]; simp) HS.out (bytes_one l) (by unfold maxLen; omega) (by omega) (Nat.le_refl _) ?_; intro A1 c1 w1 ho1 hg1 _; simp only [Nat.zero_add, List.nil_append] at ho1; have HO1 := Lib.hid ho1; have HG1 := Lib.hid hg1; have hs1 := hg1.size; clear ho1 hg1)
    | (at_builtin; refine wpL_append rfl (.tmp 7) (.tmp 8) 32 rfl elByte rfl (HO1.out.alloc _) rfl rfl (Seq.one_new _ _ _) (by simp [Value.oneCell']) (by unfold maxLen; omega) (by omega) (by simp; omega) ?_; intro A2 c2 w2 ho2 hg2 _; have HO2 := Lib.hid ho2; have HG2 := Lib.hid hg2; clear ho2 hg2))
  have hB1 : Below w.heap.size w w1 := (Below.refl _ _).grown HG1.out (Nat.le_refl _) (fun g hg => by simp [Value.ownBlock] at hg)
  have hB2 : Below w.heap.size w w2 := (hB1.alloc hs1 _).grown HG2.out (by simp; omega) (fun g hg => (HO1.out.lt g hg).1)
  have HB2 := Lib.hid hB2
  have ho2 := HO2.out
  rw [show bytes l ++ [Value.int IntKind.u8 1] = bytes (l ++ (1 :: List.replicate 0 0)) from bytes_snoc l 1] at ho2
  have HO := Lib.hid ho2
  clear hB1 hB2 HG1 HG2 HO1 HO2 ho2 hs1
  have hzn : zerosN l.length < 136 := by unfold zerosN; omega
  go_loopw [3] (fun v wr => ∃ (z : Nat) (A3 : Option Addr) (c3 : Nat), z ≤ zerosN l.length ∧ v = .slice A3 (l.length + 1 + z) c3 ∧ wr.ownsRow w.heap.size 5 1 (.slice A3 (l.length + 1 + z) c3) (l.length + 1 + z) (bytes (l ++ (1 :: List.replicate z 0))) ∧ Below w.heap.size w wr) (fun v _ => l.length + 1 + zerosN l.length - lenV v)
  case atStart => exact ⟨0, A2, c2, by omega, rfl, HO.out, HB2.out⟩
  case round =>
    clear HO HB2
    obtain ⟨z, A3, c3, hz, rfl, hown, hBl⟩ := hrel
    have HO := Lib.hid hown
    have HB := Lib.hid hBl
    have hsz := hBl.size
    have hll : ((l.length + 1 + z : Nat) : Int) ≤ 1099511627776 + 137 := by omega
    by_cases hlt : z < zerosN l.length
    · have hm : (l.length + 1 + z) % 136 ≠ 0 := by unfold zerosN at hlt; omega
      have e1 : ((((l.length + 1 + z : Nat) : Int) % 136) != 0) = true := by rw [bne_iff_ne]; omega
      clear hown hBl hm
      have hlen := hll
      generalize hq : l.length + 1 + z = q at *
      have Hq := Lib.hid hq
      clear hq
      go_wp2_with (first
        | (at_builtin; refine wpL_append rfl (.tmp 14) (.tmp 15) 32 rfl elByte rfl (HO.out.alloc _) rfl rfl (Seq.one_new _ _ _) (by simp [Value.oneCell']) (by unfold maxLen; omega) (by omega) (by simp; omega) ?_; intro A4 c4 w4 ho4 hg4 _; have HO4 := Lib.hid ho4; have HG4 := Lib.hid hg4; clear ho4 hg4))
      have eq1 : q + 1 = l.length + 1 + (z + 1) := by have := Hq.out; omega
      have eq2 : bytes (l ++ (1 :: List.replicate z 0)) ++ [Value.int IntKind.u8 0] = bytes (l ++ (1 :: List.replicate (z + 1) 0)) := by
        rw [show ([Value.int IntKind.u8 0] : List Value) = [.int .u8 (by8 0)] from rfl, bytes_snoc, List.replicate_succ']
        simp
      have ho4 := HO4.out
      rw [eq2, eq1] at ho4
      refine ⟨⟨z + 1, A4, c4, by omega, by rw [eq1], ho4, (HB.out.alloc hsz _).grown HG4.out (by simp; omega) (fun g hg => (HO.out.lt g hg).1)⟩, ?_⟩
      have := Hq.out
      simp only [lenV]
      omega
    · have hzz : z = zerosN l.length := by omega
      have hm : (l.length + 1 + z) % 136 = 0 := by rw [hzz]; unfold zerosN; omega
      have e1 : ((((l.length + 1 + z : Nat) : Int) % 136) != 0) = false := by rw [bne_eq_false_iff_eq]; omega
      obtain ⟨g, rfl, hg1, hg2, hgc, _⟩ := own_form hown (by omega)
      have hc := hown.cellAt (l.length + 1 + z - 1) (by omega)
      have hf := hown.frozenAt (l.length + 1 + z - 1)
      have hst := (hown.stored (l.length + 1 + z - 1) (.int .u8 (by8 (if z = 0 then 129 else 128)))).1
      rw [pad_set l z hzz] at hst
      have hb : (bytes (l ++ (1 :: List.replicate z 0)))[l.length + 1 + z - 1]? = some (.int .u8 (by8 (if z = 0 then 1 else 0))) := by
        unfold bytes
        rw [List.getElem?_map, pad_last]
        rfl
      rw [hb] at hc
      have hlen : (padL l).length = l.length + 1 + z := by
        unfold padL padTail
        rw [← hzz]
        by_cases h : z = 0 <;> simp [h] <;> omega
      have HST := Lib.hid hst
      have Hz0 := Lib.hid hzz
      have Hlen := Lib.hid hlen
      clear hown hBl hm hb hst hzz hlen
      have hv : (Value.int IntKind.u8 (by8 (if z = 0 then 1 else 0)) = .int .u8 1 ∧ z = 0) ∨ (Value.int IntKind.u8 (by8 (if z = 0 then 1 else 0)) = .int .u8 0 ∧ z ≠ 0) := by
        by_cases h : z = 0
        · exact .inl ⟨by rw [if_pos h]; rfl, h⟩
        · exact .inr ⟨by rw [if_neg h]; rfl, h⟩
      have n1 : (1 : Int) ≤ ((l.length + 1 + z : Nat) : Int) := by omega
      have t1 : (((l.length + 1 + z : Nat) : Int) - 1).toNat = l.length + 1 + z - 1 := by omega
      have l1 : ((l.length + 1 + z : Nat) : Int) - 1 < ((l.length + 1 + z : Nat) : Int) := by omega
      generalize hq : l.length + 1 + z = q at *
      have Hq := Lib.hid hq
      clear hq
      rcases hv with ⟨hv, h0⟩ | ⟨hv, h0⟩
      · rw [hv] at hc
        have hst := HST.out
        rw [if_pos h0] at hst
        have HST2 := Lib.hid hst
        clear hv hst HST
        go_wp2_with fail
        go_ret
        refine ⟨some ⟨g, 0, none⟩, c3, by rw [Hlen.out]; rfl, ?_, HB.out.setCell (by simpa using hg1) _⟩
        rw [Hlen.out]
        exact HST2.out
      · rw [hv] at hc
        have hst := HST.out
        rw [if_neg h0] at hst
        have HST2 := Lib.hid hst
        clear hv hst HST
        go_wp2_with fail
        go_ret
        refine ⟨some ⟨g, 0, none⟩, c3, by rw [Hlen.out]; rfl, ?_, HB.out.setCell (by simpa using hg1) _⟩
        rw [Hlen.out]
        exact HST2.out
end Go.Proofs.YtfidjeoeaeghhaaDoor
