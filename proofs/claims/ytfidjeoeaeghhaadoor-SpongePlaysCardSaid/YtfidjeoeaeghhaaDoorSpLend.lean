/- Bytes lent, with forty marks behind them; are they whole; all written over. -/
import Derived.Test.YtfidjeoeaeghhaaDoorSpMany
namespace Go.Proofs.YtfidjeoeaeghhaaDoor
open Go.RowKit
def two (a b : Value) (j : Nat) : Value := if j = 0 then a else b
theorem two_one {a b : Value} (ha : a.oneCell' = true) (hb : b.oneCell' = true) (j : Nat) : (two a b j).oneCell' = true := by unfold two; split <;> assumption
def markB (m : UInt8) (i : Nat) : UInt8 := m + UInt8.ofNat (3 * i)
def marksL (m : UInt8) (k : Nat) : List UInt8 := (List.range k).map (markB m)
theorem marksL_length (m : UInt8) (k : Nat) : (marksL m k).length = k := by simp [marksL]
theorem marksL_succ (m : UInt8) (k : Nat) : marksL m (k + 1) = marksL m k ++ [markB m k] := by simp [marksL, List.range_succ]
theorem bytes_marks (l : List UInt8) (m : UInt8) (k : Nat) : bytes (l ++ marksL m k) ++ [.int .u8 (by8 (markB m k))] = bytes (l ++ marksL m (k + 1)) := by
  rw [bytes_snoc, marksL_succ, List.append_assoc]
theorem mark_at (m : UInt8) (k : Nat) (hk : k < 40) : (by8 m + 3 * (k : Int)) % 256 = by8 (markB m k) := by
  have h := wrap_add8 m (UInt8.ofNat (3 * k))
  rw [← wrap_nat8 (3 * k) (by omega), IntKind.wrap_u8', IntKind.wrap_u8'] at h
  unfold markB
  rw [← h]
  omega
theorem lent_at (l : List UInt8) (m : UInt8) (i : Nat) (h : i < l.length) : (bytes (l ++ marksL m 40))[i]? = some (.int .u8 (by8 l[i])) := by
  unfold bytes
  rw [List.getElem?_map, List.getElem?_append_left h, List.getElem?_eq_getElem h]
  rfl
theorem lent_mark (l : List UInt8) (m : UInt8) (i : Nat) (h : i < 40) : (bytes (l ++ marksL m 40))[l.length + i]? = some (.int .u8 (by8 (markB m i))) := by
  unfold bytes
  rw [List.getElem?_map, List.getElem?_append_right (by omega), Nat.add_sub_cancel_left, List.getElem?_eq_getElem (by rw [marksL_length]; exact h)]
  simp [marksL, byt]
/-- The struct that lend gives. -/
def loanV (g n c : Nat) : Value := .agg #[.slice (some ⟨g, 0, none⟩) n c, .slice (some ⟨g, 0, none⟩) (n + 40) c]
set_option maxHeartbeats 1000000 in
theorem lend_calls (A : Option Addr) (c B : Nat) (l : List UInt8) (m : UInt8) (w : World) (hl : l.length ≤ 140737488351232) (hB : B ≤ w.heap.size) (hs : Seq w B A (bytes l)) :
    Calls Tryd.prog 16 #[.slice A l.length c, .int .u8 (by8 m)] w fun e w' => ∃ g κ, e = .returned (loanV g l.length κ) ∧ l.length + 40 ≤ κ ∧ κ ≤ maxLen ∧
      w'.ownsRow w.heap.size 5 1 (.slice (some ⟨g, 0, none⟩) (l.length + 40) κ) (l.length + 40) (bytes (l ++ marksL m 40)) ∧ Below w.heap.size w w' := by
  have HS := Lib.hid hs
  clear hs
  go_enter Tryd.func16, Tryd.ntmps16
  go_wp2_with (first
    | (refine wpL_alloc rfl 37 rfl (tab 2 (two (.slice none 0 0) (.slice none 0 0))) (by kernel_rfl) ?_)
    | (at_builtin; refine wpL_append rfl (.tmp 7) (.tmp 8) 32 rfl elByte rfl (World.ownsRow_nil _ (w.heap.size + 1) 5 1) rfl (by rw [bytes_length]; simp) (HS.out.alloc hB _) (bytes_one l) (by unfold maxLen; omega) (by omega) (by rw [size_alloc]; omega) ?_; intro A1 c1 w1 ho1 hg1 _; simp only [Nat.zero_add, List.nil_append] at ho1; have HO1 := Lib.hid ho1; have HG1 := Lib.hid hg1; have hs1 := hg1.size; rw [size_alloc] at hs1; clear ho1 hg1))
  have HB1 := Lib.hid ((Below.refl (w.heap.size + 1) (w.alloc (.cells (tab 2 (two (.slice none 0 0) (.slice none 0 0))) 37))).grown HG1.out (by simp) (fun g hg => by simp [Value.ownBlock] at hg))
  go_loopw [5, 6] (fun v i wr => ∃ (k : Nat) (A3 : Option Addr) (c3 : Nat), k ≤ 40 ∧ i = .int .i64 k ∧ v = .slice A3 (l.length + k) c3 ∧ wr.ownsRow (w.heap.size + 1) 5 1 (.slice A3 (l.length + k) c3) (l.length + k) (bytes (l ++ marksL m k)) ∧ Below (w.heap.size + 1) (w.alloc (.cells (tab 2 (two (.slice none 0 0) (.slice none 0 0))) 37)) wr) (fun _ i _ => 40 - (intOf i).toNat)
  case atStart =>
    refine ⟨0, A1, c1, by omega, rfl, rfl, ?_, HB1.out⟩
    have := HO1.out
    rw [show l ++ marksL m 0 = l by simp [marksL]]
    exact this
  case round =>
    clear HB1 HG1 HO1
    obtain ⟨k, A3, c3, hk, rfl, rfl, hown, hBl⟩ := hrel
    have HO := Lib.hid hown
    have HB := Lib.hid hBl
    have hsz := hBl.size
    rw [size_alloc] at hsz
    by_cases hlt : k < 40
    · have dk : decide ((k : Int) < 40) = true := by simp; omega
      have e3 : IntKind.i64.wrap (3 * (k : Int)) = 3 * (k : Int) := IntWalk.i64_in _ (by omega)
      have em := mark_at m k hlt
      clear hown hBl
      generalize hq : l.length + k = q at *
      have HQ := Lib.hid hq
      have hq1 := Nat.le_of_eq hq
      have hq2 := Nat.le_of_eq hq.symm
      clear hq
      go_wp2_with (first
        | (at_builtin; refine wpL_append rfl (.tmp 14) (.tmp 20) 32 rfl elByte rfl (HO.out.alloc _) rfl rfl (Seq.one_new _ _ _) (by simp [Value.oneCell']) (by unfold maxLen; omega) (by omega) (by simp; omega) ?_; intro A4 c4 w4 ho4 hg4 _; have HO4 := Lib.hid ho4; have HG4 := Lib.hid hg4; clear ho4 hg4))
      have eq1 : q + 1 = l.length + (k + 1) := by have := HQ.out; omega
      have ho4 := HO4.out
      rw [bytes_marks, eq1] at ho4
      exact ⟨⟨k + 1, A4, c4, by omega, by go_num, by rw [eq1], ho4, (HB.out.alloc hsz _).grown HG4.out (by simp; omega) (fun g hg => (HO.out.lt g hg).1)⟩, by simp [intOf]; omega⟩
    · have dk : decide ((k : Int) < 40) = false := by simp; omega
      obtain rfl : k = 40 := by omega
      obtain ⟨g, rfl, hg1, hg2, hgc, hgm⟩ := own_form hown (by omega)
      have n1 : (0 : Int) ≤ (l.length : Int) := by omega
      have l1 : (l.length : Int) ≤ (c3 : Int) := by omega
      have HV := Lib.hid ((Blk.new w 37 (tab 2 (two (.slice none 0 0) (.slice none 0 0)))).below HB.out (Nat.lt_succ_self _))
      clear hown hBl
      go_wp2_with (first
        | (refine wpL_storeA rfl 37 (.tmp 4) (.tmp 27) rfl 0 rfl (n := 2) (f := two (.slice (some ⟨g, 0, none⟩) l.length c3) (.slice (some ⟨g, 0, none⟩) (l.length + 40) c3)) rfl HV.out (by omega) (by kernel_rfl) (two_one rfl rfl) ?_; intro w5 ho hk; have HO5 := Lib.hid ho; have HK := Lib.hid (hk.same (over_whole _ _ _)); clear ho hk))
      refine ret_cell rfl rfl _ HK.out Tryd.underlying37 rfl (by kernel_rfl) rfl ?_
      exact ⟨g, c3, rfl, hgc, hgm, own_mono (own_only HO.out HO5.out (by simp [Value.ownBlock]; omega)) (by omega), HO5.out.below (((Below.refl w.heap.size w).alloc (Nat.le_refl _) _).trans (HB.out.mono (Nat.le_succ _))) (Nat.le_refl _)⟩
set_option maxHeartbeats 1000000 in
theorem whole_calls (g κ : Nat) (A : Option Addr) (c B : Nat) (l : List UInt8) (m : UInt8) (w : World) (hl : l.length ≤ 140737488351232) (hB : B ≤ w.heap.size)
    (hf : Seq w B (some ⟨g, 0, none⟩) (bytes (l ++ marksL m 40))) (hs : Seq w B A (bytes l)) :
    Calls Tryd.prog 18 #[loanV g l.length κ, .slice A l.length c, .int .u8 (by8 m)] w fun e w' => e = .returned (.bool true) ∧ Below w.heap.size w w' := by
  have HS := Lib.hid hs
  have HF := Lib.hid hf
  clear hs hf
  unfold loanV
  go_enter Tryd.func18, Tryd.ntmps18
  go_wp2_with fail
  have hcell : (w.alloc (.cells #[.slice (some ⟨g, 0, none⟩) l.length κ, .slice (some ⟨g, 0, none⟩) (l.length + 40) κ] 37)).cell? ⟨w.heap.size, 1, none⟩ = some (.slice (some ⟨g, 0, none⟩) (l.length + 40) κ) := (Blk.new w _ _).cell 1
  generalize hwa : w.alloc (.cells #[.slice (some ⟨g, 0, none⟩) l.length κ, .slice (some ⟨g, 0, none⟩) (l.length + 40) κ] 37) = wa at *
  go_loopw [7] (fun i wr => ∃ (k : Nat), k ≤ l.length ∧ i = .int .i64 k ∧ Below (w.heap.size + 1) wa wr) (fun i _ => l.length - (intOf i).toNat)
  case atStart => exact ⟨0, by omega, rfl, Below.refl _ _⟩
  case round =>
    obtain ⟨k, hk, rfl, hBl⟩ := hrel
    rw [← hBl.cell (by show w.heap.size < w.heap.size + 1; omega)] at hcell
    have hBw : Below w.heap.size w wr := ((Below.refl w.heap.size w).alloc (Nat.le_refl _) _).trans (hwa ▸ hBl.mono (Nat.le_succ _))
    by_cases hlt : k < l.length
    · have dk : decide ((k : Int) < (l.length : Int)) = true := by simp; omega
      have lk : (k : Int) < (l.length : Int) := by omega
      have lk2 : (k : Int) < ((l.length + 40 : Nat) : Int) := by omega
      obtain ⟨ad, rfl, hadb, hc1⟩ := (HS.out.below hBw hB).at_ (k := k) (by rw [bytes_length]; exact hlt)
      obtain ⟨ad2, he, hadb2, hc2⟩ := (HF.out.below hBw hB).at_ (k := k) (by rw [bytes_length, List.length_append]; omega)
      injection he with he
      subst he
      have hx := lent_at l m k hlt
      rw [List.getElem?_eq_getElem (by rw [bytes_length, List.length_append]; omega)] at hx
      injection hx with hx
      rw [hx, addr_add, Nat.zero_add] at hc2
      rw [bytes_get] at hc1
      generalize l[k] = x at *
      have hne : (by8 x != by8 x) = false := by simp
      have HB := Lib.hid hBl
      clear hx hBl hBw hwa
      go_wp2_with fail
      go_quiet (fail)
      go_wp2_with fail
      exact ⟨⟨k + 1, by omega, by go_num, below_drewN HB.out nq⟩, by simp [intOf]; omega⟩
    · have dk : decide ((k : Int) < (l.length : Int)) = false := by simp; omega
      have HB := Lib.hid hBl
      clear hBl hBw hcell
      go_wp2_with fail
      go_loopw [8] (fun i wr => ∃ (k : Nat), k ≤ 40 ∧ i = .int .i64 k ∧ Below (w.heap.size + 1) wa wr) (fun i _ => 40 - (intOf i).toNat)
      case atStart => exact ⟨0, by omega, rfl, HB.out⟩
      case round =>
        clear HB
        obtain ⟨k, hk, rfl, hBl⟩ := hrel
        have hcell : wa.cell? ⟨w.heap.size, 1, none⟩ = some (.slice (some ⟨g, 0, none⟩) (l.length + 40) κ) := by rw [← hwa]; exact (Blk.new w _ _).cell 1
        rw [← hBl.cell (by show w.heap.size < w.heap.size + 1; omega)] at hcell
        have hBw : Below w.heap.size w wr := ((Below.refl w.heap.size w).alloc (Nat.le_refl _) _).trans (hwa ▸ hBl.mono (Nat.le_succ _))
        by_cases hlt : k < 40
        · have dk : decide ((k : Int) < 40) = true := by simp; omega
          have lk2 : ((l.length + k : Nat) : Int) < ((l.length + 40 : Nat) : Int) := by omega
          have e3 : IntKind.i64.wrap (3 * (k : Int)) = 3 * (k : Int) := IntWalk.i64_in _ (by omega)
          have e4 : IntKind.i64.wrap ((l.length : Int) + (k : Int)) = ((l.length + k : Nat) : Int) := by rw [IntWalk.i64_in _ (by omega)]; omega
          have em := mark_at m k hlt
          obtain ⟨ad2, he, hadb2, hc2⟩ := (HF.out.below hBw hB).at_ (k := l.length + k) (by rw [bytes_length, List.length_append, marksL_length]; omega)
          injection he with he
          subst he
          have hx := lent_mark l m k hlt
          rw [List.getElem?_eq_getElem (by rw [bytes_length, List.length_append, marksL_length]; omega)] at hx
          injection hx with hx
          rw [hx, addr_add, Nat.zero_add] at hc2
          generalize markB m k = x at *
          have hne : (by8 x != by8 x) = false := by simp
          have HB := Lib.hid hBl
          clear hx hBl hBw hwa
          go_wp2_with fail
          exact ⟨⟨k + 1, by omega, by go_num, HB.out⟩, by simp [intOf]; omega⟩
        · have dk : decide ((k : Int) < 40) = false := by simp; omega
          have HB := Lib.hid hBw
          clear hBl hBw hwa
          go_wp2_with fail
          go_ret
          exact ⟨rfl, HB.out⟩
def wip (x : UInt8) : UInt8 := x + 91
def wipL (L : List UInt8) (k : Nat) : List UInt8 := (L.take k).map wip ++ L.drop k
theorem wipL_zero (L : List UInt8) : wipL L 0 = L := by simp [wipL]
theorem wipL_all (L : List UInt8) : wipL L L.length = L.map wip := by simp [wipL]
theorem wipL_get (L : List UInt8) (k : Nat) (h : k < L.length) : (bytes (wipL L k))[k]? = some (.int .u8 (by8 L[k])) := by
  unfold bytes wipL
  rw [List.getElem?_map, List.getElem?_append_right (by simp; omega)]
  simp only [List.length_map, List.length_take, Nat.min_eq_left (Nat.le_of_lt h), Nat.sub_self, List.getElem?_drop, Nat.add_zero]
  rw [List.getElem?_eq_getElem h]
  rfl
theorem wipL_set (L : List UInt8) (k : Nat) (h : k < L.length) : (bytes (wipL L k)).set k (.int .u8 (by8 (wip L[k]))) = bytes (wipL L (k + 1)) := by
  have hl : ((L.take k).map wip).length = k := by simp; omega
  unfold wipL
  rw [List.take_succ_eq_append_getElem h, List.map_append, List.append_assoc, bytes_append, bytes_append, List.set_append_right _ _ (by rw [bytes_length, hl]; exact Nat.le_refl _), bytes_length, hl, Nat.sub_self]
  rw [List.drop_eq_getElem_cons h]
  rfl
theorem wip_add (x : UInt8) : (by8 x + 91) % 256 = by8 (wip x) := by
  have h := wrap_add8 x 91
  rw [IntKind.wrap_u8'] at h
  exact h
set_option maxHeartbeats 1000000 in
theorem wipe_calls (g κ base N : Nat) (u : Value) (L : List UInt8) (hN : L.length = N) (hl : N ≤ 281474976710656) (w : World) (ho : w.ownsRow base 5 1 (.slice (some ⟨g, 0, none⟩) N κ) N (bytes L)) (hgw : g < w.heap.size) :
    Calls Tryd.prog 19 #[.agg #[u, .slice (some ⟨g, 0, none⟩) N κ]] w fun e w' => e = .returned (.tuple #[]) ∧ w.grownBy w' (some g) ∧ w'.ownsRow base 5 1 (.slice (some ⟨g, 0, none⟩) N κ) N (bytes (L.map wip)) := by
  have HO := Lib.hid ho
  have hN1 := Nat.le_of_eq hN
  have hN2 := Nat.le_of_eq hN.symm
  have HN := Lib.hid hN
  clear ho hN
  go_enter Tryd.func19, Tryd.ntmps19
  go_wp2_with fail
  generalize hwa : w.alloc (.cells #[u, .slice (some ⟨g, 0, none⟩) N κ] 37) = wa at *
  have hG0 : w.grownBy wa (some g) := grown_below (grown_refl w _) (hwa ▸ (Below.refl w.heap.size w).alloc (Nat.le_refl _) _)
  have hO0 : wa.ownsRow base 5 1 (.slice (some ⟨g, 0, none⟩) N κ) N (bytes L) := hwa ▸ HO.out.alloc _
  have hs0 : wa.heap.size = w.heap.size + 1 := by rw [← hwa, size_alloc]
  have HWA := Lib.hid hwa
  clear hwa
  go_loopw [2] (fun i wr => ∃ (k : Nat), k ≤ N ∧ i = .int .i64 k ∧ wa.grownBy wr (some g) ∧ wr.ownsRow base 5 1 (.slice (some ⟨g, 0, none⟩) N κ) N (bytes (wipL L k))) (fun i _ => N - (intOf i).toNat)
  case atStart => exact ⟨0, by omega, rfl, grown_refl _ _, by rw [wipL_zero]; exact hO0⟩
  case round =>
    clear hO0 HO
    obtain ⟨k, hk, rfl, hG, hown⟩ := hrel
    have hcell : wr.cell? ⟨w.heap.size, 1, none⟩ = some (.slice (some ⟨g, 0, none⟩) N κ) := by
      rw [World.cell?_of_block (w := wa) (hG.block w.heap.size (by omega) (by intro e; injection e; omega)), ← HWA.out]
      exact (Blk.new w _ _).cell 1
    have HG := Lib.hid hG
    by_cases hlt : k < N
    · have dk : decide ((k : Int) < (N : Int)) = true := by simp; omega
      have lk : (k : Int) < (N : Int) := by omega
      have hc := hown.cellAt k (by omega)
      have hf := hown.frozenAt k
      have hst := (hown.stored k (.int .u8 (by8 (wip (L[k]'(by omega)))))).1
      have hgs := (hown.stored k (.int .u8 (by8 (wip (L[k]'(by omega)))))).2
      rw [wipL_set L k (by omega)] at hst
      rw [wipL_get L k (by omega)] at hc
      have em := wip_add (L[k]'(by omega))
      generalize (L[k]'(by omega)) = x at *
      have HST := Lib.hid hst
      have HGS := Lib.hid hgs
      clear hst hgs hown hG hG0
      go_wp2_with fail
      go_still_tail 10, (by kernel_rfl)
      change wpList _ _ _ _ _ wr.drew
      go_wp2_with fail
      exact ⟨⟨k + 1, by omega, by go_num, grown_below (HG.out.trans HGS.out) ⟨rfl, rfl, rfl, Nat.le_refl _, fun _ _ => rfl⟩, HST.out⟩, by simp [intOf]; omega⟩
    · have dk : decide ((k : Int) < (N : Int)) = false := by simp; omega
      obtain rfl : k = N := by omega
      rw [← HN.out, wipL_all, HN.out] at hown
      have HO := Lib.hid hown
      clear hown
      go_wp2_with fail
      go_end0
      exact ⟨rfl, hG0.trans HG.out, HO.out⟩
end Go.Proofs.YtfidjeoeaeghhaaDoor
