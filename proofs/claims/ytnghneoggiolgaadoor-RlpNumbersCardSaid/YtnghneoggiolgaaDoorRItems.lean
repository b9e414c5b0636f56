/- Items in memory; the stack of open lengths; the last of them taken off. -/
import Derived.Test.YtnghneoggiolgaaDoorRHead
namespace Go.Proofs.YtnghneoggiolgaaDoor
open Go.RowKit
abbrev ItemL := Bool × Int × Piece
def itemC (x : ItemL) : List Value := [.bool x.1, .int .i64 x.2.1, pcV x.2.2]
def ItemsAt (w : World) (B : Nat) (A : Option Addr) (l : List ItemL) : Prop := ∀ j (h : j < l.length), ∃ ad, A = some ad ∧ ad.block < B ∧ ∀ i, i < 3 → w.cell? (ad.add (j * 3 + i)) = (itemC l[j])[i]?
theorem ItemsAt.below {w w' : World} {B B' : Nat} {A : Option Addr} {l : List ItemL} (h : ItemsAt w B A l) (hb : Below B' w w') (hB : B ≤ B') : ItemsAt w' B A l := fun j hj => by
  obtain ⟨ad, rfl, hlt, hc⟩ := h j hj
  exact ⟨ad, rfl, hlt, fun i hi => by rw [← hc i hi]; exact hb.cell (by rw [block_add]; omega)⟩
theorem ItemsAt.get {w : World} {B : Nat} {A : Option Addr} {l : List ItemL} (h : ItemsAt w B A l) (j : Nat) (hj : j < l.length) : ∃ ad, A = some ad ∧ ad.block < B ∧ w.cell? (ad.add (j * 3)) = some (.bool l[j].1) ∧
    w.cell? ⟨(ad.add (j * 3)).block, (ad.add (j * 3)).off + 1, none⟩ = some (.int .i64 l[j].2.1) ∧ w.cell? ⟨(ad.add (j * 3)).block, (ad.add (j * 3)).off + 2, none⟩ = some (.slice l[j].2.2.1 l[j].2.2.2.2.length l[j].2.2.2.1) := by
  obtain ⟨ad, e, hlt, hc⟩ := h j hj
  refine ⟨ad, e, hlt, hc 0 (by omega), ?_, ?_⟩
  · have := hc 1 (by omega)
    rw [← add_add'] at this
    exact this
  · have := hc 2 (by omega)
    rw [← add_add'] at this
    exact this
def nums (l : List Nat) : List Value := l.map fun n : Nat => .int .i64 (n : Int)
theorem nums_length (l : List Nat) : (nums l).length = l.length := by simp [nums]
theorem nums_append (a b : List Nat) : nums (a ++ b) = nums a ++ nums b := by simp [nums]
theorem nums_take (l : List Nat) (k : Nat) : nums (l.take k) = (nums l).take k := by simp [nums]
theorem infoInt : (Tryd.prog.info? 3).map (fun i => (i.zero, i.size, i.bytes)) = some (some (.int .i64 0), 1, 8) := by kernel_rfl
theorem elInt : Elem Tryd.prog 61 3 1 8 := Elem.mk' Tryd.underlying61 infoInt rfl (by decide)
/-- A row cut short is a row. -/
theorem own_short {w : World} {base : Nat} {e : TypeId} {A : Option Addr} {n c : Nat} {xs : List Value} (h : w.ownsRow base e 1 (.slice A n c) n xs) (k : Nat) (hk : k ≤ n) (hc : 0 < n) : w.ownsRow base e 1 (.slice A k c) k (xs.take k) := by
  obtain ⟨h1, h2⟩ := h
  refine ⟨by rw [List.length_take]; omega, ?_⟩
  rcases h2 with ⟨h2, h3⟩ | ⟨g, cap, cur, hv, hg, hh, hnc, hcm, hcs, htake⟩
  · omega
  · injection hv with e1 e2 e3
    subst e1 e3
    refine .inr ⟨g, c, cur, rfl, hg, hh, by omega, hcm, hcs, ?_⟩
    rw [← htake, List.take_take, Nat.mul_one, Nat.mul_one, Nat.min_eq_left hk]
def topSum (st : List Nat) (k : Nat) : Nat := (st.drop (st.length - k)).sum
theorem topSum_zero (st : List Nat) : topSum st 0 = 0 := by unfold topSum; rw [Nat.sub_zero, List.drop_length]; rfl
theorem topSum_succ (st : List Nat) (k : Nat) (h : k < st.length) : topSum st (k + 1) = topSum st k + st[st.length - (k + 1)]'(by omega) := by
  unfold topSum
  rw [List.drop_eq_getElem_cons (show st.length - (k + 1) < st.length by omega), show st.length - (k + 1) + 1 = st.length - k by omega, List.sum_cons]
  omega
theorem topSum_le (st : List Nat) (k : Nat) : topSum st k ≤ st.sum := by
  unfold topSum
  conv => rhs; rw [← List.take_append_drop (st.length - k) st, List.sum_append]
  omega
set_option maxHeartbeats 1000000 in
theorem take_calls (base b : Nat) (A : Option Addr) (c : Nat) (st : List Nat) (n : Int) (hs : st.sum ≤ 281474976710656) (hl : st.length ≤ 281474976710656) (w : World) (hb : Blk w b 61 #[.slice A st.length c])
    (ho : w.ownsRow base 3 1 (.slice A st.length c) st.length (nums st)) :
    Calls Tryd.prog 31 #[.int .i64 n, .pointer (some ⟨b, 0, none⟩)] w fun e w' =>
      ((0 ≤ n ∧ n ≤ st.length ∧ e = .returned (.tuple #[.int .i64 (topSum st n.toNat), .bool true]) ∧ Blk w' b 61 #[.slice A (st.length - n.toNat) c]) ∨
       ((n < 0 ∨ (st.length : Int) < n) ∧ e = .returned (.tuple #[.int .i64 0, .bool false]) ∧ Blk w' b 61 #[.slice A st.length c])) ∧ Only b w w' := by
  have HB := Lib.hid hb
  have HO := Lib.hid ho
  have hcell : w.cell? ⟨b, 0, none⟩ = some (.slice A st.length c) := hb.cell 0
  clear hb ho
  by_cases hn : n < 0
  · have d1 : decide (n < 0) = true := by simpa using hn
    go_enter Tryd.func31, Tryd.ntmps31
    go_wp2_with fail
    go_ret2
    exact ⟨Or.inr ⟨Or.inl hn, rfl, HB.out⟩, Only.refl _ _⟩
  · have d1 : decide (n < 0) = false := by simp; omega
    obtain ⟨k, rfl⟩ := Int.eq_ofNat_of_zero_le (show 0 ≤ n by omega)
    by_cases hk : (st.length : Int) < k
    · have d2 : decide ((k : Int) > (st.length : Int)) = true := by simp; omega
      go_enter Tryd.func31, Tryd.ntmps31
      go_wp2_with fail
      go_ret2
      first | exact ⟨Or.inr ⟨rfl, HB.out⟩, Only.refl _ _⟩ | exact ⟨Or.inr ⟨Or.inr hk, rfl, HB.out⟩, Only.refl _ _⟩
    · have d2 : decide ((k : Int) > (st.length : Int)) = false := by simp; omega
      go_enter Tryd.func31, Tryd.ntmps31
      go_wp2_with fail
      go_loopw [3, 14] (fun s i wr => ∃ j : Nat, j ≤ k ∧ i = .int .i64 j ∧ s = .int .i64 (topSum st j) ∧ Only b w wr ∧ Blk wr b 61 #[.slice A (st.length - j) c]) (fun _ i _ => k - (intOf i).toNat)
      case atStart => exact ⟨0, by omega, rfl, by rw [topSum_zero]; rfl, Only.refl _ _, by rw [Nat.sub_zero]; exact HB.out⟩
      case round =>
        obtain ⟨j, hj, rfl, rfl, hOn, hB⟩ := hrel
        have hc1 : wr.cell? ⟨b, 0, none⟩ = some (.slice A (st.length - j) c) := hB.cell 0
        have hf1 := hB.frozen 0
        have HOn := Lib.hid hOn
        have HB1 := Lib.hid hB
        clear hcell hOn hB
        by_cases hlt : j < k
        · have dj : decide ((j : Int) < (k : Int)) = true := by simp; omega
          have hts := topSum_succ st j (by omega)
          have htl := topSum_le st (j + 1)
          obtain ⟨g, rfl, hg1, hg2, hgc, hgm⟩ := own_form HO.out (by omega)
          have hgb : g ≠ b := fun e => by
            obtain ⟨cur, h1⟩ := own_blk (own_mono HO.out (Nat.le_refl base)) g rfl
            exact Blk.ne (e ▸ h1) HB.out (by decide) rfl
          have hce := (own_only HO.out HOn.out (by simp [Value.ownBlock]; exact hgb)).cellAt (st.length - (j + 1)) (by omega)
          rw [List.getElem?_eq_getElem (by rw [nums_length]; omega)] at hce
          simp only [nums, List.getElem_map] at hce
          have HTS := Lib.hid hts
          have hx1 : topSum st j + st[st.length - (j + 1)]'(by omega) ≤ 281474976710656 := by omega
          clear hts htl
          generalize st[st.length - (j + 1)]'(by omega) = x at *
          have e2 : IntKind.i64.wrap (((st.length - j : Nat) : Int) - 1) = ((st.length - (j + 1) : Nat) : Int) := by rw [IntWalk.i64_in _ (by omega)]; omega
          have l1 : ((st.length - (j + 1) : Nat) : Int) < ((st.length - j : Nat) : Int) := by omega
          have l2 : ((st.length - (j + 1) : Nat) : Int) ≤ (c : Int) := by omega
          generalize hm : topSum st j = s at *
          generalize hp : st.length - j = p at *
          generalize hq : st.length - (j + 1) = q at *
          have HQ := Lib.hid hq
          clear hp hq hm
          go_wp2_with fail
          exact ⟨⟨j + 1, by omega, by go_num, by rw [HTS.out]; rfl, HOn.out.trans (Only.setCell _ ⟨b, 0, none⟩ _), by rw [HQ.out]; exact HB1.out.set_ 0 _⟩, by simp [intOf]; omega⟩
        · have dj : decide ((j : Int) < (k : Int)) = false := by simp; omega
          obtain hjk : j = k := by omega
          have HJ := Lib.hid hjk
          clear hjk
          go_wp2_with fail
          go_ret2
          exact ⟨Or.inl ⟨by omega, by omega, by rw [Int.toNat_natCast, ← HJ.out]; rfl, by rw [Int.toNat_natCast, ← HJ.out]; exact HB1.out⟩, HOn.out⟩
end Go.Proofs.YtnghneoggiolgaaDoor
