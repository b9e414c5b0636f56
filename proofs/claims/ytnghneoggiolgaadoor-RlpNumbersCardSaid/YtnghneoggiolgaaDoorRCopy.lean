/- Rows of items: Copy, Same. -/
import Derived.Test.YtnghneoggiolgaaDoorRItems
import Derived.Test.YtnghneoggiolgaaDoorRSmall
namespace Go.Proofs.YtnghneoggiolgaaDoor
open Go.RowKit
def itemsC (l : List ItemL) : List Value := l.flatMap itemC
theorem itemsC_length (l : List ItemL) : (itemsC l).length = l.length * 3 := by
  induction l with
  | nil => rfl
  | cons x l ih => simp only [itemsC, List.flatMap_cons, List.length_append, List.length_cons] at *; rw [ih]; simp [itemC]; omega
theorem itemsC_append (a b : List ItemL) : itemsC (a ++ b) = itemsC a ++ itemsC b := by simp [itemsC]
theorem itemsC_get (l : List ItemL) (j i : Nat) (hj : j < l.length) (hi : i < 3) : (itemsC l)[j * 3 + i]? = (itemC l[j])[i]? := by
  induction l generalizing j with
  | nil => simp at hj
  | cons x l ih =>
    have e : itemsC (x :: l) = itemC x ++ itemsC l := rfl
    rw [e]
    cases j with
    | zero => rw [List.getElem?_append_left (by simp [itemC]; omega), Nat.zero_mul, Nat.zero_add]; rfl
    | succ j =>
      rw [List.getElem?_append_right (by simp [itemC]; omega)]
      have : (j + 1) * 3 + i - (itemC x).length = j * 3 + i := by simp [itemC]; omega
      rw [this, ih j (by simpa using hj)]
      rfl
theorem ItemsAt.of_own {w : World} {base : Nat} {A : Option Addr} {n c : Nat} {l : List ItemL} (h : w.ownsRow base 34 3 (.slice A n c) n (itemsC l)) : ItemsAt w w.heap.size A l := fun j hj => by
  have hs := Seq.of_own h
  have hl := itemsC_length l
  obtain ⟨ad, e, hlt, hc⟩ := hs (by omega)
  refine ⟨ad, e, hlt, fun i hi => ?_⟩
  rw [hc (j * 3 + i) (by omega), ← itemsC_get l j i hj hi, List.getElem?_eq_getElem (by omega)]
theorem infoItem : (Tryd.prog.info? 34).map (fun i => (i.zero, i.size, i.bytes)) = some (some (.agg #[.bool false, .int .i64 0, .slice none 0 0]), 3, 40) := by kernel_rfl
theorem elItem : Elem Tryd.prog 28 34 3 40 := Elem.mk' Tryd.underlying28 infoItem rfl (by decide)
/-- What an item says, wherever its bytes lie. -/
def said (x : ItemL) : Bool × Int × List UInt8 := (x.1, x.2.1, x.2.2.2.2)
def OwnI (w : World) (base : Nat) (x : ItemL) : Prop := w.ownsRow base 5 1 (pcV x.2.2) x.2.2.2.2.length (bytes x.2.2.2.2)
theorem OwnI.seq {w : World} {base : Nat} {x : ItemL} (h : OwnI w base x) : Seq w w.heap.size x.2.2.1 (bytes x.2.2.2.2) := Seq.of_own h
theorem own_alloc {w : World} {base : Nat} {e : TypeId} {size n : Nat} {v : Value} {xs : List Value} (h : w.ownsRow base e size v n xs) (o : Obj) : (w.alloc o).ownsRow base e size v n xs :=
  own_below' h ((Below.refl w.heap.size w).alloc (Nat.le_refl _) o)
set_option maxHeartbeats 2000000 in
set_option maxRecDepth 20000 in
theorem copy_calls (A : Option Addr) (c M : Nat) (l : List ItemL) (w : World) (hl : l.length ≤ 16777216) (hM : M ≤ 1099511627776) (hs : ItemsAt w w.heap.size A l) (hp : ∀ x ∈ l, x.2.2.2.2.length ≤ M ∧ Seq w w.heap.size x.2.2.1 (bytes x.2.2.2.2)) :
    Calls Tryd.prog 19 #[.slice A l.length c] w fun e w' => ∃ (A' : Option Addr) (c' : Nat) (l' : List ItemL), e = .returned (.slice A' l.length c') ∧ l'.map said = l.map said ∧
      w'.ownsRow w.heap.size 34 3 (.slice A' l.length c') l.length (itemsC l') ∧ (∀ x ∈ l', OwnI w' w.heap.size x) ∧ Below w.heap.size w w' := by
  have HS := Lib.hid hs
  have HP := Lib.hid hp
  clear hs hp
  go_enter Tryd.func19, Tryd.ntmps19
  go_wp2_with fail
  go_loopw [3, 4] (fun v i wr => ∃ (k : Nat) (A1 : Option Addr) (c1 : Nat) (l' : List ItemL), k ≤ l.length ∧ i = .int .i64 k ∧ v = .slice A1 k c1 ∧ l'.map said = (l.take k).map said ∧
    wr.ownsRow w.heap.size 34 3 (.slice A1 k c1) k (itemsC l') ∧ (∀ x ∈ l', OwnI wr w.heap.size x) ∧ Below w.heap.size w wr) (fun _ i _ => l.length - (intOf i).toNat)
  case atStart => exact ⟨0, none, 0, [], by omega, rfl, rfl, rfl, World.ownsRow_nil _ _ _ _, fun x hx => by (cases hx), Below.refl _ _⟩
  case round =>
    obtain ⟨k, A1, c1, l', hk, rfl, rfl, hsd, hown, hrow, hBl⟩ := hrel
    have hs1 := hBl.size
    by_cases hlt : k < l.length
    · have dk : decide ((k : Int) < (l.length : Int)) = true := by simp; omega
      have lk : (k : Int) < (l.length : Int) := by omega
      obtain ⟨ad, rfl, hadb, hc0, hc1, hc2⟩ := (HS.out.below hBl (Nat.le_refl _)).get k hlt
      have hlx := (HP.out _ (List.getElem_mem hlt)).1
      have hsx := (HP.out _ (List.getElem_mem hlt)).2.below hBl (Nat.le_refl _)
      have htk : (l.take (k + 1)).map said = (l.take k).map said ++ [said l[k]] := by rw [List.take_succ_eq_append_getElem hlt, List.map_append]; rfl
      generalize l[k] = it at *
      obtain ⟨isL, cnt, Ab, cb, lb⟩ := it
      simp only at hlx hsx hc0 hc1 hc2
      have hba := (Below.refl wr.heap.size wr).alloc (Nat.le_refl _) (.cells #[.bool isL, .int .i64 cnt, .slice Ab lb.length cb] 34)
      have hXa : Blk (wr.alloc (.cells #[.bool isL, .int .i64 cnt, .slice Ab lb.length cb] 34)) wr.heap.size 34 #[.bool isL, .int .i64 cnt, .slice Ab lb.length cb] := Blk.new wr _ _
      have hsxa := hsx.below hba (by omega)
      have hc2a : (wr.alloc (.cells #[.bool isL, .int .i64 cnt, .slice Ab lb.length cb] 34)).cell? ⟨(ad.add (k * 3)).block, (ad.add (k * 3)).off + 2, none⟩ = some (.slice Ab lb.length cb) := (hba.cell (p := ⟨(ad.add (k * 3)).block, (ad.add (k * 3)).off + 2, none⟩) (show (ad.add (k * 3)).block < wr.heap.size by rw [block_add]; omega)).trans hc2
      have HOa := Lib.hid (own_below' hown hba)
      have HOw := Lib.hid hown
      have HRa := Lib.hid (show ∀ x ∈ l', OwnI (wr.alloc (.cells #[.bool isL, .int .i64 cnt, .slice Ab lb.length cb] 34)) w.heap.size x from fun x hx => own_below' (hrow x hx) hba)
      have HRw := Lib.hid hrow
      have HBa := Lib.hid (hBl.trans (hba.mono hs1))
      have HSa := Lib.hid hsxa
      have HXa := Lib.hid hXa
      have HTk := Lib.hid htk
      have HSd := Lib.hid hsd
      clear hba hXa hsxa hown hrow hBl htk hsx hsd
      go_wp2_with (first
        | (at_builtin; first
          | ((refine wpL_append rfl (.tmp 17) (.tmp 22) 26 rfl elByte rfl (World.ownsRow_nil _ w.heap.size 5 1) rfl (by rw [bytes_length]; simp) HSa.out (bytes_one lb) (by unfold maxLen; omega) (by omega) (by rw [size_alloc]; omega) ?_; intro A2 c2 W2 ho2 hg2 _; simp only [Nat.zero_add, List.nil_append] at ho2; have hs2 := hg2.size; rw [size_alloc] at hs2; have hX2 := (hg2.block wr.heap.size (by rw [size_alloc]; omega) (fun e => by simp [Value.ownBlock] at e)).trans HXa.out; have q0 : W2.cell? ⟨wr.heap.size, 0, none⟩ = some (.bool isL) := Blk.cell hX2 0; have q1 : W2.cell? ⟨wr.heap.size, 1, none⟩ = some (.int .i64 cnt) := Blk.cell hX2 1; have q2 : W2.cell? ⟨wr.heap.size, 2, none⟩ = some (.slice Ab lb.length cb) := Blk.cell hX2 2; have f2 := Blk.frozen hX2 2; have HXb := Lib.hid hX2; have HO2 := Lib.hid ho2; have HG2 := Lib.hid hg2; have hX2' := Blk.set_ hX2 2 (.slice A2 lb.length c2); have HX2 := Lib.hid hX2'; have HOb := Lib.hid (own_only (own_grown HOa.out hg2 (by simp [Value.ownBlock])) (Only.setCell W2 ⟨wr.heap.size, 2, none⟩ (.slice A2 lb.length c2)) (fun e => Nat.lt_irrefl _ (HOw.out.lt _ e).2)); clear ho2 hg2 hX2 hX2'))
          | (go_loud (refine wpL_append rfl (.tmp 25) (.tmp 27) 28 rfl elItem rfl (own_alloc HOb.out _) rfl rfl (Seq.of_blk (xs := [.bool isL, .int .i64 cnt, .slice A2 lb.length c2]) (Blk.new' _ _ _ (by rw [size_setCell])) (Nat.lt_succ_self _)) (by simp [Value.oneCell']) (by unfold maxLen; omega) (by omega) (by rw [size_alloc, size_setCell]; omega) ?_; intro A4 c4 W4 ho4 hg4 _; have HO4 := Lib.hid ho4; have HG4 := Lib.hid hg4; clear ho4 hg4))))
      have hOc := own_alloc HOb.out (.cells #[.bool isL, .int .i64 cnt, .slice A2 lb.length c2] 34)
      have hold : ∀ x : ItemL, OwnI (W2.setCell ⟨wr.heap.size, 2, none⟩ (.slice A2 lb.length c2)) w.heap.size x → OwnI W4 w.heap.size x := fun x hx =>
        own_grown (own_alloc hx _) HG4.out (fun q hq e => own_two (own_alloc hx _) hOc (by decide) q hq e)
      have hnew : OwnI W4 w.heap.size (isL, cnt, A2, c2, lb) := hold _ (own_only HO2.out (Only.setCell _ _ _) (fun e => by
        exact Blk.ne (own_blk HO2.out _ e).choose_spec (HXb.out) (by decide) rfl))
      refine ⟨⟨k + 1, A4, c4, l' ++ [(isL, cnt, A2, c2, lb)], by omega, by go_num, rfl, ?_, ?_, ?_, ?_⟩, by simp [intOf]; omega⟩
      · rw [List.map_append, HSd.out, HTk.out]; rfl
      · rw [itemsC_append]; exact HO4.out
      · intro x hx
        rcases List.mem_append.1 hx with hx | hx
        · exact hold x (own_only (own_grown (HRa.out x hx) HG2.out (by simp [Value.ownBlock])) (Only.setCell _ _ _) (fun e => Nat.lt_irrefl _ ((HRw.out x hx).lt _ e).2))
        · rw [List.mem_singleton] at hx
          subst hx
          exact hnew
      · refine (((Only.setCell W2 ⟨wr.heap.size, 2, none⟩ _).below (HBa.out.grown HG2.out (by rw [size_alloc]; omega) (fun g hg => by simp [Value.ownBlock] at hg)) hs1).alloc (by rw [size_setCell]; omega) _).grown HG4.out (by rw [size_alloc, size_setCell]; omega) (fun g hg => (HOw.out.lt g hg).1)
    · have dk : decide ((k : Int) < (l.length : Int)) = false := by simp; omega
      have hkl : k = l.length := by omega
      have HK := Lib.hid hkl
      have HO := Lib.hid hown
      have HR := Lib.hid hrow
      have HB := Lib.hid hBl
      have HSd := Lib.hid hsd
      clear hkl hown hrow hBl hsd
      go_wp2_with fail
      go_ret
      refine ⟨A1, c1, l', by rw [← HK.out]; rfl, ?_, by rw [← HK.out]; exact HO.out, HR.out, HB.out⟩
      rw [HSd.out, HK.out, List.take_length]
end Go.Proofs.YtnghneoggiolgaaDoor
