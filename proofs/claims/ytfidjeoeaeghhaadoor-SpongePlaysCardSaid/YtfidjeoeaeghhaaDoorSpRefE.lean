/- The document's own sponge: the row of bits. -/
import Derived.Test.YtfidjeoeaeghhaaDoorSpRefD
namespace Go.Proofs.YtfidjeoeaeghhaaDoor
open Go.RowKit
/-- The register behind i steps, bit by bit. -/
def regF : Nat → Nat → Nat
  | 0, j => if j = 0 then 1 else 0
  | i + 1, j => if regF i 7 = 1 then (if j = 0 then 1 else if j = 4 ∨ j = 5 ∨ j = 6 then 1 - regF i (j - 1) else regF i (j - 1)) else (if j = 0 then 0 else regF i (j - 1))
theorem regF_le (i : Nat) : ∀ j, regF i j ≤ 1 := by
  induction i with
  | zero => intro j; unfold regF; split <;> omega
  | succ i ih =>
    intro j
    have := ih (j - 1)
    unfold regF
    repeat' split
    all_goals omega
def num (n : Nat) : Value := .int .i64 (n : Int)
def rowL (n : Nat) : List Value := (List.range n).map fun i => num (regF i 0)
def nineL (i n : Nat) : List Value := num 0 :: (List.range n).map fun j => num (regF i j)
theorem rowL_succ (n : Nat) : rowL (n + 1) = rowL n ++ [num (regF n 0)] := by simp [rowL, List.range_succ]
theorem rowL_length (n : Nat) : (rowL n).length = n := by simp [rowL]
theorem nineL_succ (i n : Nat) : nineL i (n + 1) = nineL i n ++ [num (regF i n)] := by simp [nineL, List.range_succ]
theorem nineL_length (i n : Nat) : (nineL i n).length = n + 1 := by simp [nineL]
theorem nineL_get (i : Nat) (j : Nat) (h : j < 9) : (nineL i 8)[j]? = some (num (if j = 0 then 0 else regF i (j - 1))) := by
  unfold nineL
  cases j with
  | zero => rfl
  | succ j => simp [show j < 8 by omega]
theorem infoInt : (Tryd.prog.info? 3).map (fun i => (i.zero, i.size, i.bytes)) = some (some (.int .i64 0), 1, 8) := by kernel_rfl
theorem elInt : Elem Tryd.prog 56 3 1 8 := Elem.mk' Tryd.underlying56 infoInt rfl (by decide)
theorem reg_turn {wr : World} {g k : Nat} (hc : ∀ j, j < 9 → wr.cell? ⟨g, j, none⟩ = some (num (if j = 0 then 0 else regF k (j - 1)))) (h7 : regF k 7 = 1) :
    ∀ j, j < 8 → ((((wr.setCell ⟨g, 0, none⟩ (.int .i64 1)).setCell ⟨g, 4, none⟩ (.int .i64 (1 - (regF k 3 : Int)))).setCell ⟨g, 5, none⟩ (.int .i64 (1 - (regF k 4 : Int)))).setCell ⟨g, 6, none⟩ (.int .i64 (1 - (regF k 5 : Int)))).cell? ⟨g, j, none⟩ = some (num (regF (k + 1) j)) := by
  intro j hj
  have b3 := regF_le k 3
  have b4 := regF_le k 4
  have b5 := regF_le k 5
  have n1 : ∀ m : Nat, m ≤ 1 → Value.int IntKind.i64 (1 - (m : Int)) = num (1 - m) := fun m hm => by unfold num; congr 1; omega
  rw [n1 _ b3, n1 _ b4, n1 _ b5]
  have hs : ∀ i, i < 9 → (wr.cell? ⟨g, i, none⟩).isSome = true := fun i hi => by rw [hc i hi]; rfl
  have hr : ∀ j, regF (k + 1) j = if j = 0 then 1 else if j = 4 ∨ j = 5 ∨ j = 6 then 1 - regF k (j - 1) else regF k (j - 1) := fun j => by
    show (if regF k 7 = 1 then _ else _) = _
    rw [if_pos h7]
  rw [hr]
  have hcj := hc j (by omega)
  by_cases h0 : j = 0
  · subst h0; simp [World.cell?_setCell_other, World.cell?_setCell_same', hs, num]
  · by_cases h4 : j = 4
    · subst h4; simp [World.cell?_setCell_other, World.cell?_setCell_same', hs]
    · by_cases h5 : j = 5
      · subst h5; simp [World.cell?_setCell_other, World.cell?_setCell_same', hs]
      · by_cases h6 : j = 6
        · subst h6; simp [World.cell?_setCell_other, World.cell?_setCell_same', hs]
        · rw [World.cell?_setCell_other _ _ _ _ (fun e => h6 (by injection e with _ e2 _; exact e2.symm)), World.cell?_setCell_other _ _ _ _ (fun e => h5 (by injection e with _ e2 _; exact e2.symm)), World.cell?_setCell_other _ _ _ _ (fun e => h4 (by injection e with _ e2 _; exact e2.symm)), World.cell?_setCell_other _ _ _ _ (fun e => h0 (by injection e with _ e2 _; exact e2.symm)), hcj]
          simp [h0, h4, h5, h6]
theorem reg_stay {wr : World} {g k : Nat} (hc : ∀ j, j < 9 → wr.cell? ⟨g, j, none⟩ = some (num (if j = 0 then 0 else regF k (j - 1)))) (h7 : ¬ regF k 7 = 1) :
    ∀ j, j < 8 → wr.cell? ⟨g, j, none⟩ = some (num (regF (k + 1) j)) := by
  intro j hj
  rw [hc j (by omega)]
  show _ = some (num (if regF k 7 = 1 then _ else _))
  rw [if_neg h7]
set_option maxHeartbeats 1000000 in
set_option maxRecDepth 100000 in
theorem row_calls (w : World) :
    Calls Tryd.prog 38 #[.int .i64 168] w fun e w' => ∃ A c, e = .returned (.slice A 168 c) ∧ w'.ownsRow w.heap.size 3 1 (.slice A 168 c) 168 (rowL 168) ∧ Below w.heap.size w w' := by
  go_enter Tryd.func38, Tryd.ntmps38
  go_wp2_with fail
  go_loopw [3, 4, 5] (fun l r i wr => ∃ (k : Nat) (Al : Option Addr) (cl gr cr : Nat), k ≤ 168 ∧ i = .int .i64 k ∧ l = .slice Al k cl ∧ wr.ownsRow w.heap.size 3 1 (.slice Al k cl) k (rowL k) ∧
      r = .slice (some ⟨gr, 0, none⟩) 8 cr ∧ 8 ≤ cr ∧ gr < wr.heap.size ∧ (Value.slice Al k cl).ownBlock ≠ some gr ∧ (∀ j, j < 8 → wr.cell? ⟨gr, j, none⟩ = some (num (regF k j))) ∧ Below w.heap.size w wr) (fun _ _ i _ => 168 - (intOf i).toNat)
  case atStart =>
    refine ⟨0, none, 0, w.heap.size, 8, by omega, rfl, rfl, World.ownsRow_nil _ _ _ _, rfl, by omega, by simp, by simp [Value.ownBlock], ?_, (Below.refl _ _).alloc (Nat.le_refl _) _⟩
    intro j hj
    rw [(Blk.new w 3 _).cell j]
    have : ∀ j : Fin 8, (#[Value.int .i64 1, .int .i64 0, .int .i64 0, .int .i64 0, .int .i64 0, .int .i64 0, .int .i64 0, .int .i64 0] : Array Value)[j.val]? = some (num (regF 0 j.val)) := by
      intro j
      match j with
      | 0 => rfl
      | 1 => rfl
      | 2 => rfl
      | 3 => rfl
      | 4 => rfl
      | 5 => rfl
      | 6 => rfl
      | 7 => rfl
    exact this ⟨j, hj⟩
  case round =>
    obtain ⟨k, Al, cl, gr, cr, hk, rfl, rfl, hown, rfl, hcr, hgr, hne, hcells, hB⟩ := hrel
    by_cases hlt : k < 168
    · have hd : decide ((k : Int) < 168) = true := by simp; omega
      have c0 : wr.cell? ⟨gr, 0, none⟩ = some (.int .i64 (regF k 0 : Int)) := hcells 0 (by omega)
      have HC := Lib.hid hcells
      have HB := Lib.hid hB
      have HN := Lib.hid hne
      have HO := Lib.hid hown
      have hsz := hB.size
      clear hcells hB hne hown
      go_wp2_with ((at_builtin; refine wpL_append rfl _ _ 56 rfl elInt rfl (HO.out.alloc _) rfl rfl (Seq.one_new _ _ _) (by simp [Value.oneCell']) (by unfold maxLen; omega) (by omega) (by simp; omega) ?_; intro Al2 cl2 w2 ho2 hg2 hb2))
      rw [show rowL k ++ [Value.int IntKind.i64 (regF k 0 : Int)] = rowL (k + 1) from (rowL_succ k).symm] at ho2
      have hs2 := hg2.size
      simp only [size_alloc] at hs2 hb2
      have hB2 : Below w.heap.size w w2 := (HB.out.alloc hsz _).grown hg2 (by simp; omega) (fun g hg => (HO.out.lt g hg).1)
      have hC2 : ∀ j, j < 8 → w2.cell? ⟨gr, j, none⟩ = some (num (regF k j)) := fun j hj =>
        ((World.cell?_of_block (w := wr.alloc _) (hg2.block gr (by simp; omega) (fun e => HN.out e.symm))).trans (World.cell?_alloc_lt _ _ _ hgr)).trans (HC.out j hj)
      have hn2 : (Value.slice Al2 (k + 1) cl2).ownBlock ≠ some gr := by
        rcases hb2 with h | h
        · rw [h]; exact HN.out
        · rw [h]; intro e; injection e with e; omega
      have HB2 := Lib.hid hB2
      have HC2 := Lib.hid hC2
      have HN2 := Lib.hid hn2
      have HO2 := Lib.hid ho2
      clear hB2 hC2 hn2 ho2 hg2 hb2 HB HC HN HO
      go_loopw [6, 7] (fun v i wn => ∃ (q : Nat) (A9 : Option Addr) (c9 : Nat), q ≤ 8 ∧ i = .int .i64 q ∧ v = .slice A9 (q + 1) c9 ∧ wn.ownsRow w2.heap.size 3 1 (.slice A9 (q + 1) c9) (q + 1) (nineL k q) ∧ Below w2.heap.size w2 wn) (fun _ i _ => 8 - (intOf i).toNat)
      case atStart =>
        exact ⟨0, some ⟨w2.heap.size, 0, none⟩, 1, by omega, rfl, rfl, World.ownsRow_lit w2 _ 1 (Nat.le_refl _) (by unfold maxLen; omega) rfl, (Below.refl _ _).alloc (Nat.le_refl _) _⟩
      case round =>
        obtain ⟨q, A9, c9, hq, rfl, rfl, hown, hB⟩ := hrel
        have HOn := Lib.hid hown
        have HBn := Lib.hid hB
        have hsn := hB.size
        by_cases hlq : q < 8
        · have dq : decide ((q : Int) < 8) = true := by simp; omega
          have lq : (q : Int) < 8 := by omega
          have cq : wr.cell? ⟨gr, q, none⟩ = some (.int .i64 (regF k q : Int)) := ((hB.cell (p := ⟨gr, q, none⟩) (by simp; omega)).trans (HC2.out q hlq))
          clear hown hB
          go_wp2_with ((at_builtin; refine wpL_append rfl _ _ 56 rfl elInt rfl (HOn.out.alloc _) rfl rfl (Seq.one_new _ _ _) (by simp [Value.oneCell']) (by unfold maxLen; omega) (by omega) (by simp; omega) ?_; intro A92 c92 w3 ho3 hg3 _))
          rw [show nineL k q ++ [Value.int IntKind.i64 (regF k q : Int)] = nineL k (q + 1) from (nineL_succ k q).symm] at ho3
          have hB3 : Below w2.heap.size w2 w3 := (HBn.out.alloc hsn _).grown hg3 (by simp; omega) (fun g hg => (HOn.out.lt g hg).1)
          have HO3 := Lib.hid ho3
          have HB3 := Lib.hid hB3
          clear ho3 hB3 hg3
          exact ⟨⟨q + 1, A92, c92, by omega, by go_num, rfl, HO3.out, HB3.out⟩, by simp [intOf]; omega⟩
        · have dq : decide ((q : Int) < 8) = false := by simp; omega
          obtain rfl : q = 8 := by omega
          obtain ⟨g9, rfl, hg1, hg2, hc9, hc9m⟩ := own_form hown (by omega)
          have hcell : ∀ j, j < 9 → wr.cell? ⟨g9, j, none⟩ = some (num (if j = 0 then 0 else regF k (j - 1))) := fun j hj => by
            rw [hown.cellAt j (by omega), nineL_get k j hj]
          have f0 := hown.frozenAt 0
          have f4 := hown.frozenAt 4
          have f5 := hown.frozenAt 5
          have f6 := hown.frozenAt 6
          have c0 : wr.cell? ⟨g9, 0, none⟩ = some (.int .i64 0) := hcell 0 (by omega)
          have c4 : wr.cell? ⟨g9, 4, none⟩ = some (.int .i64 (regF k 3 : Int)) := hcell 4 (by omega)
          have c5 : wr.cell? ⟨g9, 5, none⟩ = some (.int .i64 (regF k 4 : Int)) := hcell 5 (by omega)
          have c6 : wr.cell? ⟨g9, 6, none⟩ = some (.int .i64 (regF k 5 : Int)) := hcell 6 (by omega)
          have c8 : wr.cell? ⟨g9, 8, none⟩ = some (.int .i64 (regF k 7 : Int)) := hcell 8 (by omega)
          have b3 := regF_le k 3
          have b4 := regF_le k 4
          have b5 := regF_le k 5
          have hcc : (8 : Int) ≤ (c9 : Int) := by omega
          have HCell := Lib.hid hcell
          clear hown hB hcell
          by_cases h7 : regF k 7 = 1
          · have e7 : ((regF k 7 : Int) == 1) = true := by simp [h7]
            have H7 := Lib.hid h7
            clear h7
            go_wp2_with fail
            refine ⟨⟨k + 1, Al2, cl2, g9, c9, by omega, by go_num, rfl, ?_, rfl, by omega, by simpa using hg2, ?_, reg_turn HCell.out H7.out, ?_⟩, by simp [intOf]; omega⟩
            · refine own_only (g := g9) (own_below' HO2.out HBn.out) ?_ ?_
              · exact (((Only.setCell wr ⟨g9, 0, none⟩ _).trans (Only.setCell _ ⟨g9, 4, none⟩ _)).trans (Only.setCell _ ⟨g9, 5, none⟩ _)).trans (Only.setCell _ ⟨g9, 6, none⟩ _)
              · intro e
                have := (HO2.out.lt _ e).2
                omega
            · intro e
              have := (HO2.out.lt _ e).2
              omega
            · exact ((((HB2.out.trans (HBn.out.mono (by omega))).setCell (by simp; omega) _).setCell (by simp; omega) _).setCell (by simp; omega) _).setCell (by simp; omega) _
          · have e7 : ((regF k 7 : Int) == 1) = false := by simp; omega
            have H7 := Lib.hid h7
            clear h7
            go_wp2_with fail
            refine ⟨⟨k + 1, Al2, cl2, g9, c9, by omega, by go_num, rfl, own_below' HO2.out HBn.out, rfl, by omega, hg2, ?_, reg_stay HCell.out H7.out, HB2.out.trans (HBn.out.mono (by omega))⟩, by simp [intOf]; omega⟩
            intro e
            have := (HO2.out.lt _ e).2
            omega
    · have hd : decide ((k : Int) < 168) = false := by simp; omega
      obtain rfl : k = 168 := by omega
      have HO := Lib.hid hown
      have HB := Lib.hid hB
      clear hown hB hcells
      go_wp2_with fail
      go_ret
      exact ⟨Al, cl, rfl, HO.out, HB.out⟩
end Go.Proofs.YtfidjeoeaeghhaaDoor
