/- clash: have two unlike texts at one place one hash? -/
import Derived.Test.YtfhindffmghlaaaDoorMTOwnTexts
import Derived.Test.YtfhindffmghlaaaDoorG13
import Derived.Test.YtfhindffmghlaaaDoorG17
import Derived.Deep.RegionHeld3
import Derived.RegionTactic
set_option linter.unusedVariables false
set_option linter.unusedSimpArgs false
namespace Go.Proofs.YtfhindffmghlaaaDoor
open Go.RowKit
theorem unwanted_of {o g : Oper} {ops : Array Oper} {tmps : Array Value} {i d : Nat} (hg : o.guard = some (i, true)) (hi : ops[i]? = some g) (hd : g.dst = some d) (hv : tmps[d]? = some (.bool false)) : Region.wanted o (yielded ops tmps) = false := by
  unfold Region.wanted yielded
  rw [hg]
  simp [hi, hd, hv]
theorem listOf_get (f : Nat → UInt8) (n i : Nat) (h : i < n) : (listOf f n)[i]? = some (f i) := by simp [listOf, h]
theorem sameH_hash (a b : List UInt8) : sameH (hashS a) (hashS b) = true ↔ hashL a = hashL b := by
  rw [sameH_iff]
  constructor
  · intro h
    unfold hashL listOf
    exact List.map_congr_left fun i hi => h i (List.mem_range.1 hi)
  · intro h i hi
    have h1 := listOf_get (hashS a) 32 i hi
    have h2 := listOf_get (hashS b) 32 i hi
    rw [show listOf (hashS a) 32 = listOf (hashS b) 32 from h, h2] at h1
    exact (Option.some.inj h1).symm
theorem NoClash.snoc {hash : List UInt8 → List UInt8} {a b : List (List UInt8)} {x y : List UInt8} (h : NoClash hash a b) (hl : a.length = b.length) (hx : hash x = hash y → x = y) : NoClash hash (a ++ [x]) (b ++ [y]) := fun i u v h1 h2 => by
  rcases Nat.lt_or_ge i a.length with hi | hi
  · rw [List.getElem?_append_left hi] at h1
    rw [List.getElem?_append_left (by omega)] at h2
    exact h i u v h1 h2
  · rw [List.getElem?_append_right hi] at h1
    rw [List.getElem?_append_right (by omega)] at h2
    obtain ⟨hi1, rfl⟩ := List.getElem?_eq_some_iff.1 h1
    have e0 : i - a.length = 0 := by simpa using hi1
    have e1 : i - b.length = 0 := by omega
    simp only [e1, List.getElem?_cons_zero, Option.some.injEq] at h2
    subst h2
    simpa [e0] using hx
theorem NoClash.done {hash : List UInt8 → List UInt8} {a b : List (List UInt8)} {k : Nat} (h : NoClash hash (a.take k) (b.take k)) (hk : a.length ≤ k ∨ b.length ≤ k) : NoClash hash a b := fun i u v h1 h2 => by
  obtain ⟨hi1, _⟩ := List.getElem?_eq_some_iff.1 h1
  obtain ⟨hi2, _⟩ := List.getElem?_eq_some_iff.1 h2
  exact h i u v (by rw [List.getElem?_take, if_pos (by omega)]; exact h1) (by rw [List.getElem?_take, if_pos (by omega)]; exact h2)
/-- The hash of one text of one piece, just laid in a row of one. -/
theorem sum1_calls (A : Option Addr) (c : Nat) (l : List UInt8) (W : World) (hT : Tables W) (hs : Seq W W.heap.size A (bytes l)) (hl : l.length ≤ 1099511627776) :
    Calls Tryd.prog 18 #[.slice (some ⟨W.heap.size, 0, none⟩) 1 1] (W.alloc (.cells #[.slice A l.length c] 24)) fun e w' => e = .returned (.agg (tab 32 (hashV (hashS l)))) ∧ Below W.heap.size W w' := by
  have hb : Below W.heap.size W (W.alloc (.cells #[.slice A l.length c] 24)) := (Below.refl W.heap.size W).alloc (Nat.le_refl _) _
  have hsz := size_alloc W (.cells #[.slice A l.length c] 24)
  have hsum := sumF_calls (some ⟨W.heap.size, 0, none⟩) 1 (W.alloc (.cells #[.slice A l.length c] 24)).heap.size [(A, c, l)] (W.alloc (.cells #[.slice A l.length c] 24)) (hT.below hb hT.size) (by simp)
    (Seq.of_blk (xs := [.slice A l.length c]) (Blk.new _ _ _) (by rw [hsz]; exact Nat.lt_succ_self _)) (Nat.le_refl _) (fun p hp => by
      have e : p = (A, c, l) := by simpa using hp
      subst e
      exact ⟨(hs.below hb (Nat.le_refl _)).more (by omega), by show l.length ≤ _; omega⟩)
  rw [show joinP [(A, c, l)] = l from by simp [joinP]] at hsum
  refine hsum.mono ?_
  rintro e w' ⟨rfl, h⟩
  exact ⟨rfl, hb.trans (h.mono (by omega))⟩
def ClashPost (w : World) (a b : List (List UInt8)) (e : Ending) (w' : World) : Prop := ∃ r : Bool, e = .returned (.bool r) ∧ (r = false → NoClash hashL a b) ∧ Below w.heap.size w w'
set_option maxHeartbeats 4000000 in
set_option maxRecDepth 20000 in
theorem clash_calls (A : Option Addr) (c : Nat) (ps : List Piece) (A2 : Option Addr) (c2 : Nat) (qs : List Piece) (w : World) (hT : Tables w) (hl : ps.length ≤ 1099511627776) (hl2 : qs.length ≤ 1099511627776) (hs : Seq w w.heap.size A (pcs ps)) (hs2 : Seq w w.heap.size A2 (pcs qs))
    (hp : ∀ p ∈ ps, Seq w w.heap.size p.1 (bytes p.2.2) ∧ p.2.2.length ≤ 1099511627776) (hp2 : ∀ p ∈ qs, Seq w w.heap.size p.1 (bytes p.2.2) ∧ p.2.2.length ≤ 1099511627776) :
    Calls Tryd.prog 28 #[.slice A ps.length c, .slice A2 qs.length c2] w (ClashPost w (ps.map txt) (qs.map txt)) := by
  have HT := Lib.hid hT
  have HS := Lib.hid hs
  have HS2 := Lib.hid hs2
  have HP := Lib.hid hp
  have HP2 := Lib.hid hp2
  clear hT hs hs2 hp hp2
  go_enter Tryd.func28, Tryd.ntmps28
  go_wp2_with fail
  go_loopw [5] (fun i wr => ∃ k : Nat, k ≤ ps.length ∧ k ≤ qs.length ∧ i = .int .i64 k ∧ NoClash hashL ((ps.map txt).take k) ((qs.map txt).take k) ∧ Below w.heap.size w wr) (fun i _ => ps.length - (intOf i).toNat)
  case atStart => exact ⟨0, by omega, by omega, rfl, fun i u v h => by simp at h, Below.refl _ _⟩
  case round =>
    obtain ⟨k, hk, hk2, rfl, hn, hbl⟩ := hrel
    have hsz := hbl.size
    have HN := Lib.hid hn
    have HBl := Lib.hid hbl
    clear hn
    by_cases hlt : k < ps.length ∧ k < qs.length
    · obtain ⟨hlt, hlt2⟩ := hlt
      have dk : decide ((k : Int) < (ps.length : Int)) = true := by simp; omega
      have lk : (k : Int) < (ps.length : Int) := by omega
      have dk2 : decide ((k : Int) < (qs.length : Int)) = true := by simp; omega
      have lk2 : (k : Int) < (qs.length : Int) := by omega
      have n0 : (0 : Int) ≤ (k : Int) := by omega
      obtain ⟨ad, rfl, hlta, q0⟩ := (HS.out.below hbl (Nat.le_refl _)).piece k hlt
      obtain ⟨ad2, rfl, hlta2, r0⟩ := (HS2.out.below hbl (Nat.le_refl _)).piece k hlt2
      obtain ⟨hpb, hpl⟩ := HP.out _ (List.getElem_mem hlt)
      obtain ⟨hqb, hql⟩ := HP2.out _ (List.getElem_mem hlt2)
      have htk : ∀ h : hashL (txt ps[k]) = hashL (txt qs[k]) → txt ps[k] = txt qs[k], NoClash hashL ((ps.map txt).take (k + 1)) ((qs.map txt).take (k + 1)) := fun h => by
        rw [List.take_succ_eq_append_getElem (by simpa using hlt), List.take_succ_eq_append_getElem (by simpa using hlt2), List.getElem_map, List.getElem_map]
        exact HN.out.snoc (by simp; omega) h
      have HTk := Lib.hid htk
      have hpb' := hpb.below hbl (Nat.le_refl _)
      have hqb' := hqb.below hbl (Nat.le_refl _)
      have had : (ad.add k).block < w.heap.size := by rw [block_add]; exact hlta
      have had2 : (ad2.add k).block < w.heap.size := by rw [block_add]; exact hlta2
      clear htk hpb hqb
      generalize ps[k] = p at *
      generalize qs[k] = q at *
      obtain ⟨Ap, cp, lp⟩ := p
      obtain ⟨Aq, cq, lq⟩ := q
      simp only at hpb' hqb' hpl hql q0 r0
      have HPb := Lib.hid hpb'
      have HQb := Lib.hid hqb'
      have hbd := below_drewN (Below.refl wr.heap.size wr) 1
      have HBd := Lib.hid hbd
      have HTr := Lib.hid (HT.out.below hbl HT.out.size)
      clear hpb' hqb' hbl hbd
      by_cases he : lp = lq
      · subst he
        have hse : (lp == lp) = true := beq_self_eq_true lp
        have HSe := Lib.hid (show ∀ W : World, Below wr.heap.size wr W → Calls Tryd.prog 27 #[.slice Ap lp.length cp, .slice Aq lp.length cq] W (fun e w' => e = .returned (.bool true) ∧ w' = W) from fun W hb => by
          refine (sameLE_calls Ap cp w.heap.size lp Aq cq lp W (HPb.out.below hb hsz) (HQb.out.below hb hsz)).mono ?_
          rintro e w' ⟨rfl, rfl⟩
          exact ⟨by rw [hse], rfl⟩)
        clear hse
        go_upto_region 4 with fail
        refine wp_region_held_drew (S := fun w' => w'.cell? (ad.add k) = some (.slice Ap lp.length cp) ∧ w'.cell? (ad2.add k) = some (.slice Aq lp.length cq)) (by kernel_rfl) ⟨q0, r0⟩ (fun hHeld => ?_)
        refine wpAnyH_take (i := 0) (v := ?_) rfl (by kernel_rfl) (by kernel_rfl) (by kernel_rfl) (fun _ _ _ h => h) (Or.inl ⟨by rfl, ?_⟩) hHeld ?_
        rotate_left
        · intro _ _; go_simp; try with_reducible rfl
        try simp only [Act.put, List.getElem_toArray, List.getElem_cons_zero, List.getElem_cons_succ, List.setIfInBounds_toArray, List.set_cons_zero, List.set_cons_succ]
        refine wpAnyH_take (i := 1) (v := ?_) rfl (by kernel_rfl) (by kernel_rfl) (by kernel_rfl) (fun _ _ _ h => h) (Or.inl ⟨by rfl, ?_⟩) hHeld ?_
        rotate_left
        · intro _ _; go_simp; try with_reducible rfl
        try simp only [Act.put, List.getElem_toArray, List.getElem_cons_zero, List.getElem_cons_succ, List.setIfInBounds_toArray, List.set_cons_zero, List.set_cons_succ]
        refine wpAnyH_take (i := 2) (v := ?_) rfl (by kernel_rfl) (by kernel_rfl) (by kernel_rfl) (fun _ _ _ h => h) (Or.inl ⟨by rfl, ?_⟩) hHeld ?_
        rotate_left
        · intro _ _; go_simp; try with_reducible rfl
        try simp only [Act.put, List.getElem_toArray, List.getElem_cons_zero, List.getElem_cons_succ, List.setIfInBounds_toArray, List.set_cons_zero, List.set_cons_succ]
        refine wpAnyH_take (i := 3) (v := ?_) rfl (by kernel_rfl) (by kernel_rfl) (by kernel_rfl) (fun _ _ _ h => h) (Or.inl ⟨by rfl, ?_⟩) hHeld ?_
        rotate_left
        · intro _ hSw; go_split_ands; go_simp; try with_reducible rfl
        try simp only [Act.put, List.getElem_toArray, List.getElem_cons_zero, List.getElem_cons_succ, List.setIfInBounds_toArray, List.set_cons_zero, List.set_cons_succ]
        refine wpAnyH_take (i := 4) (v := ?_) rfl (by kernel_rfl) (by kernel_rfl) (by kernel_rfl) (fun _ _ _ h => h) (Or.inl ⟨by rfl, ?_⟩) hHeld ?_
        rotate_left
        · intro _ _; go_simp; try with_reducible rfl
        try simp only [Act.put, List.getElem_toArray, List.getElem_cons_zero, List.getElem_cons_succ, List.setIfInBounds_toArray, List.set_cons_zero, List.set_cons_succ]
        refine wpAnyH_take (i := 5) (v := ?_) rfl (by kernel_rfl) (by kernel_rfl) (by kernel_rfl) (fun _ _ _ h => h) (Or.inl ⟨by rfl, ?_⟩) hHeld ?_
        rotate_left
        · intro _ _; go_simp; try with_reducible rfl
        try simp only [Act.put, List.getElem_toArray, List.getElem_cons_zero, List.getElem_cons_succ, List.setIfInBounds_toArray, List.set_cons_zero, List.set_cons_succ]
        refine wpAnyH_take (i := 6) (v := ?_) rfl (by kernel_rfl) (by kernel_rfl) (by kernel_rfl) (fun _ _ _ h => h) (Or.inl ⟨by rfl, ?_⟩) hHeld ?_
        rotate_left
        · intro _ _; go_simp; try with_reducible rfl
        try simp only [Act.put, List.getElem_toArray, List.getElem_cons_zero, List.getElem_cons_succ, List.setIfInBounds_toArray, List.set_cons_zero, List.set_cons_succ]
        refine wpAnyH_take (i := 7) (v := ?_) rfl (by kernel_rfl) (by kernel_rfl) (by kernel_rfl) (fun _ _ _ h => h) (Or.inl ⟨by rfl, ?_⟩) hHeld ?_
        rotate_left
        · intro _ hSw; go_split_ands; go_simp; try with_reducible rfl
        try simp only [Act.put, List.getElem_toArray, List.getElem_cons_zero, List.getElem_cons_succ, List.setIfInBounds_toArray, List.set_cons_zero, List.set_cons_succ]
        refine wpAnyH_ready (rs := [8]) (by kernel_rfl) (by simp) ?_
        refine AllReadyH.cons rfl (fun K hK => ?_) AllReadyH.nil
        go_simp
        refine (HSe.out wr.drew HBd.out).mono ?_
        rintro e2 w2 ⟨rfl, rfl⟩
        go_wp2_with fail
        refine hK.out _ _ ⟨q0, r0⟩ (fun hHeld => ?_)
        clear hK K
        try simp only [Act.put, List.getElem_toArray, List.getElem_cons_zero, List.getElem_cons_succ, List.setIfInBounds_toArray, List.set_cons_zero, List.set_cons_succ]
        refine wpAnyH_take (i := 9) (v := ?_) rfl (by kernel_rfl) (by kernel_rfl) (by kernel_rfl) (fun _ _ _ h => h) (Or.inl ⟨by rfl, ?_⟩) hHeld ?_
        rotate_left
        · intro _ _; go_simp; try with_reducible rfl
        try simp only [Act.put, List.getElem_toArray, List.getElem_cons_zero, List.getElem_cons_succ, List.setIfInBounds_toArray, List.set_cons_zero, List.set_cons_succ]
        refine wpAnyH_take (i := 10) (v := ?_) rfl (by kernel_rfl) (by kernel_rfl) (by kernel_rfl) (fun _ _ _ h => h) (Or.inl ⟨by rfl, ?_⟩) hHeld ?_
        rotate_left
        · intro _ _; go_simp; try with_reducible rfl
        try simp only [Act.put, List.getElem_toArray, List.getElem_cons_zero, List.getElem_cons_succ, List.setIfInBounds_toArray, List.set_cons_zero, List.set_cons_succ]
        refine wpAnyH_take (i := 11) (v := undef) rfl (by kernel_rfl) (by kernel_rfl) (by kernel_rfl) (fun _ _ _ h => h) (Or.inr ⟨unwanted_of rfl rfl rfl rfl, rfl⟩) hHeld ?_
        try simp only [Act.put, List.getElem_toArray, List.getElem_cons_zero, List.getElem_cons_succ, List.setIfInBounds_toArray, List.set_cons_zero, List.set_cons_succ]
        refine wpAnyH_take (i := 12) (v := undef) rfl (by kernel_rfl) (by kernel_rfl) (by kernel_rfl) (fun _ _ _ h => h) (Or.inr ⟨unwanted_of rfl rfl rfl rfl, rfl⟩) hHeld ?_
        try simp only [Act.put, List.getElem_toArray, List.getElem_cons_zero, List.getElem_cons_succ, List.setIfInBounds_toArray, List.set_cons_zero, List.set_cons_succ]
        refine wpAnyH_take (i := 13) (v := undef) rfl (by kernel_rfl) (by kernel_rfl) (by kernel_rfl) (fun _ _ _ h => h) (Or.inr ⟨unwanted_of rfl rfl rfl rfl, rfl⟩) hHeld ?_
        try simp only [Act.put, List.getElem_toArray, List.getElem_cons_zero, List.getElem_cons_succ, List.setIfInBounds_toArray, List.set_cons_zero, List.set_cons_succ]
        refine wpAnyH_take (i := 14) (v := undef) rfl (by kernel_rfl) (by kernel_rfl) (by kernel_rfl) (fun _ _ _ h => h) (Or.inr ⟨unwanted_of rfl rfl rfl rfl, rfl⟩) hHeld ?_
        try simp only [Act.put, List.getElem_toArray, List.getElem_cons_zero, List.getElem_cons_succ, List.setIfInBounds_toArray, List.set_cons_zero, List.set_cons_succ]
        refine wpAnyH_take (i := 15) (v := undef) rfl (by kernel_rfl) (by kernel_rfl) (by kernel_rfl) (fun _ _ _ h => h) (Or.inr ⟨unwanted_of rfl rfl rfl rfl, rfl⟩) hHeld ?_
        try simp only [Act.put, List.getElem_toArray, List.getElem_cons_zero, List.getElem_cons_succ, List.setIfInBounds_toArray, List.set_cons_zero, List.set_cons_succ]
        refine wpAnyH_take (i := 16) (v := undef) rfl (by kernel_rfl) (by kernel_rfl) (by kernel_rfl) (fun _ _ _ h => h) (Or.inr ⟨unwanted_of rfl rfl rfl rfl, rfl⟩) hHeld ?_
        try simp only [Act.put, List.getElem_toArray, List.getElem_cons_zero, List.getElem_cons_succ, List.setIfInBounds_toArray, List.set_cons_zero, List.set_cons_succ]
        refine wpAnyH_take (i := 17) (v := undef) rfl (by kernel_rfl) (by kernel_rfl) (by kernel_rfl) (fun _ _ _ h => h) (Or.inr ⟨unwanted_of rfl rfl rfl rfl, rfl⟩) hHeld ?_
        try simp only [Act.put, List.getElem_toArray, List.getElem_cons_zero, List.getElem_cons_succ, List.setIfInBounds_toArray, List.set_cons_zero, List.set_cons_succ]
        refine wpAnyH_take (i := 18) (v := undef) rfl (by kernel_rfl) (by kernel_rfl) (by kernel_rfl) (fun _ _ _ h => h) (Or.inr ⟨unwanted_of rfl rfl rfl rfl, rfl⟩) hHeld ?_
        try simp only [Act.put, List.getElem_toArray, List.getElem_cons_zero, List.getElem_cons_succ, List.setIfInBounds_toArray, List.set_cons_zero, List.set_cons_succ]
        refine wpAnyH_take (i := 19) (v := undef) rfl (by kernel_rfl) (by kernel_rfl) (by kernel_rfl) (fun _ _ _ h => h) (Or.inr ⟨unwanted_of rfl rfl rfl rfl, rfl⟩) hHeld ?_
        try simp only [Act.put, List.getElem_toArray, List.getElem_cons_zero, List.getElem_cons_succ, List.setIfInBounds_toArray, List.set_cons_zero, List.set_cons_succ]
        refine wpAnyH_take (i := 20) (v := undef) rfl (by kernel_rfl) (by kernel_rfl) (by kernel_rfl) (fun _ _ _ h => h) (Or.inr ⟨unwanted_of rfl rfl rfl rfl, rfl⟩) hHeld ?_
        try simp only [Act.put, List.getElem_toArray, List.getElem_cons_zero, List.getElem_cons_succ, List.setIfInBounds_toArray, List.set_cons_zero, List.set_cons_succ]
        refine wpAnyH_take (i := 21) (v := undef) rfl (by kernel_rfl) (by kernel_rfl) (by kernel_rfl) (fun _ _ _ h => h) (Or.inr ⟨unwanted_of rfl rfl rfl rfl, rfl⟩) hHeld ?_
        try simp only [Act.put, List.getElem_toArray, List.getElem_cons_zero, List.getElem_cons_succ, List.setIfInBounds_toArray, List.set_cons_zero, List.set_cons_succ]
        refine wpAnyH_take (i := 22) (v := undef) rfl (by kernel_rfl) (by kernel_rfl) (by kernel_rfl) (fun _ _ _ h => h) (Or.inr ⟨unwanted_of rfl rfl rfl rfl, rfl⟩) hHeld ?_
        try simp only [Act.put, List.getElem_toArray, List.getElem_cons_zero, List.getElem_cons_succ, List.setIfInBounds_toArray, List.set_cons_zero, List.set_cons_succ]
        refine wpAnyH_take (i := 23) (v := undef) rfl (by kernel_rfl) (by kernel_rfl) (by kernel_rfl) (fun _ _ _ h => h) (Or.inr ⟨unwanted_of rfl rfl rfl rfl, rfl⟩) hHeld ?_
        try simp only [Act.put, List.getElem_toArray, List.getElem_cons_zero, List.getElem_cons_succ, List.setIfInBounds_toArray, List.set_cons_zero, List.set_cons_succ]
        refine wpAnyH_take (i := 24) (v := undef) rfl (by kernel_rfl) (by kernel_rfl) (by kernel_rfl) (fun _ _ _ h => h) (Or.inr ⟨unwanted_of rfl rfl rfl rfl, rfl⟩) hHeld ?_
        try simp only [Act.put, List.getElem_toArray, List.getElem_cons_zero, List.getElem_cons_succ, List.setIfInBounds_toArray, List.set_cons_zero, List.set_cons_succ]
        refine wpAnyH_take (i := 25) (v := undef) rfl (by kernel_rfl) (by kernel_rfl) (by kernel_rfl) (fun _ _ _ h => h) (Or.inr ⟨unwanted_of rfl rfl rfl rfl, rfl⟩) hHeld ?_
        try simp only [Act.put, List.getElem_toArray, List.getElem_cons_zero, List.getElem_cons_succ, List.setIfInBounds_toArray, List.set_cons_zero, List.set_cons_succ]
        refine wpAnyH_take (i := 26) (v := ?_) rfl (by kernel_rfl) (by kernel_rfl) (by kernel_rfl) (fun _ _ _ h => h) (Or.inl ⟨by rfl, ?_⟩) hHeld ?_
        rotate_left
        · intro _ _; go_simp; try with_reducible rfl
        try simp only [Act.put, List.getElem_toArray, List.getElem_cons_zero, List.getElem_cons_succ, List.setIfInBounds_toArray, List.set_cons_zero, List.set_cons_succ]
        refine wpAnyH_done (by kernel_rfl) ?_ _
        go_wp2_with fail
        exact ⟨⟨k + 1, by omega, by omega, by go_num, HTk.out (fun _ => rfl), HBl.out.trans (HBd.out.mono hsz)⟩, by simp [intOf]; omega⟩
      · have hse : (lp == lq) = false := by simpa using he
        obtain ⟨E, hE⟩ : ∃ E, hashS lp = E := ⟨_, rfl⟩
        obtain ⟨F, hF⟩ : ∃ F, hashS lq = F := ⟨_, rfl⟩
        have hiff := sameH_hash lp lq
        rw [hE, hF] at hiff
        have heq := eql_hash E F
        have hgd := guard_hash
        obtain ⟨b, hb⟩ : ∃ b, sameH E F = b := ⟨_, rfl⟩
        rw [hb] at heq hiff
        have HIff := Lib.hid hiff
        have HSe := Lib.hid (show ∀ W : World, Below wr.heap.size wr W → Calls Tryd.prog 27 #[.slice Ap lp.length cp, .slice Aq lq.length cq] W (fun e w' => e = .returned (.bool false) ∧ w' = W) from fun W hb => by
          refine (sameLE_calls Ap cp w.heap.size lp Aq cq lq W (HPb.out.below hb hsz) (HQb.out.below hb hsz)).mono ?_
          rintro e w' ⟨rfl, rfl⟩
          exact ⟨by rw [hse], rfl⟩)
        have HSp := Lib.hid (show ∀ (W : World) (A' : Option Addr) (c' : Nat), Tables W → Seq W W.heap.size A' (bytes lp) → Calls Tryd.prog 18 #[.slice (some ⟨W.heap.size, 0, none⟩) 1 1] (W.alloc (.cells #[.slice A' lp.length c'] 24)) (fun e w' => e = .returned (.agg (tab 32 (hashV E))) ∧ Below W.heap.size W w') from fun W A' c' h1 h2 => by
          rw [← hE]
          exact sum1_calls A' c' lp W h1 h2 hpl)
        have HSq := Lib.hid (show ∀ (W : World) (A' : Option Addr) (c' : Nat), Tables W → Seq W W.heap.size A' (bytes lq) → Calls Tryd.prog 18 #[.slice (some ⟨W.heap.size, 0, none⟩) 1 1] (W.alloc (.cells #[.slice A' lq.length c'] 24)) (fun e w' => e = .returned (.agg (tab 32 (hashV F))) ∧ Below W.heap.size W w') from fun W A' c' h1 h2 => by
          rw [← hF]
          exact sum1_calls A' c' lq W h1 h2 hql)
        clear hse hE hF hiff hb
        go_upto_region 4 with fail
        go_region_held3 (fun w' => w'.cell? (ad.add k) = some (.slice Ap lp.length cp) ∧ w'.cell? (ad2.add k) = some (.slice Aq lq.length cq)) (first | exact ⟨k5a, k5b⟩ | exact ⟨k4a, k4b⟩ | exact ⟨k3a, k3b⟩ | exact ⟨k2a, k2b⟩ | exact ⟨q0, r0⟩ | go_keep)
          (first
            | (go_at_call 27; (refine (HSe.out wr.drew HBd.out).mono ?_; rintro e1 w1 ⟨rfl, rfl⟩))
            | (go_at_call 19; (refine (ownL_calls Aq cq w.heap.size lq w3 (by omega) (HQb.out.below HB3.out hsz)).mono ?_; rintro e4 w4 ⟨A4, c4, rfl, ho4, hb4⟩; have hb4' := HB3.out.trans (hb4.mono hz3); have hz4 := hb4'.size; have k4a := (hb4'.cell (p := ad.add k) (by omega)).trans q0; have k4b := (hb4'.cell (p := ad2.add k) (by omega)).trans r0; have HS4 := Lib.hid (HSq.out w4 A4 c4 (HTr.out.below hb4' HTr.out.size) (Seq.of_own ho4)); have HB4 := Lib.hid hb4'; clear ho4 hb4 hb4'))
            | (go_at_call 19; (refine (ownL_calls Ap cp w.heap.size lp wr.drew (by omega) (HPb.out.below HBd.out hsz)).mono ?_; rintro e2 w2 ⟨A2', c2', rfl, ho2, hb2⟩; have hb2' := HBd.out.trans hb2; have hz2 := hb2'.size; have k2a := (hb2'.cell (p := ad.add k) (by omega)).trans q0; have k2b := (hb2'.cell (p := ad2.add k) (by omega)).trans r0; have HS2' := Lib.hid (HSp.out w2 A2' c2' (HTr.out.below hb2' HTr.out.size) (Seq.of_own ho2)); have HB2 := Lib.hid hb2'; clear ho2 hb2 hb2'))
            | (go_at_call 18; (refine HS4.out.mono ?_; rintro e5 w5 ⟨rfl, hb5⟩; have hb5' := HB4.out.trans (hb5.mono hz4); have hz5 := hb5'.size; have k5a := (hb5'.cell (p := ad.add k) (by omega)).trans q0; have k5b := (hb5'.cell (p := ad2.add k) (by omega)).trans r0; have HB5 := Lib.hid hb5'; clear hb5 hb5'))
            | (go_at_call 18; (refine HS2'.out.mono ?_; rintro e3 w3 ⟨rfl, hb3⟩; have hb3' := HB2.out.trans (hb3.mono hz2); have hz3 := hb3'.size; have k3a := (hb3'.cell (p := ad.add k) (by omega)).trans q0; have k3b := (hb3'.cell (p := ad2.add k) (by omega)).trans r0; have HB3 := Lib.hid hb3'; clear hb3 hb3')))
        cases b
        · go_wp2_with fail
          exact ⟨⟨k + 1, by omega, by omega, by go_num, HTk.out (fun h => by have := HIff.out.2 h; cases this), HBl.out.trans (HB5.out.mono hsz)⟩, by simp [intOf]; omega⟩
        · go_wp2_with fail
          go_ret
          exact ⟨true, rfl, (fun h => by cases h), HBl.out.trans (HB5.out.mono hsz)⟩
    · have hd : NoClash hashL (ps.map txt) (qs.map txt) := HN.out.done (by rw [List.length_map, List.length_map]; omega)
      have HD := Lib.hid hd
      have dd : (decide ((k : Int) < (ps.length : Int)) && decide ((k : Int) < (qs.length : Int))) = false := by
        rw [Bool.and_eq_false_iff, decide_eq_false_iff_not, decide_eq_false_iff_not]
        omega
      clear hd hbl
      by_cases h1 : k < ps.length
      · have d1 : decide (k < ps.length) = true := decide_eq_true h1
        have d2 : decide (k < qs.length) = false := decide_eq_false (by omega)
        clear dd hlt
        go_wp2_with fail
        go_ret
        exact ⟨false, rfl, fun _ => HD.out, HBl.out⟩
      · have d1 : decide (k < ps.length) = false := decide_eq_false h1
        clear dd hlt
        go_wp2_with fail
        go_ret
        exact ⟨false, rfl, fun _ => HD.out, HBl.out⟩
end Go.Proofs.YtfhindffmghlaaaDoor
