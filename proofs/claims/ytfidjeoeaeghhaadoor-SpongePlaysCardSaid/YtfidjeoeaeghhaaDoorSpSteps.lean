/- The steps of a script: opened; how many there are; which sponge. -/
import Derived.Test.YtfidjeoeaeghhaaDoorOpenB
import Derived.Test.YtfidjeoeaeghhaaDoorSpWeigh
import Derived.Deep.Strs
namespace Go.Proofs.YtfidjeoeaeghhaaDoor
open Go.RowKit Go.ChangeShapes Go.WideShapes Go.Deep
abbrev StepL := Int × Int × Piece
def stepC (s : StepL) : List Value := [.int .i64 s.1, .int .i64 s.2.1, pcV s.2.2]
def StepsAt (w : World) (B : Nat) (A : Option Addr) (ss : List StepL) : Prop := ∀ j (h : j < ss.length), ∃ ad, A = some ad ∧ ad.block < B ∧ ∀ i, i < 3 → w.cell? (ad.add (j * 3 + i)) = (stepC ss[j])[i]?
def okS (w : World) (s : StepL) : Prop := (-9223372036854775808 ≤ s.1 ∧ s.1 ≤ 9223372036854775807) ∧ (-9223372036854775808 ≤ s.2.1 ∧ s.2.1 ≤ 9223372036854775807) ∧ s.2.2.2.2.length ≤ s.2.2.2.1 ∧ s.2.2.2.1 ≤ maxLen ∧ s.2.2.2.2.length ≤ reachBytes ∧ Seq w w.heap.size s.2.2.1 (bytes s.2.2.2.2)
theorem StepsAt.below {w w' : World} {B B' : Nat} {A : Option Addr} {ss : List StepL} (h : StepsAt w B A ss) (hb : Below B' w w') (hB : B ≤ B') : StepsAt w' B A ss := fun j hj => by
  obtain ⟨ad, rfl, hlt, hc⟩ := h j hj
  exact ⟨ad, rfl, hlt, fun i hi => by rw [← hc i hi]; exact hb.cell (by rw [block_add]; omega)⟩
theorem StepsAt.get {w : World} {B : Nat} {A : Option Addr} {ss : List StepL} (h : StepsAt w B A ss) (j : Nat) (hj : j < ss.length) : ∃ ad, A = some ad ∧ ad.block < B ∧ w.cell? (ad.add (j * 3)) = some (.int .i64 ss[j].1) ∧
    w.cell? ⟨(ad.add (j * 3)).block, (ad.add (j * 3)).off + 1, none⟩ = some (.int .i64 ss[j].2.1) ∧ w.cell? ⟨(ad.add (j * 3)).block, (ad.add (j * 3)).off + 2, none⟩ = some (.slice ss[j].2.2.1 ss[j].2.2.2.2.length ss[j].2.2.2.1) := by
  obtain ⟨ad, e, hlt, hc⟩ := h j hj
  refine ⟨ad, e, hlt, hc 0 (by omega), ?_, ?_⟩
  · have := hc 1 (by omega)
    rw [← add_add'] at this
    exact this
  · have := hc 2 (by omega)
    rw [← add_add'] at this
    exact this
section
variable {H : Type} {enc : TypeId × Value → H} {w : World} {base : Nat} {spare : Nat → Bool} {held : Bool}
theorem open_steps {r : Reach} {b0 : Nat} {v : Value} {d : DataW H} {p : List MemPlace} (hv : Value.okWide Tryd.prog w r b0 26 v) (h : DataW.Trod enc Tryd.prog w base spare held 26 v d p) (hw : ∀ n ∈ d.weights Tryd.prog 26, n ≤ reachBytes) :
    ∃ (A : Option Addr) (cap : Nat) (ss : List StepL), v = .slice A ss.length cap ∧ ss.length ≤ cap ∧ cap ≤ maxLen ∧ ss.length ≤ reachBytes ∧ StepsAt w w.heap.size A ss ∧ ∀ s ∈ ss, okS w s := by
  obtain ⟨fuel, hf⟩ := open_slice Tryd.underlying26 hv h
  obtain ⟨A, cap, xs, h1, h2, h3, h4, h5, h6⟩ := open_elems (k := 3) Tryd.underlying26 (by kernel_rfl) (by omega) hf hw (fun cs => ∃ s : { s : StepL // okS w s }, cs = stepC s.1) (fun m cs y hy hn => by
    obtain ⟨y0, y1, y2, n, rfl, hl, t0, t1, t2⟩ := trod_struct3 Tryd.underlying34 hy
    rw [show Tryd.prog.cellsOf 34 = 3 by kernel_rfl] at hl
    match cs, hl with
    | [a, b, c], _ =>
      simp only [show Tryd.prog.cellsOf 3 = 1 by kernel_rfl, show Tryd.prog.cellsOf 32 = 1 by kernel_rfl, List.drop_zero, List.drop_succ_cons, List.take_succ_cons, List.take_zero] at t0 t1 t2
      obtain ⟨n0, e0, _, wf0⟩ := DataW.trod_int Tryd.underlying3 t0
      obtain ⟨n1, e1, _, wf1⟩ := DataW.trod_int Tryd.underlying3 t1
      obtain ⟨A, cap, l, g1, g2, g3, g4, g5⟩ := open_bytes1 Tryd.underlying32 Tryd.underlying5 (by kernel_rfl) (by kernel_rfl) t2 (fun n hn' => hn n (by
        unfold DataW.weights
        rw [Tryd.underlying34]
        simp only [List.map_cons, List.map_nil, DataW.weightsEach, List.append_nil]
        simp [hn']))
      simp [Lit.wf, IntKind.min, IntKind.max, IntKind.signed, IntKind.bits] at wf0 wf1
      refine ⟨⟨(n0, n1, (A, cap, l)), ⟨wf0.1, by show n0 ≤ _; omega⟩, ⟨wf1.1, by show n1 ≤ _; omega⟩, g2, g3, g4, g5⟩, ?_⟩
      rw [(List.cons.inj e0).1, (List.cons.inj e1).1, g1]
      rfl)
  obtain ⟨l, rfl⟩ := list_of (fun s : { s : StepL // okS w s } => stepC s.1) xs h6
  rw [List.length_map] at h1 h2 h4
  refine ⟨A, cap, l.map (·.1), by rw [List.length_map]; exact h1, by rw [List.length_map]; exact h2, h3, ?_, ?_, ?_⟩
  · rw [List.length_map]; rw [show Tryd.prog.bytesOf 34 = 40 by kernel_rfl] at h4; omega
  · intro j hj
    rw [List.length_map] at hj
    obtain ⟨ad, e, hlt, _, hc⟩ := h5 j (by rw [List.length_map]; exact hj)
    refine ⟨ad, e, hlt, fun i hi => ?_⟩
    rw [hc i hi]
    simp
  · intro s hs
    obtain ⟨z, _, rfl⟩ := List.mem_map.1 hs
    exact z.2
end
def total (ss : List StepL) : Nat := (ss.map fun s => s.2.2.2.2.length).sum
theorem total_take (ss : List StepL) (k : Nat) (h : k < ss.length) : total (ss.take (k + 1)) = total (ss.take k) + ss[k].2.2.2.2.length := by
  rw [List.take_succ_eq_append_getElem h]
  unfold total
  rw [List.map_append, List.sum_append]
  rfl
theorem total_le (ss : List StepL) (k : Nat) : total (ss.take k) ≤ total ss := by
  conv => rhs; rw [← List.take_append_drop k ss]
  unfold total
  rw [List.map_append, List.sum_append]
  omega
theorem steps_calls (A : Option Addr) (c B : Nat) (ss : List StepL) (w : World) (hl : ss.length ≤ 140737488351232) (hs : StepsAt w B A ss) (hB : B ≤ w.heap.size)
    (hp : ∀ s ∈ ss, s.2.2.2.2.length ≤ 140737488351232) :
    Calls Tryd.prog 13 #[.slice A ss.length c] w fun e w' => (∃ r : Nat, e = .returned (.int .i64 r) ∧ r ≤ 281474976710656 ∧ (r ≤ 16777216 → ss.length + total ss ≤ 16777216)) ∧ Below w.heap.size w w' := by
  have HS := Lib.hid hs
  have HP := Lib.hid hp
  clear hs hp
  go_enter Tryd.func13, Tryd.ntmps13
  go_wp2_with fail
  go_loopw [3, 4] (fun n i wr => ∃ (k : Nat), k ≤ ss.length ∧ i = .int .i64 k ∧ n = .int .i64 ((ss.length + total (ss.take k) : Nat) : Int) ∧ ss.length + total (ss.take k) ≤ 281474976710656 ∧ Below w.heap.size w wr) (fun _ i _ => ss.length - (intOf i).toNat)
  case atStart => exact ⟨0, by omega, rfl, by simp [total], by simp [total]; omega, Below.refl _ _⟩
  case round =>
    obtain ⟨k, hk, rfl, rfl, hn, hBl⟩ := hrel
    by_cases hlt : k < ss.length
    · have dk : decide ((k : Int) < (ss.length : Int)) = true := by simp; omega
      have lk : (k : Int) < (ss.length : Int) := by omega
      obtain ⟨ad, rfl, hadb, _, _, hcell⟩ := (HS.out.below hBl hB).get k hlt
      have hpb := HP.out _ (List.getElem_mem hlt)
      have hll := total_take ss k hlt
      generalize ss[k] = pk at *
      obtain ⟨_, _, Ak, ck, lk'⟩ := pk
      simp only at hcell hll hpb
      generalize total (ss.take k) = J at *
      by_cases hm : ss.length + J ≤ 16777216
      · have dm : decide (((ss.length + J : Nat) : Int) ≤ 16777216) = true := by simp; omega
        have h1 := Nat.le_of_eq hll
        have h2 := Nat.le_of_eq hll.symm
        have HB := Lib.hid hBl
        clear hll hBl
        generalize hT : total (ss.take (k + 1)) = J2 at *
        generalize hq : ss.length + J = q at *
        have HQ := Lib.hid hq
        have HT := Lib.hid hT
        have hq1 := Nat.le_of_eq hq
        have hq2 := Nat.le_of_eq hq.symm
        clear hq hT
        go_wp2_with fail
        refine ⟨⟨k + 1, by omega, by go_num, by rw [HT.out]; go_num, by rw [HT.out]; omega, HB.out⟩, by simp [intOf]; omega⟩
      · have dm : decide (((ss.length + J : Nat) : Int) ≤ 16777216) = false := by simp; omega
        have HB := Lib.hid hBl
        clear hBl hll
        generalize hq : ss.length + J = q at *
        clear hq
        go_wp2_with fail
        go_ret
        exact ⟨⟨q, rfl, hn, fun h => absurd h hm⟩, HB.out⟩
    · have dk : decide ((k : Int) < (ss.length : Int)) = false := by simp; omega
      have hkl : k = ss.length := by omega
      have hJ : total (ss.take k) = total ss := by rw [hkl, List.take_length]
      rw [hJ] at hn
      rw [hJ]
      clear hJ hkl
      have HB := Lib.hid hBl
      clear hBl
      generalize hq : ss.length + total ss = q at *
      have HQ := Lib.hid hq
      clear hq
      go_wp2_with fail
      go_ret
      exact ⟨⟨q, rfl, hn, fun h => by rw [HQ.out]; exact h⟩, HB.out⟩
theorem which_calls (n : Int) (w : World) :
    Calls Tryd.prog 15 #[.int .i64 n] w fun e w' => (∃ k : Nat, k < 3 ∧ e = .returned (.int .i64 k)) ∧ Below w.heap.size w w' := by
  have hab := Int.tmod_lt_of_pos n (show (0 : Int) < 3 by omega)
  have hab2 := Int.lt_tmod_of_pos n (show (0 : Int) < 3 by omega)
  have hcase : (∃ k : Nat, k < 3 ∧ decide (n.tmod 3 < 0) = true ∧ IntKind.i64.wrap (-n.tmod 3) = (k : Int)) ∨ (∃ k : Nat, k < 3 ∧ decide ((k : Int) < 0) = false ∧ n.tmod 3 = (k : Int)) := by
    by_cases hneg : n.tmod 3 < 0
    · exact Or.inl ⟨(-n.tmod 3).toNat, by omega, by simpa using hneg, by rw [IntWalk.i64_in _ (by omega)]; omega⟩
    · exact Or.inr ⟨(n.tmod 3).toNat, by omega, by simp; omega, by omega⟩
  clear hab hab2
  rcases hcase with ⟨k, hk, d1, e1⟩ | ⟨k, hk, d1, e1⟩
  all_goals
    go_enter Tryd.func15, Tryd.ntmps15
    go_wp2_with fail
    go_ret
    exact ⟨⟨k, hk, rfl⟩, Below.refl _ _⟩
end Go.Proofs.YtfidjeoeaeghhaaDoor
