/- How many bytes and pieces there are; the pieces, one behind the other. -/
import Derived.Test.YtfidjeoeaeghhaaDoorSpRefS
namespace Go.Proofs.YtfidjeoeaeghhaaDoor
open Go.RowKit
theorem weight_calls (A : Option Addr) (c B : Nat) (ps : List Piece) (w : World) (hl : ps.length ≤ 140737488351232) (hs : Seq w B A (pcs ps)) (hB : B ≤ w.heap.size)
    (hp : ∀ p ∈ ps, p.2.2.length ≤ 140737488351232) :
    Calls Tryd.prog 23 #[.slice A ps.length c] w fun e w' => (∃ r : Nat, e = .returned (.int .i64 r) ∧ r ≤ 281474976710656 ∧ (r ≤ 16777216 → ps.length + (joinP ps).length ≤ 16777216)) ∧ Below w.heap.size w w' := by
  have HS := Lib.hid hs
  have HP := Lib.hid hp
  clear hs hp
  go_enter Tryd.func23, Tryd.ntmps23
  go_wp2_with fail
  go_loopw [3, 4] (fun n i wr => ∃ (k : Nat), k ≤ ps.length ∧ i = .int .i64 k ∧ n = .int .i64 ((ps.length + (joinP (ps.take k)).length : Nat) : Int) ∧ ps.length + (joinP (ps.take k)).length ≤ 281474976710656 ∧ Below w.heap.size w wr) (fun _ i _ => ps.length - (intOf i).toNat)
  case atStart => exact ⟨0, by omega, rfl, by simp [joinP], by simp [joinP]; omega, Below.refl _ _⟩
  case round =>
    obtain ⟨k, hk, rfl, rfl, hn, hBl⟩ := hrel
    by_cases hlt : k < ps.length
    · have dk : decide ((k : Int) < (ps.length : Int)) = true := by simp; omega
      have lk : (k : Int) < (ps.length : Int) := by omega
      obtain ⟨ad, rfl, hadb, hcell⟩ := (HS.out.below hBl hB).at_ (k := k) (by simpa [pcs] using hlt)
      have hpb := HP.out _ (List.getElem_mem hlt)
      have hstep := joinP_take ps k hlt
      have he : (pcs ps)[k]'(by simpa [pcs] using hlt) = .slice ps[k].1 ps[k].2.2.length ps[k].2.1 := by simp [pcs, pcV]
      rw [he] at hcell
      have hll : (joinP (ps.take (k + 1))).length = (joinP (ps.take k)).length + ps[k].2.2.length := by rw [hstep, List.length_append]
      clear hstep he
      generalize ps[k] = pk at *
      obtain ⟨Ak, ck, lk'⟩ := pk
      simp only at hcell hll hpb
      generalize (joinP (ps.take k)).length = J at *
      by_cases hm : ps.length + J ≤ 16777216
      · have dm : decide (((ps.length + J : Nat) : Int) ≤ 16777216) = true := by simp; omega
        have h1 := Nat.le_of_eq hll
        have h2 := Nat.le_of_eq hll.symm
        have HB := Lib.hid hBl
        clear hll hBl
        generalize hT : (joinP (ps.take (k + 1))).length = J2 at *
        generalize hq : ps.length + J = q at *
        have HQ := Lib.hid hq
        have HT := Lib.hid hT
        have hq1 := Nat.le_of_eq hq
        have hq2 := Nat.le_of_eq hq.symm
        clear hq hT
        go_wp2_with fail
        refine ⟨⟨k + 1, by omega, by go_num, by rw [HT.out]; go_num, by rw [HT.out]; omega, HB.out⟩, by simp [intOf]; omega⟩
      · have dm : decide (((ps.length + J : Nat) : Int) ≤ 16777216) = false := by simp; omega
        have HB := Lib.hid hBl
        clear hBl hll
        generalize hq : ps.length + J = q at *
        clear hq
        go_wp2_with fail
        go_ret
        exact ⟨⟨q, rfl, hn, fun h => absurd h hm⟩, HB.out⟩
    · have dk : decide ((k : Int) < (ps.length : Int)) = false := by simp; omega
      have hkl : k = ps.length := by omega
      have hJ : (joinP (ps.take k)).length = (joinP ps).length := by rw [hkl, List.take_length]
      rw [hJ] at hn
      rw [hJ]
      clear hJ hkl
      have HB := Lib.hid hBl
      clear hBl
      generalize hq : ps.length + (joinP ps).length = q at *
      have HQ := Lib.hid hq
      clear hq
      go_wp2_with fail
      go_ret
      exact ⟨⟨q, rfl, hn, fun h => by rw [HQ.out]; exact h⟩, HB.out⟩
theorem joined_calls (A : Option Addr) (c B : Nat) (ps : List Piece) (w : World) (hl : ps.length ≤ 1099511627776) (hj : (joinP ps).length ≤ 1099511627776) (hs : Seq w B A (pcs ps)) (hB : B ≤ w.heap.size)
    (hp : ∀ p ∈ ps, Seq w B p.1 (bytes p.2.2)) :
    Calls Tryd.prog 24 #[.slice A ps.length c] w fun e w' => ∃ (A' : Option Addr) (c' : Nat), e = .returned (.slice A' (joinP ps).length c') ∧ w'.ownsRow w.heap.size 5 1 (.slice A' (joinP ps).length c') (joinP ps).length (bytes (joinP ps)) ∧ Below w.heap.size w w' := by
  have HS := Lib.hid hs
  have HP := Lib.hid hp
  clear hs hp
  go_enter Tryd.func24, Tryd.ntmps24
  go_wp2_with fail
  go_loopw [3, 4] (fun v i wr => ∃ (k : Nat) (A1 : Option Addr) (c1 : Nat), k ≤ ps.length ∧ i = .int .i64 k ∧ v = .slice A1 (joinP (ps.take k)).length c1 ∧ wr.ownsRow w.heap.size 5 1 (.slice A1 (joinP (ps.take k)).length c1) (joinP (ps.take k)).length (bytes (joinP (ps.take k))) ∧
      Below w.heap.size w wr) (fun _ i _ => ps.length - (intOf i).toNat)
  case atStart => exact ⟨0, none, 0, by omega, rfl, rfl, World.ownsRow_nil _ _ _ _, Below.refl _ _⟩
  case round =>
    obtain ⟨k, A1, c1, hk, rfl, rfl, hown, hBl⟩ := hrel
    have hs1 := hBl.size
    have hjk := joinP_le ps k
    have HB0 := Lib.hid hBl
    by_cases hlt : k < ps.length
    · have dk : decide ((k : Int) < (ps.length : Int)) = true := by simp; omega
      have lk : (k : Int) < (ps.length : Int) := by omega
      obtain ⟨ad, rfl, hadb, hcell⟩ := (HS.out.below HB0.out hB).at_ (k := k) (by simpa [pcs] using hlt)
      have hpb := HP.out _ (List.getElem_mem hlt)
      have hstep := joinP_take ps k hlt
      have hjk2 := joinP_le ps (k + 1)
      have he : (pcs ps)[k]'(by simpa [pcs] using hlt) = .slice ps[k].1 ps[k].2.2.length ps[k].2.1 := by simp [pcs, pcV]
      rw [he] at hcell
      have hpr := hpb.below HB0.out hB
      have hll : (joinP (ps.take (k + 1))).length = (joinP (ps.take k)).length + ps[k].2.2.length := by rw [hstep, List.length_append]
      generalize ps[k] = pk at *
      obtain ⟨Ak, ck, lk'⟩ := pk
      simp only at hpr hcell hstep hll
      generalize hJ : joinP (ps.take k) = J at *
      have HJ := Lib.hid hJ
      have HO := Lib.hid hown
      have HB := Lib.hid hBl
      have Hstep := Lib.hid hstep
      have HPr := Lib.hid hpr
      have hll2 := Nat.le_of_eq hll.symm
      have Hll := Lib.hid hll
      clear hown hBl hstep hpr hpb he hJ hll
      go_wp2_with ((at_builtin; refine wpL_append rfl (.tmp 11) (.tmp 15) 32 rfl elByte rfl HO.out rfl (by rw [bytes_length]; simp) HPr.out (bytes_one _) (by unfold maxLen; omega) (by omega) (by omega) ?_; intro A2 c2 w2 ho2 hg2 _; have HO2 := Lib.hid ho2; have HG2 := Lib.hid hg2; clear ho2 hg2))
      refine ⟨⟨k + 1, A2, c2, by omega, by go_num, by rw [Hstep.out, List.length_append], ?_, HB.out.grown HG2.out (by omega) (fun g hg => (HO.out.lt g hg).1)⟩, by simp [intOf]; omega⟩
      rw [Hstep.out, List.length_append, bytes_append]
      exact HO2.out
    · have dk : decide ((k : Int) < (ps.length : Int)) = false := by simp; omega
      have hkl : k = ps.length := by omega
      have hown' := hown
      rw [hkl, List.take_length] at hown'
      have HO := Lib.hid hown'
      have HB := Lib.hid hBl
      have hlk : (joinP (ps.take k)).length = (joinP ps).length := by rw [hkl, List.take_length]
      rw [hlk]
      clear hown hown' hBl hkl
      go_wp2_with fail
      go_ret
      exact ⟨A1, c1, rfl, HO.out, HB.out⟩
end Go.Proofs.YtfidjeoeaeghhaaDoor
