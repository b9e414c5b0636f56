/- The document's own Sum: it is the program's. -/
import Derived.Test.YtfidjeoeaeghhaaDoorSpRefP
import Derived.Test.YtfidjeoeaeghhaaDoorSpRefH
namespace Go.Proofs.YtfidjeoeaeghhaaDoor
open Go.RowKit
theorem joinP_take (ps : List Piece) (k : Nat) (h : k < ps.length) : joinP (ps.take (k + 1)) = joinP (ps.take k) ++ ps[k].2.2 := by
  rw [List.take_succ_eq_append_getElem h]
  unfold joinP
  rw [List.map_append, List.flatten_append]
  simp
theorem joinP_le (ps : List Piece) (k : Nat) : (joinP (ps.take k)).length ≤ (joinP ps).length := by
  conv => rhs; rw [← List.take_append_drop k ps]
  unfold joinP
  rw [List.map_append, List.flatten_append, List.length_append]
  omega
theorem padL_length (l : List UInt8) : (padL l).length ≤ l.length + 137 ∧ (padL l).length % 136 = 0 := by
  unfold padL padTail
  rw [List.length_append]
  by_cases h : zerosN l.length = 0
  · rw [if_pos h]
    unfold zerosN at h
    simp only [List.length_singleton]
    omega
  · rw [if_neg h]
    simp only [List.length_cons, List.length_append, List.length_replicate, List.length_nil]
    unfold zerosN at h ⊢
    omega
set_option maxHeartbeats 2000000 in
set_option maxRecDepth 100000 in
theorem sumR_calls (A : Option Addr) (c B : Nat) (ps : List Piece) (w : World) (hl : ps.length ≤ 1099511627776) (hj : (joinP ps).length ≤ 1099511627776) (hs : Seq w B A (pcs ps)) (hB : B ≤ w.heap.size)
    (hp : ∀ p ∈ ps, Seq w B p.1 (bytes p.2.2)) :
    Calls Tryd.prog 21 #[.slice A ps.length c] w fun e w' => e = .returned (.agg (tab 32 (hashV (hashS (joinP ps))))) ∧ Below w.heap.size w w' := by
  have HS := Lib.hid hs
  have HP := Lib.hid hp
  clear hs hp
  go_enter Tryd.func21, Tryd.ntmps21
  go_wp2_with (first
    | (refine wpL_alloc rfl 42 rfl (tab 32 fun _ => .int .u8 0) (by kernel_rfl) ?_))
  go_loopw [3, 4] (fun v i wr => ∃ (k : Nat) (A1 : Option Addr) (c1 : Nat), k ≤ ps.length ∧ i = .int .i64 k ∧ v = .slice A1 (joinP (ps.take k)).length c1 ∧ wr.ownsRow (w.heap.size + 1) 5 1 (.slice A1 (joinP (ps.take k)).length c1) (joinP (ps.take k)).length (bytes (joinP (ps.take k))) ∧
      Below (w.heap.size + 1) (w.alloc (.cells (tab 32 fun _ => .int .u8 0) 42)) wr) (fun _ i _ => ps.length - (intOf i).toNat)
  case atStart => exact ⟨0, none, 0, by omega, rfl, rfl, World.ownsRow_nil _ _ _ _, Below.refl _ _⟩
  case round =>
    obtain ⟨k, A1, c1, hk, rfl, rfl, hown, hBl⟩ := hrel
    have hs1 := hBl.size
    simp only [size_alloc] at hs1
    have hjk := joinP_le ps k
    have HB0 := Lib.hid (((Below.refl w.heap.size w).alloc (Nat.le_refl _) _).trans (hBl.mono (Nat.le_succ _)))
    by_cases hlt : k < ps.length
    · have dk : decide ((k : Int) < (ps.length : Int)) = true := by simp; omega
      have lk : (k : Int) < (ps.length : Int) := by omega
      obtain ⟨ad, rfl, hadb, hcell⟩ := (HS.out.below HB0.out hB).at_ (k := k) (by simpa [pcs] using hlt)
      have hpb := HP.out _ (List.getElem_mem hlt)
      have hstep := joinP_take ps k hlt
      have hjk2 := joinP_le ps (k + 1)
      have he : (pcs ps)[k]'(by simpa [pcs] using hlt) = .slice ps[k].1 ps[k].2.2.length ps[k].2.1 := by simp [pcs, pcV]
      rw [he] at hcell
      have hpr := hpb.below HB0.out hB
      have hll : (joinP (ps.take (k + 1))).length = (joinP (ps.take k)).length + ps[k].2.2.length := by rw [hstep, List.length_append]
      generalize ps[k] = pk at *
      obtain ⟨Ak, ck, lk'⟩ := pk
      simp only at hpr hcell hstep hll
      generalize hJ : joinP (ps.take k) = J at *
      have HJ := Lib.hid hJ
      have HO := Lib.hid hown
      have HB := Lib.hid hBl
      have Hstep := Lib.hid hstep
      have HPr := Lib.hid hpr
      have hll2 := Nat.le_of_eq hll.symm
      have Hll := Lib.hid hll
      clear hown hBl hstep hpr hpb he hJ hll
      go_wp2_with ((at_builtin; refine wpL_append rfl (.tmp 21) (.tmp 25) 32 rfl elByte rfl HO.out rfl (by rw [bytes_length]; simp) HPr.out (bytes_one _) (by unfold maxLen; omega) (by omega) (by omega) ?_; intro A2 c2 w2 ho2 hg2 _; have HO2 := Lib.hid ho2; have HG2 := Lib.hid hg2; clear ho2 hg2))
      refine ⟨⟨k + 1, A2, c2, by omega, by go_num, by rw [Hstep.out, List.length_append], ?_, HB.out.grown HG2.out (by omega) (fun g hg => (HO.out.lt g hg).1)⟩, by simp [intOf]; omega⟩
      rw [Hstep.out, List.length_append, bytes_append]
      exact HO2.out
    · have dk : decide ((k : Int) < (ps.length : Int)) = false := by simp; omega
      have hkl : k = ps.length := by omega
      have hown' := hown
      rw [hkl, List.take_length] at hown'
      have HO := Lib.hid hown'
      have HB := Lib.hid hBl
      have Hk := Lib.hid hkl
      have hlk : (joinP (ps.take k)).length = (joinP ps).length := by rw [hkl, List.take_length]
      rw [hlk]
      clear hown hown' hBl hkl
      go_wp2_with fail
      refine (padded_calls A1 c1 wr.heap.size (joinP ps) wr hj (Seq.of_own HO.out)).mono ?_
      rintro e w1 ⟨A2, c2, rfl, ho1, hb1⟩
      have hpl := (padL_length (joinP ps)).1
      have hpm := (padL_length (joinP ps)).2
      have HHash := Lib.hid (hash_pad (joinP ps))
      generalize padL (joinP ps) = Pd at *
      have HB1 := Lib.hid (HB0.out.trans (hb1.mono (by omega)))
      have HR1 := Lib.hid (((Blk.new w 42 (tab 32 fun _ => .int .u8 0)).below HB.out (Nat.lt_succ_self _)).below hb1 (by omega))
      have HSP := Lib.hid (Seq.of_own ho1)
      have hs2 := hb1.size
      clear ho1 hb1 HB0 HB HO
      go_wp2_with (first
        | (refine wpL_alloc rfl 62 rfl (tab 1600 fun _ => .int .i64 0) (by kernel_rfl) ?_))
      go_loopw [7] (fun i wr => ∃ (k : Nat), k ≤ Pd.length ∧ i = .int .i64 k ∧ Blk wr w1.heap.size 62 (tab 1600 (bitsV (writeS (zeroS, 0) (Pd.take k)).1)) ∧ Seq wr w1.heap.size A2 (bytes Pd) ∧
        Below w.heap.size w wr ∧ ∃ V, Blk wr w.heap.size 42 (tab 32 V)) (fun i _ => Pd.length - (intOf i).toNat)
      case atStart =>
        refine ⟨0, by omega, rfl, (Blk.new _ _ _).same (tab_congr fun i _ => ?_), HSP.out.alloc (Nat.le_refl _) _, HB1.out.alloc (by omega) _, _, HR1.out.alloc _⟩
        unfold bitsV bitN
        simp [writeS, zeroS]
      case round =>
        clear HSP HB1 HR1
        obtain ⟨i, hi, rfl, hA, hSP, hBl, V, hV⟩ := hrel
        have hs3 := hBl.size
        have hgl := hA.lt
        by_cases hlt : i < Pd.length
        · have di : decide ((i : Int) < (Pd.length : Int)) = true := by simp; omega
          have li : (i : Int) < (Pd.length : Int) := by omega
          obtain ⟨ad, rfl, hadb, hcell⟩ := hSP.at_ (k := i) (by rw [bytes_length]; exact hlt)
          rw [bytes_get] at hcell
          have hx1 := by8_nonneg Pd[i]
          have hx2 := by8_lt Pd[i]
          have hsn := writeS_snd (Pd.take i) (zeroS, 0) (by simp)
          rw [List.length_take, Nat.min_eq_left hi, Nat.zero_add] at hsn
          have hstep := writeS_take (zeroS, 0) Pd i hlt
          generalize writeS (zeroS, 0) (Pd.take i) = T at *
          obtain ⟨T, m⟩ := T
          simp only at hsn hA
          have e0 : by8 Pd[i] = ((Pd[i].toNat / 2 ^ 0 : Nat) : Int) := by simp [by8]
          generalize Pd[i] = x at *
          have Hsn := Lib.hid hsn
          have Hstep := Lib.hid hstep
          have HA := Lib.hid hA
          have HSP := Lib.hid hSP
          have HB := Lib.hid hBl
          have HV := Lib.hid hV
          have E0 := Lib.hid e0
          clear hsn hstep hA hSP hBl hV e0
          go_wp2_with fail
          go_loopw [8, 9] (fun n j wr => ∃ (q : Nat), q ≤ 8 ∧ j = .int .i64 q ∧ n = .int .i64 ((x.toNat / 2 ^ q : Nat) : Int) ∧ Blk wr w1.heap.size 62 (tab 1600 (bitsV (layP T m x q))) ∧ Seq wr w1.heap.size (some ad) (bytes Pd) ∧
            Below w.heap.size w wr ∧ ∃ V, Blk wr w.heap.size 42 (tab 32 V)) (fun _ j _ => 8 - (intOf j).toNat)
          case atStart => exact ⟨0, by omega, rfl, by rw [← E0.out], by rw [layP_zero]; exact HA.out, HSP.out, HB.out, V, HV.out⟩
          case round =>
            clear HA HSP HB HV
            obtain ⟨q, hq, rfl, rfl, hA, hSP, hBl, V, hV⟩ := hrel
            by_cases hlq : q < 8
            · have dq : decide ((q : Int) < 8) = true := by simp; omega
              have hm8 : 8 * (i % 136) + q < 1600 := by omega
              have c1 := hA.bit (8 * (i % 136) + q) hm8
              have f1 := hA.frozen (8 * (i % 136) + q)
              have b1 := bitN_le (layP T m x q) (8 * (i % 136) + q)
              have hst := layP_step T m x q hlq
              have hdiv : x.toNat / 2 ^ q / 2 = x.toNat / 2 ^ (q + 1) := by rw [Nat.div_div_eq_div_mul, ← Nat.pow_succ]
              have hxl : x.toNat / 2 ^ q < 256 := Nat.lt_of_le_of_lt (Nat.div_le_self _ _) x.toNat_lt
              rw [show 8 * m + q = 8 * (i % 136) + q by rw [Hsn.out]] at hst
              generalize x.toNat / 2 ^ q = n at *
              have HA := Lib.hid hA
              have HSP := Lib.hid hSP
              have HB := Lib.hid hBl
              have HV := Lib.hid hV
              have Hst := Lib.hid hst
              have Hdiv := Lib.hid hdiv
              clear hA hSP hBl hV hst hdiv
              go_wp2_with fail
              have hsm : tab 1600 (upd (bitsV (layP T m x q)) (8 * (i % 136) + q) (.int .i64 ((((bitN (layP T m x q) (8 * (i % 136) + q) : Nat) : Int) + (n : Int)) % 2))) = tab 1600 (bitsV (layP T m x (q + 1))) := by
                rw [← Hst.out]
                refine tab_congr fun z _ => ?_
                unfold upd
                split
                · congr 1; omega
                · rfl
              refine ⟨⟨q + 1, by omega, by go_num, by rw [← Hdiv.out]; go_num, ?_, Seq.setCell (p := ⟨w1.heap.size, 8 * (i % 136) + q, none⟩) HSP.out (Nat.le_refl _) _, HB.out.setCell (by simp; omega) _, _, HV.out.far (by simp; omega) _⟩, by simp [intOf]; omega⟩
              exact (HA.out.put _ _).same hsm
            · have dq : decide ((q : Int) < 8) = false := by simp; omega
              have hq8 : q = 8 := by omega
              rw [hq8, layP_all] at hA
              have Hq := Lib.hid hq8
              have HA := Lib.hid hA
              have HSP := Lib.hid hSP
              have HB := Lib.hid hBl
              have HV := Lib.hid hV
              clear hA hSP hBl hV hq8
              have hb3 := HB.out.size
              have hg3 := HA.out.lt
              by_cases ht : i % 136 = 135
              · have t1 : (((i : Int) % 136 : Int) == 135) = true := by simp; omega
                have st : stepS (T, m) x = (permS (layS T m x), 0) := by unfold stepS; rw [if_pos (by have := Hsn.out; simp only; omega)]
                have HST := Lib.hid (Hstep.out.trans st)
                clear st
                go_wp2_with (first
                  | (refine wpL_load rfl 62 (.tmp 6) rfl (n := 1600) 0 rfl _ HA.out (by omega) Tryd.underlying62 rfl (by kernel_rfl) ?_))
                refine (roundsR_calls (layS T m x) wr).mono ?_
                rintro e w2 ⟨rfl, hb2⟩
                have HA2 := Lib.hid (HA.out.below hb2 hg3)
                have HSP2 := Lib.hid (HSP.out.below hb2 (by omega))
                have HB2 := Lib.hid (HB.out.trans (hb2.mono hb3))
                have HV2 := Lib.hid (HV.out.below hb2 (by omega))
                have hs4 := hb2.size
                clear hb2
                go_wp2_with (first
                  | (refine wpL_storeA (n := 1600) (N := 1600) (V := bitsV (layS T m x)) (f := bitsV (permS (layS T m x))) rfl 62 (.tmp 6) (.tmp 66) rfl 0 rfl rfl HA2.out (by omega) (by kernel_rfl) (fun _ => rfl) ?_; intro w3 ho3 hk3; have HO3 := Lib.hid ho3; have HK3 := Lib.hid (hk3.same (over_whole _ _ _)); clear ho3 hk3))
                refine ⟨⟨i + 1, by omega, by go_num, ?_, HSP2.out.only HO3.out (Nat.le_refl _), HO3.out.below HB2.out (by omega), _, HO3.out.blk HV2.out (by omega)⟩, by simp [intOf]; omega⟩
                rw [HST.out]
                exact HK3.out
              · have t1 : (((i : Int) % 136 : Int) == 135) = false := by simp; omega
                have st : stepS (T, m) x = (layS T m x, m + 1) := by unfold stepS; rw [if_neg (by have := Hsn.out; simp only; omega)]
                have HST := Lib.hid (Hstep.out.trans st)
                clear st
                go_wp2_with fail
                refine ⟨⟨i + 1, by omega, by go_num, ?_, HSP.out, HB.out, _, HV.out⟩, by simp [intOf]; omega⟩
                rw [HST.out]
                exact HA.out
        · have di : decide ((i : Int) < (Pd.length : Int)) = false := by simp; omega
          have hil : i = Pd.length := by omega
          rw [hil, List.take_length] at hA
          have Hi := Lib.hid hil
          generalize (writeS (zeroS, 0) Pd).1 = P at *
          have HA := Lib.hid (hA.alloc (.cells (tab 32 fun _ => .int .u8 0) 42))
          have HB := Lib.hid (hBl.alloc hs3 (.cells (tab 32 fun _ => .int .u8 0) 42))
          have HV := Lib.hid (hV.alloc (.cells (tab 32 fun _ => .int .u8 0) 42))
          clear hA hSP hBl hV hil
          go_wp2_with (first
            | (refine wpL_alloc rfl 42 rfl (tab 32 fun _ => .int .u8 0) (by kernel_rfl) ?_))
          have HN := Lib.hid (Blk.new wr 42 (tab 32 fun _ => .int .u8 0))
          generalize hG : wr.heap.size = G at *
          have HG := Lib.hid hG
          clear hG
          go_loopw [12] (fun j w4 => ∃ (k : Nat), k ≤ 32 ∧ j = .int .i64 k ∧ Blk w4 w1.heap.size 62 (tab 1600 (bitsV P)) ∧ Below w.heap.size w w4 ∧ (∃ V, Blk w4 w.heap.size 42 (tab 32 V)) ∧
            ∃ R : Nat → UInt8, (∀ z, z < k → R z = byteOf P z) ∧ Blk w4 G 42 (tab 32 (hashV R))) (fun j _ => 32 - (intOf j).toNat)
          case atStart => exact ⟨0, by omega, rfl, HA.out, HB.out, ⟨V, HV.out⟩, fun _ => 0, fun _ h => absurd h (by omega), HN.out⟩
          case round =>
            clear HA HB HV HN
            obtain ⟨j, hj2, rfl, hA, hBl, ⟨V, hV⟩, R, hR, hN⟩ := hrel
            by_cases hlj : j < 32
            · have dj : decide ((j : Int) < 32) = true := by simp; omega
              have lj : (j : Int) < 32 := by omega
              have hNx := (byteOf P j).toNat_lt
              have hby : ((byteOf P j).toNat : Int) = by8 (byteOf P j) := rfl
              have hlow := fun q h => byte_bit P j q h
              have HBy := Lib.hid hby
              have HLow := Lib.hid hlow
              generalize hNe : (byteOf P j).toNat = N at *
              have HNe := Lib.hid hNe
              have HA := Lib.hid hA
              have HB := Lib.hid hBl
              have HV := Lib.hid hV
              have HR := Lib.hid hR
              have HN := Lib.hid hN
              clear hA hBl hV hR hN hby hlow hNe
              go_wp2_with fail
              go_loopw [13, 14] (fun n z w5 => ∃ (q : Nat), q ≤ 8 ∧ z = .int .i64 ((q : Int) - 1) ∧ n = .int .i64 ((N / 2 ^ q : Nat) : Int) ∧ Blk w5 w1.heap.size 62 (tab 1600 (bitsV P)) ∧ Below w.heap.size w w5 ∧ (∃ V, Blk w5 w.heap.size 42 (tab 32 V)) ∧
                Blk w5 G 42 (tab 32 (hashV R))) (fun _ z _ => (intOf z + 1).toNat)
              case atStart => exact ⟨8, by omega, rfl, by rw [Nat.div_eq_of_lt (by omega)]; rfl, HA.out, HB.out, ⟨V, HV.out⟩, HN.out⟩
              case round =>
                clear HA HB HV HN
                obtain ⟨q, hq, rfl, rfl, hA, hBl, ⟨V, hV⟩, hN⟩ := hrel
                have hqN := Nat.div_le_self N (2 ^ q)
                by_cases hlq : 1 ≤ q
                · obtain ⟨p, rfl⟩ : ∃ p, q = p + 1 := ⟨q - 1, by omega⟩
                  have hp8 : 8 * j + p < 1600 := by omega
                  have c1 := hA.bit (8 * j + p) hp8
                  have f1 := hA.frozen (8 * j + p)
                  rw [HLow.out p (by omega)] at c1
                  have hjoin : 2 * (N / 2 ^ (p + 1)) + N / 2 ^ p % 2 = N / 2 ^ p := by rw [Nat.pow_succ, ← Nat.div_div_eq_div_mul]; omega
                  have hqp := Nat.div_le_self N (2 ^ p)
                  generalize N / 2 ^ (p + 1) = n1 at *
                  generalize hm1 : N / 2 ^ p = m1 at *
                  have Hm := Lib.hid hm1
                  have HJ := Lib.hid hjoin
                  have HA := Lib.hid hA
                  have HB := Lib.hid hBl
                  have HV := Lib.hid hV
                  have HN := Lib.hid hN
                  clear hA hBl hV hN hjoin hm1
                  have dz : decide ((((p + 1 : Nat) : Int) - 1) ≥ 0) = true := by simp
                  have dp : decide ((p : Int) ≥ 0) = true := by simp
                  rw [show (((p + 1 : Nat) : Int) - 1) = (p : Int) by omega]
                  go_wp2_with fail
                  refine ⟨⟨p, by omega, by go_num, by rw [Hm.out]; have := HJ.out; congr 1; omega, HA.out, HB.out, ⟨V, HV.out⟩, HN.out⟩, by simp [intOf]⟩
                · have hq0 : q = 0 := by omega
                  subst hq0
                  have hfR := hN.frozen j
                  have hV2 := hN.at_ j (by omega)
                  have HA := Lib.hid hA
                  have HB := Lib.hid hBl
                  have HV := Lib.hid hV
                  have HN := Lib.hid hN
                  clear hA hBl hV hN
                  rw [show N / 2 ^ 0 = N by simp]
                  rw [show (((0 : Nat) : Int) - 1) = -1 by rfl]
                  have hwN : IntKind.u8.wrap (N : Int) = by8 (byteOf P j) := by rw [IntKind.wrap_u8', ← HBy.out]; omega
                  go_wp2_with fail
                  refine ⟨⟨j + 1, by omega, by go_num, (HA.out.far (by simp; omega) _), HB.out.setCell (by simp; omega) _, ⟨V, HV.out.far (by simp; omega) _⟩, upd R j (byteOf P j), fun z hz => ?_, ?_⟩, by simp [intOf]; omega⟩
                  · unfold upd
                    split
                    · rename_i h; rw [h]
                    · exact HR.out z (by omega)
                  · exact (HN.out.put _ _).same (by rw [hashV_upd])
            · have dj : decide ((j : Int) < 32) = false := by simp; omega
              have e1 : tab 32 (hashV R) = tab 32 (hashV (hashS (joinP ps))) := tab_congr fun z hz => by unfold hashV; rw [hR z (by omega), HHash.out]
              have HB := Lib.hid hBl
              have HV := Lib.hid hV
              have HN := Lib.hid (hN.same e1)
              have hsw := hBl.size
              clear hA hBl hV hN e1 hR
              go_wp2_with (first
                | (refine wpL_load rfl 42 (.tmp 11) rfl (n := 32) 0 rfl _ HN.out (by omega) Tryd.underlying42 rfl (by kernel_rfl) ?_)
                | (refine wpL_store rfl 42 (.tmp 2) (.tmp 89) rfl 0 rfl rfl HV.out (by omega) (by kernel_rfl) (fun _ => rfl) ?_))
              exact ret_cell rfl rfl _ (HV.out.setRow.same (over_whole _ _ _)) Tryd.underlying42 rfl (by kernel_rfl) rfl ⟨rfl, below_setRow HB.out (by omega) _⟩
end Go.Proofs.YtfidjeoeaeghhaaDoor
