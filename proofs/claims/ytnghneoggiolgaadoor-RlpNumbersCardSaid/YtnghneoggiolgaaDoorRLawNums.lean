/- RlpNumbers: numbers in as few bytes as they need; unlike numbers have unlike bytes. Conditions: none. -/
import Derived.Test.YtnghneoggiolgaaDoorRAble
import Derived.Test.YtnghneoggiolgaaDoorRDoc
import Derived.Test.YtnghneoggiolgaaDoorRNumPure
import Derived.Test.YtnghneoggiolgaaDoorRLaid
import Derived.Test.YtnghneoggiolgaaDoorCards
import Derived.SevenTiedAt
import Derived.StillTailTactics
import Derived.Deep.RegionHeld3
import Derived.Deep.LoopGhost
import Derived.Deep.CutRange
namespace Go.Proofs.YtnghneoggiolgaaDoor
open Go.RowKit Go.ChangeShapes Go.WideShapes
theorem rangeAt_blk {w : World} {g : Nat} {t : TypeId} {cs : Array Value} (h : Blk w g t cs) : w.rangeAt g 0 cs.toList := fun j v hv => by
  rw [Nat.zero_add, h.cell]
  simpa using hv
theorem eql_word (S T : Nat → BitVec 64) (W : World) : (Op.equalIn 10000 24 (.agg (tab 4 (lanes S))) (.agg (tab 4 (lanes T)))).run Tryd.prog W = .ok (sameW S T) W := by
  refine (run_eql_tab (P := Tryd.prog) 9998 24 22 4 .u64 .u64 (fun i => u64 (S i)) (fun i => u64 (T i)) Tryd.underlying24 Tryd.underlying22 (by kernel_rfl) (by kernel_rfl) W).trans ?_
  congr 1
  rw [Bool.eq_iff_iff, decide_eq_true_iff, sameW_iff]
  refine forall_congr' fun i => forall_congr' fun _ => ⟨fun e => ?_, fun e => by rw [e]⟩
  unfold u64 at e
  exact BitVec.eq_of_toNat_eq (by omega)
theorem guard_word : Tryd.prog.eqGuardType Tryd.prog.depth 24 = false := by kernel_rfl
theorem sameW_refl (S : Nat → BitVec 64) : sameW S S = true := (sameW_iff S S).2 fun _ _ => rfl
theorem shl256 (x : BitVec 64) : IntKind.u64.wrap (u64 x * 256) = u64 (x <<< 8) := bv_shl x 8
theorem shr56 (x : BitVec 64) : u64 x / (72057594037927936 : Int) = u64 (x >>> 56) := bv_shr x 56
def pick4 (a b c d : BitVec 64) (i : Nat) : BitVec 64 := if i = 0 then a else if i = 1 then b else if i = 2 then c else d
theorem byte_lane (x : UInt8) : by8 x = u64 (BitVec.ofNat 64 x.toNat) := by
  have := x.toNat_lt
  unfold by8 u64
  rw [BitVec.toNat_ofNat]
  omega
theorem wrap_byte_lane (x : UInt8) : IntKind.u64.wrap (by8 x) = u64 (BitVec.ofNat 64 x.toNat) := by rw [byte_lane]; exact wrap_u64_u64 _
/-- The row of one item of bytes. -/
theorem dec_one {W : World} {base : Nat} {v : Value} {d : List UInt8} (h : RowIs W base v [(false, 0, d)]) {G : Prop}
    (hG : ∀ (A : Option Addr) (c : Nat) (ad : Addr) (Ad : Option Addr) (cd : Nat), v = .slice A 1 c → A = some ad → W.cell? ad = some (.bool false) → W.cell? ⟨ad.block, ad.off + 2, none⟩ = some (.slice Ad d.length cd) → ad.block < W.heap.size → Seq W W.heap.size Ad (bytes d) → G) : G := by
  obtain ⟨A, c, l, rfl, hn, hs, ha, hq⟩ := h.at_
  obtain ⟨x, rfl⟩ : ∃ x, l = [x] := List.length_eq_one_iff.1 hn
  obtain ⟨isL, cnt, Ad, cd, lb⟩ := x
  have hs : [said (isL, cnt, Ad, cd, lb)] = [(false, 0, d)] := hs
  simp only [said, List.cons.injEq, Prod.mk.injEq, and_true] at hs
  obtain ⟨rfl, rfl, rfl⟩ := hs
  obtain ⟨ad, rfl, hlt, h0, h1, h2⟩ := ha.get 0 (by simp)
  have hadd : ad.add (0 * 3) = ad := by unfold Addr.add; simp
  rw [hadd] at h0 h2
  exact hG _ c ad Ad cd rfl rfl h0 h2 hlt (hq (false, 0, Ad, cd, lb) (by simp))
set_option maxHeartbeats 4000000 in
set_option maxRecDepth 20000 in
theorem nums_walk (S T : Nat → BitVec 64) (w : World) : Calls Tryd.prog 3 #[.agg (tab 4 (lanes S)), .agg (tab 4 (lanes T))] w fun e w' => e = .returned (.bool true) ∧ Below w.heap.size w w' := by
  obtain ⟨d, hd⟩ : ∃ d, trimM 0 (listOf (wordS S) 32) = d := ⟨_, rfl⟩
  have h32 := trim_len S
  have hhead := trim_head (listOf (wordS S) 32)
  have hval : ∀ i, i < 4 → laneN (valB (trimM 0 (listOf (wordS S) 32))) i = S i := fun i hi => by rw [valB_trim]; exact lane_word S i hi
  have hnum : numM S = bytesM (trimM 0 (listOf (wordS S) 32)) := rfl
  rw [hd] at h32 hhead hval hnum
  have hdec := decM_bytesM d (by omega)
  rw [← hnum] at hdec
  have hns := numM_same S T
  have hnl : (numM S).length ≤ 1048576 := by
    have := headL_length 128 d.length
    have := wholeN_le d.length (by omega)
    rw [hnum]
    unfold bytesM
    rw [List.length_append]
    split <;> simp <;> omega
  have HHd := Lib.hid hhead
  have HVal := Lib.hid hval
  have HDec := Lib.hid hdec
  have HNs := Lib.hid hns
  clear hd hhead hval hnum hdec hns
  generalize hQ : numM S = q at *
  have HQ := Lib.hid hQ
  clear hQ
  go_enter Tryd.func3, Tryd.ntmps3
  go_upto_region 5 with (first
    | (go_at_call 6; refine (able_calls _).mono ?_; rintro e1 w1 ⟨rfl, hb1⟩; have hz1 := hb1.size; rw [size_alloc, size_alloc] at hz1; have HX1 := Lib.hid (((Blk.new w 24 (tab 4 (lanes S))).alloc (.cells (tab 4 (lanes T)) 24)).below hb1 (by rw [size_alloc, size_alloc]; omega)); have HY1 := Lib.hid ((Blk.new' (g := w.heap.size + 1) (w.alloc (.cells (tab 4 (lanes S)) 24)) 24 (tab 4 (lanes T)) (by rw [size_alloc])).below hb1 (by rw [size_alloc, size_alloc]; omega)); have HB1 := Lib.hid ((((Below.refl w.heap.size w).alloc (Nat.le_refl _) _).alloc (by rw [size_alloc]; omega) _).trans (hb1.mono (by rw [size_alloc, size_alloc]; omega))); clear hb1)
    | (refine wpL_load0 rfl 24 (.tmp 2) rfl rfl _ HX1.out Tryd.underlying24 rfl (by kernel_rfl) ?_)
    | (go_at_call 7; (refine (rlpNumber_calls S w1).mono ?_; rw [HQ.out]; rintro e2 w2 ⟨A2, c2, rfl, ho2, hb2⟩; have hz2 := hb2.size; have HO2 := Lib.hid ho2; have HB2 := Lib.hid hb2; clear ho2 hb2))
    | (go_at_call 9; (refine (own_calls A2 c2 _ q w2 (by omega) (Seq.of_own HO2.out)).mono ?_; rintro e3 w3 ⟨A3, c3, rfl, ho3, hb3⟩; have hz3 := hb3.size; have HO3 := Lib.hid ho3; have HO23 := Lib.hid (own_below' HO2.out hb3); have HB3 := Lib.hid (HB2.out.trans (hb3.mono hz2)); clear ho3 hb3))
    | (go_at_call 8; (refine (decR_calls A3 c3 _ q [(false, 0, d)] 0 0 HDec.out w3 (by omega) (own_cap HO3.out) (Nat.le_refl _) (Seq.of_own HO3.out)).mono ?_; rintro e4 w4 ⟨v4, rfl, hr4, hb4⟩; have hz4 := hb4.size; have HR4 := Lib.hid hr4; have HO24 := Lib.hid (own_below' HO23.out hb4); have HB4 := Lib.hid (HB3.out.trans (hb4.mono (by omega))); clear hr4 hb4; refine dec_one HR4.out ?_; intro A4 c4 ad Ad cd e0 e1 e2 e3 e4 hsd; clear HR4; have HSd := Lib.hid hsd; subst e0 e1; clear hsd)))
  go_cut [59] from 22 to 59 (fun v59 wx => v59 = .bool false ∧ wx = w4)
  case first =>
    by_cases h0 : 0 < d.length
    · obtain ⟨adb, rfl, _, hcb⟩ := HSd.out.byte 0 h0
      have hadd : adb.add 0 = adb := by unfold Addr.add; simp
      rw [hadd] at hcb
      have hne := HHd.out h0
      have hz : (by8 d[0] == 0) = false := by
        rw [show (0 : Int) = by8 0 from rfl, by8_beq]
        simpa using hne
      clear hne hadd
      generalize d[0] = y at *
      have l0 : (0 : Int) < (d.length : Int) := by omega
      have d1 : decide ((d.length : Int) > 32) = false := decide_eq_false (by omega)
      have d2 : decide ((d.length : Int) > 0) = true := decide_eq_true (by omega)
      go_wp2_with fail
      go_meet
      case rel => exact ⟨rfl, rfl⟩
    · have d1 : decide ((d.length : Int) > 32) = false := decide_eq_false (by omega)
      have d2 : decide ((d.length : Int) > 0) = false := decide_eq_false (by omega)
      go_wp2_with fail
      go_meet
      case rel => exact ⟨rfl, rfl⟩
  case rest =>
    obtain ⟨rfl, hwx⟩ := hcut
    have hwx' := hwx.symm
    subst hwx'
    clear hwx
    go_wp2_with (first | (refine wpL_alloc rfl 24 rfl (tab 4 (lanes fun _ => 0)) (by kernel_rfl) ?_))
    go_loopw [10] (fun i wr => ∃ k : Nat, k ≤ d.length ∧ i = .int .i64 k ∧ Below w4.heap.size w4 wr ∧ w4.heap.size + 1 ≤ wr.heap.size ∧ Blk wr w4.heap.size 24 (tab 4 (lanes (laneN (valB (d.take k)))))) (fun i _ => d.length - (intOf i).toNat)
    case atStart => exact ⟨0, by omega, rfl, (Below.refl _ _).alloc (Nat.le_refl _) _, by rw [size_alloc]; omega, (Blk.new _ _ _).same (tab_congr fun i _ => by simp [lanes, valB, laneN])⟩
    case round =>
      obtain ⟨k, hk, rfl, hbl, hsz, hz⟩ := hrel
      have g2 := (hbl.cell (p := ⟨ad.block, ad.off + 2, none⟩) e4).trans e3
      have HBl := Lib.hid hbl
      have HZ := Lib.hid hz
      clear hbl hz
      by_cases hlt : k < d.length
      · have dk : decide ((k : Int) < (d.length : Int)) = true := by simp; omega
        have lk : (k : Int) < (d.length : Int) := by omega
        obtain ⟨adb, rfl, _, hcb⟩ := (HSd.out.below HBl.out (Nat.le_refl _)).byte k hlt
        have htk : d.take (k + 1) = d.take k ++ [d[k]] := List.take_succ_eq_append_getElem hlt
        have hvs : valB (d.take (k + 1)) = 256 * valB (d.take k) + d[k].toNat := by rw [htk, valB_snoc]
        have hby := byte_lane d[k]
        have hcv := wrap_byte_lane d[k]
        have hl0 := lane_zero (valB (d.take k)) d[k]
        have hls := lane_succ (valB (d.take k)) d[k]
        rw [← hvs] at hl0 hls
        have c0 := HZ.out.lane 0 (by omega)
        have c1 := HZ.out.lane 1 (by omega)
        have c2' := HZ.out.lane 2 (by omega)
        have c3' := HZ.out.lane 3 (by omega)
        generalize valB (d.take k) = N at *
        have HL0 := Lib.hid hl0
        have HLs := Lib.hid hls
        clear htk hvs hby hl0 hls
        generalize BitVec.ofNat 64 d[k].toNat = y at *
        generalize d[k] = x at *
        have hw0 := shl256 (laneN N 0)
        have hw1 := shl256 (laneN N 1)
        have hw2 := shl256 (laneN N 2)
        have hw3 := shl256 (laneN N 3)
        have hs0 := shr56 (laneN N 0)
        have hs1 := shr56 (laneN N 1)
        have hs2 := shr56 (laneN N 2)
        go_wp2_with fail
        go_still_tail 34, (by kernel_rfl)
        change wpList _ _ _ _ _ wr.drew
        go_wp2_with (refine wpL_storeA rfl 24 (.tmp 9) (.tmp 102) rfl 0 rfl (n := 4) (f := lanes (pick4 (laneN N 0 <<< 8 ||| y) (laneN N 1 <<< 8 ||| laneN N 0 >>> 56) (laneN N 2 <<< 8 ||| laneN N 1 >>> 56) (laneN N 3 <<< 8 ||| laneN N 2 >>> 56))) rfl HZ.out.drew (by omega) (by kernel_rfl) (fun _ => rfl) ?_; intro w6 ho6 hk6; have HO6 := Lib.hid ho6; have HK6 := Lib.hid (hk6.same (over_whole _ _ _)); clear ho6 hk6)
        refine ⟨⟨k + 1, by omega, by go_num, HO6.out.below (below_drewN HBl.out 1) (Nat.le_refl _), Nat.le_trans hsz (Nat.le_of_eq HO6.out.size.symm), HK6.out.same (tab_congr fun i hi => ?_)⟩, by simp [intOf]; omega⟩
        match i, hi with
        | 0, _ => exact (congrArg (fun b : BitVec 64 => Value.int .u64 (Go.Proofs.YtnghneoggiolgaaDoor.u64 b)) HL0.out).symm
        | 1, _ => exact (congrArg (fun b : BitVec 64 => Value.int .u64 (Go.Proofs.YtnghneoggiolgaaDoor.u64 b)) (HLs.out 0)).symm
        | 2, _ => exact (congrArg (fun b : BitVec 64 => Value.int .u64 (Go.Proofs.YtnghneoggiolgaaDoor.u64 b)) (HLs.out 1)).symm
        | 3, _ => exact (congrArg (fun b : BitVec 64 => Value.int .u64 (Go.Proofs.YtnghneoggiolgaaDoor.u64 b)) (HLs.out 2)).symm
      · have dk : decide ((k : Int) < (d.length : Int)) = false := by simp; omega
        have hfin : d.take k = d := List.take_of_length_le (by omega)
        have hz := HZ.out.same (tab_congr (T := lanes S) fun i hi => by rw [hfin]; exact congrArg (fun b : BitVec 64 => Value.int .u64 (Go.Proofs.YtnghneoggiolgaaDoor.u64 b)) (HVal.out i hi))
        have HZ2 := Lib.hid hz
        clear hfin hz HZ HVal
        go_wp2_with fail
        have hb14 := HB4.out.trans (HBl.out.mono (by omega))
        have hX := HX1.out.below hb14 (by omega)
        have hY := HY1.out.below hb14 (by omega)
        have HX := Lib.hid hX
        have HY := Lib.hid hY
        have HOr := Lib.hid (own_below' HO24.out HBl.out)
        have hzr := HBl.out.size
        have heq : ∀ W : World, (Op.equalIn 10000 24 (.agg #[.int .u64 (Go.Proofs.YtnghneoggiolgaaDoor.u64 (S 0)), .int .u64 (Go.Proofs.YtnghneoggiolgaaDoor.u64 (S 1)), .int .u64 (Go.Proofs.YtnghneoggiolgaaDoor.u64 (S 2)), .int .u64 (Go.Proofs.YtnghneoggiolgaaDoor.u64 (S 3))]) (.agg #[.int .u64 (Go.Proofs.YtnghneoggiolgaaDoor.u64 (S 0)), .int .u64 (Go.Proofs.YtnghneoggiolgaaDoor.u64 (S 1)), .int .u64 (Go.Proofs.YtnghneoggiolgaaDoor.u64 (S 2)), .int .u64 (Go.Proofs.YtnghneoggiolgaaDoor.u64 (S 3))])).run Tryd.prog W = .ok true W := fun W => by
          have := eql_word S S W
          rw [sameW_refl] at this
          exact this
        have heq2 : ∀ W : World, (Op.equalIn 10000 24 (.agg #[.int .u64 (Go.Proofs.YtnghneoggiolgaaDoor.u64 (S 0)), .int .u64 (Go.Proofs.YtnghneoggiolgaaDoor.u64 (S 1)), .int .u64 (Go.Proofs.YtnghneoggiolgaaDoor.u64 (S 2)), .int .u64 (Go.Proofs.YtnghneoggiolgaaDoor.u64 (S 3))]) (.agg #[.int .u64 (Go.Proofs.YtnghneoggiolgaaDoor.u64 (T 0)), .int .u64 (Go.Proofs.YtnghneoggiolgaaDoor.u64 (T 1)), .int .u64 (Go.Proofs.YtnghneoggiolgaaDoor.u64 (T 2)), .int .u64 (Go.Proofs.YtnghneoggiolgaaDoor.u64 (T 3))])).run Tryd.prog W = .ok (sameW S T) W := fun W => eql_word S T W
        have hgd := guard_word
        have HBw := Lib.hid (HB1.out.trans (hb14.mono (by omega)))
        clear hX hY hb14
        have hbb : (sameW S T == sameW S T) = true := by simp
        go_region_held3 (fun w' => w'.cell? ⟨w4.heap.size, 0, none⟩ = some (.int .u64 (Go.Proofs.YtnghneoggiolgaaDoor.u64 (S 0))) ∧ w'.cell? ⟨w4.heap.size, 1, none⟩ = some (.int .u64 (Go.Proofs.YtnghneoggiolgaaDoor.u64 (S 1))) ∧ w'.cell? ⟨w4.heap.size, 2, none⟩ = some (.int .u64 (Go.Proofs.YtnghneoggiolgaaDoor.u64 (S 2))) ∧ w'.cell? ⟨w4.heap.size, 3, none⟩ = some (.int .u64 (Go.Proofs.YtnghneoggiolgaaDoor.u64 (S 3))) ∧ w'.cell? ⟨w.heap.size, 0, none⟩ = some (.int .u64 (Go.Proofs.YtnghneoggiolgaaDoor.u64 (S 0))) ∧ w'.cell? ⟨w.heap.size, 1, none⟩ = some (.int .u64 (Go.Proofs.YtnghneoggiolgaaDoor.u64 (S 1))) ∧ w'.cell? ⟨w.heap.size, 2, none⟩ = some (.int .u64 (Go.Proofs.YtnghneoggiolgaaDoor.u64 (S 2))) ∧ w'.cell? ⟨w.heap.size, 3, none⟩ = some (.int .u64 (Go.Proofs.YtnghneoggiolgaaDoor.u64 (S 3))) ∧ w'.cell? ⟨w.heap.size + 1, 0, none⟩ = some (.int .u64 (Go.Proofs.YtnghneoggiolgaaDoor.u64 (T 0))) ∧ w'.cell? ⟨w.heap.size + 1, 1, none⟩ = some (.int .u64 (Go.Proofs.YtnghneoggiolgaaDoor.u64 (T 1))) ∧ w'.cell? ⟨w.heap.size + 1, 2, none⟩ = some (.int .u64 (Go.Proofs.YtnghneoggiolgaaDoor.u64 (T 2))) ∧ w'.cell? ⟨w.heap.size + 1, 3, none⟩ = some (.int .u64 (Go.Proofs.YtnghneoggiolgaaDoor.u64 (T 3)))) (first | exact ⟨k1.lane 0 (by omega), k1.lane 1 (by omega), k1.lane 2 (by omega), k1.lane 3 (by omega), k2.lane 0 (by omega), k2.lane 1 (by omega), k2.lane 2 (by omega), k2.lane 3 (by omega), k3.lane 0 (by omega), k3.lane 1 (by omega), k3.lane 2 (by omega), k3.lane 3 (by omega)⟩ | exact ⟨HZ2.out.lane 0 (by omega), HZ2.out.lane 1 (by omega), HZ2.out.lane 2 (by omega), HZ2.out.lane 3 (by omega), HX.out.lane 0 (by omega), HX.out.lane 1 (by omega), HX.out.lane 2 (by omega), HX.out.lane 3 (by omega), HY.out.lane 0 (by omega), HY.out.lane 1 (by omega), HY.out.lane 2 (by omega), HY.out.lane 3 (by omega)⟩ | exact ⟨HZ2.out.drew.lane 0 (by omega), HZ2.out.drew.lane 1 (by omega), HZ2.out.drew.lane 2 (by omega), HZ2.out.drew.lane 3 (by omega), HX.out.drew.lane 0 (by omega), HX.out.drew.lane 1 (by omega), HX.out.drew.lane 2 (by omega), HX.out.drew.lane 3 (by omega), HY.out.drew.lane 0 (by omega), HY.out.drew.lane 1 (by omega), HY.out.drew.lane 2 (by omega), HY.out.drew.lane 3 (by omega)⟩)
          (first
            | (go_at_call 7; refine (rlpNumber_calls T wr.drew).mono ?_; rintro e w7 ⟨A7, c7, rfl, ho7, hb7⟩; have hb7' : Below wr.heap.size wr w7 := (below_drewN (Below.refl wr.heap.size wr) 1).trans hb7; have k1 := HZ2.out.below hb7' (by omega); have k2 := HX.out.below hb7' (by omega); have k3 := HY.out.below hb7' (by omega); have HO7 := Lib.hid ho7; have HOr7 := Lib.hid (own_below' HOr.out hb7'); have HB7 := Lib.hid hb7'; clear ho7 hb7 hb7')
            | (go_at_call 10; refine (sameE_calls A2 c2 w7.heap.size q A7 c7 (numM T) w7 (Seq.of_own HOr7.out) (Seq.of_own HO7.out)).mono ?_; rw [HNs.out]; rintro e w8 ⟨rfl, rfl⟩))
        go_wp2_with fail
        go_ret
        exact ⟨rfl, HBw.out.trans (HB7.out.mono (by omega))⟩
-- CARD
set_option maxRecDepth 100000 in
theorem rlpNumbers_lifted (os : Os) (started : os.Started) (H : Type) (enc : TypeId × Value → H) :
    ReturnsInHanded {} Tryd.checked os 3 .any (fun w args => (Rows.rlpNumbersSpec.pre enc Tryd.prog Tryd.f3 [] false w args ∧ laidMetH Tryd.prog seatLaid w) ∧ sizedMet enc Tryd.prog Tryd.f3 (OpenSpec.ofChange Rows.rlpNumbersSpec) false w args)
      (Rows.rlpNumbersSpec.post enc Tryd.prog Tryd.f3 false true false false) := by
  refine returnsInHanded_of_change_and (C := Tryd.checked) (X := fun w _ => laidMetH Tryd.prog seatLaid w) (fun _ _ _ hh h => h.of_heap hh) own started (by kernel_rfl) Tryd.func3
    (ChangeSpec.witness_shaped (enc := enc) (C := Tryd.checked) (os := os) (X := fun w _ => laidMetH Tryd.prog seatLaid w) false (World.laidAll Tryd.prog os seatLaid) #[.agg (tab 4 fun _ => .int .u64 0), .agg (tab 4 fun _ => .int .u64 0)] 8 (World.laidAll_os _ _ _)
      (World.shaped_of_ZipB (by kernel_rfl) (by kernel_rfl)) (by kernel_rfl) (by kernel_rfl) (by kernel_rfl)
      (by rw [MakeChecks.laidMetH_plain _ _ _ (by kernel_rfl)]; exact laidMet_laidAll _ (by kernel_rfl) (by kernel_rfl))) ?_
  intro W base args ds gs before hval0 hW _ hsz hL0 _
  rw [MakeChecks.laidMetH_plain _ _ _ (by kernel_rfl)] at hL0
  clear hL0
  have hval : ∀ (j : Nat) t v, Tryd.f3.params[j]? = some t → args[j]? = some v → Value.okWide Tryd.prog W .any base t v := hval0
  have hW' := hW
  obtain ⟨p, q, hA0, hV, rfl, hfz, hnd⟩ := hW
  have hA : DataW.TrodAll enc Tryd.prog W 0 (fun _ => true) true Tryd.f3.params.toList args.toList ds p := hA0
  rw [Tryd.params3] at hA hval
  obtain ⟨v0, vs0, d0, ds0, p0, q0, hargs, rfl, rfl, h0, r0⟩ := trodAll_cons hA
  obtain ⟨v1, vs1, d1, ds1, p1, q1, rfl, rfl, rfl, h1, r1⟩ := trodAll_cons r0
  obtain ⟨rfl, rfl, rfl⟩ := trodAll_nil r1
  obtain rfl : args = #[v0, v1] := by cases args; simp_all
  obtain ⟨rfl, rfl⟩ := trodVars_none hV
  have k0 := h0
  have lt0 : ∀ x ∈ p0, x.block < W.heap.size := by obtain ⟨m, hm⟩ := k0; exact DataW.trod_lt m _ _ _ hm
  have k1 := h1
  have lt1 : ∀ x ∈ p1, x.block < W.heap.size := by obtain ⟨m, hm⟩ := k1; exact DataW.trod_lt m _ _ _ hm
  obtain ⟨S0, rfl⟩ := open_lanes Tryd.underlying24 Tryd.underlying22 (by kernel_rfl) (by kernel_rfl) (hval 0 _ v0 rfl rfl) h0
  obtain ⟨S1, rfl⟩ := open_lanes Tryd.underlying24 Tryd.underlying22 (by kernel_rfl) (by kernel_rfl) (hval 1 _ v1 rfl rfl) h1
  clear hA0 hval0
  refine (nums_walk S0 S1 W).mono fun e W' ⟨he, bel⟩ => ?_
  subst he
  exact ⟨_, rfl, _, _, _, [], _, [], hW', trodAll_mk1 (shut_bool Tryd.underlying4 _), (trodAll_cons_mk (Below.trod laidOut (by kernel_rfl) (of_decide_eq_true (by kernel_rfl)) k0 bel lt0) (trodAll_cons_mk (Below.trod laidOut (by kernel_rfl) (of_decide_eq_true (by kernel_rfl)) k1 bel lt1) trodAll_mk0)), rfl, bel.frame _, fun h => by cases h⟩
theorem rlpNumbers_holds : Rows.RlpNumbersSaid :=
  OpenClaim.holds_of_wide 3 Tryd.f3 rfl rfl rfl rfl rfl rfl rfl ⟨rfl, rfl, rfl, rfl, rfl⟩ rfl rfl rfl rfl rfl (by kernel_rfl) Tryd.func3 (by kernel_rfl)
    (of_decide_eq_true (by kernel_rfl)) (by unfold Func.isWrapper; first | (rw [if_pos (by decide +kernel)]; kernel_rfl) | (rw [if_neg (by decide +kernel)]; exact ⟨rfl, rfl⟩))
    (fun os started H enc _ => rlpNumbers_lifted os started H enc)
theorem rlpNumbers_card : Rows.RlpNumbersCardSaid :=
  Claim7.holds_tied_plain_at .later [] [.data, .pinned] true (true, "0d5fcb2dacd2627385597f4f8682e01c213b76d9c41560d4420e62c2fd991688") false rlpNumbers_holds (fun _ h => by cases h) (by kernel_rfl) (fun _ h => by cases h) rlpNumbers_row_tie rfl ⟨rfl, rfl⟩ (by kernel_rfl) rfl
    (fun f fn hf hfn => by
      obtain rfl : f = 3 := Option.some.inj ((show Tryd.prog.funcNamed "vouch/vouchlaw25.RlpNumbers" = some 3 by kernel_rfl).symm.trans hf) |>.symm
      obtain rfl : fn = Tryd.f3 := (Option.some.inj (Tryd.func3.symm.trans hfn)).symm
      exact ⟨by kernel_rfl, fun j t ht => by
        rw [Tryd.params3] at ht
        have hm : t ∈ ([24, 24] : List TypeId) := by simpa using Array.mem_of_getElem? ht
        have hall : (([24, 24] : List TypeId).all fun u => !Tryd.prog.wantsStandIn u) = true := by kernel_rfl
        exact (show Tryd.prog.wantsStandIn t = false by simpa using List.all_eq_true.1 hall t hm)⟩)
    (by kernel_rfl)
end Go.Proofs.YtnghneoggiolgaaDoor
