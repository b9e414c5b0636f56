/- RlpDeep: so many lists in one another: written and read back. Conditions: none. -/
import Derived.Test.YtnghneoggiolgaaRAble
import Derived.Test.YtnghneoggiolgaaRPure
import Derived.Test.YtnghneoggiolgaaRows
import Derived.Test.YtnghneoggiolgaaROpenB
import Derived.Deep.LoopGhost
import Derived.Deep.CutRange
namespace Go.Proofs.Ytnghneoggiolgaa
open Go.RowKit Go.ChangeShapes Go.WideShapes
theorem i64_and4095 (n : Int) : bits .and .i64 n 4095 = n % 4096 := by
  have h127 : (BitVec.ofInt 64 4095).toNat = 2 ^ 12 - 1 := by decide
  have key : (BitVec.ofInt 64 n &&& BitVec.ofInt 64 4095).toNat = (n % ((2 ^ 64 : Nat) : Int)).toNat % 2 ^ 12 := by
    rw [BitVec.toNat_and, BitVec.toNat_ofInt, h127, Nat.and_two_pow_sub_one_eq_mod]
  show IntKind.i64.wrap ((BitVec.ofInt 64 n &&& BitVec.ofInt 64 4095).toNat : Nat) = n % 4096
  rw [key, IntKind.wrap_i64]
  omega
theorem ItemsAt.more {w : World} {B B' : Nat} {A : Option Addr} {l : List ItemL} (h : ItemsAt w B A l) (hB : B ≤ B') : ItemsAt w B' A l := fun j hj => by
  obtain ⟨ad, e, hlt, hc⟩ := h j hj
  exact ⟨ad, e, by omega, hc⟩
def listS (k : Nat) : List SaidI := List.replicate k (true, 1, [])
theorem listS_succ (k : Nat) : listS (k + 1) = listS k ++ [(true, 1, [])] := by unfold listS; rw [List.replicate_succ']
theorem listS_length (k : Nat) : (listS k).length = k := by simp [listS]
theorem nestS_len (b : List UInt8) (j : Nat) (hb : b.length ≤ 2000) : ∀ s ∈ nestS b j, s.2.2.length ≤ 2000 := by
  intro s hs
  unfold nestS at hs
  rcases List.mem_append.1 hs with hs | hs
  · rw [(List.mem_replicate.1 hs).2]; simp
  · rw [List.mem_singleton] at hs; subst hs; exact hb
theorem own_cap {w : World} {base n c : Nat} {e : TypeId} {size : Nat} {A : Option Addr} {xs : List Value} (h : w.ownsRow base e size (.slice A n c) n xs) : n ≤ c := by
  obtain ⟨A', c', e, h1, _⟩ := own_shape h
  injection e with _ _ e3
  omega
set_option maxHeartbeats 4000000 in
set_option maxRecDepth 20000 in
theorem deep_walk (A : Option Addr) (c : Nat) (b : List UInt8) (z : Int) (w : World) (hr : b.length ≤ reachBytes) (hq : Seq w w.heap.size A (bytes b)) :
    Calls Try.prog 3 #[.int .i64 z, .slice A b.length c] w fun e w' => e = .returned (.bool true) ∧ Below w.heap.size w w' := by
  have HS := Lib.hid hq
  clear hq
  unfold reachBytes at hr
  have hand := i64_and4095 z
  obtain ⟨n, hn⟩ : ∃ n : Nat, z % 4096 = (n : Int) := ⟨(z % 4096).toNat, by omega⟩
  have hn4 : n ≤ 4095 := by omega
  rw [hn] at hand
  clear hn
  by_cases hlen : 2000 < b.length
  · have d1 : decide ((b.length : Int) > 2000) = true := by simp; omega
    go_enter Try.func3, Try.ntmps3
    go_wp2_with (first | (go_at_call 4; refine (able_calls w).mono ?_; rintro e1 w1 ⟨rfl, hb1⟩; have HB1 := Lib.hid hb1; clear hb1))
    go_ret
    exact ⟨rfl, HB1.out⟩
  have d1 : decide ((b.length : Int) > 2000) = false := by simp; omega
  go_enter Try.func3, Try.ntmps3
  go_wp2_with (first | (go_at_call 4; refine (able_calls w).mono ?_; rintro e1 w1 ⟨rfl, hb1⟩; have HB1 := Lib.hid hb1; clear hb1))
  go_loopw [5, 6] (fun v i wr => ∃ k : Nat, k ≤ n ∧ i = .int .i64 k ∧ RowIs wr w.heap.size v (listS k) ∧ Below w.heap.size w wr) (fun _ i _ => n - (intOf i).toNat)
  case atStart => exact ⟨0, by omega, rfl, RowIs.nil _ _, HB1.out⟩
  case round =>
    obtain ⟨k, hk, rfl, hrow, hBl⟩ := hrel
    obtain ⟨A1, c1, l1, rfl, hs1, ho1, hi1⟩ := hrow
    have hl1 : l1.length = k := by rw [← List.length_map (f := said), hs1, listS_length]
    rw [listS_length] at *
    have hsz := hBl.size
    by_cases hlt : k < n
    · have dk : decide ((k : Int) < (n : Int)) = true := by simp; omega
      have HS1 := Lib.hid hs1
      have HO1 := Lib.hid ho1
      have HI1 := Lib.hid hi1
      have HL1 := Lib.hid hl1
      have HBl := Lib.hid hBl
      clear hs1 ho1 hi1 hl1 hBl
      go_wp2_with (first
        | (at_builtin; (refine wpL_append rfl (.tmp 30) (.tmp 32) 24 rfl elItem rfl (own_alloc HO1.out _) rfl rfl (Seq.of_blk (xs := [.bool true, .int .i64 1, .slice none 0 0]) (Blk.new' _ _ _ rfl) (Nat.lt_succ_self _)) (by simp [Value.oneCell']) (by unfold maxLen; omega) (by omega) (by rw [size_alloc]; omega) ?_; intro A9 c9 W9 ho9 hg9 _; have HO9 := Lib.hid ho9; have HG9 := Lib.hid hg9; clear ho9 hg9)))
      have hO1 := own_alloc HO1.out (.cells #[.bool true, .int .i64 1, .slice none 0 0] 26)
      have hfin := RowIs.snoc (x := (true, 1, none, 0, [])) hO1 (fun y hy => own_alloc (HI1.out y hy) _) (OwnI.none_ _ _ _ _) HL1.out.symm HO9.out HG9.out
      rw [HS1.out] at hfin
      refine ⟨⟨k + 1, by omega, by go_num, by rw [listS_succ]; exact hfin, (HBl.out.alloc hsz _).grown HG9.out (by rw [size_alloc]; omega) (fun g hg => (HO1.out.lt g hg).1)⟩, by simp [intOf]; omega⟩
    · have dk : decide ((k : Int) < (n : Int)) = false := by simp; omega
      obtain rfl : k = n := by omega
      have HS1 := Lib.hid hs1
      have HO1 := Lib.hid ho1
      have HI1 := Lib.hid hi1
      have HL1 := Lib.hid hl1
      have HBl := Lib.hid hBl
      clear hs1 ho1 hi1 hl1 hBl
      go_upto_region 14 with (first
        | (go_at_call 5; refine (own_calls A c w.heap.size b wr (by omega) (HS.out.below HBl.out (Nat.le_refl _))).mono ?_; rintro e1 w2 ⟨A2, c2, rfl, ho2, hb2⟩; have hsz2 := hb2.size; have HO2 := Lib.hid ho2; have HO3 := Lib.hid (own_below' HO1.out hb2); have HB2 := Lib.hid hb2; clear ho2 hb2)
        | (at_builtin; (refine wpL_append rfl (.tmp 34) (.tmp 38) 24 rfl elItem rfl (own_alloc HO3.out _) rfl rfl (Seq.of_blk (xs := [.bool false, .int .i64 0, .slice A2 b.length c2]) (Blk.new' _ _ _ rfl) (Nat.lt_succ_self _)) (by simp [Value.oneCell']) (by unfold maxLen; omega) (by omega) (by rw [size_alloc]; omega) ?_; intro A9 c9 W9 ho9 hg9 _; have HO9 := Lib.hid ho9; have HG9 := Lib.hid hg9; clear ho9 hg9)))
      have hO1 := own_alloc HO3.out (.cells #[.bool false, .int .i64 0, .slice A2 b.length c2] 26)
      have hrow := RowIs.snoc (x := (false, 0, A2, c2, b)) hO1 (fun y hy => own_alloc (own_below' (HI1.out y hy) HB2.out) _) (own_alloc (own_mono HO2.out hsz) _) HL1.out.symm HO9.out HG9.out
      rw [HS1.out] at hrow
      have hrow3 : RowIs W9 w.heap.size (.slice A9 (k + 1) c9) (nestS b k) := hrow
      have hbl3 := ((HBl.out.trans (HB2.out.mono hsz)).alloc (by omega) (.cells #[.bool false, .int .i64 0, .slice A2 b.length c2] 26)).grown HG9.out (by rw [size_alloc]; omega) (fun g hg => (hO1.lt g hg).1)
      have hsz3 := hbl3.size
      have hs3 := HS.out.below hbl3 (Nat.le_refl _)
      have HRow := Lib.hid hrow3
      have HBl3 := Lib.hid hbl3
      have HS3 := Lib.hid hs3
      clear hO1 hrow hrow3 hbl3 hs3 HO9 HG9 HO2 HO3 HB2 HS1 HO1 HI1 HL1 HBl dk hlt hk hand
      go_cut [50] from 42 to 50 (fun v50 wx => v50 = .bool (!small b) ∧ wx = W9)
      case first =>
        by_cases hl1 : b.length = 1
        · obtain ⟨ad, rfl, _, hc0⟩ := HS3.out.at_ (k := 0) (by rw [bytes_length]; omega)
          rw [bytes_get] at hc0
          have hsm : small b = decide (b[0] < 128) := by
            unfold small
            match b, hl1 with
            | [x], _ => simp
          have hx := b[0].toNat_lt
          have hcmp : decide (b[0] < 128) = decide (b[0].toNat < 128) := rfl
          rw [hcmp] at hsm
          unfold by8 at hc0
          generalize b[0].toNat = x at *
          have hadd : ad.add 0 = ad := by unfold Addr.add; simp
          rw [hadd] at hc0
          have HSm := Lib.hid hsm
          have d3 : ((b.length : Int) != 1) = false := by rw [bne_eq_false_iff_eq]; omega
          have lb : (0 : Int) < (b.length : Int) := by omega
          clear hsm hcmp hadd hl1
          by_cases hx8 : x < 128
          · have dx : decide ((x : Int) ≥ 128) = false := by simp; omega
            go_wp2_with fail
            go_meet
            case rel => exact ⟨by rw [HSm.out, decide_eq_true hx8]; rfl, rfl⟩
          · have dx : decide ((x : Int) ≥ 128) = true := by simp; omega
            go_wp2_with fail
            go_meet
            case rel => exact ⟨by rw [HSm.out, decide_eq_false hx8]; rfl, rfl⟩
        · have hsm : small b = false := by unfold small; rw [decide_eq_false hl1]; rfl
          have HSm := Lib.hid hsm
          have d2 : ((b.length : Int) != 1) = true := by rw [bne_iff_ne]; omega
          clear hsm
          go_wp2_with fail
          go_meet
          case rel => exact ⟨by rw [HSm.out]; rfl, rfl⟩
      case rest =>
        obtain ⟨rfl, hw9⟩ := hcut
        have hw9' := hw9.symm
        subst hw9'
        clear hw9
        go_upto_if 50 with fail
        go_cut [7, 8] from 42 to 57 (fun v7 v8 wx => ∃ (H : List UInt8) (A3 : Option Addr) (c3 : Nat), v7 = .int .i64 ((nest b 0).length : Int) ∧ v8 = .slice A3 H.length c3 ∧ H.reverse ++ b = nest b 0 ∧ wx.ownsRow W9.heap.size 5 1 (.slice A3 H.length c3) H.length (bytes H) ∧ Below W9.heap.size W9 wx)
        case first =>
          by_cases hsm : small b = true
          · have h0 : nest b 0 = b := by simp [nest, bytesM, hsm]
            have H0 := Lib.hid h0
            rw [hsm]
            clear h0 hsm
            go_wp2_with fail
            go_meet
            case rel => exact ⟨[], none, 0, by rw [H0.out], rfl, by rw [H0.out]; rfl, World.ownsRow_nil _ _ _ _, Below.refl _ _⟩
          · rw [Bool.not_eq_true] at hsm
            have h0 : nest b 0 = headL 128 b.length ++ b := by simp [nest, bytesM, hsm]
            have H0 := Lib.hid h0
            have hln := headL_length 128 b.length
            have hle := wholeN_le b.length (by omega)
            rw [hsm]
            clear h0 hsm
            go_wp2_with (first | (go_at_call 6; refine (turned_calls W9.heap.size none 0 [] 128 b.length (by omega) (by omega) (by simp) W9 (World.ownsRow_nil _ _ _ _) (Nat.le_refl _)).mono ?_; rintro e1 w4 ⟨A4, c4, rfl, ho4, hg4, _⟩; rw [List.nil_append] at ho4; have HO4 := Lib.hid ho4; have HG4 := Lib.hid hg4; clear ho4 hg4))
            go_meet
            case rel =>
              refine ⟨(headL 128 b.length).reverse, A4, c4, by rw [H0.out, List.length_append, Int.natCast_add, Int.add_comm], by rw [List.length_reverse], by rw [List.reverse_reverse, H0.out], HO4.out, (Below.refl _ _).grown HG4.out (Nat.le_refl _) (fun g hg => by simp [Value.ownBlock] at hg)⟩
        case rest =>
          obtain ⟨H, A3, c3, rfl, rfl, hH, ho3, hb3⟩ := hcut
          have HH := Lib.hid hH
          have HO3 := Lib.hid ho3
          have HB3 := Lib.hid hb3
          clear hH ho3 hb3
          go_wp2_with fail
          go_loopw [7, 8, 9, 10] (fun v7 v8 v9 _ wr => ∃ (j : Nat) (H : List UInt8) (A3 : Option Addr) (c3 : Nat), j ≤ k ∧ v9 = .int .i64 j ∧ v7 = .int .i64 ((nest b j).length : Int) ∧ v8 = .slice A3 H.length c3 ∧ H.reverse ++ b = nest b j ∧
            wr.ownsRow W9.heap.size 5 1 (.slice A3 H.length c3) H.length (bytes H) ∧ Below W9.heap.size W9 wr) (fun _ _ v9 _ _ => k - (intOf v9).toNat)
          case atStart => exact ⟨0, H, A3, c3, by omega, rfl, rfl, rfl, HH.out, HO3.out, HB3.out⟩
          case round =>
            clear HH HO3 HB3
            obtain ⟨j, H, A3, c3, hj, rfl, rfl, rfl, hH, ho3, hb3⟩ := hrel
            have hnl := nest_le b (by omega) j (by omega)
            have hHl : H.length ≤ (nest b j).length := by rw [← hH, List.length_append, List.length_reverse]; omega
            by_cases hlt : j < k
            · have dj : decide ((j : Int) < (k : Int)) = true := by simp; omega
              have hnx : nest b (j + 1) = headL 192 (nest b j).length ++ nest b j := rfl
              have hhl := headL_length 192 (nest b j).length
              have hwl := wholeN_le (nest b j).length (by omega)
              have HNx := Lib.hid hnx
              have HLn := Lib.hid (show (nest b (j + 1)).length = (headL 192 (nest b j).length).length + (nest b j).length by rw [hnx, List.length_append])
              have HH := Lib.hid hH
              have HO3 := Lib.hid ho3
              have HB3 := Lib.hid hb3
              have hsz4 := hb3.size
              clear hnx hH ho3 hb3
              generalize (nest b j).length = nl at *
              go_wp2_with (first | (go_at_call 6; refine (turned_calls W9.heap.size A3 c3 H 192 nl (by omega) (by omega) (by omega) _ HO3.out hsz4).mono ?_; rintro e1 w4 ⟨A4, c4, rfl, ho4, hg4, _⟩; have HO4 := Lib.hid ho4; have HG4 := Lib.hid hg4; clear ho4 hg4))
              refine ⟨⟨j + 1, H ++ (headL 192 nl).reverse, A4, c4, by omega, by go_num, ?_, by rw [List.length_append, List.length_reverse], ?_, HO4.out, HB3.out.grown HG4.out hsz4 (fun g hg => (HO3.out.lt g hg).1)⟩, by simp [intOf]; omega⟩
              · rw [HLn.out]; congr 1; omega
              · rw [List.reverse_append, List.reverse_reverse, List.append_assoc, HH.out, HNx.out]
            · have dj : decide ((j : Int) < (k : Int)) = false := by simp; omega
              obtain rfl : j = k := by omega
              have HH := Lib.hid hH
              have HO3 := Lib.hid ho3
              have HB3 := Lib.hid hb3
              have hsz4 := hb3.size
              clear hH ho3 hb3 dj hlt hj
              go_wp2_with fail
              go_loopw [11, 12] (fun v11 v12 wq => ∃ (r : Nat) (A5 : Option Addr) (c5 : Nat), r ≤ H.length ∧ v12 = .int .i64 ((r : Int) - 1) ∧ v11 = .slice A5 (H.length - r) c5 ∧ wq.ownsRow wr.heap.size 5 1 (.slice A5 (H.length - r) c5) (H.length - r) (bytes (H.reverse.take (H.length - r))) ∧ Below wr.heap.size wr wq) (fun _ v12 _ => (intOf v12 + 1).toNat)
              case atStart => exact ⟨H.length, none, 0, Nat.le_refl _, rfl, by rw [Nat.sub_self], by rw [Nat.sub_self]; exact World.ownsRow_nil _ _ _ _, Below.refl _ _⟩
              case round =>
                obtain ⟨r, A5, c5, hrl, rfl, rfl, ho5, hb5⟩ := hrel
                have hsz5 := hb5.size
                cases r with
                | succ r =>
                  have e1 : (((r + 1 : Nat) : Int) - 1) = (r : Int) := by omega
                  rw [e1]
                  have dr : decide ((r : Int) ≥ 0) = true := by simp
                  have lr : (r : Int) < (H.length : Int) := by omega
                  obtain ⟨ad, rfl, hadb, hc0⟩ := ((Seq.of_own HO3.out).below hb5 (Nat.le_refl _)).at_ (k := r) (by rw [bytes_length]; omega)
                  rw [bytes_get] at hc0
                  have htk : H.reverse.take (H.length - r) = H.reverse.take (H.length - (r + 1)) ++ [H[r]'(by omega)] := by
                    rw [show H.length - r = (H.length - (r + 1)) + 1 by omega, List.take_succ_eq_append_getElem (by rw [List.length_reverse]; omega), List.getElem_reverse]
                    simp only [List.append_cancel_left_eq, List.cons.injEq, and_true]
                    congr 1
                    omega
                  have HT := Lib.hid htk
                  have HO5 := Lib.hid ho5
                  have HB5 := Lib.hid hb5
                  clear htk ho5 hb5 e1
                  generalize H[r] = x at *
                  have hm1 : H.length - (r + 1) + 1 = H.length - r := by omega
                  have HM1 := Lib.hid hm1
                  clear hm1
                  go_wp2_with (first
                    | (at_builtin; (refine wpL_append rfl (.tmp 81) (.tmp 86) 22 rfl elByte rfl (own_alloc HO5.out _) rfl rfl (Seq.one_new _ _ _) (by simp [Value.oneCell']) (by unfold maxLen; omega) (by omega) (by rw [size_alloc]; omega) ?_; intro A6 c6 W6 ho6 hg6 _; have HO6 := Lib.hid ho6; have HG6 := Lib.hid hg6; clear ho6 hg6)))
                  have ho6 := HO6.out
                  rw [bytes_snoc, ← HT.out, HM1.out] at ho6
                  refine ⟨⟨r, A6, c6, by omega, rfl, by rw [HM1.out], ho6, (HB5.out.alloc hsz5 _).grown HG6.out (by rw [size_alloc]; omega) (fun g hg => (HO5.out.lt g hg).1)⟩, by simp [intOf]⟩
                | zero =>
                  rw [Nat.sub_zero] at *
                  rw [List.take_of_length_le (by rw [List.length_reverse]; exact Nat.le_refl _)] at ho5
                  have hfin : H.reverse ++ b = nest b j := HH.out
                  have hnl2 : H.length + b.length = (nest b j).length := by rw [← hfin, List.length_append, List.length_reverse]
                  have e1 : (((0 : Nat) : Int) - 1) = -1 := by omega
                  rw [e1]
                  have hbW := HB3.out.trans (hb5.mono hsz4)
                  have hrow := HRow.out.below hbW
                  have hs7 := HS3.out.below hbW (by omega)
                  have HRow7 := Lib.hid hrow
                  have HS7 := Lib.hid hs7
                  have HO5 := Lib.hid ho5
                  have HB5 := Lib.hid hb5
                  have HBW := Lib.hid hbW
                  have HF := Lib.hid hfin
                  have HNL := Lib.hid hnl2
                  clear hrow hs7 ho5 hb5 hbW hfin hnl2 e1 hrl HH HO3 HB3
                  go_wp2_with (first
                    | (at_builtin; (refine wpL_append rfl (.tmp 88) (.tmp 89) 22 rfl elByte rfl HO5.out rfl (by rw [bytes_length]; simp) HS7.out (bytes_one b) (by unfold maxLen; omega) (by omega) hsz5 ?_; intro A6 c6 W6 ho6 hg6 _; have hs6 := hg6.size; rw [← bytes_append, HF.out, HNL.out] at ho6; have HO6 := Lib.hid ho6; have hb6 := HBW.out.trans (((Below.refl _ _).grown hg6 hsz5 (fun g hg => (HO5.out.lt g hg).1)).mono hsz4); have hsz6 := hb6.size; obtain ⟨A61, c61, l6, e6, hn6, hsd6, ha6, hq6⟩ := (HRow.out.below hb6).at_; have HE6 := Lib.hid e6; have HN6 := Lib.hid hn6; have HS6 := Lib.hid hsd6; have HA6 := Lib.hid ha6; have HQ6 := Lib.hid hq6; have HB6 := Lib.hid hb6; clear ho6 hg6 hb6 e6 hn6 hsd6 ha6 hq6; have hnl2 := HNL.out))
                    | (go_at_call 8; go_loud (rw [HE6.out]; refine (copyR_calls A61 c61 2000 l6 W6 (by rw [HN6.out]; simp [nestS]; omega) (by omega) HA6.out (fun x hx => ⟨said_len HS6.out (nestS_len b j (by omega)) x hx, HQ6.out x hx⟩)).mono ?_; rintro e1 w7 ⟨v7, rfl, hr7, hb7⟩; rw [HS6.out] at hr7; obtain ⟨A7, c7, l7, rfl, hn7, hsd7, ha7, hq7⟩ := hr7.at_; have hz7 := hb7.size; have HN7 := Lib.hid hn7; have HS7' := Lib.hid hsd7; have HA7 := Lib.hid ha7; have HQ7 := Lib.hid hq7; have HB7 := Lib.hid hb7; clear hr7 hn7 hsd7 ha7 hq7 hb7))
                    | (go_at_call 7; go_loud (refine (encR_calls A7 c7 2000 l7 (nest b j) (encM_nest HS7'.out) w7 (by rw [HN7.out]; simp [nestS]; omega) (by rw [HN7.out]; simp [nestS]; omega) HA7.out (fun x hx => ⟨said_len HS7'.out (nestS_len b j (by omega)) x hx, HQ7.out x hx⟩)).mono ?_; rintro e1 w8 ⟨A8, c8, rfl, ho8, hb8⟩; have hz8 := hb8.size; have HO8 := Lib.hid ho8; have HB8 := Lib.hid (HB7.out.trans (hb8.mono hz7)); clear ho8 hb8))
                    | (go_at_call 5; go_loud (refine (own_calls A6 c6 W6.heap.size (nest b j) w8 (by omega) ((Seq.of_own HO6.out).below HB8.out (Nat.le_refl _))).mono ?_; rintro e1 w9 ⟨A9b, c9b, rfl, ho9, hb9⟩; have hz9 := hb9.size; have HO9 := Lib.hid ho9; have HO89 := Lib.hid (own_below' HO8.out hb9); have HB9 := Lib.hid (HB8.out.trans (hb9.mono (by omega))); clear ho9 hb9))
                    | (go_at_call 9; go_loud (refine (decR_calls A9b c9b _ (nest b j) (nestS b j) 0 0 (decM_nest b j (by omega) (by omega)) w9 (by omega) (own_cap HO9.out) (Nat.le_refl _) (Seq.of_own HO9.out)).mono ?_; rintro e1 w10 ⟨v10, rfl, hr10, hb10⟩; obtain ⟨A10, c10, l10, rfl, hn10, hs10, ha10, hq10⟩ := hr10.at_; have hz10 := hb10.size; have HN10 := Lib.hid hn10; have HS10 := Lib.hid hs10; have HA10 := Lib.hid ha10; have HQ10 := Lib.hid hq10; have HO810 := Lib.hid (own_below' HO89.out hb10); have HB10 := Lib.hid (HB9.out.trans (hb10.mono (by omega))); clear hr10 hn10 hs10 ha10 hq10 hb10))
                    | (go_at_call 10; go_loud (refine (samed_calls A8 c8 _ (nest b j) A6 c6 _ (nest b j) w10 (Seq.of_own HO810.out) ((Seq.of_own HO6.out).below HB10.out (Nat.le_refl _)) rfl).mono ?_; rintro e1 w11 ⟨rfl, hb11⟩; have hz11 := hb11.size; have HB1011 := Lib.hid hb11; have HB11 := Lib.hid (HB10.out.trans (hb11.mono (by omega))); clear hb11))
                    | (go_at_call 11; go_loud (refine (samedR_calls A10 c10 w10.heap.size l10 A61 c61 W6.heap.size l6 w11 (by rw [HN10.out]; simp [nestS]; omega) hz11 (by omega) (HA10.out.below HB1011.out (Nat.le_refl _)) (fun x hx => (HQ10.out x hx).below HB1011.out (Nat.le_refl _)) (HA6.out.below HB11.out (Nat.le_refl _)) (fun x hx => (HQ6.out x hx).below HB11.out (Nat.le_refl _)) (HS10.out.trans HS6.out.symm)).mono ?_; rintro e1 w12 ⟨rfl, hb12⟩; have HB12 := Lib.hid (HB11.out.trans (hb12.mono (by omega))); clear hb12))
                    )
                  go_ret
                  exact ⟨rfl, HBl3.out.trans ((HB6.out.trans (HB12.out.mono hsz6)).mono hsz3)⟩
-- CARD
theorem own : ownKnob Try.prog.godebug = none := by kernel_rfl
theorem laidOut : laidOutB Try.prog = true := by kernel_rfl
set_option maxRecDepth 100000 in
theorem rlpDeep_lifted (os : Os) (started : os.Started) (H : Type) (enc : TypeId × Value → H) :
    ReturnsInHanded {} Try.checked os 3 .any (Rows.rlpDeepSpec.pre6 enc Try.prog Try.f3 Rows.rlpDeepRow.domain false) (Rows.rlpDeepSpec.post enc Try.prog Try.f3 false true false false) := by
  refine returnsInHanded_of_change_sized (C := Try.checked) own started (by kernel_rfl) Try.func3
    (ChangeSpec.witness6 (enc := enc) (C := Try.checked) false ⟨#[], #[.int .i64 0, .slice none 0 0], []⟩ 8 (by kernel_rfl) (by kernel_rfl) (by kernel_rfl) (by kernel_rfl)) ?_
  intro W base args ds gs before hval0 hW _ hsz _
  have hval : ∀ (j : Nat) t v, Try.f3.params[j]? = some t → args[j]? = some v → Value.okWide Try.prog W .any base t v := hval0
  have hW' := hW
  obtain ⟨p, q, hA0, hV, rfl, hfz, hnd⟩ := hW
  have hA : DataW.TrodAll enc Try.prog W 0 (fun _ => true) true Try.f3.params.toList args.toList ds p := hA0
  rw [Try.params3] at hA hval
  obtain ⟨v0, vs0, d0, ds0, p0, q0, hargs, rfl, rfl, h0, r0⟩ := trodAll_cons hA
  obtain ⟨v1, vs1, d1, ds1, p1, q1, rfl, rfl, rfl, h1, r1⟩ := trodAll_cons r0
  obtain ⟨rfl, rfl, rfl⟩ := trodAll_nil r1
  obtain rfl : args = #[v0, v1] := by cases args; simp_all
  obtain ⟨rfl, rfl⟩ := trodVars_none hV
  have k0 := h0
  have lt0 : ∀ x ∈ p0, x.block < W.heap.size := by obtain ⟨m, hm⟩ := k0; exact DataW.trod_lt m _ _ _ hm
  have k1 := h1
  have lt1 : ∀ x ∈ p1, x.block < W.heap.size := by obtain ⟨m, hm⟩ := k1; exact DataW.trod_lt m _ _ _ hm
  obtain ⟨z0, rfl, _, _, hz0⟩ := open_int Try.underlying3 (hval 0 _ v0 rfl rfl) h0
  have wt1 : ∀ n ∈ d1.weights Try.prog 22, n ≤ reachBytes := fun n hn => by have := List.all_eq_true.1 hsz n (DataW.weights_mem_each (j := 1) (t := 22) (d := d1) (by rw [Try.params3]; rfl) rfl n hn); simpa using this
  obtain ⟨A1, C1, L1, rfl, hc1, hm1, hr1, hq1⟩ := open_bytes Try.underlying22 Try.underlying5 (by kernel_rfl) (by kernel_rfl) (hval 1 _ v1 rfl rfl) h1 wt1
  clear hA0 hval0
  refine (deep_walk A1 C1 L1 z0 W hr1 hq1).mono fun e W' ⟨he, bel⟩ => ?_
  subst he
  exact ⟨_, rfl, _, _, _, [], _, [], hW', trodAll_mk1 (shut_bool Try.underlying4 _), (trodAll_cons_mk (Below.trod laidOut (by kernel_rfl) (of_decide_eq_true (by kernel_rfl)) k0 bel lt0) (trodAll_cons_mk (Below.trod laidOut (by kernel_rfl) (of_decide_eq_true (by kernel_rfl)) k1 bel lt1) trodAll_mk0)), rfl, bel.frame _, fun h => by cases h⟩
theorem rlpDeep_holds : Rows.RlpDeepSaid :=
  OpenClaim.holds_of_wide 3 Try.f3 rfl rfl rfl rfl rfl rfl rfl ⟨rfl, rfl, rfl, rfl, rfl⟩ rfl rfl rfl rfl rfl (by kernel_rfl) Try.func3 (by kernel_rfl)
    (of_decide_eq_true (by kernel_rfl)) (by unfold Func.isWrapper; first | (rw [if_pos (by decide +kernel)]; kernel_rfl) | (rw [if_neg (by decide +kernel)]; exact ⟨rfl, rfl⟩))
    (fun os started H enc _ => rlpDeep_lifted os started H enc)
end Go.Proofs.Ytnghneoggiolgaa
