/- TrieLinks: Check of texts that are laid under one another by their hashes: as the document says. -/
import Derived.Test.YtfhindffmghlaaaDoorMTLawChecks
import Derived.Deep.CutBlock
set_option linter.unusedVariables false
set_option linter.unusedSimpArgs false
namespace Go.Proofs.YtfhindffmghlaaaDoor
open Go.RowKit Go.ChangeShapes Go.WideShapes
/-- A row of texts of its own, each of at most so many bytes. -/
structure LkAt (w : World) (base : Nat) (A : Option Addr) (c : Nat) (us : List Piece) (n : Nat) : Prop where
  row : TextsAt w base A c us
  len : us.length = n
  small : ∀ p ∈ us, p.2.2.length ≤ 131072
section
variable {w w' : World} {base n c : Nat} {A : Option Addr} {us : List Piece}
theorem LkAt.below (h : LkAt w base A c us n) (hb : Below w.heap.size w w') : LkAt w' base A c us n := ⟨h.row.below hb, h.len, h.small⟩
theorem LkAt.put {k i g : Nat} {y : UInt8} (h : LkAt w base A c us n) (hk : k < us.length) (hA : us[k].1 = some ⟨g, 0, none⟩) (hi : i < us[k].2.2.length) :
    LkAt (w.setCell ⟨g, i, none⟩ (byt y)) base A c (us.set k (us[k].1, us[k].2.1, us[k].2.2.set i y)) n := by
  refine ⟨h.row.put hk hA hi, by rw [List.length_set]; exact h.len, fun p hp => ?_⟩
  obtain ⟨j, hj, rfl⟩ := List.getElem_of_mem hp
  rw [List.getElem_set]
  split
  · simp only [List.length_set]
    exact h.small _ (List.getElem_mem hk)
  · exact h.small _ (List.getElem_mem _)
end
theorem hash_cell {w : World} {g k : Nat} {f : Nat → UInt8} (h : Blk w g 23 (tab 32 (hashV f))) (hk : k < 32) : w.cell? ⟨g, k, none⟩ = some (.int .u8 (by8 (f k))) := by
  obtain ⟨ad, e, _, hc⟩ := (Seq.of_array (n := 32) h h.lt).byte k (by rw [listOf_length]; exact hk)
  injection e with e
  subst e
  rw [addr_add, Nat.zero_add] at hc
  rw [hc]
  congr 3
  simp [listOf]
attribute [local irreducible] Calls in
set_option maxHeartbeats 4000000 in
set_option maxRecDepth 20000 in
theorem links_walk (A : Option Addr) (c : Nat) (key : List UInt8) (A2 : Option Addr) (c2 : Nat) (ps : List Piece) (A3 : Option Addr) (c3 : Nat) (os : List Int) (w : World) (hT : Tables w) (hE : Errs w) (hLw : Lows w.heap.size)
    (hk : key.length ≤ 140737488355328) (hs : Seq w w.heap.size A (bytes key)) (hn : ps.length ≤ 140737488355328) (hsp : Seq w w.heap.size A2 (pcs ps)) (hp : ∀ q ∈ ps, q.2.2.length ≤ q.2.1 ∧ q.2.1 ≤ maxLen ∧ q.2.2.length ≤ reachBytes ∧ Seq w w.heap.size q.1 (bytes q.2.2))
    (hol : os.length ≤ 140737488355328) (hso : Seq w w.heap.size A3 (os.map fun n => .int .i64 n)) (hoi : ∀ n ∈ os, -9223372036854775808 ≤ n ∧ n ≤ 9223372036854775807) :
    Calls Tryd.prog 4 #[.slice A key.length c, .slice A2 ps.length c2, .slice A3 os.length c3] w (fun e w' => e = .returned (.bool true) ∧ Below w.heap.size w w') := by
  have HT := Lib.hid hT
  have HE := Lib.hid hE
  have HLw := Lib.hid hLw
  have HS := Lib.hid hs
  have HSp := Lib.hid hsp
  have HP := Lib.hid hp
  have HSo := Lib.hid hso
  have HOi := Lib.hid hoi
  have hpl3 : ∀ p ∈ ps, p.2.2.length ≤ 140737488355328 := fun p h => Nat.le_trans (hp p h).2.2.1 (by decide)
  have HPl3 := Lib.hid hpl3
  clear hT hE hLw hs hsp hp hpl3 hso hoi
  go_enter Tryd.func4, Tryd.ntmps4
  go_upto_region 3 with (first
    | (go_at_call 15; (refine (able_calls w HT.out HE.out HLw.out).mono ?_; rintro e1 w1 ⟨rfl, hb1⟩; have hz1 := hb1.size; have HB1 := Lib.hid hb1; clear hb1))
    | fail)
  go_cut [26] from 16 to 26 (fun v wx => ∃ b : Bool, v = .bool b ∧ (b = false → key.length ≤ 131072 ∧ ps.length ≤ 60 ∧ ∀ p ∈ ps, p.2.2.length ≤ 131072) ∧ Below w.heap.size w wx)
  case first =>
    have hwt := weight_calls none 0 [] A2 c2 ps w1 (by simp) ⟨fun j h => absurd h (by simp), fun x h => (List.not_mem_nil h).elim⟩ hn (HSp.out.now HB1.out) HPl3.out
    have HWt := Lib.hid hwt
    clear hwt
    by_cases h60 : ps.length ≤ 60
    · have d60 : decide ((60 : Int) < (ps.length : Int)) = false := decide_eq_false (by omega)
      have d60b : decide ((ps.length : Int) > 60) = false := decide_eq_false (by omega)
      go_wp2_with (first
        | (go_at_call 16; (refine HWt.out.mono ?_; rintro e2 w2 ⟨n, rfl, hn2, hn3, hb2⟩; have hz2 := hb2.size; have HN := Lib.hid hn2; have HB2 := Lib.hid (HB1.out.trans (hb2.mono hz1)); have hsum : IntKind.i64.wrap ((key.length : Int) + (n : Int)) = (key.length : Int) + (n : Int) := (IntWalk.i64_in _ (by omega)); clear hn2 hb2))
        | fail)
      all_goals
        go_meet
        case rel =>
          first
            | exact ⟨_, rfl, (fun h => by
                have h3 := of_decide_eq_false h
                have h4 := HN.out (by omega)
                exact ⟨by omega, h60, h4.2.2⟩), HB2.out⟩
            | exact ⟨true, rfl, (fun h => by cases h), HB2.out⟩
            | exact ⟨false, rfl, (fun h => by
                have h4 := HN.out (by omega)
                exact ⟨by omega, h60, h4.2.2⟩), HB2.out⟩
    · have d60 : decide ((60 : Int) < (ps.length : Int)) = true := decide_eq_true (by omega)
      have d60b : decide ((ps.length : Int) > 60) = true := decide_eq_true (by omega)
      go_wp2_with (first
        | (go_at_call 16; (refine HWt.out.mono ?_; rintro e2 w2 ⟨n, rfl, hn2, hn3, hb2⟩; have hz2 := hb2.size; have HB2 := Lib.hid (HB1.out.trans (hb2.mono hz1)); have hsum : IntKind.i64.wrap ((key.length : Int) + (n : Int)) = (key.length : Int) + (n : Int) := (IntWalk.i64_in _ (by omega)); clear hn2 hb2))
        | fail)
      all_goals
        go_meet
        case rel => exact ⟨true, rfl, (fun h => by cases h), HB2.out⟩
  case rest =>
    obtain ⟨b, rfl, hbb, hbx⟩ := hcut
    rename World => w3
    have HB3 := Lib.hid hbx
    have hz03 := hbx.size
    cases b with
    | true =>
      clear hbb hbx
      go_wp2_with fail
      go_ret
      exact ⟨rfl, HB3.out⟩
    | false =>
      obtain ⟨hk1, h60, hpl⟩ := hbb rfl
      have HPl := Lib.hid hpl
      clear hbb hbx hpl
      have hot := ownTexts_calls A2 c2 ps w3 (by omega) (HSp.out.now HB3.out) (fun p h => ⟨(HP.out p h).2.2.2.now HB3.out, by have := HPl.out p h; omega⟩)
      have HOt := Lib.hid hot
      clear hot
      go_wp2_with (first
        | (go_at_call 20; (refine HOt.out.mono ?_; rintro e4 w4 ⟨A4, c4, us, rfl, hum, hrow, hown, hap, hb4⟩; have hul : us.length = ps.length := (by have := congrArg List.length hum; simpa using this); have hsm : ∀ p ∈ us, p.2.2.length ≤ 131072 := (fun p h => by have h1 : txt p ∈ ps.map txt := (by rw [← hum]; exact List.mem_map_of_mem h); obtain ⟨q, hq, e⟩ := List.mem_map.1 h1; have e2 : p.2.2 = q.2.2 := e.symm; rw [e2]; exact HPl.out q hq); have HL4 := Lib.hid (⟨⟨hrow, hown, hap⟩, rfl, hsm⟩ : LkAt w4 w3.heap.size A4 c4 us us.length); have hz4 := hb4.size; have hul1 := Nat.le_of_eq hul; have HUl := Lib.hid hul; have HB34 := Lib.hid hb4; clear hum hrow hown hap hb4 hul hsm))
        | fail)
      obtain ⟨N, hN⟩ : ∃ N, us.length = N := ⟨_, rfl⟩
      rw [hN]
      rw [hN] at HL4 hul1 HUl
      clear hN
      go_loopw [8, 9, 10, 11, 12, 13] (fun v8 _ _ _ _ _ wr => ∃ (j : Nat) (vs : List Piece), j ≤ N ∧ v8 = .int .i64 ((j : Int) - 1) ∧ LkAt wr w3.heap.size A4 c4 vs N ∧ Below w3.heap.size w3 wr) (fun v8 _ _ _ _ _ _ => (intOf v8 + 1).toNat)
      case atStart => exact ⟨N, us, Nat.le_refl _, by go_num, HL4.out, HB34.out⟩
      case round =>
        obtain ⟨j, vs, hj, rfl, hlk, hbl⟩ := hrel
        rename World => w5
        have hz5 := hbl.size
        have hvl := hlk.len
        have hvl1 := Nat.le_of_eq hvl
        have hvl2 := Nat.le_of_eq hvl.symm
        have HLk := Lib.hid hlk
        have HBl := Lib.hid hbl
        have HB05 := Lib.hid (HB3.out.trans (hbl.mono hz03))
        have hz05 := HB05.out.size
        clear hlk hbl hvl HL4 HB34
        by_cases hj2 : 2 ≤ j
        · obtain ⟨I, hI⟩ : ∃ I, j - 1 = I := ⟨_, rfl⟩
          obtain ⟨K, hK⟩ : ∃ K, I - 1 = K := ⟨_, rfl⟩
          have ej : (j : Int) - 1 = (I : Int) := by omega
          have ek : (I : Int) - 1 = (K : Int) := by omega
          have ek2 : IntKind.i64.wrap ((I : Int) - 1) = (K : Int) := by rw [IntWalk.i64_in _ (by omega)]; omega
          have dI : decide ((I : Int) > 0) = true := decide_eq_true (by omega)
          have dI2 : decide (0 < I) = true := decide_eq_true (by omega)
          have hIv : I < vs.length := by omega
          have hKv : K < vs.length := by omega
          have lI : (I : Int) < (N : Int) := by omega
          have lK : (K : Int) < (N : Int) := by omega
          obtain ⟨g4, rfl, hg4, hg4b, _, _⟩ := own_form HLk.out.row.row (by omega)
          obtain ⟨adI, hadI, _, qI⟩ := HLk.out.row.seq.piece I hIv
          injection hadI with hadI
          subst hadI
          rw [addr_add, Nat.zero_add] at qI
          obtain ⟨adK, hadK, _, qK⟩ := HLk.out.row.seq.piece K hKv
          injection hadK with hadK
          subst hadK
          rw [addr_add, Nat.zero_add] at qK
          have hpI := HLk.out.row.own _ (List.getElem_mem hIv)
          have hlI := HLk.out.small _ (List.getElem_mem hIv)
          have hpK := HLk.out.row.own _ (List.getElem_mem hKv)
          have hlK := HLk.out.small _ (List.getElem_mem hKv)
          have hIK : I - 1 = K := hK
          generalize vs[I] = pI at qI hpI hlI
          obtain ⟨AI, cI, lIb⟩ := pI
          obtain ⟨pK, hpKe⟩ : ∃ pK, vs[K] = pK := ⟨_, rfl⟩
          rw [hpKe] at qK hpK hlK
          obtain ⟨AK, cK, lKb⟩ := pK
          simp only at qI hlI qK hlK
          have HPI := Lib.hid hpI
          have HPK := Lib.hid hpK
          have HKe := Lib.hid hpKe
          clear hpI hpK hpKe hI hK hIK
          go_upto_region 10 with (first
            | (go_at_call 19; (refine (ownL_calls AI cI w5.heap.size lIb w5 (by omega) (OwnP.seq HPI.out)).mono ?_; rintro e6 w6 ⟨A6, c6, rfl, ho6, hb6⟩; have hz6 := hb6.size; have HO6 := Lib.hid (Seq.of_own ho6); have HB6 := Lib.hid hb6; clear ho6 hb6))
            | (go_at_call 18; (refine (sum1_calls A6 c6 lIb w6 (HT.out.now (HB05.out.trans (HB6.out.mono hz05))) HO6.out (by omega)).mono ?_; rintro e7 w7 ⟨rfl, hb7⟩; have HB57 := Lib.hid (HB6.out.trans (hb7.mono hz6)); have hv7 : Blk (w7.alloc (.cells (tab 32 fun _ => .int .u8 0) 23)) w7.heap.size 23 (tab 32 fun _ => .int .u8 0) := Blk.new _ _ _; have HV7 := Lib.hid hv7; clear hb7 hv7))
            | (refine wpL_alloc rfl 23 rfl (tab 32 fun _ => .int .u8 0) (by kernel_rfl) ?_)
            | (refine wpL_store rfl 23 (.tmp 9) (.tmp 42) rfl 0 rfl rfl HV7.out (by omega) (by kernel_rfl) (fun _ => rfl) ?_)
            | fail)
          have hz57 := HB57.out.size
          have hv8 : Blk ((w7.alloc (.cells (tab 32 fun _ => .int .u8 0) 23)).setRow w7.heap.size (tab 32 (over (fun _ => .int .u8 0) 0 32 (hashV (hashS lIb))))) w7.heap.size 23 (tab 32 (hashV (hashS lIb))) := HV7.out.setRow.same (over_whole _ _ _)
          have hb58 : Below w5.heap.size w5 ((w7.alloc (.cells (tab 32 fun _ => .int .u8 0) 23)).setRow w7.heap.size (tab 32 (over (fun _ => .int .u8 0) 0 32 (hashV (hashS lIb))))) := below_setRow (HB57.out.alloc hz57 _) hz57 _
          generalize (w7.alloc (.cells (tab 32 fun _ => .int .u8 0) 23)).setRow w7.heap.size (tab 32 (over (fun _ => .int .u8 0) 0 32 (hashV (hashS lIb)))) = w8 at *
          generalize hashS lIb = Hh at *
          obtain ⟨gh, hgh⟩ : ∃ gh, w7.heap.size = gh := ⟨_, rfl⟩
          rw [hgh] at hv8 hz57 ⊢
          have hz58 := hb58.size
          have qK8 := (hb58.cell (p := ⟨g4, K, none⟩) (show g4 < w5.heap.size by omega)).trans qK
          have HV8 := Lib.hid hv8
          have HB58 := Lib.hid hb58
          have HLk8 := Lib.hid (HLk.out.below hb58)
          have HPK8 := Lib.hid (OwnP.below HPK.out hb58)
          have HB08 := Lib.hid (HB05.out.trans (hb58.mono hz05))
          have HB38 := Lib.hid (HBl.out.trans (hb58.mono hz5))
          clear hv8 hb58 hgh qI qK HV7 HO6 HPI HLk
          go_upto_if 46 with fail
          go_cut [10] from 43 to 50 (fun v wx => (∃ n : Int, v = .int .i64 n ∧ -9223372036854775808 ≤ n ∧ n ≤ 9223372036854775807) ∧ w8 = wx)
          case first =>
            by_cases hko : I < os.length
            · have dk : decide ((I : Int) < (os.length : Int)) = true := decide_eq_true (by omega)
              have dk2 : decide (I < os.length) = true := decide_eq_true hko
              have lk : (I : Int) < (os.length : Int) := by omega
              obtain ⟨ad3, rfl, _, q3⟩ := (HSo.out.below HB08.out (Nat.le_refl _)).at_ (k := I) (by rw [List.length_map]; exact hko)
              rw [List.getElem_map] at q3
              have hn63 := HOi.out _ (List.getElem_mem hko)
              generalize os[I] = n at *
              go_wp2_with fail
              go_meet
              case rel => exact ⟨⟨n, rfl, hn63⟩, rfl⟩
            · have dk : decide ((I : Int) < (os.length : Int)) = false := decide_eq_false (by omega)
              have dk2 : decide (I < os.length) = false := decide_eq_false hko
              go_wp2_with fail
              go_meet
              case rel => exact ⟨⟨0, rfl, by omega, by omega⟩, rfl⟩
          case rest =>
            obtain ⟨⟨n, rfl, hn1, hn2⟩, rfl⟩ := hcut
            by_cases h32 : lKb.length < 32
            · have d58 : decide ((lKb.length : Int) < 32) = true := decide_eq_true (by omega)
              have d58b : decide (lKb.length < 32) = true := decide_eq_true h32
              go_wp2_with fail
              exact ⟨⟨I, vs, by omega, by rw [ek], HLk8.out, HB38.out⟩, by simp [intOf]; omega⟩
            · have d58 : decide ((lKb.length : Int) < 32) = false := decide_eq_false (by omega)
              have d58b : decide (lKb.length < 32) = false := decide_eq_false h32
              obtain ⟨m, hm⟩ : ∃ m, lKb.length - 31 = m := ⟨_, rfl⟩
              have em : IntKind.i64.wrap ((lKb.length : Int) - 31) = (m : Int) := by rw [IntWalk.i64_in _ (by omega)]; omega
              have em2 : (lKb.length : Int) - 31 = (m : Int) := by omega
              have m0 : (m : Int) ≠ 0 := by omega
              go_upto_if 66 with fail
              have b1 : -(m : Int) < n.tmod (m : Int) := Int.lt_tmod_of_pos n (by omega)
              have b2 : n.tmod (m : Int) < (m : Int) := Int.tmod_lt_of_pos n (by omega)
              generalize n.tmod (m : Int) = r at *
              go_cut [10] from 64 to 69 (fun v wx => (∃ a : Nat, a < m ∧ v = .int .i64 a) ∧ w8 = wx)
              case first =>
                by_cases hr : r < 0
                · have dr : decide (r < 0) = true := decide_eq_true hr
                  have er : IntKind.i64.wrap (r + (m : Int)) = r + (m : Int) := IntWalk.i64_in _ (by omega)
                  go_wp2_with fail
                  go_meet
                  case rel => exact ⟨⟨(r + (m : Int)).toNat, by omega, by congr 1; omega⟩, rfl⟩
                · have dr : decide (r < 0) = false := decide_eq_false hr
                  go_wp2_with fail
                  go_meet
                  case rel => exact ⟨⟨r.toNat, by omega, by congr 1; omega⟩, rfl⟩
              case rest =>
                obtain ⟨⟨a, ham, rfl⟩, rfl⟩ := hcut
                clear b1 b2
                obtain ⟨gu, rfl, hgu, hgub, _, _⟩ := own_form (show w8.ownsRow w3.heap.size 5 1 (.slice AK lKb.length cK) lKb.length (bytes lKb) from HPK8.out) (by omega)
                have hgub5 : gu < w5.heap.size := by
                  obtain ⟨gu', e, _, hlt', _, _⟩ := own_form (show w5.ownsRow w3.heap.size 5 1 (.slice (some ⟨gu, 0, none⟩) lKb.length cK) lKb.length (bytes lKb) from HPK.out) (by omega)
                  injection e with e
                  injection e with e
                  omega
                have hne : gh ≠ gu := by omega
                obtain ⟨L, hL⟩ : ∃ L, lKb.length = L := ⟨_, rfl⟩
                have hK0 : ∃ hk : K < vs.length, vs[K].1 = some ⟨gu, 0, none⟩ ∧ vs[K].2.2.length = L := ⟨hKv, by rw [HKe.out]; exact ⟨rfl, hL⟩⟩
                have HK0 := Lib.hid hK0
                have ham2 : a + 32 ≤ L := by omega
                have hLb : L ≤ 131072 := by omega
                rw [hL]
                clear hK0 HPK HPK8 qK8 hL HKe h32 d58 d58b em em2 hm
                go_wp2_with fail
                go_loopw [13] (fun v13 wr => ∃ (k : Nat) (us2 : List Piece), k ≤ 32 ∧ v13 = .int .i64 k ∧ LkAt wr w3.heap.size (some ⟨g4, 0, none⟩) c4 us2 N ∧ (∃ hk : K < us2.length, us2[K].1 = some ⟨gu, 0, none⟩ ∧ us2[K].2.2.length = L) ∧ Blk wr gh 23 (tab 32 (hashV Hh)) ∧ Below w3.heap.size w3 wr) (fun v13 _ => 32 - (intOf v13).toNat)
                case atStart => exact ⟨0, vs, by omega, rfl, HLk8.out, HK0.out, HV8.out, HB38.out⟩
                case round =>
                  clear HLk8 HK0 HV8 HB38
                  obtain ⟨k, us2, hk32, rfl, hlk2, ⟨hk2, hA2, hl2⟩, hv2, hbl2⟩ := hrel
                  rename World => w9
                  have HLk2 := Lib.hid hlk2
                  have HBl2 := Lib.hid hbl2
                  have HV2 := Lib.hid hv2
                  have hz39 := hbl2.size
                  by_cases hlt : k < 32
                  · have dk : decide ((k : Int) < 32) = true := decide_eq_true (by omega)
                    have dk2 : decide (k < 32) = true := decide_eq_true hlt
                    have lk32 : (k : Int) < 32 := by omega
                    have eak : IntKind.i64.wrap ((a : Int) + (k : Int)) = (a : Int) + (k : Int) := IntWalk.i64_in _ (by omega)
                    have lak : (a : Int) + (k : Int) < (L : Int) := by omega
                    have lak0 : (0 : Int) ≤ (a : Int) + (k : Int) := by omega
                    have tak : ((a : Int) + (k : Int)).toNat = a + k := by omega
                    have qh : w9.cell? ⟨gh, k, none⟩ = some (.int .u8 (by8 (Hh k))) := hash_cell hv2 hlt
                    have hput := hlk2.put (y := Hh k) (i := a + k) hk2 hA2 (by omega)
                    have hown2 := hlk2.row.own _ (List.getElem_mem hk2)
                    have hown3 : w9.ownsRow w3.heap.size 5 1 (.slice (some ⟨gu, 0, none⟩) L us2[K].2.1) L (bytes us2[K].2.2) := by
                      have h1 : w9.ownsRow w3.heap.size 5 1 (.slice us2[K].1 us2[K].2.2.length us2[K].2.1) us2[K].2.2.length (bytes us2[K].2.2) := hown2
                      rw [hA2, hl2] at h1
                      exact h1
                    obtain ⟨cu, hcu⟩ := own_blk hown3 gu rfl
                    have hfr : w9.frozen? ⟨gu, a + k, none⟩ = false := hcu.frozen _
                    obtain ⟨adu, hadu, _, qu⟩ := (Seq.of_own hown3).byte (a + k) (by omega)
                    injection hadu with hadu
                    subst hadu
                    rw [addr_add, Nat.zero_add] at qu
                    generalize us2[K].2.2[a + k]'(by omega) = y0 at qu
                    have HPut := Lib.hid hput
                    have hguw := hcu.lt
                    have hgh9 := hv2.lt
                    have hK2 : ∃ hk : K < (us2.set K (us2[K].1, us2[K].2.1, us2[K].2.2.set (a + k) (Hh k))).length, (us2.set K (us2[K].1, us2[K].2.1, us2[K].2.2.set (a + k) (Hh k)))[K].1 = some ⟨gu, 0, none⟩ ∧ (us2.set K (us2[K].1, us2[K].2.1, us2[K].2.2.set (a + k) (Hh k)))[K].2.2.length = L := ⟨by rw [List.length_set]; exact hk2, by rw [List.getElem_set_self]; exact ⟨hA2, by rw [List.length_set]; exact hl2⟩⟩
                    have HK2 := Lib.hid hK2
                    clear hput hown2 hown3 hcu hlk2 hbl2 hv2 hK2 hA2 hl2
                    go_wp2_with fail
                    exact ⟨⟨k + 1, _, by omega, by go_num, HPut.out, HK2.out, (Kept.of_only (Only.setCell w9 ⟨gu, a + k, none⟩ (byt (Hh k)))).blk HV2.out (by omega), (Only.setCell _ _ _).below HBl2.out hgu⟩, by simp [intOf]; omega⟩
                  · have dk : decide ((k : Int) < 32) = false := decide_eq_false (by omega)
                    have dk2 : decide (k < 32) = false := decide_eq_false hlt
                    clear hlk2 hbl2 hv2 hA2 hl2
                    go_wp2_with fail
                    exact ⟨⟨I, us2, by omega, by rw [ek], HLk2.out, HBl2.out⟩, by simp [intOf]; omega⟩
        · have hd : decide ((j : Int) - 1 > 0) = false := decide_eq_false (by omega)
          have hd2 : decide ((0 : Int) < (j : Int) - 1) = false := decide_eq_false (by omega)
          have hd3 : decide ((1 : Int) < (j : Int)) = false := decide_eq_false (by omega)
          have hchk : ∀ (f : Nat → UInt8) (W : World) (hb : Below w5.heap.size w5 W), Calls Tryd.prog 17 #[.agg (tab 32 (hashV f)), .slice A key.length c, .slice A4 N c4] W (fun e w' => e = .returned (.bool true) ∧ Below W.heap.size W w') := fun f W hb => by
            have hl := HLk.out.below hb
            have h1 := checked_calls f A c key A4 c4 vs W (HT.out.now (HB05.out.trans (hb.mono hz05))) (HE.out.now HLw.out (HB05.out.trans (hb.mono hz05))) (HLw.out.now (HB05.out.trans (hb.mono hz05))) hk1 (HS.out.now (HB05.out.trans (hb.mono hz05))) (by omega) hl.row.seq (fun p h => ⟨(hl.row.own p h).seq, hl.small p h⟩)
            rw [hl.len] at h1
            exact h1
          have HChk := Lib.hid hchk
          clear hchk
          by_cases hN0 : N = 0
          · have dN : ((N : Int) == 0) = true := by rw [hN0]; rfl
            have hc0 := HChk.out (fun _ => 0) w5 (Below.refl _ _)
            rw [show tab 32 (hashV fun _ => (0 : UInt8)) = #[.int .u8 0, .int .u8 0, .int .u8 0, .int .u8 0, .int .u8 0, .int .u8 0, .int .u8 0, .int .u8 0, .int .u8 0, .int .u8 0, .int .u8 0, .int .u8 0, .int .u8 0, .int .u8 0, .int .u8 0, .int .u8 0, .int .u8 0, .int .u8 0, .int .u8 0, .int .u8 0, .int .u8 0, .int .u8 0, .int .u8 0, .int .u8 0, .int .u8 0, .int .u8 0, .int .u8 0, .int .u8 0, .int .u8 0, .int .u8 0, .int .u8 0, .int .u8 0] from by kernel_rfl] at hc0
            have HC0 := Lib.hid hc0
            clear hN0
            clear hc0
            go_wp2_with (first
              | (go_at_call 17; (refine HC0.out.mono ?_; rintro e8 w8 ⟨rfl, hb8⟩; have HB58 := Lib.hid hb8; clear hb8))
              | fail)
            go_ret
            exact ⟨rfl, HB05.out.trans (HB58.out.mono hz05)⟩
          · have dN : ((N : Int) == 0) = false := by rw [beq_eq_false_iff_ne]; omega
            have lN : (0 : Int) < (N : Int) := by omega
            have h0v : 0 < vs.length := by omega
            obtain ⟨g4, rfl, hg4, hg4b, _, _⟩ := own_form HLk.out.row.row h0v
            obtain ⟨ad0, had0, _, q0⟩ := HLk.out.row.seq.piece 0 h0v
            injection had0 with had0
            subst had0
            rw [addr_add, Nat.zero_add] at q0
            have hp0 := HLk.out.row.own _ (List.getElem_mem h0v)
            have hl0 := HLk.out.small _ (List.getElem_mem h0v)
            generalize vs[0] = p0 at q0 hp0 hl0
            obtain ⟨A0, c0, l0⟩ := p0
            simp only at q0 hl0
            have HP0 := Lib.hid hp0
            clear hp0
            go_wp2_with (first
              | (go_at_call 19; (refine (ownL_calls A0 c0 w5.heap.size l0 w5 (by omega) (OwnP.seq HP0.out)).mono ?_; rintro e6 w6 ⟨A6, c6, rfl, ho6, hb6⟩; have hz6 := hb6.size; have HO6 := Lib.hid (Seq.of_own ho6); have HB6 := Lib.hid hb6; clear ho6 hb6))
              | (go_at_call 18; (refine (sum1_calls A6 c6 l0 w6 (HT.out.now (HB05.out.trans (HB6.out.mono hz05))) HO6.out (by omega)).mono ?_; rintro e7 w7 ⟨rfl, hb7⟩; have HB57 := Lib.hid (HB6.out.trans (hb7.mono hz6)); clear hb7))
              | (go_at_call 17; (refine (HChk.out (hashS l0) w7 HB57.out).mono ?_; rintro e8 w8 ⟨rfl, hb8⟩; have HB58 := Lib.hid (HB57.out.trans (hb8.mono HB57.out.size)); clear hb8))
              | fail)
            go_ret
            exact ⟨rfl, HB05.out.trans (HB58.out.mono hz05)⟩
-- CARD
set_option maxRecDepth 100000 in
theorem trieLinks_lifted (os : Os) (started : os.Started) (H : Type) (enc : TypeId × Value → H) :
    ReturnsInHanded {} Tryd.checked os 4 .any (fun w args => (Rows.trieLinksSpec.pre enc Tryd.prog Tryd.f4 [] false w args ∧ laidMetH Tryd.prog seatLaid w) ∧ sizedMet enc Tryd.prog Tryd.f4 (OpenSpec.ofChange Rows.trieLinksSpec) false w args)
      (Rows.trieLinksSpec.post enc Tryd.prog Tryd.f4 false true false false) := by
  refine returnsInHanded_of_change_and (C := Tryd.checked) (X := fun w _ => laidMetH Tryd.prog seatLaid w) (fun _ _ _ hh h => h.of_heap hh) own started (by kernel_rfl) Tryd.func4
    (ChangeSpec.witness_shaped (enc := enc) (C := Tryd.checked) (os := os) (X := fun w _ => laidMetH Tryd.prog seatLaid w) false (World.laidAll Tryd.prog os seatLaid) #[.slice none 0 0, .slice none 0 0, .slice none 0 0] 8 (World.laidAll_os _ _ _)
      (World.shaped_of_ZipB (by kernel_rfl) (by kernel_rfl)) (by kernel_rfl) (by kernel_rfl) (by kernel_rfl)
      (by rw [MakeChecks.laidMetH_plain _ _ _ (by kernel_rfl)]; exact laidMet_laidAll _ (by kernel_rfl) (by kernel_rfl))) ?_
  intro W base args ds gs before hval0 hW _ hsz hL0 _
  rw [MakeChecks.laidMetH_plain _ _ _ (by kernel_rfl)] at hL0
  have hT := tables_of_laid hL0
  have hval : ∀ (j : Nat) t v, Tryd.f4.params[j]? = some t → args[j]? = some v → Value.okWide Tryd.prog W .any base t v := hval0
  have hW' := hW
  obtain ⟨p, q, hA0, hV, rfl, hfz, hnd⟩ := hW
  have hA : DataW.TrodAll enc Tryd.prog W 0 (fun _ => true) true Tryd.f4.params.toList args.toList ds p := hA0
  rw [Tryd.params4] at hA hval
  obtain ⟨v0, vs0, d0, ds0, p0, q0, hargs, rfl, rfl, h0, r0⟩ := trodAll_cons hA
  obtain ⟨v1, vs1, d1, ds1, p1, q1, rfl, rfl, rfl, h1, r1⟩ := trodAll_cons r0
  obtain ⟨v2, vs2, d2, ds2, p2, q2, rfl, rfl, rfl, h2, r2⟩ := trodAll_cons r1
  obtain ⟨rfl, rfl, rfl⟩ := trodAll_nil r2
  obtain rfl : args = #[v0, v1, v2] := by cases args; simp_all
  obtain ⟨rfl, rfl⟩ := trodVars_none hV
  have k0 := h0
  have lt0 : ∀ x ∈ p0, x.block < W.heap.size := by obtain ⟨m, hm⟩ := k0; exact DataW.trod_lt m _ _ _ hm
  have k1 := h1
  have lt1 : ∀ x ∈ p1, x.block < W.heap.size := by obtain ⟨m, hm⟩ := k1; exact DataW.trod_lt m _ _ _ hm
  have k2 := h2
  have lt2 : ∀ x ∈ p2, x.block < W.heap.size := by obtain ⟨m, hm⟩ := k2; exact DataW.trod_lt m _ _ _ hm
  have wt0 : ∀ n ∈ d0.weights Tryd.prog 24, n ≤ reachBytes := fun n hn => by have := List.all_eq_true.1 hsz n (DataW.weights_mem_each (j := 0) (t := 24) (d := d0) (by rw [Tryd.params4]; rfl) rfl n hn); simpa using this
  obtain ⟨A0, C0, L0, rfl, hc0, hm0, hr0, hq0⟩ := open_bytes Tryd.underlying24 Tryd.underlying5 (by kernel_rfl) (by kernel_rfl) (hval 0 _ v0 rfl rfl) h0 wt0
  have wt1 : ∀ n ∈ d1.weights Tryd.prog 25, n ≤ reachBytes := fun n hn => by have := List.all_eq_true.1 hsz n (DataW.weights_mem_each (j := 1) (t := 25) (d := d1) (by rw [Tryd.params4]; rfl) rfl n hn); simpa using this
  obtain ⟨A1, C1, L1, rfl, hc1, hm1, hr1, hq1, hp1⟩ := open_pieces Tryd.underlying25 Tryd.underlying24 Tryd.underlying5 (by kernel_rfl) (by kernel_rfl) (by kernel_rfl) (by kernel_rfl) (hval 1 _ v1 rfl rfl) h1 wt1
  have wt2 : ∀ n ∈ d2.weights Tryd.prog 31, n ≤ reachBytes := fun n hn => by have := List.all_eq_true.1 hsz n (DataW.weights_mem_each (j := 2) (t := 31) (d := d2) (by rw [Tryd.params4]; rfl) rfl n hn); simpa using this
  obtain ⟨A2, C2, L2, rfl, hc2, hm2, hr2, hq2, hn2⟩ := open_nums Tryd.underlying31 Tryd.underlying3 (by kernel_rfl) (by kernel_rfl) (hval 2 _ v2 rfl rfl) h2 wt2
  clear hA0 hval0
  refine (links_walk A0 C0 L0 A1 C1 L1 A2 C2 L2 W hT.tables hT.errs hT.low (Nat.le_trans hr0 (by decide)) hq0 (Nat.le_trans hr1 (by decide)) hq1 hp1 (Nat.le_trans hr2 (by decide)) hq2 hn2).mono fun e W' ⟨he, bel⟩ => ?_
  subst he
  exact ⟨_, rfl, _, _, _, [], _, [], hW', trodAll_mk1 (shut_bool Tryd.underlying4 _), (trodAll_cons_mk (Below.trod laidOut (by kernel_rfl) (of_decide_eq_true (by kernel_rfl)) k0 bel lt0) (trodAll_cons_mk (Below.trod laidOut (by kernel_rfl) (of_decide_eq_true (by kernel_rfl)) k1 bel lt1) (trodAll_cons_mk (Below.trod laidOut (by kernel_rfl) (of_decide_eq_true (by kernel_rfl)) k2 bel lt2) trodAll_mk0))), rfl, bel.frame _, fun h => by cases h⟩
theorem trieLinks_holds : Rows.TrieLinksSaid :=
  OpenClaim.holds_of_wide 4 Tryd.f4 rfl rfl rfl rfl rfl rfl rfl ⟨rfl, rfl, rfl, rfl, rfl⟩ rfl rfl rfl rfl rfl (by kernel_rfl) Tryd.func4 (by kernel_rfl)
    (of_decide_eq_true (by kernel_rfl)) (by unfold Func.isWrapper; first | (rw [if_pos (by decide +kernel)]; kernel_rfl) | (rw [if_neg (by decide +kernel)]; exact ⟨rfl, rfl⟩))
    (fun os started H enc _ => trieLinks_lifted os started H enc)
theorem trieLinks_card : Rows.TrieLinksCardSaid :=
  Claim7.holds_tied_plain_at .later [] [.data, .data, .sentinel, .sentinel, .sentinel] true (true, "ec30def8b2b8a437d7ef0fa14b81e6223ecfebe468af8085b9789efc9ac0fbf0") false trieLinks_holds (fun _ h => by cases h) (by kernel_rfl) (fun _ h => by cases h) trieLinks_row_tie rfl ⟨rfl, rfl⟩ (by kernel_rfl) rfl
    (fun f fn hf hfn => by
      obtain rfl : f = 4 := Option.some.inj ((show Tryd.prog.funcNamed "vouch/vouchlaw26.TrieLinks" = some 4 by kernel_rfl).symm.trans hf) |>.symm
      obtain rfl : fn = Tryd.f4 := (Option.some.inj (Tryd.func4.symm.trans hfn)).symm
      exact ⟨by kernel_rfl, fun j t ht => by
        rw [Tryd.params4] at ht
        have hm : t ∈ ([24, 25, 31] : List TypeId) := by simpa using Array.mem_of_getElem? ht
        have hall : (([24, 25, 31] : List TypeId).all fun u => !Tryd.prog.wantsStandIn u) = true := by kernel_rfl
        exact (show Tryd.prog.wantsStandIn t = false by simpa using List.all_eq_true.1 hall t hm)⟩)
    (by kernel_rfl)
end Go.Proofs.YtfhindffmghlaaaDoor
