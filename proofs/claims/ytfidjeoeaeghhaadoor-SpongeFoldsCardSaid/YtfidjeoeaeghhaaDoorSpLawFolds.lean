/- SpongeFolds: Sum is what Permute makes of the padded bytes, block by block. Conditions: none beyond the row's own (the two tables of package sponge read as the program's text lays them; the card ties them to it). -/
import Derived.Test.YtfidjeoeaeghhaaDoorSpLaid
import Derived.Test.YtfidjeoeaeghhaaDoorSpRefS
import Derived.Test.YtfidjeoeaeghhaaDoorSpKnow
import Derived.Test.YtfidjeoeaeghhaaDoorOpenB
import Derived.Test.YtfidjeoeaeghhaaDoorSpTables
import Derived.Test.YtfidjeoeaeghhaaDoorCards
import Derived.SevenTiedAt
namespace Go.Proofs.YtfidjeoeaeghhaaDoor
open Go.RowKit Go.ChangeShapes Go.WideShapes
def tb (n i : Nat) : UInt8 := if i = n - 1 then (if i = 0 then 129 else 128) else if i = 0 then 1 else 0
def tailF (n : Nat) : List UInt8 := (List.range n).map (tb n)
theorem tailF_length (n : Nat) : (tailF n).length = n := by simp [tailF]
theorem tailF_take (n i : Nat) (h : i < n) : (tailF n).take (i + 1) = (tailF n).take i ++ [tb n i] := by
  rw [List.take_succ_eq_append_getElem (by rw [tailF_length]; exact h)]
  simp [tailF]
theorem tailF_pad (n : Nat) : tailF (136 - n % 136) = padTail n := by
  have hz : 136 - n % 136 = zerosN n + 1 := by unfold zerosN; omega
  rw [hz]
  unfold padTail
  generalize zerosN n = z
  apply List.ext_getElem?
  intro i
  unfold tailF
  rw [List.getElem?_map]
  by_cases h0 : z = 0
  · subst h0
    rw [if_pos rfl]
    by_cases hi : i = 0
    · subst hi; rfl
    · rw [List.getElem?_eq_none (by simp; omega), List.getElem?_eq_none (by simp; omega)]
      rfl
  · rw [if_neg h0]
    obtain ⟨y, rfl⟩ : ∃ y, z = y + 1 := ⟨z - 1, by omega⟩
    by_cases hi : i < y + 1 + 1
    · rw [List.getElem?_eq_getElem (by simpa using hi)]
      simp only [List.getElem_range, Option.map_some, Nat.add_sub_cancel]
      by_cases i0 : i = 0
      · subst i0; simp [tb]
      · obtain ⟨j, rfl⟩ : ∃ j, i = j + 1 := ⟨i - 1, by omega⟩
        rw [List.getElem?_cons_succ]
        by_cases hj : j = y
        · subst hj
          rw [List.getElem?_append_right (by simp)]
          simp [tb]
        · rw [List.getElem?_append_left (by simp; omega)]
          rw [List.getElem?_replicate]
          simp [tb, hj]
          omega
    · rw [List.getElem?_eq_none (by simp; omega), List.getElem?_eq_none (by simp; omega)]
      rfl
theorem tb_cases (n i : Nat) : byt (tb n i) = .int .u8 (if i = n - 1 then (if i = 0 then 129 else 128) else if i = 0 then 1 else 0) := by
  unfold byt tb by8
  split <;> split <;> rfl
set_option maxHeartbeats 2000000 in
set_option maxRecDepth 10000 in
theorem folds_walk (A : Option Addr) (c : Nat) (l : List UInt8) (hl : l.length ≤ 140737488351232) (w : World) (hs : Seq w w.heap.size A (bytes l)) (hT : Tables w) :
    Calls Tryd.prog 6 #[.slice A l.length c] w fun e w' => e = .returned (.bool true) ∧ Below w.heap.size w w' := by
  have HS := Lib.hid hs
  have HT := Lib.hid hT
  have h2 := hT.size
  clear hT hs
  go_enter Tryd.func6, Tryd.ntmps6
  go_wp2_with fail
  refine (known_calls _ HT.out).mono ?_
  rintro e w1 ⟨rfl, hb1⟩
  have hs1 := hb1.size
  have HS1 := Lib.hid (HS.out.below hb1 (Nat.le_refl _))
  have HB1 := Lib.hid hb1
  clear hb1
  by_cases hbig : l.length > 16777216
  · have db : decide ((l.length : Int) > 16777216) = true := by simp; omega
    go_wp2_with fail
    go_ret
    exact ⟨rfl, HB1.out⟩
  · have db : decide ((l.length : Int) > 16777216) = false := by simp; omega
    go_wp2_with (first
      | (at_builtin; refine wpL_append rfl (.tmp 21) (.tmp 22) 32 rfl elByte rfl (World.ownsRow_nil w1 w.heap.size 5 1) rfl (by rw [bytes_length]; simp) HS1.out (bytes_one l) (by unfold maxLen; omega) (by omega) hs1 ?_; intro A2 c2 w2 ho2 hg2 _; simp only [Nat.zero_add, List.nil_append] at ho2; have HO2 := Lib.hid ho2; have HG2 := Lib.hid hg2; have hs2 := hg2.size; clear ho2 hg2))
    have hN : (136 - (l.length : Int) % 136) = ((136 - l.length % 136 : Nat) : Int) := by omega
    rw [hN]
    have hN1 : 1 ≤ 136 - l.length % 136 := by omega
    have hN2 : 136 - l.length % 136 ≤ 136 := by omega
    have HPad := Lib.hid (tailF_pad l.length)
    clear hN
    generalize 136 - l.length % 136 = N at *
    have HB2 := Lib.hid (HB1.out.grown HG2.out hs1 (fun g hg => by simp [Value.ownBlock] at hg))
    go_loopw [4, 6, 7] (fun v i x wr => ∃ (k : Nat) (A3 : Option Addr) (c3 : Nat), k ≤ N ∧ i = .int .i64 k ∧ v = .slice A3 (l.length + k) c3 ∧ wr.ownsRow w.heap.size 5 1 (.slice A3 (l.length + k) c3) (l.length + k) (bytes (l ++ (tailF N).take k)) ∧ Below w.heap.size w wr) (fun _ i _ _ => N - (intOf i).toNat)
    case atStart => exact ⟨0, A2, c2, by omega, rfl, rfl, by simpa using HO2.out, HB2.out⟩
    case round =>
      clear HO2 HB2 HG2
      obtain ⟨k, A3, c3, hk, rfl, rfl, hown, hBl⟩ := hrel
      by_cases hlt : k < N
      · have dk : decide ((k : Int) < (N : Int)) = true := by simp; omega
        have lk : (k : Int) < (N : Int) := by omega
        have hB0 := hBl.size
        have ht := tailF_take N k hlt
        have htb := tb_cases N k
        have HT1 := Lib.hid ht
        have HO := Lib.hid hown
        have HB := Lib.hid hBl
        have o0 : bits .or .u8 0 128 = 128 := by decide
        have o1 : bits .or .u8 1 128 = 129 := by decide
        clear ht hown hBl
        by_cases h0 : k = 0
        · by_cases h1 : k = N - 1
          · have e0 : ((k : Int) == 0) = true := by simp; omega
            have e1 : ((k : Int) == (N : Int) - 1) = true := by simp; omega
            have HZ := Lib.hid (show byt (tb N k) = .int .u8 129 by rw [htb, if_pos h1, if_pos h0])
            clear h0 h1 htb
            go_wp2_with (first
              | (at_builtin; refine wpL_append rfl (.tmp 41) (.tmp 43) 32 rfl elByte rfl (HO.out.alloc _) rfl rfl (Seq.one_new _ _ _) (by simp [Value.oneCell']) (by unfold maxLen; omega) (by omega) (by simp; omega) ?_; intro A4 c4 w4 ho4 hg4 _; have HO4 := Lib.hid ho4; have HG4 := Lib.hid hg4; clear ho4 hg4))
            refine ⟨⟨k + 1, A4, c4, by omega, by go_num, rfl, ?_, (HB.out.alloc hB0 _).grown HG4.out (by simp; omega) (fun g hg => (HO.out.lt g hg).1)⟩, by simp [intOf]; omega⟩
            rw [HT1.out, ← List.append_assoc, bytes_append, show bytes [tb N k] = [.int .u8 129] from by rw [← HZ.out]; rfl]
            exact HO4.out
          · have e0 : ((k : Int) == 0) = true := by simp; omega
            have e1 : ((k : Int) == (N : Int) - 1) = false := by simp; omega
            have HZ := Lib.hid (show byt (tb N k) = .int .u8 1 by rw [htb, if_neg h1, if_pos h0])
            clear h0 h1 htb
            go_wp2_with (first
              | (at_builtin; refine wpL_append rfl (.tmp 41) (.tmp 43) 32 rfl elByte rfl (HO.out.alloc _) rfl rfl (Seq.one_new _ _ _) (by simp [Value.oneCell']) (by unfold maxLen; omega) (by omega) (by simp; omega) ?_; intro A4 c4 w4 ho4 hg4 _; have HO4 := Lib.hid ho4; have HG4 := Lib.hid hg4; clear ho4 hg4))
            refine ⟨⟨k + 1, A4, c4, by omega, by go_num, rfl, ?_, (HB.out.alloc hB0 _).grown HG4.out (by simp; omega) (fun g hg => (HO.out.lt g hg).1)⟩, by simp [intOf]; omega⟩
            rw [HT1.out, ← List.append_assoc, bytes_append, show bytes [tb N k] = [.int .u8 1] from by rw [← HZ.out]; rfl]
            exact HO4.out
        · by_cases h1 : k = N - 1
          · have e0 : ((k : Int) == 0) = false := by simp; omega
            have e1 : ((k : Int) == (N : Int) - 1) = true := by simp; omega
            have HZ := Lib.hid (show byt (tb N k) = .int .u8 128 by rw [htb, if_pos h1, if_neg h0])
            clear h0 h1 htb
            go_wp2_with (first
              | (at_builtin; refine wpL_append rfl (.tmp 41) (.tmp 43) 32 rfl elByte rfl (HO.out.alloc _) rfl rfl (Seq.one_new _ _ _) (by simp [Value.oneCell']) (by unfold maxLen; omega) (by omega) (by simp; omega) ?_; intro A4 c4 w4 ho4 hg4 _; have HO4 := Lib.hid ho4; have HG4 := Lib.hid hg4; clear ho4 hg4))
            refine ⟨⟨k + 1, A4, c4, by omega, by go_num, rfl, ?_, (HB.out.alloc hB0 _).grown HG4.out (by simp; omega) (fun g hg => (HO.out.lt g hg).1)⟩, by simp [intOf]; omega⟩
            rw [HT1.out, ← List.append_assoc, bytes_append, show bytes [tb N k] = [.int .u8 128] from by rw [← HZ.out]; rfl]
            exact HO4.out
          · have e0 : ((k : Int) == 0) = false := by simp; omega
            have e1 : ((k : Int) == (N : Int) - 1) = false := by simp; omega
            have HZ := Lib.hid (show byt (tb N k) = .int .u8 0 by rw [htb, if_neg h1, if_neg h0])
            clear h0 h1 htb
            go_wp2_with (first
              | (at_builtin; refine wpL_append rfl (.tmp 41) (.tmp 43) 32 rfl elByte rfl (HO.out.alloc _) rfl rfl (Seq.one_new _ _ _) (by simp [Value.oneCell']) (by unfold maxLen; omega) (by omega) (by simp; omega) ?_; intro A4 c4 w4 ho4 hg4 _; have HO4 := Lib.hid ho4; have HG4 := Lib.hid hg4; clear ho4 hg4))
            refine ⟨⟨k + 1, A4, c4, by omega, by go_num, rfl, ?_, (HB.out.alloc hB0 _).grown HG4.out (by simp; omega) (fun g hg => (HO.out.lt g hg).1)⟩, by simp [intOf]; omega⟩
            rw [HT1.out, ← List.append_assoc, bytes_append, show bytes [tb N k] = [.int .u8 0] from by rw [← HZ.out]; rfl]
            exact HO4.out
      · have dk : decide ((k : Int) < (N : Int)) = false := by simp; omega
        have hkN : k = N := by omega
        have hpl : l ++ (tailF N).take k = padL l := by
          unfold padL
          rw [List.take_of_length_le (by rw [tailF_length]; omega), HPad.out]
        rw [hpl] at hown
        have hlen : (padL l).length = l.length + k := by rw [← hpl, List.length_append, List.length_take, tailF_length]; omega
        have hsum := fun i => hash_pad l i
        have hmod := (padL_length l).2
        generalize padL l = Pd at *
        rw [← hlen] at hown ⊢
        have hpd : Pd.length ≤ 1099511627776 := by omega
        have HSum := Lib.hid hsum
        have HO := Lib.hid hown
        have HB := Lib.hid hBl
        have HSP := Lib.hid ((Seq.of_own hown).alloc (Nat.le_refl _) (.cells (tab 25 fun _ => .int .u64 0) 23))
        have hB0 := hBl.size
        clear hown hBl hpl hsum HPad hlen
        go_wp2_with (first
          | (refine wpL_alloc rfl 23 rfl (tab 25 fun _ => .int .u64 0) (by kernel_rfl) ?_))
        have HG0 := Lib.hid (Blk.new wr 23 (tab 25 fun _ => .int .u64 0))
        have HB0 := Lib.hid (HB.out.alloc hB0 (.cells (tab 25 fun _ => .int .u64 0) 23))
        clear HO HB
        generalize hG : wr.heap.size = G at *
        clear hG
        go_loopw [9] (fun i w2 => ∃ m : Nat, 136 * m ≤ Pd.length ∧ i = .int .i64 ((136 * m : Nat) : Int) ∧ Below w.heap.size w w2 ∧ Blk w2 G 23 (tab 25 (lanes (writeS (zeroS, 0) (Pd.take (136 * m))).1)) ∧ Seq w2 G A3 (bytes Pd)) (fun i _ => Pd.length - (intOf i).toNat)
        case atStart => exact ⟨0, by omega, rfl, HB0.out, HG0.out, HSP.out⟩
        case round =>
          clear HG0 HB0 HSP
          obtain ⟨m, hm, rfl, hBl, hA, hSP⟩ := hrel
          have hgl := hA.lt
          have hs3 := hBl.size
          have hT3 := HT.out.below hBl h2
          by_cases hlt : 136 * m + 136 ≤ Pd.length
          · have dm : decide (((136 * m : Nat) : Int) + 136 ≤ (Pd.length : Int)) = true := by simp; omega
            have hstep : writeS (zeroS, 0) (Pd.take (136 * (m + 1))) = writeS ((writeS (zeroS, 0) (Pd.take (136 * m))).1, 0) ((Pd.drop (136 * m)).take 136) := by
              rw [show 136 * (m + 1) = 136 * m + 136 by omega, List.take_add, writeS_append]
              congr 1
              have := writeS_snd (Pd.take (136 * m)) (zeroS, 0) (by simp)
              rw [List.length_take] at this
              exact Prod.ext rfl (by rw [this]; simp only; omega)
            generalize (writeS (zeroS, 0) (Pd.take (136 * m))).1 = T at *
            have HA := Lib.hid hA
            have HB := Lib.hid hBl
            have HSP := Lib.hid hSP
            have HSt := Lib.hid hstep
            have HT3 := Lib.hid hT3
            clear hA hBl hSP hstep hT3
            generalize hq : 136 * m = q at *
            have Hq := Lib.hid hq
            clear hq
            go_wp2_with (first
              | (refine wpL_load0 rfl 23 (.tmp 8) rfl rfl _ HA.out Tryd.underlying23 rfl (by kernel_rfl) ?_))
            refine (laid_calls T A3 c3 G Pd q hlt hpd wr HSP.out (by omega) HT3.out).mono ?_
            rintro e w4 ⟨he, hb4⟩
            rw [← HSt.out] at he
            subst he
            have HA4 := Lib.hid (HA.out.below hb4 hgl)
            have HB4 := Lib.hid (HB.out.trans (hb4.mono hs3))
            have HSP4 := Lib.hid (HSP.out.below hb4 (by omega))
            clear hb4
            go_wp2_with (first
              | (refine wpL_storeA (n := 25) (N := 25) (V := lanes T) rfl 23 (.tmp 8) (.tmp 55) rfl 0 rfl rfl HA4.out (by omega) (by kernel_rfl) (fun _ => rfl) ?_; intro w5 ho5 hk5; have HO5 := Lib.hid ho5; have HK5 := Lib.hid (hk5.same (over_whole _ _ _)); clear ho5 hk5))
            have hq := Hq.out
            refine ⟨⟨m + 1, by omega, by congr 1; omega, HO5.out.below HB4.out hB0, HK5.out, HSP4.out.only HO5.out (Nat.le_refl _)⟩, by simp [intOf]; omega⟩
          · have dm : decide (((136 * m : Nat) : Int) + 136 ≤ (Pd.length : Int)) = false := by simp; omega
            have hml : 136 * m = Pd.length := by omega
            rw [hml, List.take_length] at hA
            rw [hml]
            rw [hml] at dm
            generalize (writeS (zeroS, 0) Pd).1 = T at *
            have HA := Lib.hid hA
            have HB := Lib.hid hBl
            have HS3 := Lib.hid (HS.out.below hBl (Nat.le_refl _))
            have HT3 := Lib.hid hT3
            clear hA hBl hSP hT3 hml
            go_wp2_with fail
            have hb0 : Below wr.heap.size wr (wr.alloc (.cells #[.slice A l.length c] 32)) := (Below.refl _ _).alloc (Nat.le_refl _) _
            have hsq := Seq.one_new wr (.slice A l.length c) 32
            refine (sumF_calls (some ⟨wr.heap.size, 0, none⟩) 1 (wr.heap.size + 1) [(A, c, l)] _ (HT3.out.below hb0 (by omega)) (by simp) hsq (by simp) (by intro p hp; simp at hp; subst hp; exact ⟨(HS3.out.below hb0 hs3).more (by omega), by simp; omega⟩)).mono ?_
            rintro e w4 ⟨he, hb4⟩
            rw [show joinP [(A, c, l)] = l from by simp [joinP]] at he
            subst he
            have hb5 := hb0.trans (hb4.mono (by simp))
            have HA4 := Lib.hid (HA.out.below hb5 hgl)
            have HB4 := Lib.hid (HB.out.trans (hb5.mono hs3))
            have hs4 := hb5.size
            clear hb0 hsq hb4 hb5
            obtain ⟨E, hE⟩ : ∃ E, hashS l = E := ⟨_, rfl⟩
            rw [hE] at HSum ⊢
            have HE := Lib.hid hE
            clear hE
            go_wp2_with (first
              | (refine wpL_alloc rfl 42 rfl (tab 32 fun _ => .int .u8 0) (by kernel_rfl) ?_)
              | (refine wpL_storeA rfl 42 (.tmp 10) (.tmp 58) rfl 0 rfl rfl (Blk.new w4 _ _) (by omega) (by kernel_rfl) (fun _ => rfl) ?_; intro w5 ho5 hk5; have hz5 := Nat.le_of_eq ho5.size.symm; rw [size_alloc] at hz5; have HA5 := Lib.hid (ho5.blk (HA4.out.alloc _) (by omega)); have HB5 := Lib.hid (ho5.below (HB4.out.alloc (by omega) _) (by omega)); have HK5 := Lib.hid (hk5.same (over_whole _ _ _)); clear ho5 hk5))
            go_loopw [11] (fun i w6 => ∃ k : Nat, k ≤ 32 ∧ i = .int .i64 k ∧ Below w.heap.size w w6 ∧ Blk w6 G 23 (tab 25 (lanes T)) ∧ Blk w6 w4.heap.size 42 (tab 32 (hashV E))) (fun i _ => 32 - (intOf i).toNat)
            case atStart => exact ⟨0, by omega, rfl, HB5.out, HA5.out, HK5.out⟩
            case round =>
              clear HB5 HA5 HK5
              obtain ⟨k, hk, rfl, hB, hA, hH⟩ := hrel
              by_cases hlt3 : k < 32
              · have dk : decide ((k : Int) < 32) = true := by simp; omega
                have lk : (k : Int) < 32 := by omega
                have c1 := hA.lane (k / 8) (by omega)
                have c2 : wr.cell? ⟨w4.heap.size, k, none⟩ = some (.int .u8 (by8 (E k))) := hH.at_ k hlt3
                have n3 : (0 : Int) ≤ 8 * ((k : Int) % 8) := by omega
                have l3 : 8 * ((k : Int) % 8) ≤ 64 := by omega
                have t3 : (8 * ((k : Int) % 8)).toNat = 8 * (k % 8) := by omega
                have w3 : IntKind.i64.wrap (8 * ((k : Int) % 8)) = 8 * ((k : Int) % 8) := IntWalk.i64_in _ (by omega)
                have d3 : (k : Int).tdiv 8 = (k : Int) / 8 := by rw [Int.tdiv_eq_ediv_of_nonneg (by omega)]
                have w8 : IntKind.i64.wrap ((k : Int) / 8) = (k : Int) / 8 := IntWalk.i64_in _ (by omega)
                have hE := HSum.out k
                have i1 : (0 : Int) ≤ (k : Int) / 8 := by omega
                have i2 : (k : Int) / 8 < 25 := by omega
                have i3 : ((k : Int) / 8).toNat = k / 8 := by omega
                have hx : (by8 (E k) != by8 (low (T (k / 8) >>> (8 * (k % 8))))) = false := by
                  rw [← hE]
                  unfold byteOf
                  rw [Nat.mul_comm (k % 8) 8]
                  simp
                have HB := Lib.hid hB
                have HA := Lib.hid hA
                have HH := Lib.hid hH
                clear hB hA hH hE
                go_wp2_with fail
                go_quiet (fail)
                go_wp2_with fail
                exact ⟨⟨k + 1, by omega, by go_num, below_drewN HB.out nq, HA.out.drewN nq, HH.out.drewN nq⟩, by simp [intOf]; omega⟩
              · have dk : decide ((k : Int) < 32) = false := by simp; omega
                have HB := Lib.hid hB
                clear hB hA hH
                go_wp2_with fail
                go_ret
                exact ⟨rfl, HB.out⟩
-- CARD
set_option maxRecDepth 100000 in
theorem spongeFolds_lifted (os : Os) (started : os.Started) (H : Type) (enc : TypeId × Value → H) :
    ReturnsInHanded {} Tryd.checked os 6 .any (fun w args => (Rows.spongeFoldsSpec.pre enc Tryd.prog Tryd.f6 [] false w args ∧ laidMetH Tryd.prog seatLaid w) ∧ sizedMet enc Tryd.prog Tryd.f6 (OpenSpec.ofChange Rows.spongeFoldsSpec) false w args)
      (Rows.spongeFoldsSpec.post enc Tryd.prog Tryd.f6 false true false false) := by
  refine returnsInHanded_of_change_and (C := Tryd.checked) (X := fun w _ => laidMetH Tryd.prog seatLaid w) (fun _ _ _ hh h => h.of_heap hh) own started (by kernel_rfl) Tryd.func6
    (ChangeSpec.witness_shaped (enc := enc) (C := Tryd.checked) (os := os) (X := fun w _ => laidMetH Tryd.prog seatLaid w) false (World.laidAll Tryd.prog os seatLaid) #[.slice none 0 0] 8 (World.laidAll_os _ _ _)
      (World.shaped_of_ZipB (by kernel_rfl) (by kernel_rfl)) (by kernel_rfl) (by kernel_rfl) (by kernel_rfl)
      (by rw [MakeChecks.laidMetH_plain _ _ _ (by kernel_rfl)]; exact laidMet_laidAll _ (by kernel_rfl) (by kernel_rfl))) ?_
  intro W base args ds gs before hval0 hW _ hsz hL0 _
  rw [MakeChecks.laidMetH_plain _ _ _ (by kernel_rfl)] at hL0
  have hT := tables_of_laid hL0
  have hval : ∀ (j : Nat) t v, Tryd.f6.params[j]? = some t → args[j]? = some v → Value.okWide Tryd.prog W .any base t v := hval0
  have hW' := hW
  obtain ⟨p, q, hA0, hV, rfl, hfz, hnd⟩ := hW
  have hA : DataW.TrodAll enc Tryd.prog W 0 (fun _ => true) true Tryd.f6.params.toList args.toList ds p := hA0
  rw [Tryd.params6] at hA hval
  obtain ⟨v0, vs0, d0, ds0, p0, q0, hargs, rfl, rfl, h0, r0⟩ := trodAll_cons hA
  obtain ⟨rfl, rfl, rfl⟩ := trodAll_nil r0
  obtain rfl : args = #[v0] := by cases args; simp_all
  obtain ⟨rfl, rfl⟩ := trodVars_none hV
  have k0 := h0
  have lt0 : ∀ x ∈ p0, x.block < W.heap.size := by obtain ⟨m, hm⟩ := k0; exact DataW.trod_lt m _ _ _ hm
  have wt0 : ∀ n ∈ d0.weights Tryd.prog 32, n ≤ reachBytes := fun n hn => by have := List.all_eq_true.1 hsz n (DataW.weights_mem_each (j := 0) (t := 32) (d := d0) (by rw [Tryd.params6]; rfl) rfl n hn); simpa using this
  obtain ⟨A0, C0, L0, rfl, hc0, hm0, hr0, hq0⟩ := open_bytes Tryd.underlying32 Tryd.underlying5 (by kernel_rfl) (by kernel_rfl) (hval 0 _ v0 rfl rfl) h0 wt0
  clear hA0 hval0
  refine (folds_walk A0 C0 L0 hr0 W hq0 hT).mono fun e W' ⟨he, bel⟩ => ?_
  subst he
  exact ⟨_, rfl, _, _, _, [], _, [], hW', trodAll_mk1 (shut_bool Tryd.underlying4 _), (trodAll_cons_mk (Below.trod laidOut (by kernel_rfl) (of_decide_eq_true (by kernel_rfl)) k0 bel lt0) trodAll_mk0), rfl, bel.frame _, fun h => by cases h⟩
theorem spongeFolds_holds : Rows.SpongeFoldsSaid :=
  OpenClaim.holds_of_wide 6 Tryd.f6 rfl rfl rfl rfl rfl rfl rfl ⟨rfl, rfl, rfl, rfl, rfl⟩ rfl rfl rfl rfl rfl (by kernel_rfl) Tryd.func6 (by kernel_rfl)
    (of_decide_eq_true (by kernel_rfl)) (by unfold Func.isWrapper; first | (rw [if_pos (by decide +kernel)]; kernel_rfl) | (rw [if_neg (by decide +kernel)]; exact ⟨rfl, rfl⟩))
    (fun os started H enc _ => spongeFolds_lifted os started H enc)
theorem spongeFolds_card : Rows.SpongeFoldsCardSaid :=
  Claim7.holds_tied_plain_at .later [] [.data, .data] true (true, "61dec8a95d45e6b6868d957416c283ac2aac3f2f7edc31fb2634f663520bf00b") false spongeFolds_holds (fun _ h => by cases h) (by kernel_rfl) (fun _ h => by cases h) spongeFolds_row_tie rfl ⟨rfl, rfl⟩ (by kernel_rfl) rfl
    (fun f fn hf hfn => by
      obtain rfl : f = 6 := Option.some.inj ((show Tryd.prog.funcNamed "vouch/vouchlaw2.SpongeFolds" = some 6 by kernel_rfl).symm.trans hf) |>.symm
      obtain rfl : fn = Tryd.f6 := (Option.some.inj (Tryd.func6.symm.trans hfn)).symm
      exact ⟨by kernel_rfl, fun j t ht => by
        rw [Tryd.params6] at ht
        have hm : t ∈ ([32] : List TypeId) := by simpa using Array.mem_of_getElem? ht
        have hall : (([32] : List TypeId).all fun u => !Tryd.prog.wantsStandIn u) = true := by kernel_rfl
        exact (show Tryd.prog.wantsStandIn t = false by simpa using List.all_eq_true.1 hall t hm)⟩)
    (by kernel_rfl)
end Go.Proofs.YtfidjeoeaeghhaaDoor
