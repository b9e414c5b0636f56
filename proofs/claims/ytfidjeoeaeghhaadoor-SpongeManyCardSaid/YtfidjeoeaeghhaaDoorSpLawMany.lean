/- SpongeMany: many sponges beside one another, in turns, byte by byte: each has the hash of its own bytes. Conditions: none beyond the row's own (the two tables of package sponge read as the program's text lays them; the card ties them to it). -/
import Derived.Test.YtfidjeoeaeghhaaDoorSpPad
import Derived.Test.YtfidjeoeaeghhaaDoorSpKnow
import Derived.Test.YtfidjeoeaeghhaaDoorWordsC
import Derived.Test.YtfidjeoeaeghhaaDoorOpenB
import Derived.Test.YtfidjeoeaeghhaaDoorSpTables
import Derived.Test.YtfidjeoeaeghhaaDoorCards
import Derived.SevenTiedAt
import Derived.Deep.RegionHeld3
namespace Go.Proofs.YtfidjeoeaeghhaaDoor
open Go.RowKit Go.ChangeShapes Go.WideShapes
theorem wf_i64 {n : Int} (h : (Lit.int .i64 n).wf = true) : -9223372036854775808 ≤ n ∧ n ≤ 9223372036854775807 := by
  simp [Lit.wf, IntKind.min, IntKind.max, IntKind.signed, IntKind.bits] at h
  omega
def ptrV (g : Nat) : Value := .pointer (some ⟨g, 0, none⟩)
def ptrs (γ : Nat → Nat) (k : Nat) : List Value := (List.range k).map fun i => ptrV (γ i)
theorem ptrs_length (γ : Nat → Nat) (k : Nat) : (ptrs γ k).length = k := by simp [ptrs]
theorem ptrs_get (γ : Nat → Nat) (k i : Nat) (h : i < (ptrs γ k).length) : (ptrs γ k)[i] = .pointer (some ⟨γ i, 0, none⟩) := by simp [ptrs, ptrV]
theorem ptrs_succ (γ : Nat → Nat) (k : Nat) : ptrs γ (k + 1) = ptrs γ k ++ [ptrV (γ k)] := by simp [ptrs, List.range_succ]
theorem ptrs_congr {γ δ : Nat → Nat} {k : Nat} (h : ∀ i, i < k → γ i = δ i) : ptrs γ k = ptrs δ k := List.map_congr_left fun i hi => by rw [h i (by simpa using hi)]
theorem infoPtr : (Tryd.prog.info? 30).map (fun i => (i.zero, i.size, i.bytes)) = some (some (.pointer none), 1, 8) := by kernel_rfl
theorem elPtr : Elem Tryd.prog 28 30 1 8 := Elem.mk' Tryd.underlying28 infoPtr rfl (by decide)
/-- The bytes of the i-th sponge. -/
def ownL (l : List UInt8) (i : Nat) : List UInt8 := l.map fun b => b + UInt8.ofNat i
theorem ownL_take (l : List UInt8) (i k : Nat) (h : k < l.length) : ownL (l.take (k + 1)) i = ownL (l.take k) i ++ [l[k] + UInt8.ofNat i] := by
  unfold ownL
  rw [List.take_succ_eq_append_getElem h, List.map_append]
  rfl
theorem wrap_add8 (x y : UInt8) : IntKind.u8.wrap (by8 x + by8 y) = by8 (x + y) := by
  rw [IntKind.wrap_u8']
  unfold by8
  rw [UInt8.toNat_add]
  omega
theorem wrap_nat8 (i : Nat) (_ : i < 256) : IntKind.u8.wrap (i : Int) = by8 (UInt8.ofNat i) := by
  rw [IntKind.wrap_u8']
  unfold by8
  rw [UInt8.toNat_ofNat']
  omega
structure Many (w0 w : World) (γ : Nat → Nat) (n : Nat) (T : Nat → List UInt8) : Prop where
  below : Below w0.heap.size w0 w
  old : ∀ i, i < n → w0.heap.size ≤ γ i
  apart : ∀ i j, i < n → j < n → γ i = γ j → i = j
  at_ : ∀ i, i < n → SpAt w (γ i) (writeS (zeroS, 0) (T i)).1 (writeS (zeroS, 0) (T i)).2
theorem Many.belowAll {w0 w w' : World} {γ : Nat → Nat} {n : Nat} {T : Nat → List UInt8} (h : Many w0 w γ n T) (hb : Below w.heap.size w w') : Many w0 w' γ n T :=
  ⟨h.below.trans (hb.mono h.below.size), h.old, h.apart, fun i hi => Blk.below (h.at_ i hi) hb (Blk.lt (h.at_ i hi))⟩
theorem Many.wrote {w0 w w' : World} {γ : Nat → Nat} {n i : Nat} {T : Nat → List UInt8} (h : Many w0 w γ n T) (hi : i < n) (l : List UInt8) (hg : w.grownBy w' (some (γ i)))
    (hat : SpAt w' (γ i) (writeS (writeS (zeroS, 0) (T i)) l).1 (writeS (writeS (zeroS, 0) (T i)) l).2) : Many w0 w' γ n (fun j => if j = i then T i ++ l else T j) :=
  ⟨h.below.grown hg h.below.size (fun g e => by injection e with e; rw [← e]; exact h.old i hi), h.old, h.apart, fun j hj => by
    by_cases e : j = i
    · subst e
      rw [if_pos rfl, writeS_append]
      exact hat
    · simp only [if_neg e]
      exact (hg.block _ (Blk.lt (h.at_ j hj)) (fun e2 => e (h.apart _ _ hj hi (Option.some.inj e2)))).trans (h.at_ j hj)⟩
theorem Many.congr {w0 w : World} {γ : Nat → Nat} {n : Nat} {T T' : Nat → List UInt8} (h : Many w0 w γ n T) (e : ∀ i, i < n → T i = T' i) : Many w0 w γ n T' :=
  ⟨h.below, h.old, h.apart, fun i hi => by rw [← e i hi]; exact h.at_ i hi⟩
def extG (γ : Nat → Nat) (k g : Nat) (j : Nat) : Nat := if j = k then g else γ j
theorem extG_at (γ : Nat → Nat) (k g : Nat) : extG γ k g k = g := by unfold extG; rw [if_pos rfl]
theorem extG_ne {γ : Nat → Nat} {k g j : Nat} (h : j < k) : extG γ k g j = γ j := by unfold extG; rw [if_neg (by omega)]
theorem Many.extend {w0 w w' : World} {γ : Nat → Nat} {k g : Nat} {row : Option Nat} (h : Many w0 w γ k (fun _ => [])) (hsp : SpAt w g zeroS 0) (hg0 : w0.heap.size ≤ g) (hfar : ∀ j, j < k → γ j < g) (hg : w.grownBy w' row)
    (hr : ∀ j, j < k → row ≠ some (γ j)) (hr2 : row ≠ some g) (hr3 : ∀ q, row = some q → w0.heap.size ≤ q) : Many w0 w' (extG γ k g) (k + 1) (fun _ => []) :=
  ⟨h.below.grown hg h.below.size hr3, fun i hi => by
    by_cases e : i = k
    · subst e; rw [extG_at]; exact hg0
    · rw [extG_ne (by omega)]; exact h.old i (by omega), fun i j hi hj e => by
    by_cases e1 : i = k
    · by_cases e2 : j = k
      · omega
      · subst e1; rw [extG_at, extG_ne (by omega)] at e; have := hfar j (by omega); omega
    · by_cases e2 : j = k
      · subst e2; rw [extG_at, extG_ne (by omega)] at e; have := hfar i (by omega); omega
      · rw [extG_ne (by omega), extG_ne (by omega)] at e; exact h.apart i j (by omega) (by omega) e, fun i hi => by
    by_cases e : i = k
    · subst e; rw [extG_at]; exact (hg.block _ (Blk.lt hsp) (fun e => hr2 e.symm)).trans hsp
    · rw [extG_ne (by omega)]; exact (hg.block _ (Blk.lt (h.at_ i (by omega))) (fun e => hr i (by omega) e.symm)).trans (h.at_ i (by omega))⟩
theorem rangeAt_blk {w : World} {g : Nat} {t : TypeId} {cs : Array Value} (h : Blk w g t cs) : w.rangeAt g 0 cs.toList := fun j v hv => by
  rw [Nat.zero_add, h.cell]
  simpa using hv
theorem sameH_refl (E : Nat → UInt8) : sameH E E = true := (sameH_iff E E).2 fun _ _ => rfl
theorem cell_keep {wr w4 : World} {o : Obj} {g : Nat} {p : Addr} {v : Value} (hc : wr.cell? p = some v) (hlt : p.block < wr.heap.size) (hg : (wr.alloc o).drew.grownBy w4 (some g)) (hne : p.block ≠ g) : w4.cell? p = some v := by
  rw [← hc, ← World.cell?_alloc_lt wr o p hlt]
  exact World.cell?_of_block (w := (wr.alloc o).drew) (hg.block p.block (by show _ < (wr.alloc o).heap.size; simp; omega) (fun e => hne (Option.some.inj e)))
set_option maxHeartbeats 2000000 in
set_option maxRecDepth 10000 in
theorem many_walk (A : Option Addr) (c : Nat) (l : List UInt8) (z : Int) (hl : l.length ≤ 140737488351232) (hz : -9223372036854775808 ≤ z ∧ z ≤ 9223372036854775807) (w : World) (hs : Seq w w.heap.size A (bytes l)) (hT : Tables w) :
    Calls Tryd.prog 8 #[.slice A l.length c, .int .i64 z] w fun e w' => e = .returned (.bool true) ∧ Below w.heap.size w w' := by
  have HS := Lib.hid hs
  have HT := Lib.hid hT
  have h2 := hT.size
  clear hT hs
  go_enter Tryd.func8, Tryd.ntmps8
  go_wp2_with fail
  refine (known_calls _ HT.out).mono ?_
  rintro e w1 ⟨rfl, hb1⟩
  have hs1 := hb1.size
  have HB1 := Lib.hid hb1
  clear hb1
  by_cases hbig : l.length > 16777216
  · have db : decide ((l.length : Int) > 16777216) = true := by simp; omega
    go_wp2_with fail
    go_ret
    exact ⟨rfl, HB1.out⟩
  have db : decide ((l.length : Int) > 16777216) = false := by simp; omega
  have hcase : (∃ n : Nat, n ≤ 39 ∧ decide (z.tmod 40 < 0) = true ∧ IntKind.i64.wrap (-z.tmod 40) = (n : Int)) ∨ (∃ n : Nat, n ≤ 39 ∧ decide ((n : Int) < 0) = false ∧ z.tmod 40 = (n : Int)) := by
    have hab := Int.tmod_lt_of_pos z (show (0 : Int) < 40 by omega)
    have hab2 : -40 < z.tmod 40 := by have := Int.lt_tmod_of_pos z (show (0 : Int) < 40 by omega); omega
    by_cases hneg : z.tmod 40 < 0
    · exact Or.inl ⟨(-z.tmod 40).toNat, by omega, by simpa using hneg, by rw [IntWalk.i64_in _ (by omega)]; omega⟩
    · exact Or.inr ⟨(z.tmod 40).toNat, by omega, by simp; omega, by omega⟩
  rcases hcase with ⟨n, hn, d1, e1⟩ | ⟨n, hn, d1, e1⟩
  all_goals
    go_wp2_with fail
    clear d1 e1 db
    go_loopw [7, 8, 9] (fun v i _ wr => ∃ (k : Nat) (γ : Nat → Nat) (A1 : Option Addr) (c1 : Nat), k ≤ n + 1 ∧ i = .int .i64 k ∧ v = .slice A1 k c1 ∧ wr.ownsRow w.heap.size 30 1 (.slice A1 k c1) k (ptrs γ k) ∧ Many w wr γ k (fun _ => []) ∧
      ∀ j, j < k → (Value.slice A1 k c1).ownBlock ≠ some (γ j)) (fun _ i _ _ => n + 1 - (intOf i).toNat)
    case atStart => exact ⟨0, fun _ => 0, none, 0, by omega, rfl, rfl, World.ownsRow_nil _ _ _ _, ⟨HB1.out, fun i hi => absurd hi (by omega), fun i _ hi => absurd hi (by omega), fun i hi => absurd hi (by omega)⟩, fun j hj => absurd hj (by omega)⟩
    case round =>
      obtain ⟨k, γ, A1, c1, hk, rfl, rfl, hown, hM, hne⟩ := hrel
      have hs2 := hM.below.size
      by_cases hlt : k ≤ n
      · have dk : decide ((k : Int) ≤ (n : Int)) = true := by simp; omega
        have HO := Lib.hid hown
        have HM := Lib.hid hM
        have HN := Lib.hid hne
        clear hown hM hne
        go_wp2_with fail
        refine (new_calls wr).mono ?_
        rintro e w2 ⟨rfl, hw2⟩
        have hb2 : Below wr.heap.size wr w2 := by rw [hw2]; exact (Below.refl _ _).alloc (Nat.le_refl _) _
        have hsp : SpAt w2 wr.heap.size zeroS 0 := by rw [hw2]; exact Blk.new _ _ _
        have hz2 : wr.heap.size + 1 ≤ w2.heap.size := by rw [hw2]; simp
        have HO2 := Lib.hid (own_below' HO.out hb2)
        have HM2 := Lib.hid (HM.out.belowAll hb2)
        have HSP := Lib.hid hsp
        clear hb2 hsp hw2
        go_wp2_with (first
          | (at_builtin; refine wpL_append rfl (.tmp 39) (.tmp 41) 28 rfl elPtr rfl (HO2.out.alloc _) rfl rfl (Seq.one_new _ _ _) (by simp [Value.oneCell']) (by unfold maxLen; omega) (by omega) (by simp; omega) ?_; intro A4 c4 w4 ho4 hg4 hf4; have HO4 := Lib.hid ho4; have HG4 := Lib.hid hg4; have HF4 := Lib.hid hf4; clear ho4 hg4 hf4))
        have hgsz := HSP.out
        have hrow : ∀ q, (Value.slice A1 k c1).ownBlock = some q → w.heap.size ≤ q ∧ q < wr.heap.size := fun q hq => HO.out.lt q hq
        have hpg : ptrs γ k ++ [ptrV wr.heap.size] = ptrs (extG γ k wr.heap.size) (k + 1) := by
          rw [ptrs_succ, extG_at, ptrs_congr (fun i hi => (extG_ne hi).symm)]
        have ho4 := HO4.out
        rw [show Value.pointer (some ⟨wr.heap.size, 0, none⟩) = ptrV wr.heap.size from rfl, hpg] at ho4
        refine ⟨⟨k + 1, extG γ k wr.heap.size, A4, c4, by omega, by go_num, rfl, ho4, ?_, ?_⟩, by simp [intOf]; omega⟩
        · refine Many.extend (HM2.out.belowAll ((Below.refl _ _).alloc (Nat.le_refl _) _)) (Blk.alloc HSP.out _) hs2 (fun j hj => Blk.lt (HM.out.at_ j hj)) HG4.out HN.out (fun e => ?_) (fun q hq => (hrow q hq).1)
          have := (hrow _ e).2
          omega
        · intro j hj e
          have hjg : extG γ k wr.heap.size j < wr.heap.size + 1 := by
            by_cases e2 : j = k
            · subst e2; rw [extG_at]; omega
            · rw [extG_ne (by omega)]; have := Blk.lt (HM.out.at_ j (by omega)); omega
          rcases HF4.out with e3 | e3
          · rw [e3] at e
            by_cases e2 : j = k
            · subst e2; rw [extG_at] at e; have := (hrow _ e).2; omega
            · rw [extG_ne (by omega)] at e; exact HN.out j (by omega) e
          · rw [e3] at e
            have e4 := Option.some.inj e
            rw [size_alloc] at e4
            omega
      · have dk : decide ((k : Int) ≤ (n : Int)) = false := by simp; omega
        have hkn : k = n + 1 := by omega
        have hown' := hown
        rw [show ptrs γ k = ptrs γ (n + 1) by rw [hkn]] at hown'
        have HP := Lib.hid (Seq.of_own hown')
        have HM := Lib.hid (show Many w wr γ (n + 1) (fun _ => []) by rw [← hkn]; exact hM)
        have hpne : ∀ ad : Addr, A1 = some ad → ∀ j, j < n + 1 → ad.block ≠ γ j := by
          intro ad e j hj e2
          obtain ⟨g, hg, _⟩ := own_form hown (by omega)
          rw [hg] at e hne
          obtain rfl := Option.some.inj e
          exact hne j (by omega) (by simp [Value.ownBlock]; exact e2)
        have HPn := Lib.hid hpne
        clear hown hown' hM hne hpne
        generalize k = N0 at *
        have hN0 := Nat.le_of_eq hkn
        have hN1 := Nat.le_of_eq hkn.symm
        clear hkn
        go_wp2_with fail
        generalize hBB : wr.heap.size = B at *
        have hBw : B ≤ wr.heap.size := Nat.le_of_eq hBB.symm
        clear hBB
        go_loopw [10, 11] (fun i _ wr => ∃ k : Nat, k ≤ l.length ∧ i = .int .i64 k ∧ Many w wr γ (n + 1) (fun j => ownL (l.take k) j) ∧ Seq wr B A1 (ptrs γ (n + 1)) ∧ B ≤ wr.heap.size) (fun i _ _ => l.length - (intOf i).toNat)
        case atStart => exact ⟨0, by omega, rfl, HM.out.congr (fun i _ => by simp [ownL]), HP.out, hBw⟩
        case round =>
          clear HM HP hBw
          obtain ⟨k, hk, rfl, hM, hP, hBw⟩ := hrel
          by_cases hlt : k < l.length
          · have dk : decide ((k : Int) < (l.length : Int)) = true := by simp; omega
            have lk : (k : Int) < (l.length : Int) := by omega
            have HM := Lib.hid hM
            have HP := Lib.hid hP
            clear hM hP
            go_wp2_with fail
            go_loopw [11] (fun i wr => ∃ q : Nat, q ≤ n + 1 ∧ i = .int .i64 q ∧ Many w wr γ (n + 1) (fun j => ownL (l.take (if j < q then k + 1 else k)) j) ∧ Seq wr B A1 (ptrs γ (n + 1)) ∧ B ≤ wr.heap.size) (fun i _ => n + 1 - (intOf i).toNat)
            case atStart => exact ⟨0, by omega, rfl, HM.out.congr (fun i _ => by simp), HP.out, hBw⟩
            case round =>
              clear HM HP hBw
              obtain ⟨q, hq, rfl, hM, hP, hBw⟩ := hrel
              by_cases hlq : q ≤ n
              · have dq : decide ((q : Int) ≤ (n : Int)) = true := by simp; omega
                have lq : (q : Int) < (N0 : Int) := by omega
                obtain ⟨ap, rfl, hapb, hpc⟩ := hP.at_ (k := q) (by rw [ptrs_length]; omega)
                rw [ptrs_get] at hpc
                obtain ⟨ad, rfl, hadb, hcell⟩ := (HS.out.below hM.below (Nat.le_refl _)).at_ (k := k) (by rw [bytes_length]; exact hlt)
                rw [bytes_get] at hcell
                have w1 := wrap_nat8 q (by omega)
                have w2 := wrap_add8 l[k] (UInt8.ofNat q)
                have hsz := hM.below.size
                have hstep := ownL_take l q k hlt
                have hsq := hM.at_ q (by omega)
                simp only [if_neg (show ¬ q < q by omega)] at hsq
                have hTr := HT.out.below hM.below h2
                have hold := hM.old q (by omega)
                have hgl := Blk.lt hsq
                have hlt136 := writeS_lt (s := (zeroS, 0)) (by simp) (ownL (l.take k) q)
                generalize hx : l[k] + UInt8.ofNat q = x at *
                have HM := Lib.hid hM
                have HP := Lib.hid hP
                have HSQ := Lib.hid hsq
                have HTr := Lib.hid hTr
                have HStep := Lib.hid hstep
                clear hM hP hsq hTr hstep hx
                go_wp2_with fail
                have HBD := Lib.hid (show Below wr.heap.size wr (wr.alloc (.cells #[.int .u8 (by8 x)] 5)).drew from by have := (Below.refl wr.heap.size wr).alloc (Nat.le_refl _) (.cells #[.int .u8 (by8 x)] 5); exact ⟨this.os, this.tape, this.output, this.size, this.block⟩)
                go_region_held3 (fun w' => w'.cell? (ap.add q) = some (.pointer (some ⟨γ q, 0, none⟩)) ∧ w'.cell? (ad.add k) = some (.int .u8 (by8 l[k]))) (first | exact ⟨k1, k2⟩ | go_keep)
                  (first | (go_at_call 17; refine (write_calls (γ q) _ _ (some ⟨wr.heap.size, 0, none⟩) 1 (wr.heap.size + 1) [x] hlt136 (by simp) (by omega) (wr.alloc (.cells #[.int .u8 (by8 x)] 5)).drew (Blk.alloc HSQ.out _) (HTr.out.below HBD.out (by omega)) (Seq.one_new wr (.int .u8 (by8 x)) 5).drew (by show _ ≤ (wr.alloc _).heap.size; simp) (by intro _ ad' e; injection e with e; rw [← e]; simp; omega)).mono ?_; rintro e w4 ⟨rfl, hg4, hat4⟩; have k1 := cell_keep hpc (by rw [block_add]; omega) hg4 (by rw [block_add]; exact HPn.out ap rfl q (by omega)); have k2 := cell_keep hcell (by rw [block_add]; omega) hg4 (by rw [block_add]; omega); have HG4 := Lib.hid hg4; have HAT4 := Lib.hid hat4; clear hg4 hat4))
                go_wp2_with fail
                have hszd : (wr.alloc (.cells #[.int .u8 (by8 x)] 5)).drew.heap.size = wr.heap.size + 1 := size_alloc _ _
                refine ⟨⟨q + 1, by omega, by go_num, ?_, Seq.grownNe (HP.out.alloc hBw _).drew (by omega) HG4.out (fun _ ad' e => ?_), ?_⟩, by simp [intOf]; omega⟩
                · have := (HM.out.belowAll HBD.out).wrote (i := q) (by omega) [x] HG4.out (by simp only [if_neg (show ¬ q < q by omega)]; exact HAT4.out)
                  refine this.congr fun i hi => ?_
                  by_cases e : i = q
                  · subst e
                    simp only [if_pos trivial, if_neg (show ¬ i < i by omega), if_pos (show i < i + 1 by omega)]
                    exact HStep.out.symm
                  · simp only [if_neg e]
                    by_cases e2 : i < q
                    · rw [if_pos e2, if_pos (by omega)]
                    · rw [if_neg e2, if_neg (by omega)]
                · intro e2
                  exact HPn.out ad' e q (by omega) (Option.some.inj e2)
                · have := HG4.out.size
                  omega
              · have dq : decide ((q : Int) ≤ (n : Int)) = false := by simp; omega
                have HM := Lib.hid (hM.congr (T' := fun j => ownL (l.take (k + 1)) j) (fun i hi => by rw [if_pos (by omega)]))
                have HP := Lib.hid hP
                clear hM hP
                go_wp2_with fail
                exact ⟨⟨k + 1, by omega, by go_num, HM.out, HP.out, hBw⟩, by simp [intOf]; omega⟩
          · have dk : decide ((k : Int) < (l.length : Int)) = false := by simp; omega
            have HM := Lib.hid (hM.congr (T' := fun j => ownL l j) (fun i hi => by rw [List.take_of_length_le (by omega)]))
            have HP := Lib.hid hP
            clear hM hP
            go_wp2_with fail
            go_loopw [12, 13, 14] (fun i _ _ wr => ∃ q : Nat, q ≤ n + 1 ∧ i = .int .i64 q ∧ Many w wr γ (n + 1) (fun j => ownL l j) ∧ Seq wr B A1 (ptrs γ (n + 1)) ∧ B ≤ wr.heap.size) (fun i _ _ _ => n + 1 - (intOf i).toNat)
            case atStart => exact ⟨0, by omega, rfl, HM.out, HP.out, hBw⟩
            case round =>
              clear HM HP hBw
              obtain ⟨q, hq, rfl, hM, hP, hBw⟩ := hrel
              have hsz := hM.below.size
              by_cases hlq : q ≤ n
              · have dq : decide ((q : Int) ≤ (n : Int)) = true := by simp; omega
                have lq : (q : Int) < (N0 : Int) := by omega
                have HM := Lib.hid hM
                have HP := Lib.hid hP
                have HS2 := Lib.hid (HS.out.below hM.below (Nat.le_refl _))
                clear hM hP
                go_wp2_with fail
                go_loopw [13, 14] (fun v i w5 => ∃ (m : Nat) (A5 : Option Addr) (c5 : Nat), m ≤ l.length ∧ i = .int .i64 m ∧ v = .slice A5 m c5 ∧ w5.ownsRow wr.heap.size 5 1 (.slice A5 m c5) m (bytes (ownL (l.take m) q)) ∧ Below wr.heap.size wr w5) (fun _ i _ => l.length - (intOf i).toNat)
                case atStart => exact ⟨0, none, 0, by omega, rfl, rfl, World.ownsRow_nil _ _ _ _, Below.refl _ _⟩
                case round =>
                  obtain ⟨m, A5, c5, hm, rfl, rfl, hown, hBl⟩ := hrel
                  have hs5 := hBl.size
                  by_cases hlm : m < l.length
                  · have dm : decide ((m : Int) < (l.length : Int)) = true := by simp; omega
                    have lm : (m : Int) < (l.length : Int) := by omega
                    obtain ⟨ad, rfl, hadb, hcell⟩ := (HS2.out.below hBl hsz).at_ (k := m) (by rw [bytes_length]; exact hlm)
                    rw [bytes_get] at hcell
                    have w1 := wrap_nat8 q (by omega)
                    have w2 := wrap_add8 l[m] (UInt8.ofNat q)
                    have hstep := ownL_take l q m hlm
                    have hol : (bytes (ownL (l.take m) q)).length = m := by rw [bytes_length]; unfold ownL; rw [List.length_map, List.length_take]; omega
                    have HO := Lib.hid hown
                    have HB := Lib.hid hBl
                    have HStep := Lib.hid hstep
                    clear hown hBl hstep
                    go_wp2_with (first
                      | (at_builtin; refine wpL_append rfl (.tmp 78) (.tmp 86) 32 rfl elByte rfl (HO.out.alloc _) rfl rfl (Seq.one_new _ _ _) (by simp [Value.oneCell']) (by unfold maxLen; omega) (by omega) (by simp; omega) ?_; intro A6 c6 w6 ho6 hg6 _; have HO6 := Lib.hid ho6; have HG6 := Lib.hid hg6; clear ho6 hg6))
                    refine ⟨⟨m + 1, A6, c6, by omega, by go_num, rfl, ?_, (HB.out.alloc hs5 _).grown HG6.out (by simp; omega) (fun g hg => (HO.out.lt g hg).1)⟩, by simp [intOf]; omega⟩
                    rw [HStep.out, bytes_append]
                    exact HO6.out
                  · have dm : decide ((m : Int) < (l.length : Int)) = false := by simp; omega
                    rw [List.take_of_length_le (by omega)] at hown
                    have hol : (ownL l q).length = m := by unfold ownL; rw [List.length_map]; omega
                    have hb6 : (ownL l q).length ≤ 4611686018427387904 := by omega
                    obtain ⟨ap, hap, hapb, hpc⟩ := (HP.out.below hBl hBw).at_ (k := q) (by rw [ptrs_length]; omega)
                    rw [ptrs_get] at hpc
                    have hTr := HT.out.below (HM.out.below.trans (hBl.mono hsz)) h2
                    have hsq := Blk.below (HM.out.at_ q (by omega)) hBl (Blk.lt (HM.out.at_ q (by omega)))
                    have hn136 := writeS_lt (s := (zeroS, 0)) (by simp) (ownL l q)
                    obtain ⟨E, hE⟩ : ∃ E, hashS (ownL l q) = E := ⟨_, rfl⟩
                    have HO := Lib.hid hown
                    have HB := Lib.hid hBl
                    have HSQ := Lib.hid hsq
                    have HTr := Lib.hid hTr
                    have HE := Lib.hid hE
                    have HM5 := Lib.hid (HM.out.belowAll hBl)
                    have HP5 := Lib.hid (HP.out.below hBl hBw)
                    have Hol := Lib.hid hol
                    subst hap
                    clear hown hBl hsq hTr hE hol
                    go_wp2_with fail
                    refine (sumM_calls (γ q) _ _ hn136 wr HSQ.out HTr.out).mono ?_
                    rintro e w6 ⟨he, hb6'⟩
                    rw [show sumS ((writeS (zeroS, 0) (ownL l q)).1, (writeS (zeroS, 0) (ownL l q)).2) = E from HE.out] at he
                    subst he
                    have hs6 := hb6'.size
                    have HM6 := Lib.hid (HM5.out.belowAll hb6')
                    have HP6 := Lib.hid (HP5.out.below hb6' (by omega))
                    have HSO := Lib.hid ((Seq.of_own HO.out).below hb6' (Nat.le_refl _))
                    clear hb6' HO HB HSQ HTr HM HP HM5 HP5 hpc
                    go_wp2_with (first
                      | (refine wpL_alloc rfl 42 rfl (tab 32 fun _ => .int .u8 0) (by kernel_rfl) ?_)
                      | (refine wpL_storeA rfl 42 (.tmp 15) (.tmp 92) rfl 0 rfl rfl (Blk.new w6 _ _) (by omega) (by kernel_rfl) (fun _ => rfl) ?_; intro w7 ho hk; have hb := ho.below ((Below.refl w6.heap.size w6).alloc (Nat.le_refl _) _) (Nat.le_refl _); have hz7 := Nat.le_of_eq ho.size.symm; rw [size_alloc] at hz7; have HM7 := Lib.hid (HM6.out.belowAll hb); have HP7 := Lib.hid (HP6.out.below hb (by omega)); have HSO7 := Lib.hid (HSO.out.below hb (by omega)); have HK7 := Lib.hid (hk.same (over_whole _ _ _)); clear ho hk hb HM6 HP6 HSO))
                    have hu42 := Tryd.underlying42
                    have hi42 : (Tryd.prog.info? 42).map (·.size) = some (tab 32 (hashV E)).toList.length := by
                      rw [show (tab 32 (hashV E)).toList.length = 32 by simp [tab]]
                      kernel_rfl
                    have heq := eql_hash E E
                    rw [sameH_refl] at heq
                    have hgd := guard_hash
                    have HBD := Lib.hid (show Below w7.heap.size w7 (w7.alloc (.cells #[.slice A5 m c5] 32)).drew from by have := (Below.refl w7.heap.size w7).alloc (Nat.le_refl _) (.cells #[.slice A5 m c5] 32); exact ⟨this.os, this.tape, this.output, this.size, this.block⟩)
                    have hszd : (w7.alloc (.cells #[.slice A5 m c5] 32)).drew.heap.size = w7.heap.size + 1 := size_alloc _ _
                    have hszd1 := Nat.le_of_eq hszd
                    have hszd2 := Nat.le_of_eq hszd.symm
                    clear hszd
                    have hpv : pcs [(A5, c5, ownL l q)] = [.slice A5 m c5] := by simp [pcs, pcV, Hol.out]
                    have HPV := Lib.hid hpv
                    have HSS := Lib.hid (show Seq (w7.alloc (.cells #[.slice A5 m c5] 32)).drew (w7.heap.size + 1) (some ⟨w7.heap.size, 0, none⟩) (pcs [(A5, c5, ownL l q)]) by rw [hpv]; exact (Seq.one_new w7 _ _).drew)
                    have HT7 := Lib.hid (HT.out.below HM7.out.below h2)
                    clear hpv
                    go_region_held3 (fun w' => w'.rangeAt w6.heap.size 0 (tab 32 (hashV E)).toList) (first | exact rangeAt_blk k1 | exact rangeAt_blk HK7.out | exact rangeAt_blk (Blk.alloc HK7.out _))
                      (first | (go_at_call 25; refine (sumF_calls (some ⟨w7.heap.size, 0, none⟩) 1 (w7.heap.size + 1) [(A5, c5, ownL l q)] (w7.alloc (.cells #[.slice A5 m c5] 32)).drew (HT7.out.below HBD.out (by omega)) (by simp) HSS.out hszd2 (by intro p hp; simp at hp; subst hp; exact ⟨(HSO7.out.below HBD.out (by omega)).more (by omega), hb6⟩)).mono ?_; rintro e w9 ⟨he, hb9⟩; rw [show joinP [(A5, c5, ownL l q)] = ownL l q from by simp [joinP], HE.out] at he; subst he; have hb9' := HBD.out.trans (hb9.mono (by omega)); have k1 := HK7.out.below hb9' (by omega); have HB9 := Lib.hid hb9'; clear hb9 hb9'))
                    go_wp2_with fail
                    have hsz9 := HB9.out.size
                    exact ⟨⟨q + 1, by omega, by go_num, HM7.out.belowAll HB9.out, HP7.out.below HB9.out (by omega), by omega⟩, by simp [intOf]; omega⟩
              · have dq : decide ((q : Int) ≤ (n : Int)) = false := by simp; omega
                have HB := Lib.hid hM.below
                clear hM hP
                go_wp2_with fail
                go_ret
                exact ⟨rfl, HB.out⟩
-- CARD
set_option maxRecDepth 100000 in
theorem spongeMany_lifted (os : Os) (started : os.Started) (H : Type) (enc : TypeId × Value → H) :
    ReturnsInHanded {} Tryd.checked os 8 .any (fun w args => (Rows.spongeManySpec.pre enc Tryd.prog Tryd.f8 [] false w args ∧ laidMetH Tryd.prog seatLaid w) ∧ sizedMet enc Tryd.prog Tryd.f8 (OpenSpec.ofChange Rows.spongeManySpec) false w args)
      (Rows.spongeManySpec.post enc Tryd.prog Tryd.f8 false true false false) := by
  refine returnsInHanded_of_change_and (C := Tryd.checked) (X := fun w _ => laidMetH Tryd.prog seatLaid w) (fun _ _ _ hh h => h.of_heap hh) own started (by kernel_rfl) Tryd.func8
    (ChangeSpec.witness_shaped (enc := enc) (C := Tryd.checked) (os := os) (X := fun w _ => laidMetH Tryd.prog seatLaid w) false (World.laidAll Tryd.prog os seatLaid) #[.slice none 0 0, .int .i64 0] 8 (World.laidAll_os _ _ _)
      (World.shaped_of_ZipB (by kernel_rfl) (by kernel_rfl)) (by kernel_rfl) (by kernel_rfl) (by kernel_rfl)
      (by rw [MakeChecks.laidMetH_plain _ _ _ (by kernel_rfl)]; exact laidMet_laidAll _ (by kernel_rfl) (by kernel_rfl))) ?_
  intro W base args ds gs before hval0 hW _ hsz hL0 _
  rw [MakeChecks.laidMetH_plain _ _ _ (by kernel_rfl)] at hL0
  have hT := tables_of_laid hL0
  have hval : ∀ (j : Nat) t v, Tryd.f8.params[j]? = some t → args[j]? = some v → Value.okWide Tryd.prog W .any base t v := hval0
  have hW' := hW
  obtain ⟨p, q, hA0, hV, rfl, hfz, hnd⟩ := hW
  have hA : DataW.TrodAll enc Tryd.prog W 0 (fun _ => true) true Tryd.f8.params.toList args.toList ds p := hA0
  rw [Tryd.params8] at hA hval
  obtain ⟨v0, vs0, d0, ds0, p0, q0, hargs, rfl, rfl, h0, r0⟩ := trodAll_cons hA
  obtain ⟨v1, vs1, d1, ds1, p1, q1, rfl, rfl, rfl, h1, r1⟩ := trodAll_cons r0
  obtain ⟨rfl, rfl, rfl⟩ := trodAll_nil r1
  obtain rfl : args = #[v0, v1] := by cases args; simp_all
  obtain ⟨rfl, rfl⟩ := trodVars_none hV
  have k0 := h0
  have lt0 : ∀ x ∈ p0, x.block < W.heap.size := by obtain ⟨m, hm⟩ := k0; exact DataW.trod_lt m _ _ _ hm
  have k1 := h1
  have lt1 : ∀ x ∈ p1, x.block < W.heap.size := by obtain ⟨m, hm⟩ := k1; exact DataW.trod_lt m _ _ _ hm
  have wt0 : ∀ n ∈ d0.weights Tryd.prog 32, n ≤ reachBytes := fun n hn => by have := List.all_eq_true.1 hsz n (DataW.weights_mem_each (j := 0) (t := 32) (d := d0) (by rw [Tryd.params8]; rfl) rfl n hn); simpa using this
  obtain ⟨A0, C0, L0, rfl, hc0, hm0, hr0, hq0⟩ := open_bytes Tryd.underlying32 Tryd.underlying5 (by kernel_rfl) (by kernel_rfl) (hval 0 _ v0 rfl rfl) h0 wt0
  obtain ⟨z1, rfl, _, _, hz1⟩ := open_int Tryd.underlying3 (hval 1 _ v1 rfl rfl) h1
  clear hA0 hval0
  refine (many_walk A0 C0 L0 z1 hr0 (wf_i64 hz1) W hq0 hT).mono fun e W' ⟨he, bel⟩ => ?_
  subst he
  exact ⟨_, rfl, _, _, _, [], _, [], hW', trodAll_mk1 (shut_bool Tryd.underlying4 _), (trodAll_cons_mk (Below.trod laidOut (by kernel_rfl) (of_decide_eq_true (by kernel_rfl)) k0 bel lt0) (trodAll_cons_mk (Below.trod laidOut (by kernel_rfl) (of_decide_eq_true (by kernel_rfl)) k1 bel lt1) trodAll_mk0)), rfl, bel.frame _, fun h => by cases h⟩
theorem spongeMany_holds : Rows.SpongeManySaid :=
  OpenClaim.holds_of_wide 8 Tryd.f8 rfl rfl rfl rfl rfl rfl rfl ⟨rfl, rfl, rfl, rfl, rfl⟩ rfl rfl rfl rfl rfl (by kernel_rfl) Tryd.func8 (by kernel_rfl)
    (of_decide_eq_true (by kernel_rfl)) (by unfold Func.isWrapper; first | (rw [if_pos (by decide +kernel)]; kernel_rfl) | (rw [if_neg (by decide +kernel)]; exact ⟨rfl, rfl⟩))
    (fun os started H enc _ => spongeMany_lifted os started H enc)
theorem spongeMany_card : Rows.SpongeManyCardSaid :=
  Claim7.holds_tied_plain_at .later [] [.data, .data] true (true, "61dec8a95d45e6b6868d957416c283ac2aac3f2f7edc31fb2634f663520bf00b") false spongeMany_holds (fun _ h => by cases h) (by kernel_rfl) (fun _ h => by cases h) spongeMany_row_tie rfl ⟨rfl, rfl⟩ (by kernel_rfl) rfl
    (fun f fn hf hfn => by
      obtain rfl : f = 8 := Option.some.inj ((show Tryd.prog.funcNamed "vouch/vouchlaw2.SpongeMany" = some 8 by kernel_rfl).symm.trans hf) |>.symm
      obtain rfl : fn = Tryd.f8 := (Option.some.inj (Tryd.func8.symm.trans hfn)).symm
      exact ⟨by kernel_rfl, fun j t ht => by
        rw [Tryd.params8] at ht
        have hm : t ∈ ([32, 3] : List TypeId) := by simpa using Array.mem_of_getElem? ht
        have hall : (([32, 3] : List TypeId).all fun u => !Tryd.prog.wantsStandIn u) = true := by kernel_rfl
        exact (show Tryd.prog.wantsStandIn t = false by simpa using List.all_eq_true.1 hall t hm)⟩)
    (by kernel_rfl)
end Go.Proofs.YtfidjeoeaeghhaaDoor
