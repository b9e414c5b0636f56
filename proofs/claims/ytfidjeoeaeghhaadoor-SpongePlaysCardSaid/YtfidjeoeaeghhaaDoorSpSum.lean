/- The program's sponge: New, Sum of a sponge, Reset, Sum of pieces: what they answer. -/
import Derived.Test.YtfidjeoeaeghhaaDoorSpObj
namespace Go.Proofs.YtfidjeoeaeghhaaDoor
open Go.RowKit
def zeroS : Nat → BitVec 64 := fun _ => 0
def low (x : BitVec 64) : UInt8 := UInt8.ofNat x.toNat
@[go_sem] theorem wrap_u8_u64 (x : BitVec 64) : IntKind.u8.wrap (u64 x) = by8 (low x) := by
  rw [IntKind.wrap_u8']
  unfold u64 by8 low
  rw [UInt8.toNat_ofNat']
  omega
def hashV (h : Nat → UInt8) (j : Nat) : Value := .int .u8 (by8 (h j))
theorem hashV_upd (h : Nat → UInt8) (i : Nat) (v : UInt8) : upd (hashV h) i (.int .u8 (by8 v)) = hashV (upd h i v) := upd_comp (fun b => Value.int .u8 (by8 b)) h i v
/-- The bytes of lanes, the lowest first. -/
def byteOf (P : Nat → BitVec 64) (i : Nat) : UInt8 := low (P (i / 8) >>> (i % 8 * 8))
def sumS (s : (Nat → BitVec 64) × Nat) (i : Nat) : UInt8 := byteOf (permS (layS (layS s.1 s.2 1) 135 128)) i
def hashS (l : List UInt8) : Nat → UInt8 := sumS (writeS (zeroS, 0) l)
theorem spV_one (S : Nat → BitVec 64) (n j : Nat) : (spV S n j).oneCell' = true := by unfold spV lanes; split <;> rfl
theorem new_calls (w : World) : Calls Tryd.prog 14 #[] w fun e w' => e = .returned (.pointer (some ⟨w.heap.size, 0, none⟩)) ∧ w' = w.alloc (.cells (tab 26 (spV zeroS 0)) 65) := by
  go_enter Tryd.func14, Tryd.ntmps14
  go_wp2
  go_ret
  exact ⟨rfl, rfl⟩
set_option maxHeartbeats 1000000 in
theorem sumM_calls (g n : Nat) (S : Nat → BitVec 64) (hn : n < 136) (w : World) (h : SpAt w g S n) (hT : Tables w) :
    Calls Tryd.prog 20 #[.pointer (some ⟨g, 0, none⟩)] w fun e w' => e = .returned (.agg (tab 32 (hashV (sumS (S, n))))) ∧ Below w.heap.size w w' := by
  have hgl := Blk.lt h
  have h2 := hT.size
  have H := Lib.hid h
  have HT := Lib.hid hT
  clear h hT
  have hsz : (Tryd.prog.info? 65).map (·.size) = some 26 := by kernel_rfl
  have Hsz := Lib.hid hsz
  clear hsz
  go_enter Tryd.func20, Tryd.ntmps20
  go_wp2_with (first
    | (refine wpL_alloc rfl 42 rfl (tab 32 fun _ => .int .u8 0) (by kernel_rfl) ?_)
    | (refine wpL_load rfl 65 (.tmp 8) rfl (n := 26) 0 rfl _ (Blk.alloc H.out _) (by omega) Tryd.underlying65 rfl Hsz.out ?_)
    | (refine wpL_alloc rfl 65 rfl (tab 26 (spV zeroS 0)) (by kernel_rfl) ?_)
    | (refine wpL_storeA (n := 26) (N := 26) (V := spV zeroS 0) (f := spV S n) rfl 65 (.tmp 3) (.tmp 9) rfl 0 rfl rfl (Blk.new _ _ _) (by omega) Hsz.out (spV_one S n) ?_; intro w2 ho2 hk2; simp only [size_alloc] at ho2 hk2; have HO2 := Lib.hid ho2; have HK2 := Lib.hid (show SpAt w2 (w.heap.size + 1) S n from hk2.same (over_whole _ _ _)); have c2 := HK2.out.n; clear ho2 hk2))
  have hs2 := HO2.out.size
  simp only [size_alloc] at hs2
  have hs2a := Nat.le_of_eq hs2
  have hs2b := Nat.le_of_eq hs2.symm
  clear hs2
  have HB2 := Lib.hid (HO2.out.below (((Below.refl w.heap.size w).alloc (Nat.le_refl _) _).alloc (by simp) _) (by omega))
  have HT2 := Lib.hid (HT.out.below HB2.out h2)
  have HR2 := Lib.hid (HO2.out.blk ((Blk.new w 42 (tab 32 fun _ => .int .u8 0)).alloc (.cells (tab 26 (spV zeroS 0)) 65)) (by omega))
  refine (lay_calls _ n n S 1 (by omega) w2 HK2.out).mono ?_
  rintro e w3 ⟨rfl, ho3, hk3⟩
  have HO3 := Lib.hid ho3
  have HK3 := Lib.hid hk3
  have hs3 := Nat.le_of_eq ho3.size
  have hs3b := Nat.le_of_eq ho3.size.symm
  clear ho3 hk3
  go_wp2_with fail
  refine (lay_calls _ n 135 _ 128 (by omega) w3 HK3.out).mono ?_
  rintro e w4 ⟨rfl, ho4, hk4⟩
  have HO4 := Lib.hid ho4
  have HK4 := Lib.hid hk4
  have hs4 := Nat.le_of_eq ho4.size
  have hs4b := Nat.le_of_eq ho4.size.symm
  clear ho4 hk4
  have HB4 := Lib.hid (HO4.out.below (HO3.out.below HB2.out (by omega)) (by omega))
  have HT4 := Lib.hid (HT.out.below HB4.out h2)
  have HR4 := Lib.hid (HO4.out.blk (HO3.out.blk HR2.out (by omega)) (by omega))
  have hl25 : tab 25 (fun j => spV (layS (layS S n 1) 135 128) n (0 + j)) = tab 25 (lanes (layS (layS S n 1) 135 128)) := tab_congr fun j hj => by simp [spV, hj]
  go_wp2_with (first
    | (refine wpL_alloc rfl 42 rfl (tab 32 fun _ => .int .u8 0) (by kernel_rfl) ?_)
    | (refine wpL_load rfl 23 (.tmp 14) rfl (n := 25) 0 rfl _ (Blk.alloc HK4.out _) (by omega) Tryd.underlying23 rfl (by kernel_rfl) ?_; rw [hl25]; clear hl25))
  refine (permute_calls _ _ (HT4.out.below ((Below.refl _ _).alloc (Nat.le_refl _) _) (by omega))).mono ?_
  rintro e w5 ⟨rfl, hb5⟩
  have HB5 := Lib.hid ((HB4.out.alloc (by omega) _).trans (hb5.mono (by simp; omega)))
  have HR5 := Lib.hid ((HR4.out.alloc _).below hb5 (by simp; omega))
  have HH5 := Lib.hid ((Blk.new w4 42 (tab 32 fun _ => .int .u8 0)).below hb5 (by simp))
  have hs5 := hb5.size
  simp only [size_alloc] at hs5
  clear hb5
  go_wp2_with (first
    | (refine wpL_alloc rfl 23 rfl (tab 25 fun _ => .int .u64 0) (by kernel_rfl) ?_)
    | (refine wpL_storeA rfl 23 (.tmp 5) (.tmp 16) rfl 0 rfl rfl (Blk.new w5 _ _) (by omega) (by kernel_rfl) (fun _ => rfl) ?_; intro w6 ho6 hk6; have HO6 := Lib.hid ho6; have HK6 := Lib.hid (hk6.same (over_whole _ _ _)); clear ho6 hk6))
  have hs6 := HO6.out.size
  simp only [size_alloc] at hs6
  have hs6a := Nat.le_of_eq hs6
  have hs6b := Nat.le_of_eq hs6.symm
  clear hs6
  have HB6 := Lib.hid (HO6.out.below (HB5.out.alloc (by omega) _) (by omega))
  have HR6 := Lib.hid (HO6.out.blk (HR5.out.alloc _) (by omega))
  have HH6 := Lib.hid (HO6.out.blk (HH5.out.alloc _) (by omega))
  go_loopw [17] (fun i wr => ∃ k : Nat, k ≤ 32 ∧ i = .int .i64 k ∧ Below w.heap.size w wr ∧ (∃ V, Blk wr w.heap.size 42 (tab 32 V)) ∧ Blk wr w5.heap.size 23 (tab 25 (lanes (permS (layS (layS S n 1) 135 128)))) ∧
      Blk wr w4.heap.size 42 (tab 32 (hashV fun j => if j < k then sumS (S, n) j else 0))) (fun i _ => 32 - (intOf i).toNat)
  case atStart => exact ⟨0, by omega, rfl, HB6.out, ⟨_, HR6.out⟩, HK6.out, HH6.out.same (tab_congr fun i _ => by simp [hashV, by8])⟩
  case round =>
    clear HB6 HR6 HH6
    obtain ⟨k, hk, rfl, hB, ⟨V, hV⟩, hP, hH⟩ := hrel
    by_cases hlt : k < 32
    · have dk : decide ((k : Int) < 32) = true := by simp; omega
      have lk : (k : Int) < 32 := by omega
      have c1 := hP.lane (k / 8) (by omega)
      have c2 := hH.at_ k hlt
      have f2 := hH.frozen k
      have n3 : (0 : Int) ≤ (k : Int) % 8 * 8 := by omega
      have l3 : (k : Int) % 8 * 8 ≤ 64 := by omega
      have t3 : ((k : Int) % 8 * 8).toNat = k % 8 * 8 := by omega
      have HB := Lib.hid hB
      have HV := Lib.hid hV
      have HP := Lib.hid hP
      have HH := Lib.hid hH
      clear hB hV hP hH
      go_wp2_with fail
      refine ⟨⟨k + 1, by omega, by go_num, HB.out.setCell (by simp; omega) _, ⟨V, HV.out.far (by simp; omega) _⟩, HP.out.far (by simp; omega) _, ?_⟩, by simp [intOf]; omega⟩
      refine (HH.out.put k _).same ?_
      rw [hashV_upd]
      refine tab_congr fun i _ => ?_
      unfold hashV upd sumS byteOf
      by_cases h : i = k
      · subst h; simp
      · by_cases h' : i < k
        · simp [h, h', show i < k + 1 by omega]
        · simp [h, h', show ¬ i < k + 1 by omega]
    · have dk : decide ((k : Int) < 32) = false := by simp; omega
      have HH := Lib.hid (hH.same (tab_congr (T := hashV (sumS (S, n))) fun i hi => by simp [hashV, show i < k by omega]))
      have HV := Lib.hid hV
      have HB := Lib.hid hB
      clear hB hV hP hH
      go_wp2_with (first
        | (refine wpL_load rfl 42 (.tmp 4) rfl (n := 32) 0 rfl _ HH.out (by omega) Tryd.underlying42 rfl (by kernel_rfl) ?_)
        | (refine wpL_store rfl 42 (.tmp 2) (.tmp 32) rfl 0 rfl rfl HV.out (by omega) (by kernel_rfl) (fun _ => rfl) ?_))
      refine ret_cell rfl rfl _ (HV.out.setRow.same ?_) Tryd.underlying42 rfl (by kernel_rfl) rfl ⟨rfl, below_setRow HB.out (by omega) _⟩
      rw [over_whole]
      exact tab_congr fun i _ => by simp
theorem reset_calls (g n : Nat) (S : Nat → BitVec 64) (w : World) (h : SpAt w g S n) :
    Calls Tryd.prog 22 #[.pointer (some ⟨g, 0, none⟩)] w fun e w' => e = .returned (.tuple #[]) ∧ Only g w w' ∧ SpAt w' g zeroS 0 := by
  have H := Lib.hid h
  clear h
  have hsz : (Tryd.prog.info? 65).map (·.size) = some 26 := by kernel_rfl
  have Hsz := Lib.hid hsz
  clear hsz
  go_enter Tryd.func22, Tryd.ntmps22
  go_wp2_with (first
    | (refine wpL_storeA (n := 26) (N := 26) (V := spV S n) (f := spV zeroS 0) rfl 65 (.tmp 4) (.tmp 3) rfl 0 rfl rfl H.out (by omega) Hsz.out (spV_one zeroS 0) ?_; intro w2 ho2 hk2; have HO2 := Lib.hid ho2; have HK2 := Lib.hid (show SpAt w2 g zeroS 0 from hk2.same (over_whole _ _ _)); clear ho2 hk2))
  go_end0
  exact ⟨rfl, HO2.out, HK2.out⟩
/-- The pieces of a row: where each lies, its capacity, its bytes. -/
abbrev Piece := Option Addr × Nat × List UInt8
def pcV (p : Piece) : Value := .slice p.1 p.2.2.length p.2.1
def pcs (ps : List Piece) : List Value := ps.map pcV
def joinP (ps : List Piece) : List UInt8 := (ps.map fun p => p.2.2).flatten
theorem writeS_pieces (s : (Nat → BitVec 64) × Nat) (ps : List Piece) (k : Nat) (h : k < ps.length) : writeS s (joinP (ps.take (k + 1))) = writeS (writeS s (joinP (ps.take k))) ps[k].2.2 := by
  rw [List.take_succ_eq_append_getElem h]
  unfold joinP
  rw [List.map_append, List.flatten_append, writeS_append]
  simp
set_option maxHeartbeats 1000000 in
theorem sumF_calls (A : Option Addr) (c B : Nat) (ps : List Piece) (w : World) (hT : Tables w) (hl : ps.length ≤ 4611686018427387904) (hs : Seq w B A (pcs ps)) (hB : B ≤ w.heap.size)
    (hp : ∀ p ∈ ps, Seq w B p.1 (bytes p.2.2) ∧ p.2.2.length ≤ 4611686018427387904) :
    Calls Tryd.prog 25 #[.slice A ps.length c] w fun e w' => e = .returned (.agg (tab 32 (hashV (hashS (joinP ps))))) ∧ Below w.heap.size w w' := by
  have h2 := hT.size
  have HT := Lib.hid hT
  have HS := Lib.hid hs
  have HP := Lib.hid hp
  clear hT hs hp
  go_enter Tryd.func25, Tryd.ntmps25
  go_wp2_with (first
    | (refine wpL_alloc rfl 42 rfl (tab 32 fun _ => .int .u8 0) (by kernel_rfl) ?_)
    | (go_at_call 14; refine (new_calls _).mono ?_; rintro e w1 ⟨rfl, rfl⟩))
  go_loopw [9] (fun i wr => ∃ k : Nat, k ≤ ps.length ∧ i = .int .i64 k ∧ SpAt wr (w.heap.size + 1) (writeS (zeroS, 0) (joinP (ps.take k))).1 (writeS (zeroS, 0) (joinP (ps.take k))).2 ∧ Below w.heap.size w wr ∧ (∃ V, Blk wr w.heap.size 42 (tab 32 V))) (fun i _ => ps.length - (intOf i).toNat)
  case atStart =>
    exact ⟨0, by omega, rfl, Blk.new' _ _ _ (by simp), ((Below.refl _ _).alloc (Nat.le_refl _) _).alloc (by simp) _, ⟨_, (Blk.new w _ _).alloc _⟩⟩
  case round =>
    obtain ⟨k, hk, rfl, hA, hBl, ⟨V, hV⟩⟩ := hrel
    have hs1 := hBl.size
    have hTr := HT.out.below hBl h2
    have hm := writeS_lt (s := (zeroS, 0)) (by simp) (joinP (ps.take k))
    by_cases hlt : k < ps.length
    · have dk : decide ((k : Int) < (ps.length : Int)) = true := by simp; omega
      have lk : (k : Int) < (ps.length : Int) := by omega
      obtain ⟨ad, rfl, hadb, hcell⟩ := (HS.out.below hBl hB).at_ (k := k) (by simpa [pcs] using hlt)
      obtain ⟨hpb, hpl⟩ := HP.out _ (List.getElem_mem hlt)
      have hstep := writeS_pieces (zeroS, 0) ps k hlt
      have he : (pcs ps)[k]'(by simpa [pcs] using hlt) = .slice ps[k].1 ps[k].2.2.length ps[k].2.1 := by simp [pcs, pcV]
      rw [he] at hcell
      have hpr := hpb.below hBl hB
      have hpn : ∀ ad', ps[k].1 = some ad' → 0 < ps[k].2.2.length → ad'.block < B := fun ad' e hn => by
        obtain ⟨a2, e2, hb2, _⟩ := hpb (by rw [bytes_length]; exact hn)
        rw [e] at e2; injection e2 with e2; rw [e2]; exact hb2
      have hk' : k < ps.length := hlt
      generalize writeS (zeroS, 0) (joinP (ps.take k)) = T at *
      generalize ps[k] = pk at *
      obtain ⟨Ak, ck, lk'⟩ := pk
      obtain ⟨T, m⟩ := T
      simp only at hA hm hpr hpn hcell hpl hstep
      have hgl := Blk.lt hA
      have HA := Lib.hid hA
      have HB := Lib.hid hBl
      have HV := Lib.hid hV
      have HTr := Lib.hid hTr
      have Hstep := Lib.hid hstep
      have HPr := Lib.hid hpr
      have HPn := Lib.hid hpn
      clear hA hBl hV hTr hstep hpr hpn he hpb
      go_wp2_with fail
      refine (write_calls (w.heap.size + 1) m T Ak ck B lk' hm hpl (by omega) wr HA.out HTr.out HPr.out (by omega) (fun hn ad' e => by have := HPn.out ad' e hn; omega)).mono ?_
      rintro e w1 ⟨rfl, hg1, hA1⟩
      have HG1 := Lib.hid hg1
      have HA1 := Lib.hid hA1
      clear hg1 hA1
      go_wp2_with fail
      refine ⟨⟨k + 1, by omega, by go_num, ?_, HB.out.grown HG1.out hs1 (fun g hg => by injection hg with hg; omega), V, ?_⟩, by simp [intOf]; omega⟩
      · rw [Hstep.out]; exact HA1.out
      · exact (HG1.out.block _ HV.out.lt (by simp)).trans HV.out
    · have dk : decide ((k : Int) < (ps.length : Int)) = false := by simp; omega
      have He := Lib.hid (show k = ps.length by omega)
      have hA' := hA
      rw [He.out, List.take_length] at hA'
      have HA := Lib.hid hA'
      have HB := Lib.hid hBl
      have HV := Lib.hid hV
      have HTr := Lib.hid hTr
      rw [He.out, List.take_length] at hm
      clear hA hA' hBl hV hTr
      go_wp2_with fail
      refine (sumM_calls (w.heap.size + 1) _ _ hm wr HA.out HTr.out).mono ?_
      rintro e w1 ⟨rfl, hb1⟩
      have HB1 := Lib.hid hb1
      have HV1 := Lib.hid (HV.out.below hb1 HV.out.lt)
      clear hb1
      go_wp2_with (first
        | (refine wpL_store rfl 42 (.tmp 2) (.tmp 18) rfl 0 rfl rfl HV1.out (by omega) (by kernel_rfl) (fun _ => rfl) ?_))
      exact ret_cell rfl rfl _ (HV1.out.setRow.same (over_whole _ _ _)) Tryd.underlying42 rfl (by kernel_rfl) rfl ⟨rfl, below_setRow (HB.out.trans (HB1.out.mono hs1)) (by omega) _⟩
end Go.Proofs.YtfidjeoeaeghhaaDoor
