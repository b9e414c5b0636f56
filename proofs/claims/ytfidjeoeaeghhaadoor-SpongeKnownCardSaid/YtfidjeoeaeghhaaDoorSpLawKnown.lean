/- SpongeKnown: the hashes of three well-known texts, and Permute of no bits set. Conditions: none beyond the row's own (the two tables of package sponge read as the program's text lays them; the card ties them to it). -/
import Derived.Test.YtfidjeoeaeghhaaDoorSpHex
import Derived.Lib.SlBytesConst
import Derived.Test.YtfidjeoeaeghhaaDoorSpTables
import Derived.Test.YtfidjeoeaeghhaaDoorCards
import Derived.SevenTiedAt
namespace Go.Proofs.YtfidjeoeaeghhaaDoor
open Go.RowKit Go.ChangeShapes Go.WideShapes
def abcL : List UInt8 := [97, 98, 99]
def foxL : List UInt8 := [84, 104, 101, 32, 113, 117, 105, 99, 107, 32, 98, 114, 111, 119, 110, 32, 102, 111, 120, 32]
def dogL : List UInt8 := [106, 117, 109, 112, 115, 32, 111, 118, 101, 114, 32, 116, 104, 101, 32, 108, 97, 122, 121, 32, 100, 111, 103]
set_option maxHeartbeats 2000000 in
set_option maxRecDepth 10000 in
theorem knownLaw_walk (w : World) (hT : Tables w) : Calls Tryd.prog 9 #[] w fun e w' => e = .returned (.bool true) ∧ Below w.heap.size w w' := by
  have HT := Lib.hid hT
  have h2 := hT.size
  clear hT
  obtain ⟨E, hE⟩ : ∃ E, hashS [] = E := ⟨_, rfl⟩
  obtain ⟨Ab, hAb⟩ : ∃ E, hashS abcL = E := ⟨_, rfl⟩
  obtain ⟨Fo, hFo⟩ : ∃ E, hashS (foxL ++ dogL) = E := ⟨_, rfl⟩
  obtain ⟨PZ, hPZ⟩ : ∃ P, permS zeroS = P := ⟨_, rfl⟩
  have x1 := hexB_ok (h := E) (o := out_none) (s := ⟨#[99, 53, 100, 50, 52, 54, 48, 49, 56, 54, 102, 55, 50, 51, 51, 99, 57, 50, 55, 101, 55, 100, 98, 50, 100, 99, 99, 55, 48, 51, 99, 48, 101, 53, 48, 48, 98, 54, 53, 51, 99, 97, 56, 50, 50, 55, 51, 98, 55, 98, 102, 97, 100, 56, 48, 52, 53, 100, 56, 53, 97, 52, 55, 48]⟩) (by rw [← hE]; exact hash_none) (by decide +kernel)
  have x2 := hexB_ok (h := Ab) (o := out_abc) (s := ⟨#[52, 101, 48, 51, 54, 53, 55, 97, 101, 97, 52, 53, 97, 57, 52, 102, 99, 55, 100, 52, 55, 98, 97, 56, 50, 54, 99, 56, 100, 54, 54, 55, 99, 48, 100, 49, 101, 54, 101, 51, 51, 97, 54, 52, 97, 48, 51, 54, 101, 99, 52, 52, 102, 53, 56, 102, 97, 49, 50, 100, 54, 99, 52, 53]⟩) (by rw [← hAb]; exact hash_abc) (by decide +kernel)
  have x3 := hexB_ok (h := Fo) (o := out_fox) (s := ⟨#[52, 100, 55, 52, 49, 98, 54, 102, 49, 101, 98, 50, 57, 99, 98, 50, 97, 57, 98, 57, 57, 49, 49, 99, 56, 50, 102, 53, 54, 102, 97, 56, 100, 55, 51, 98, 48, 52, 57, 53, 57, 100, 51, 100, 57, 100, 50, 50, 50, 56, 57, 53, 100, 102, 54, 99, 48, 98, 50, 56, 97, 97, 49, 53]⟩) (by rw [← hFo]; exact hash_fox) (by decide +kernel)
  have z0 : u64 (PZ 0) = 17376452488221285863 := by rw [← hPZ, perm_z 0 (by omega)]; rfl
  have z1 : u64 (PZ 1) = 9571781953733019530 := by rw [← hPZ, perm_z 1 (by omega)]; rfl
  have c1 := fun W => hexed_calls E _ (by rfl) x1 W
  have c2 := fun W => hexed_calls Ab _ (by rfl) x2 W
  have c3 := fun W => hexed_calls Fo _ (by rfl) x3 W
  have HE := Lib.hid hE
  have HAb := Lib.hid hAb
  have HFo := Lib.hid hFo
  have HPZ := Lib.hid hPZ
  have C1 := Lib.hid c1
  have C2 := Lib.hid c2
  have C3 := Lib.hid c3
  clear hE hAb hFo hPZ x1 x2 x3 c1 c2 c3
  go_enter Tryd.func9, Tryd.ntmps9
  go_wp2_with fail
  refine (sumF_calls none 0 0 [] w HT.out (by simp) Seq.none_ (by omega) (by simp)).mono ?_
  rintro e w1 ⟨he, hb⟩
  rw [show joinP [] = [] from rfl, HE.out] at he
  subst he
  have HW_1 := Lib.hid hb
  have hs1 := hb.size
  clear hb
  go_wp2_with (first
    | (refine wpL_alloc rfl 42 rfl (tab 32 fun _ => .int .u8 0) (by kernel_rfl) ?_)
    | (refine wpL_storeA rfl 42 (.tmp 1) (.tmp 6) rfl 0 rfl rfl (Blk.new w1 _ _) (by omega) (by kernel_rfl) (fun _ => rfl) ?_; intro w2 ho hk; have hb := ho.below ((Below.refl w1.heap.size w1).alloc (Nat.le_refl _) _) (Nat.le_refl _); have hz2 := Nat.le_of_eq ho.size.symm; rw [size_alloc] at hz2; have HW_2 := Lib.hid (HW_1.out.trans (hb.mono (by omega))); have hs2 := hb.size; have HE_2 := Lib.hid (hk.same (over_whole _ _ _)); clear ho hk hb; clear  HW_1; have kc := fun (C : Array Value) (n c : Nat) => Lib.run_convert_bytes_const (P := Tryd.prog) w2 32 5 C n c Tryd.underlying32 Tryd.underlying5))
  generalize hw : (w2.alloc (.cells #[.int .u8 97, .int .u8 98, .int .u8 99] 5 (3, 4))).alloc (.cells #[.slice (some ⟨w2.heap.size, 0, none⟩) 3 3] 32) = w3
  have hb : Below w2.heap.size w2 w3 := by rw [← hw]; exact ((Below.refl _ _).alloc (Nat.le_refl _) _).alloc (by simp) _
  have hz3 : w2.heap.size + 2 ≤ w3.heap.size := by rw [← hw]; simp
  have s1 : Seq w3 w3.heap.size (some ⟨w2.heap.size + 1, 0, none⟩) (pcs [(some ⟨w2.heap.size, 0, none⟩, 3, abcL)]) := by
    refine Seq.of_row (t := 32) (fz := (0, 0)) ?_ (by omega)
    rw [← hw]
    have := row_new (w2.alloc (.cells #[.int .u8 97, .int .u8 98, .int .u8 99] 5 (3, 4))) (.cells #[.slice (some ⟨w2.heap.size, 0, none⟩) 3 3] 32)
    rw [size_alloc] at this
    exact this
  have s2 : Seq w3 w3.heap.size (some ⟨w2.heap.size, 0, none⟩) (bytes abcL) := by
    refine Seq.of_row (t := 5) (fz := (3, 4)) ?_ (by omega)
    rw [← hw, (Below.heap_alloc _ _ _ (by simp))]
    exact row_new w2 _
  clear hw
  have HE_3 := Lib.hid (HE_2.out.below hb (by omega))
  have HW_3 := Lib.hid (HW_2.out.trans (hb.mono (by omega)))
  have hs3 := hb.size
  clear hb kc
  clear HE_2 HW_2
  refine (sumF_calls (some ⟨w2.heap.size + 1, 0, none⟩) 1 w3.heap.size [(some ⟨w2.heap.size, 0, none⟩, 3, abcL)] w3 (HT.out.below HW_3.out h2) (by simp) s1 (Nat.le_refl _) (by intro p hp; simp at hp; subst hp; exact ⟨s2, by simp [abcL]⟩)).mono ?_
  rintro e w4 ⟨he, hb⟩
  rw [show joinP [(some ⟨w2.heap.size, 0, none⟩, 3, abcL)] = abcL from by simp [joinP], HAb.out] at he
  subst he
  clear s1 s2
  have HE_4 := Lib.hid (HE_3.out.below hb (by omega))
  have HW_4 := Lib.hid (HW_3.out.trans (hb.mono (by omega)))
  have hs4 := hb.size
  clear hb
  clear HE_3 HW_3
  go_wp2_with (first
    | (refine wpL_alloc rfl 42 rfl (tab 32 fun _ => .int .u8 0) (by kernel_rfl) ?_)
    | (refine wpL_storeA rfl 42 (.tmp 2) (.tmp 10) rfl 0 rfl rfl (Blk.new w4 _ _) (by omega) (by kernel_rfl) (fun _ => rfl) ?_; intro w5 ho hk; have hb := ho.below ((Below.refl w4.heap.size w4).alloc (Nat.le_refl _) _) (Nat.le_refl _); have hz5 := Nat.le_of_eq ho.size.symm; rw [size_alloc] at hz5; have HE_5 := Lib.hid (HE_4.out.below hb (by omega)); have HW_5 := Lib.hid (HW_4.out.trans (hb.mono (by omega))); have hs5 := hb.size; have HB_5 := Lib.hid (hk.same (over_whole _ _ _)); clear ho hk hb; clear HE_4 HW_4; have kc := fun (C : Array Value) (n c : Nat) => Lib.run_convert_bytes_const (P := Tryd.prog) w5 32 5 C n c Tryd.underlying32 Tryd.underlying5; have kd := fun (X : Obj) (C : Array Value) (n c : Nat) => (Lib.run_convert_bytes_const (P := Tryd.prog) (w5.alloc X) 32 5 C n c Tryd.underlying32 Tryd.underlying5); simp only [size_alloc] at kd))
  generalize hw : ((w5.alloc (.cells #[.int .u8 84, .int .u8 104, .int .u8 101, .int .u8 32, .int .u8 113, .int .u8 117, .int .u8 105, .int .u8 99, .int .u8 107, .int .u8 32, .int .u8 98, .int .u8 114, .int .u8 111, .int .u8 119, .int .u8 110, .int .u8 32, .int .u8 102, .int .u8 111, .int .u8 120, .int .u8 32] 5 (20, 21))).alloc (.cells #[.int .u8 106, .int .u8 117, .int .u8 109, .int .u8 112, .int .u8 115, .int .u8 32, .int .u8 111, .int .u8 118, .int .u8 101, .int .u8 114, .int .u8 32, .int .u8 116, .int .u8 104, .int .u8 101, .int .u8 32, .int .u8 108, .int .u8 97, .int .u8 122, .int .u8 121, .int .u8 32, .int .u8 100, .int .u8 111, .int .u8 103] 5 (23, 24))).alloc (.cells #[.slice (some ⟨w5.heap.size, 0, none⟩) 20 20, .slice (some ⟨w5.heap.size + 1, 0, none⟩) 23 23] 32) = w6
  have hb : Below w5.heap.size w5 w6 := by rw [← hw]; exact (((Below.refl _ _).alloc (Nat.le_refl _) _).alloc (by simp) _).alloc (by simp; omega) _
  have hz6 : w5.heap.size + 3 ≤ w6.heap.size := by rw [← hw]; simp
  have s1 : Seq w6 w6.heap.size (some ⟨w5.heap.size + 2, 0, none⟩) (pcs [(some ⟨w5.heap.size, 0, none⟩, 20, foxL), (some ⟨w5.heap.size + 1, 0, none⟩, 23, dogL)]) := by
    refine Seq.of_row (t := 32) (fz := (0, 0)) ?_ (by omega)
    rw [← hw]
    have := row_new ((w5.alloc (.cells #[.int .u8 84, .int .u8 104, .int .u8 101, .int .u8 32, .int .u8 113, .int .u8 117, .int .u8 105, .int .u8 99, .int .u8 107, .int .u8 32, .int .u8 98, .int .u8 114, .int .u8 111, .int .u8 119, .int .u8 110, .int .u8 32, .int .u8 102, .int .u8 111, .int .u8 120, .int .u8 32] 5 (20, 21))).alloc (.cells #[.int .u8 106, .int .u8 117, .int .u8 109, .int .u8 112, .int .u8 115, .int .u8 32, .int .u8 111, .int .u8 118, .int .u8 101, .int .u8 114, .int .u8 32, .int .u8 116, .int .u8 104, .int .u8 101, .int .u8 32, .int .u8 108, .int .u8 97, .int .u8 122, .int .u8 121, .int .u8 32, .int .u8 100, .int .u8 111, .int .u8 103] 5 (23, 24))) (.cells #[.slice (some ⟨w5.heap.size, 0, none⟩) 20 20, .slice (some ⟨w5.heap.size + 1, 0, none⟩) 23 23] 32)
    rw [size_alloc, size_alloc] at this
    exact this
  have s2 : Seq w6 w6.heap.size (some ⟨w5.heap.size, 0, none⟩) (bytes foxL) := by
    refine Seq.of_row (t := 5) (fz := (20, 21)) ?_ (by omega)
    rw [← hw, (Below.heap_alloc _ _ _ (by simp; omega)), (Below.heap_alloc _ _ _ (by simp))]
    exact row_new w5 _
  have s3 : Seq w6 w6.heap.size (some ⟨w5.heap.size + 1, 0, none⟩) (bytes dogL) := by
    refine Seq.of_row (t := 5) (fz := (23, 24)) ?_ (by omega)
    rw [← hw, (Below.heap_alloc _ _ _ (by simp))]
    have := row_new (w5.alloc (.cells #[.int .u8 84, .int .u8 104, .int .u8 101, .int .u8 32, .int .u8 113, .int .u8 117, .int .u8 105, .int .u8 99, .int .u8 107, .int .u8 32, .int .u8 98, .int .u8 114, .int .u8 111, .int .u8 119, .int .u8 110, .int .u8 32, .int .u8 102, .int .u8 111, .int .u8 120, .int .u8 32] 5 (20, 21))) (.cells #[.int .u8 106, .int .u8 117, .int .u8 109, .int .u8 112, .int .u8 115, .int .u8 32, .int .u8 111, .int .u8 118, .int .u8 101, .int .u8 114, .int .u8 32, .int .u8 116, .int .u8 104, .int .u8 101, .int .u8 32, .int .u8 108, .int .u8 97, .int .u8 122, .int .u8 121, .int .u8 32, .int .u8 100, .int .u8 111, .int .u8 103] 5 (23, 24))
    rw [size_alloc] at this
    exact this
  clear hw
  have HE_6 := Lib.hid (HE_5.out.below hb (by omega))
  have HB_6 := Lib.hid (HB_5.out.below hb (by omega))
  have HW_6 := Lib.hid (HW_5.out.trans (hb.mono (by omega)))
  have hs6 := hb.size
  clear hb kc kd
  clear HE_5 HB_5 HW_5
  refine (sumF_calls (some ⟨w5.heap.size + 2, 0, none⟩) 2 w6.heap.size [(some ⟨w5.heap.size, 0, none⟩, 20, foxL), (some ⟨w5.heap.size + 1, 0, none⟩, 23, dogL)] w6 (HT.out.below HW_6.out h2) (by simp) s1 (Nat.le_refl _) (by intro p hp; simp at hp; rcases hp with rfl | rfl; exact ⟨s2, by simp [foxL]⟩; exact ⟨s3, by simp [dogL]⟩)).mono ?_
  rintro e w7 ⟨he, hb⟩
  rw [show joinP [(some ⟨w5.heap.size, 0, none⟩, 20, foxL), (some ⟨w5.heap.size + 1, 0, none⟩, 23, dogL)] = foxL ++ dogL from by simp [joinP], HFo.out] at he
  subst he
  clear s1 s2 s3
  have HE_7 := Lib.hid (HE_6.out.below hb (by omega))
  have HB_7 := Lib.hid (HB_6.out.below hb (by omega))
  have HW_7 := Lib.hid (HW_6.out.trans (hb.mono (by omega)))
  have hs7 := hb.size
  clear hb
  clear HE_6 HB_6 HW_6
  go_wp2_with (first
    | (refine wpL_alloc rfl 42 rfl (tab 32 fun _ => .int .u8 0) (by kernel_rfl) ?_)
    | (refine wpL_storeA rfl 42 (.tmp 3) (.tmp 16) rfl 0 rfl rfl (Blk.new w7 _ _) (by omega) (by kernel_rfl) (fun _ => rfl) ?_; intro w8 ho hk; have hb := ho.below ((Below.refl w7.heap.size w7).alloc (Nat.le_refl _) _) (Nat.le_refl _); have hz8 := Nat.le_of_eq ho.size.symm; rw [size_alloc] at hz8; have HE_8 := Lib.hid (HE_7.out.below hb (by omega)); have HB_8 := Lib.hid (HB_7.out.below hb (by omega)); have HW_8 := Lib.hid (HW_7.out.trans (hb.mono (by omega))); have hs8 := hb.size; have HF_8 := Lib.hid (hk.same (over_whole _ _ _)); clear ho hk hb; clear HE_7 HB_7 HW_7)
    | (refine wpL_alloc rfl 23 rfl (tab 25 fun _ => .int .u64 0) (by kernel_rfl) ?_)
    | (refine wpL_load0 rfl 23 (.tmp 4) rfl rfl _ (V := lanes zeroS) (Blk.new w8 _ _) Tryd.underlying23 rfl (by kernel_rfl) ?_))
  have hb := (Below.refl w8.heap.size w8).alloc (Nat.le_refl _) (.cells (tab 25 fun _ => .int .u64 0) 23)
  generalize hw : w8.alloc (.cells (tab 25 fun _ => .int .u64 0) 23) = w9 at *
  have HE_9 := Lib.hid (HE_8.out.below hb (by omega))
  have HB_9 := Lib.hid (HB_8.out.below hb (by omega))
  have HF_9 := Lib.hid (HF_8.out.below hb (by omega))
  have HW_9 := Lib.hid (HW_8.out.trans (hb.mono (by omega)))
  have hs9 := hb.size
  clear hb hw
  clear HE_8 HB_8 HF_8 HW_8
  refine (permute_calls zeroS w9 (HT.out.below HW_9.out h2)).mono ?_
  rintro e w10 ⟨he, hb⟩
  rw [HPZ.out] at he
  subst he
  have HE_10 := Lib.hid (HE_9.out.below hb (by omega))
  have HB_10 := Lib.hid (HB_9.out.below hb (by omega))
  have HF_10 := Lib.hid (HF_9.out.below hb (by omega))
  have HW_10 := Lib.hid (HW_9.out.trans (hb.mono (by omega)))
  have hs10 := hb.size
  clear hb
  clear HE_9 HB_9 HF_9 HW_9
  go_wp2_with (first
    | (refine wpL_alloc rfl 23 rfl (tab 25 fun _ => .int .u64 0) (by kernel_rfl) ?_)
    | (refine wpL_storeA rfl 23 (.tmp 5) (.tmp 18) rfl 0 rfl rfl (Blk.new w10 _ _) (by omega) (by kernel_rfl) (fun _ => rfl) ?_; intro w11 ho hk; have hb := ho.below ((Below.refl w10.heap.size w10).alloc (Nat.le_refl _) _) (Nat.le_refl _); have hz11 := Nat.le_of_eq ho.size.symm; rw [size_alloc] at hz11; have HE_11 := Lib.hid (HE_10.out.below hb (by omega)); have HB_11 := Lib.hid (HB_10.out.below hb (by omega)); have HF_11 := Lib.hid (HF_10.out.below hb (by omega)); have HW_11 := Lib.hid (HW_10.out.trans (hb.mono (by omega))); have hs11 := hb.size; have HP_11 := Lib.hid (hk.same (over_whole _ _ _)); clear ho hk hb; clear HE_10 HB_10 HF_10 HW_10)
    | (refine wpL_load0 rfl 42 (.tmp 1) rfl rfl _ HE_11.out Tryd.underlying42 rfl (by kernel_rfl) ?_))
  refine (C1.out w11).mono ?_
  rintro e w12 ⟨rfl, hb⟩
  have HE_12 := Lib.hid (HE_11.out.below hb (by omega))
  have HB_12 := Lib.hid (HB_11.out.below hb (by omega))
  have HF_12 := Lib.hid (HF_11.out.below hb (by omega))
  have HP_12 := Lib.hid (HP_11.out.below hb (by omega))
  have HW_12 := Lib.hid (HW_11.out.trans (hb.mono (by omega)))
  have hs12 := hb.size
  clear hb
  clear HE_11 HB_11 HF_11 HP_11 HW_11
  go_wp2_with (first
    | (refine wpL_load0 rfl 42 (.tmp 2) rfl rfl _ HB_12.out Tryd.underlying42 rfl (by kernel_rfl) ?_))
  refine (C2.out w12).mono ?_
  rintro e w13 ⟨rfl, hb⟩
  have HE_13 := Lib.hid (HE_12.out.below hb (by omega))
  have HB_13 := Lib.hid (HB_12.out.below hb (by omega))
  have HF_13 := Lib.hid (HF_12.out.below hb (by omega))
  have HP_13 := Lib.hid (HP_12.out.below hb (by omega))
  have HW_13 := Lib.hid (HW_12.out.trans (hb.mono (by omega)))
  have hs13 := hb.size
  clear hb
  clear HE_12 HB_12 HF_12 HP_12 HW_12
  go_wp2_with (first
    | (refine wpL_load0 rfl 42 (.tmp 3) rfl rfl _ HF_13.out Tryd.underlying42 rfl (by kernel_rfl) ?_))
  refine (C3.out w13).mono ?_
  rintro e w14 ⟨rfl, hb⟩
  have HE_14 := Lib.hid (HE_13.out.below hb (by omega))
  have HB_14 := Lib.hid (HB_13.out.below hb (by omega))
  have HF_14 := Lib.hid (HF_13.out.below hb (by omega))
  have HP_14 := Lib.hid (HP_13.out.below hb (by omega))
  have HW_14 := Lib.hid (HW_13.out.trans (hb.mono (by omega)))
  have hs14 := hb.size
  clear hb
  clear HE_13 HB_13 HF_13 HP_13 HW_13
  have p0 := HP_14.out.at_ 0 (by omega)
  have p1 := HP_14.out.at_ 1 (by omega)
  simp only [lanes, z0, z1] at p0 p1
  go_wp2_with fail
  go_ret
  exact ⟨rfl, HW_14.out⟩
-- CARD
set_option maxRecDepth 100000 in
theorem spongeKnown_lifted (os : Os) (started : os.Started) (H : Type) (enc : TypeId × Value → H) :
    ReturnsInHanded {} Tryd.checked os 9 .any (fun w args => (Rows.spongeKnownSpec.pre enc Tryd.prog Tryd.f9 [] false w args ∧ laidMetH Tryd.prog seatLaid w) ∧ sizedMet enc Tryd.prog Tryd.f9 (OpenSpec.ofChange Rows.spongeKnownSpec) false w args)
      (Rows.spongeKnownSpec.post enc Tryd.prog Tryd.f9 false true false false) := by
  refine returnsInHanded_of_change_and (C := Tryd.checked) (X := fun w _ => laidMetH Tryd.prog seatLaid w) (fun _ _ _ hh h => h.of_heap hh) own started (by kernel_rfl) Tryd.func9
    (ChangeSpec.witness_shaped (enc := enc) (C := Tryd.checked) (os := os) (X := fun w _ => laidMetH Tryd.prog seatLaid w) false (World.laidAll Tryd.prog os seatLaid) #[] 8 (World.laidAll_os _ _ _)
      (World.shaped_of_ZipB (by kernel_rfl) (by kernel_rfl)) (by kernel_rfl) (by kernel_rfl) (by kernel_rfl)
      (by rw [MakeChecks.laidMetH_plain _ _ _ (by kernel_rfl)]; exact laidMet_laidAll _ (by kernel_rfl) (by kernel_rfl))) ?_
  intro W base args ds gs before hval0 hW _ hsz hL0 _
  rw [MakeChecks.laidMetH_plain _ _ _ (by kernel_rfl)] at hL0
  have hT := tables_of_laid hL0
  have hval : ∀ (j : Nat) t v, Tryd.f9.params[j]? = some t → args[j]? = some v → Value.okWide Tryd.prog W .any base t v := hval0
  have hW' := hW
  obtain ⟨p, q, hA0, hV, rfl, hfz, hnd⟩ := hW
  have hA : DataW.TrodAll enc Tryd.prog W 0 (fun _ => true) true Tryd.f9.params.toList args.toList ds p := hA0
  rw [Tryd.params9] at hA hval
  obtain ⟨hargs, rfl, rfl⟩ := trodAll_nil hA
  obtain rfl : args = #[] := by cases args; simp_all
  obtain ⟨rfl, rfl⟩ := trodVars_none hV
  clear hA0 hval0
  refine (knownLaw_walk W hT).mono fun e W' ⟨he, bel⟩ => ?_
  subst he
  exact ⟨_, rfl, _, _, _, [], _, [], hW', trodAll_mk1 (shut_bool Tryd.underlying4 _), trodAll_mk0, rfl, bel.frame _, fun h => by cases h⟩
theorem spongeKnown_holds : Rows.SpongeKnownSaid :=
  OpenClaim.holds_of_wide 9 Tryd.f9 rfl rfl rfl rfl rfl rfl rfl ⟨rfl, rfl, rfl, rfl, rfl⟩ rfl rfl rfl rfl rfl (by kernel_rfl) Tryd.func9 (by kernel_rfl)
    (of_decide_eq_true (by kernel_rfl)) (by unfold Func.isWrapper; first | (rw [if_pos (by decide +kernel)]; kernel_rfl) | (rw [if_neg (by decide +kernel)]; exact ⟨rfl, rfl⟩))
    (fun os started H enc _ => spongeKnown_lifted os started H enc)
theorem spongeKnown_card : Rows.SpongeKnownCardSaid :=
  Claim7.holds_tied_plain_at .later [] [.data, .data] true (true, "61dec8a95d45e6b6868d957416c283ac2aac3f2f7edc31fb2634f663520bf00b") false spongeKnown_holds (fun _ h => by cases h) (by kernel_rfl) (fun _ h => by cases h) spongeKnown_row_tie rfl ⟨rfl, rfl⟩ (by kernel_rfl) rfl
    (fun f fn hf hfn => by
      obtain rfl : f = 9 := Option.some.inj ((show Tryd.prog.funcNamed "vouch/vouchlaw2.SpongeKnown" = some 9 by kernel_rfl).symm.trans hf) |>.symm
      obtain rfl : fn = Tryd.f9 := (Option.some.inj (Tryd.func9.symm.trans hfn)).symm
      exact ⟨by kernel_rfl, fun j t ht => by
        rw [Tryd.params9] at ht
        have hm : t ∈ ([] : List TypeId) := by simpa using Array.mem_of_getElem? ht
        have hall : (([] : List TypeId).all fun u => !Tryd.prog.wantsStandIn u) = true := by kernel_rfl
        exact (show Tryd.prog.wantsStandIn t = false by simpa using List.all_eq_true.1 hall t hm)⟩)
    (by kernel_rfl)
end Go.Proofs.YtfidjeoeaeghhaaDoor
