/- What the laws ask first: a program that answers always the same isn't asked any further: this one isn't such. -/
import Derived.Test.YtfidjeoeaeghhaaDoorSpEval
import Derived.Test.YtfidjeoeaeghhaaDoorWordsB
namespace Go.Proofs.YtfidjeoeaeghhaaDoor
open Go.RowKit
def sameH (f h : Nat → UInt8) : Bool := (List.range 32).all fun i => f i == h i
theorem sameH_iff (f h : Nat → UInt8) : sameH f h = true ↔ ∀ i, i < 32 → f i = h i := by
  unfold sameH
  rw [List.all_eq_true]
  exact ⟨fun e i hi => by simpa using e i (by simpa using hi), fun e i hi => by simpa using e i (by simpa using hi)⟩
theorem by8_inj {a b : UInt8} (e : by8 a = by8 b) : a = b := by
  unfold by8 at e
  exact UInt8.toNat_inj.1 (by omega)
theorem eql_hash (f h : Nat → UInt8) (W : World) : (Op.equalIn 10000 42 (.agg (tab 32 (hashV f))) (.agg (tab 32 (hashV h)))).run Tryd.prog W = .ok (sameH f h) W := by
  refine (run_eql_tab (P := Tryd.prog) 9998 42 5 32 .u8 .u8 (fun i => by8 (f i)) (fun i => by8 (h i)) Tryd.underlying42 Tryd.underlying5 (by kernel_rfl) (by kernel_rfl) W).trans ?_
  congr 1
  rw [Bool.eq_iff_iff, decide_eq_true_iff, sameH_iff]
  exact forall_congr' fun i => forall_congr' fun _ => ⟨by8_inj, fun e => by rw [e]⟩
theorem guard_hash : Tryd.prog.eqGuardType Tryd.prog.depth 42 = false := by kernel_rfl
theorem hash_differ : sameH (hashS []) (hashS [0]) = false := by
  rw [Bool.eq_false_iff]
  intro h
  rw [sameH_iff] at h
  have h1 := h 0 (by omega)
  rw [hash_none 0 (by omega), hash_one 0 (by omega)] at h1
  revert h1
  decide +kernel
set_option maxHeartbeats 1000000 in
theorem known_calls (w : World) (hT : Tables w) : Calls Tryd.prog 26 #[] w fun e w' => e = .returned (.bool true) ∧ Below w.heap.size w w' := by
  have HT := Lib.hid hT
  have h2 := hT.size
  clear hT
  have heq := eql_hash (hashS []) (hashS [0])
  rw [hash_differ] at heq
  have hgd := guard_hash
  have h0 : by8 (hashS [] 0) = 197 := by rw [hash_none 0 (by omega)]; rfl
  have h1 : by8 (hashS [] 1) = 210 := by rw [hash_none 1 (by omega)]; rfl
  have h31 : by8 (hashS [] 31) = 112 := by rw [hash_none 31 (by omega)]; rfl
  obtain ⟨E, hE⟩ : ∃ E, hashS [] = E := ⟨_, rfl⟩
  obtain ⟨O, hO⟩ : ∃ O, hashS [0] = O := ⟨_, rfl⟩
  rw [hE, hO] at heq
  rw [hE] at h0 h1 h31
  have HE := Lib.hid hE
  have HO := Lib.hid hO
  clear hE hO
  go_enter Tryd.func26, Tryd.ntmps26
  go_wp2_with fail
  refine (sumF_calls none 0 0 [] w HT.out (by simp) Seq.none_ (by omega) (by simp)).mono ?_
  rintro e w1 ⟨he, hb1⟩
  rw [show joinP [] = [] from rfl, HE.out] at he
  subst he
  have HB1 := Lib.hid hb1
  have hs1 := hb1.size
  clear hb1
  go_wp2_with (first
    | (refine wpL_alloc rfl 42 rfl (tab 32 fun _ => .int .u8 0) (by kernel_rfl) ?_)
    | (refine wpL_storeA rfl 42 (.tmp 1) (.tmp 3) rfl 0 rfl rfl (Blk.new w1 _ _) (by omega) (by kernel_rfl) (fun _ => rfl) ?_; intro w2 ho2 hk2; have HO2 := Lib.hid ho2; have HK2 := Lib.hid (hk2.same (over_whole _ _ _)); clear ho2 hk2))
  have hsz2 := HO2.out.size
  simp only [size_alloc] at hsz2
  generalize hw3 : (w2.alloc (.cells #[.int .u8 0] 5)).alloc (.cells #[.slice (some ⟨w2.heap.size, 0, none⟩) 1 1] 32) = w3
  have hB3 : Below w2.heap.size w2 w3 := by rw [← hw3]; exact (((Below.refl _ _).alloc (Nat.le_refl _) _).alloc (by simp) _)
  have hs3 : w3.heap.size = w2.heap.size + 2 := by rw [← hw3]; simp
  have hS1 : Seq w3 (w2.heap.size + 2) (some ⟨w2.heap.size + 1, 0, none⟩) (pcs [(some ⟨w2.heap.size, 0, none⟩, 1, [0])]) := by
    rw [← hw3]
    have := Seq.one_new (w2.alloc (.cells #[.int .u8 0] 5)) (.slice (some ⟨w2.heap.size, 0, none⟩) 1 1) 32
    rw [size_alloc] at this
    exact this
  have hS0 : Seq w3 (w2.heap.size + 2) (some ⟨w2.heap.size, 0, none⟩) (bytes [0]) := by
    rw [← hw3]
    exact ((Seq.one_new w2 (.int .u8 0) 5).alloc (by simp) _).more (by omega)
  have HB2 := Lib.hid ((HO2.out.below (HB1.out.alloc hs1 _) hs1).trans (hB3.mono (by omega)))
  have HK3 := Lib.hid (show Blk w3 w1.heap.size 42 (tab 32 (hashV E)) from HK2.out.below hB3 (by omega))
  refine (sumF_calls (some ⟨w2.heap.size + 1, 0, none⟩) 1 (w2.heap.size + 2) [(some ⟨w2.heap.size, 0, none⟩, 1, [0])] w3 (HT.out.below HB2.out h2) (by simp) hS1 (by omega) (by intro p hp; simp at hp; subst hp; exact ⟨hS0, by simp⟩)).mono ?_
  rintro e w4 ⟨he, hb4⟩
  rw [show joinP [(some ⟨w2.heap.size, 0, none⟩, 1, [0])] = [0] from by simp [joinP], HO.out] at he
  subst he
  have HB4 := Lib.hid (HB2.out.trans (hb4.mono (by omega)))
  have HK4 := Lib.hid (HK3.out.below hb4 (by omega))
  have hs4 := hb4.size
  clear hb4 hw3 hB3 hS1 hS0
  clear HK2
  go_wp2_with (first
    | (refine wpL_alloc rfl 42 rfl (tab 32 fun _ => .int .u8 0) (by kernel_rfl) ?_)
    | (refine wpL_storeA rfl 42 (.tmp 2) (.tmp 6) rfl 0 rfl rfl (Blk.new w4 _ _) (by omega) (by kernel_rfl) (fun _ => rfl) ?_; intro w5 ho5 hk5; have HO5 := Lib.hid ho5; have HK5 := Lib.hid (hk5.same (over_whole _ _ _)); have HK6 := Lib.hid (ho5.blk (HK4.out.alloc _) (by omega)); clear ho5 hk5; have c0 := HK6.out.at_ 0 (by omega); have c1 := HK6.out.at_ 1 (by omega); have c31 := HK6.out.at_ 31 (by omega); simp only [hashV] at c0 c1 c31; rw [h0] at c0; rw [h1] at c1; rw [h31] at c31)
    | (refine wpL_loadW rfl 42 (.tmp 1) rfl (n := 32) 0 rfl _ HK6.out (by omega) Tryd.underlying42 rfl (by kernel_rfl) ?_)
    | (refine wpL_loadW rfl 42 (.tmp 2) rfl (n := 32) 0 rfl _ HK5.out (by omega) Tryd.underlying42 rfl (by kernel_rfl) ?_))
  have hs5 := HO5.out.size
  simp only [size_alloc] at hs5
  go_ret
  exact ⟨rfl, HO5.out.below (HB4.out.alloc (by omega) _) (by omega)⟩
end Go.Proofs.YtfidjeoeaeghhaaDoor
