/- able. -/
import Derived.Test.YtnghneoggiolgaaDoorRDecode
import Derived.Test.YtnghneoggiolgaaDoorREncode
import Derived.Test.YtnghneoggiolgaaDoorRSame
namespace Go.Proofs.YtnghneoggiolgaaDoor
open Go.RowKit
theorem ItemsAt.of_seq {w : World} {B : Nat} {A : Option Addr} {l : List ItemL} (h : Seq w B A (itemsC l)) : ItemsAt w B A l := fun j hj => by
  have hl := itemsC_length l
  obtain ⟨ad, e, hlt, hc⟩ := h (by omega)
  refine ⟨ad, e, hlt, fun i hi => ?_⟩
  rw [hc (j * 3 + i) (by omega), ← itemsC_get l j i hj hi, List.getElem?_eq_getElem (by omega)]
theorem RowIs.at_ {w : World} {base : Nat} {v : Value} {L : List SaidI} (h : RowIs w base v L) : ∃ A c, ∃ l : List ItemL, v = .slice A l.length c ∧ l.length = L.length ∧ l.map said = L ∧ ItemsAt w w.heap.size A l ∧ ∀ x ∈ l, Seq w w.heap.size x.2.2.1 (bytes x.2.2.2.2) := by
  obtain ⟨A, c, l, rfl, hl, h, ho⟩ := h
  have hlen : l.length = L.length := by rw [← hl, List.length_map]
  refine ⟨A, c, l, by rw [hlen], hlen, hl, ?_, fun x hx => (ho x hx).seq⟩
  rw [← hlen] at h
  exact ItemsAt.of_own h
def ableS : List SaidI := [(true, 2, []), (false, 0, [0x61]), (true, 0, [])]
theorem ableDec : decM [0xC2, 0x61, 0xC0] = (ableS, 0, 0) := by decide +kernel
theorem ableEnc (l : List ItemL) (h : l.map said = ableS) : encM l = some [0xC2, 0x61, 0xC0] := by
  match l, h with
  | [(b0, n0, A0, c0, l0), (b1, n1, A1, c1, l1), (b2, n2, A2, c2, l2)], h =>
    simp only [ableS, List.map_cons, List.map_nil, said, List.cons.injEq, Prod.mk.injEq, and_true] at h
    obtain ⟨⟨rfl, rfl, rfl⟩, ⟨rfl, rfl, rfl⟩, ⟨rfl, rfl, rfl⟩⟩ := h
    rfl
  | [], h => simp [ableS] at h
  | [_], h => simp [ableS] at h
  | [_, _], h => simp [ableS] at h
  | _ :: _ :: _ :: _ :: _, h => simp [ableS] at h
theorem copyR_calls (A : Option Addr) (c M : Nat) (l : List ItemL) (w : World) (hl : l.length ≤ 16777216) (hM : M ≤ 1099511627776) (hs : ItemsAt w w.heap.size A l) (hp : ∀ x ∈ l, x.2.2.2.2.length ≤ M ∧ Seq w w.heap.size x.2.2.1 (bytes x.2.2.2.2)) :
    Calls Tryd.prog 19 #[.slice A l.length c] w fun e w' => ∃ v, e = .returned v ∧ RowIs w' w.heap.size v (l.map said) ∧ Below w.heap.size w w' := by
  refine (copy_calls A c M l w hl hM hs hp).mono ?_
  rintro e w' ⟨A', c', l', rfl, hsd, ho, hi, hb⟩
  have hlen : (l.map said).length = l.length := by simp
  refine ⟨_, rfl, ⟨A', c', l', by rw [hlen], hsd, by rw [hlen]; exact ho, hi⟩, hb⟩
theorem encR_calls (A : Option Addr) (c M : Nat) (l : List ItemL) (out : List UInt8) (he : encM l = some out) (w : World) (hl : l.length ≤ 16777216) (hb : l.length * (M + 9) ≤ 1099511627776) (hs : ItemsAt w w.heap.size A l)
    (hp : ∀ x ∈ l, x.2.2.2.2.length ≤ M ∧ Seq w w.heap.size x.2.2.1 (bytes x.2.2.2.2)) :
    Calls Tryd.prog 20 #[.slice A l.length c] w fun e w' => ∃ (A' : Option Addr) (c' : Nat), e = .returned (.tuple #[.slice A' out.length c', .int .i64 0]) ∧ w'.ownsRow w.heap.size 5 1 (.slice A' out.length c') out.length (bytes out) ∧ Below w.heap.size w w' := by
  refine (encode_calls A c M l w hl hb hs hp).mono ?_
  rintro e w' ⟨h, hb⟩
  unfold encPost at h
  rw [he] at h
  obtain ⟨A', c', rfl, ho⟩ := h
  exact ⟨A', c', rfl, ho, hb⟩
theorem decR_calls (A : Option Addr) (c B : Nat) (b : List UInt8) (L : List SaidI) (n m : Nat) (hd : decM b = (L, n, m)) (w : World) (hl : b.length ≤ 1073741824) (hc : b.length ≤ c) (hB : B ≤ w.heap.size) (hs : Seq w B A (bytes b)) :
    Calls Tryd.prog 8 #[.slice A b.length c] w fun e w' => ∃ v, e = .returned (.tuple #[v, .int .i64 n, .int .i64 m]) ∧ RowIs w' w.heap.size v L ∧ Below w.heap.size w w' := by
  have := decode_calls A c B b w hl hc hB hs
  rw [hd] at this
  exact this
theorem said_len {l : List ItemL} {L : List SaidI} {M : Nat} (h : l.map said = L) (hL : ∀ s ∈ L, s.2.2.length ≤ M) : ∀ x ∈ l, x.2.2.2.2.length ≤ M := fun x hx => hL (said x) (by rw [← h]; exact List.mem_map_of_mem hx)
theorem samed_calls (A : Option Addr) (c B : Nat) (l : List UInt8) (A2 : Option Addr) (c2 B2 : Nat) (l2 : List UInt8) (w : World) (hs : Seq w B A (bytes l)) (hs2 : Seq w B2 A2 (bytes l2)) (he : l = l2) :
    Calls Tryd.prog 10 #[.slice A l.length c, .slice A2 l2.length c2] w fun e w' => e = .returned (.bool true) ∧ Below w.heap.size w w' := by
  refine (same_calls A c (max B B2) l A2 c2 l2 w (hs.more (Nat.le_max_left _ _)) (hs2.more (Nat.le_max_right _ _))).mono ?_
  rintro e w' ⟨rfl, hb⟩
  exact ⟨by rw [he]; simp, hb⟩
theorem samedR_calls (A : Option Addr) (c B : Nat) (l : List ItemL) (A2 : Option Addr) (c2 B2 : Nat) (m : List ItemL) (w : World) (hl : l.length ≤ 281474976710656) (hB : B ≤ w.heap.size) (hB2 : B2 ≤ w.heap.size) (hs : ItemsAt w B A l) (hp : ∀ x ∈ l, Seq w B x.2.2.1 (bytes x.2.2.2.2))
    (hs2 : ItemsAt w B2 A2 m) (hp2 : ∀ x ∈ m, Seq w B2 x.2.2.1 (bytes x.2.2.2.2)) (he : l.map said = m.map said) :
    Calls Tryd.prog 21 #[.slice A l.length c, .slice A2 m.length c2] w fun e w' => e = .returned (.bool true) ∧ Below w.heap.size w w' := by
  have hlm : l.length = m.length := by simpa using congrArg List.length he
  refine (sameR_calls A c B l A2 c2 B2 m w hl (by omega) hB hB2 hs hp hs2 hp2).mono ?_
  rintro e w' ⟨rfl, hb⟩
  exact ⟨by rw [decide_eq_true he], hb⟩
theorem abSeq (w : World) : Seq (w.alloc (.cells #[.int .u8 194, .int .u8 97, .int .u8 192] 5)) (w.heap.size + 1) (some ⟨w.heap.size, 0, none⟩) (bytes [0xC2, 0x61, 0xC0]) :=
  Seq.of_blk (xs := [.int .u8 194, .int .u8 97, .int .u8 192]) (Blk.new' _ _ _ rfl) (Nat.lt_succ_self _)
def ableL (g : Nat) : List ItemL := [(true, 2, none, 0, []), (false, 0, some ⟨g, 0, none⟩, 1, [0x61]), (true, 0, none, 0, [])]
abbrev ableW (w : World) : World := (w.alloc (.cells #[.int .u8 97] 5)).alloc (.cells #[.bool true, .int .i64 2, .slice none 0 0, .bool false, .int .i64 0, .slice (some ⟨w.heap.size, 0, none⟩) 1 1, .bool true, .int .i64 0, .slice none 0 0] 34)
theorem ableW_size (w : World) : (ableW w).heap.size = w.heap.size + 2 := by unfold ableW; rw [size_alloc, size_alloc]
theorem ableW_items (w : World) : ItemsAt (ableW w) (w.heap.size + 2) (some ⟨w.heap.size + 1, 0, none⟩) (ableL w.heap.size) :=
  ItemsAt.of_seq (Seq.of_blk (xs := itemsC (ableL w.heap.size)) (Blk.new' _ _ _ (by rw [size_alloc])) (by omega))
theorem ableW_seq (w : World) : ∀ x ∈ ableL w.heap.size, x.2.2.2.2.length ≤ 16 ∧ Seq (ableW w) (w.heap.size + 2) x.2.2.1 (bytes x.2.2.2.2) := by
  intro x hx
  simp only [ableL, List.mem_cons, List.not_mem_nil, or_false] at hx
  rcases hx with rfl | rfl | rfl
  · exact ⟨by simp, Seq.none_⟩
  · exact ⟨by simp, Seq.of_blk (xs := [.int .u8 97]) (Blk.alloc (Blk.new w _ _) _) (by omega)⟩
  · exact ⟨by simp, Seq.none_⟩
set_option maxHeartbeats 4000000 in
set_option maxRecDepth 20000 in
theorem able_calls (w : World) : Calls Tryd.prog 6 #[] w fun e w' => e = .returned (.bool true) ∧ Below w.heap.size w w' := by
  have hZ := ableW_size w
  have HI := Lib.hid (ableW_items w)
  have HQ := Lib.hid (ableW_seq w)
  have HB0 := Lib.hid (show Below w.heap.size w (ableW w) from ((Below.refl w.heap.size w).alloc (Nat.le_refl _) _).alloc (by rw [size_alloc]; omega) _)
  have HZ := Lib.hid hZ
  clear hZ
  go_enter Tryd.func6, Tryd.ntmps6
  go_wp2_with (first
    | (go_at_call 19; refine (copyR_calls (some ⟨w.heap.size + 1, 0, none⟩) 3 16 (ableL w.heap.size) (ableW w) (by simp [ableL]) (by omega) (by rw [HZ.out]; exact HI.out) (fun x hx => by rw [HZ.out]; exact HQ.out x hx)).mono ?_; rintro e1 w1 ⟨v1, rfl, hr1, hb1⟩; obtain ⟨A1, c1, l1, rfl, hn1, hs1, ha1, hq1⟩ := hr1.at_; have hz1 := hb1.size; rw [HZ.out] at hz1; have HN1 := Lib.hid hn1; have HS1 := Lib.hid hs1; have HA1 := Lib.hid ha1; have HQ1 := Lib.hid hq1; have HB1 := Lib.hid hb1; clear hr1 hn1 hs1 ha1 hq1 hb1)
    | (go_at_call 20; refine (encR_calls A1 c1 16 l1 [0xC2, 0x61, 0xC0] (ableEnc l1 HS1.out) w1 (by rw [HN1.out]; simp [ableL]) (by rw [HN1.out]; simp [ableL]) HA1.out (fun x hx => ⟨said_len HS1.out (by simp [ableL, said]) x hx, HQ1.out x hx⟩)).mono ?_; rintro e1 w2 ⟨A2, c2, rfl, ho2, hb2⟩; have hz2 := hb2.size; have HO2 := Lib.hid ho2; have HB2 := Lib.hid hb2; clear ho2 hb2)
    | (go_at_call 8; refine (decR_calls (some ⟨w2.heap.size, 0, none⟩) 3 _ [0xC2, 0x61, 0xC0] ableS 0 0 ableDec _ (by simp) (by simp) (by rw [size_alloc]; exact Nat.le_refl _) (abSeq w2)).mono ?_; rintro e1 w3 ⟨v3, rfl, hr3, hb3⟩; obtain ⟨A3, c3, l3, rfl, hn3, hs3, ha3, hq3⟩ := hr3.at_; have hz3 := hb3.size; rw [size_alloc] at hz3; have HO3 := Lib.hid (own_below' (own_alloc HO2.out _) hb3); have HN3 := Lib.hid hn3; have HS3 := Lib.hid hs3; have HA3 := Lib.hid ha3; have HQ3 := Lib.hid hq3; have HB3 := Lib.hid hb3; clear hr3 hn3 hs3 ha3 hq3 hb3)
    | (go_at_call 10; refine (samed_calls A2 c2 _ [0xC2, 0x61, 0xC0] (some ⟨w3.heap.size, 0, none⟩) 3 _ [0xC2, 0x61, 0xC0] _ (Seq.of_own (own_alloc HO3.out _)) (abSeq w3) rfl).mono ?_; rintro e1 w4 ⟨rfl, hb4⟩; have hz4 := hb4.size; rw [size_alloc] at hz4; have hb34 := ((Below.refl w3.heap.size w3).alloc (Nat.le_refl _) _).trans (hb4.mono (by rw [size_alloc]; omega)); have hb04 := ((HB1.out.trans (HB2.out.mono (by rw [HZ.out]; omega))).trans ((((Below.refl w2.heap.size w2).alloc (Nat.le_refl _) _).trans (HB3.out.mono (by rw [size_alloc]; omega))).mono (by rw [HZ.out]; omega))).trans (hb34.mono (by rw [HZ.out]; omega)); have HB34 := Lib.hid hb34; have HB04 := Lib.hid hb04; clear hb4 hb34 hb04)
    | (go_at_call 21; refine (samedR_calls A3 c3 w3.heap.size l3 (some ⟨w.heap.size + 1, 0, none⟩) 3 (w.heap.size + 2) (ableL w.heap.size) w4 (by rw [HN3.out]; simp [ableS]) (by omega) (by omega) (HA3.out.below HB34.out (Nat.le_refl _)) (fun x hx => (HQ3.out x hx).below HB34.out (Nat.le_refl _)) (HI.out.below HB04.out (by rw [HZ.out]; exact Nat.le_refl _)) (fun x hx => (HQ.out x hx).2.below HB04.out (by rw [HZ.out]; exact Nat.le_refl _)) HS3.out).mono ?_; rintro e1 w5 ⟨rfl, hb5⟩; have HB5 := Lib.hid hb5; clear hb5)
    )
  go_ret
  exact ⟨rfl, HB0.out.trans ((HB04.out.mono (by rw [HZ.out]; omega)).trans (HB5.out.mono (by omega)))⟩
end Go.Proofs.YtnghneoggiolgaaDoor
