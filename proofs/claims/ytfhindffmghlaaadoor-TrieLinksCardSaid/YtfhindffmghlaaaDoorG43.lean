/- The document's small functions: own, nibble, told, end, part. -/
import Derived.Test.YtfhindffmghlaaaDoorG20
import Derived.Test.YtfhindffmghlaaaDoorG23
import Derived.Deep.CutRange
import Derived.Test.YtfhindffmghlaaaDoorG15
import Derived.Deep.RegionLaw
import Derived.Test.YtfhindffmghlaaaDoorG21
set_option linter.unusedVariables false
set_option linter.unusedSimpArgs false
namespace Go.Proofs.YtfhindffmghlaaaDoor
open Go.RowKit It
theorem refOwn_calls (A : Option Addr) (c B : Nat) (l : List UInt8) (w : World) (hl : l.length ≤ 140737488355328) (hs : Seq w B A (bytes l)) : Calls Tryd.prog 90 #[.slice A l.length c] w (Fresh w l) := by
  have HS := Lib.hid hs
  clear hs
  go_enter Tryd.func90, Tryd.ntmps90
  go_wp2_with (first
    | (at_builtin; refine wpL_append rfl (.tmp 4) (.tmp 5) 24 rfl elByte rfl (World.ownsRow_nil w w.heap.size 5 1) rfl (by rw [bytes_length]; simp) HS.out (bytes_one l) (by unfold maxLen; omega) (by omega) (Nat.le_refl _) ?_; intro A1 c1 w1 ho1 hg1 _; simp only [Nat.zero_add, List.nil_append] at ho1; have HO1 := Lib.hid ho1; have HB1 := Lib.hid ((Below.refl w.heap.size w).grown hg1 (Nat.le_refl _) (fun g hg => by simp [Value.ownBlock] at hg)); clear ho1 hg1)
    | fail)
  go_ret
  exact ⟨A1, c1, by simp, HO1.out, HB1.out⟩
theorem nib_at : ∀ (key : List UInt8) (i : Nat) (h : i < key.length), (nib key).getD (2 * i) 0 = key[i] >>> 4 ∧ (nib key).getD (2 * i + 1) 0 = key[i] &&& 15
  | [], _, h => absurd h (by simp)
  | x :: r, 0, _ => ⟨rfl, rfl⟩
  | x :: r, i + 1, h => by
    have e : nib (x :: r) = (x >>> 4) :: (x &&& 15) :: nib r := rfl
    obtain ⟨h1, h2⟩ := nib_at r i (by simpa using h)
    rw [e, show 2 * (i + 1) = (2 * i) + 1 + 1 by omega]
    simp only [List.getD_cons_succ, List.getElem_cons_succ]
    exact ⟨h1, h2⟩
theorem half_hi : ∀ x : UInt8, (x >>> 4).toNat = x.toNat / 16 := by
  have : ∀ n : Fin 256, (UInt8.ofNat n.val >>> 4).toNat = n.val / 16 := by decide +kernel
  intro x
  have h := this ⟨x.toNat, x.toNat_lt⟩
  simpa using h
theorem half_lo : ∀ x : UInt8, (x &&& 15).toNat = x.toNat % 16 := by
  have : ∀ n : Fin 256, (UInt8.ofNat n.val &&& 15).toNat = n.val % 16 := by decide +kernel
  intro x
  have h := this ⟨x.toNat, x.toNat_lt⟩
  simpa using h
set_option maxHeartbeats 2000000 in
set_option maxRecDepth 20000 in
theorem nibble_calls (A : Option Addr) (c B : Nat) (key : List UInt8) (i : Nat) (w : World) (hl : key.length ≤ 140737488355328) (hs : Seq w B A (bytes key)) (hi : i < 2 * key.length) :
    Calls Tryd.prog 73 #[.slice A key.length c, .int .i64 i] w (fun e w' => e = .returned (.int .i64 (((nib key).getD i 0).toNat : Nat)) ∧ w = w') := by
  obtain ⟨k, hk⟩ : ∃ k, i / 2 = k := ⟨_, rfl⟩
  have hkl : k < key.length := by omega
  obtain ⟨ad, rfl, _, q0⟩ := hs.byte k hkl
  obtain ⟨h1, h2⟩ := nib_at key k hkl
  have e1 := half_hi key[k]
  have e2 := half_lo key[k]
  rw [← h1] at e1
  rw [← h2] at e2
  generalize key[k] = x at q0 e1 e2
  have hx := x.toNat_lt
  replace q0 : w.cell? (ad.add k) = some (.int .u8 (x.toNat : Int)) := q0
  generalize x.toNat = X at *
  have lk : (k : Int) < (key.length : Int) := by omega
  have eq2 : (i : Int) / 2 = (k : Int) := by omega
  have ew : IntKind.i64.wrap (X : Int) = (X : Int) := IntWalk.i64_in _ (by omega)
  have et : (X : Int).tdiv 16 = ((X / 16 : Nat) : Int) := by rw [Int.tdiv_eq_ediv_of_nonneg (by omega)]; omega
  have em : (X : Int).tmod 16 = ((X % 16 : Nat) : Int) := by rw [Int.tmod_eq_emod_of_nonneg (by omega)]; omega
  have ewd : IntKind.i64.wrap ((X / 16 : Nat) : Int) = ((X / 16 : Nat) : Int) := IntWalk.i64_in _ (by omega)
  have ewm : IntKind.i64.wrap ((X % 16 : Nat) : Int) = ((X % 16 : Nat) : Int) := IntWalk.i64_in _ (by omega)
  clear hs h1 h2
  by_cases hp : i % 2 = 0
  · have d1 : ((i : Int) % 2 == 0) = true := by rw [beq_iff_eq]; omega
    have d2 : (i : Int) % 2 = 0 := by omega
    rw [show 2 * k = i by omega] at e1
    have HE := Lib.hid e1
    clear e1 e2
    go_enter Tryd.func73, Tryd.ntmps73
    go_wp2_with fail
    go_ret
    rw [HE.out]
    exact ⟨rfl, rfl⟩
  · have d1 : ((i : Int) % 2 == 0) = false := by rw [beq_eq_false_iff_ne]; omega
    have d2 : (i : Int) % 2 = 1 := by omega
    rw [show 2 * k + 1 = i by omega] at e2
    have HE := Lib.hid e2
    clear e1 e2
    go_enter Tryd.func73, Tryd.ntmps73
    go_wp2_with fail
    go_ret
    rw [HE.out]
    exact ⟨rfl, rfl⟩
theorem told_none (A : Option Addr) (c : Nat) (v : List UInt8) (u n : Nat) (A2 : Option Addr) (c2 : Nat) (w : World) (h : u < n) :
    Calls Tryd.prog 70 #[.slice A v.length c, .int .i64 u, .slice A2 n c2] w (CheckPost w none) := by
  have d : decide ((u : Int) < (n : Int)) = true := decide_eq_true (by omega)
  go_enter Tryd.func70, Tryd.ntmps70
  go_wp2_with fail
  try rw [Exit.noGoto_ret]
  exact bodyPost_ret (results_tmp3 rfl _ _ _) rfl ⟨rfl, Below.refl _ _⟩
theorem told_some (A : Option Addr) (c B : Nat) (v : List UInt8) (u n : Nat) (A2 : Option Addr) (c2 : Nat) (w : World) (hl : v.length ≤ 140737488355328) (hs : Seq w B A (bytes v)) (h : ¬ u < n) :
    Calls Tryd.prog 70 #[.slice A v.length c, .int .i64 u, .slice A2 n c2] w (CheckPost w (some v)) := by
  have HS := Lib.hid hs
  have d : decide ((u : Int) < (n : Int)) = false := decide_eq_false (by omega)
  clear hs
  go_enter Tryd.func70, Tryd.ntmps70
  go_wp2_with (first
    | (go_at_call 90; (refine (refOwn_calls A c B v w hl HS.out).mono ?_; rintro e1 w1 ⟨A1, c1, rfl, ho1, hb1⟩; have HO1 := Lib.hid ho1; have HB1 := Lib.hid hb1; clear ho1 hb1))
    | fail)
  try rw [Exit.noGoto_ret]
  refine bodyPost_ret (results_tmp3 rfl _ _ _) rfl ?_
  refine ⟨A1, c1, ?_, HO1.out, HB1.out⟩
  rw [show (!v.isEmpty) = decide (0 < v.length) from by cases v <;> simp]
  rfl
set_option maxHeartbeats 4000000 in
set_option maxRecDepth 20000 in
theorem end_calls (ad : Addr) (c : Nat) (its : List ItemL) (w : World) (P N : Nat) (it : It) (hIt : ItemsAt w w.heap.size (some ad) its) (hl : its.length ≤ 524288) (hPN : P + N ≤ its.length) (hN : it.flat.length = N) (hs : ((its.map said).drop P).take N = it.flat) :
    Calls Tryd.prog 96 #[.slice (some ad) its.length c, .int .i64 P] w (fun e w' => e = .returned (.int .i64 ((P + N : Nat) : Int)) ∧ w = w') := by
  have hdu := due_it it
  have hcn := flat_counts it
  have hfp := flat_pos it
  have HIt := Lib.hid hIt
  have HS := Lib.hid hs
  have HN := Lib.hid hN
  have HDu := Lib.hid hdu
  have HCn := Lib.hid hcn
  have hN0 : 0 < N := by omega
  clear hIt hs hN hdu hcn hfp
  go_enter Tryd.func96, Tryd.ntmps96
  go_wp2_with fail
  go_loopw [1, 5] (fun va vd wr => (∃ j : Nat, j ≤ N ∧ va = .int .i64 ((P + j : Nat) : Int) ∧ vd = .int .i64 (1 + dueF (it.flat.take j))) ∧ w = wr) (fun va _ _ => its.length - (intOf va).toNat)
  case atStart => exact ⟨⟨0, by omega, rfl, rfl⟩, rfl⟩
  case round =>
    obtain ⟨⟨j, hj, rfl, rfl⟩, rfl⟩ := hrel
    by_cases hj2 : j < N
    · have hlt3 : P + j < its.length := by omega
      obtain ⟨a2, e2, hlt4, -, hc1, -⟩ := HIt.out.get (P + j) hlt3
      obtain rfl : ad = a2 := Option.some.inj e2
      have hjl : j < it.flat.length := by rw [HN.out]; exact hj2
      have hsd : said its[P + j] = it.flat[j] := by
        have h1 : (((its.map said).drop P).take N)[j]? = some (said its[P + j]) := by
          rw [List.getElem?_take_of_lt hj2, List.getElem?_drop, List.getElem?_map, List.getElem?_eq_getElem hlt3]
          rfl
        rw [HS.out, List.getElem?_eq_getElem hjl] at h1
        exact (Option.some.inj h1).symm
      have hcc : its[P + j].2.1 = it.flat[j].2.1 := by rw [← hsd]; rfl
      have hc2 := HCn.out _ (List.getElem_mem hjl)
      rw [← hcc, HN.out] at hc2
      have hD1 := HDu.out.2 j hjl
      have hD2 := dueF_le (L := it.flat.take j) (M := N) (fun s hs => by have := (HCn.out s (List.mem_of_mem_take hs)).2; rw [HN.out] at this; exact this)
      have hD3 : dueF (it.flat.take (j + 1)) = dueF (it.flat.take j) + (its[P + j].2.1 - 1) := by
        rw [List.take_succ_eq_append_getElem hjl, dueF_append, hcc]
        simp [dueF]
      have hD4 : (it.flat.take j).length * N ≤ 524288 * 524288 := Nat.mul_le_mul (by rw [List.length_take]; omega) (by omega)
      have HD3 := Lib.hid hD3
      generalize its[P + j].2.1 = cnt at *
      generalize dueF (it.flat.take j) = D at *
      have dd : decide (1 + D > 0) = true := decide_eq_true (by omega)
      have hD5 : D ≤ 274877906944 := by omega
      have lj : ((P + j : Nat) : Int) < (its.length : Int) := by omega
      clear hsd hcc hD3 hD2 hD4
      go_wp2_with fail
      exact ⟨⟨⟨j + 1, by omega, by go_num, by rw [HD3.out]; congr 1; omega⟩, trivial⟩, by simp [intOf]; omega⟩
    · have ejN : N = j := by omega
      subst ejN
      have hD : dueF (it.flat.take N) = -1 := by rw [← HN.out, List.take_length]; exact HDu.out.1
      rw [hD]
      go_wp2_with fail
      go_ret
      exact ⟨rfl, rfl⟩
attribute [local irreducible] Calls in
set_option maxHeartbeats 4000000 in
set_option maxRecDepth 20000 in
theorem part_calls (v : Value) (xs : List It) (k : Nat) (w : World) (h : ItAt w v (.list xs)) (hk : k < xs.length) :
    Calls Tryd.prog 72 #[v, .int .i64 k] w (fun e w' => (∃ u, e = .returned u ∧ ItAt w u xs[k]) ∧ w = w') := by
  obtain ⟨A, c, its, rfl, hc, hm, hs, hq, hby, hl, hbl, hcp⟩ := h
  have hfl : its.length = 1 + (flats xs).length := by have := congrArg List.length hs; simp [It.flat] at this; omega
  have hxl := flats_length_le xs
  have hIt := ItemsAt.of_seq hq.seq
  obtain ⟨ad, rfl, hlt, -, -, -⟩ := hIt.get 0 (by omega)
  unfold maxLen at hm
  have hdt : ∀ i (hi : i < xs.length), ((its.map said).drop (1 + (flats (xs.take i)).length)).take xs[i].flat.length = xs[i].flat ∧ (1 + (flats (xs.take i)).length) + xs[i].flat.length ≤ its.length := fun i hi => by
    have hft := flats_take xs i hi
    have hln := congrArg List.length hft
    rw [List.length_append, List.length_append] at hln
    refine ⟨?_, by omega⟩
    rw [hs, It.flat, show 1 + (flats (xs.take i)).length = (flats (xs.take i)).length + 1 by omega, List.drop_succ_cons, hft, List.drop_left, List.take_left]
  have hend : ∀ i (hi : i < xs.length), _ := fun i hi => end_calls ad c its w (1 + (flats (xs.take i)).length) xs[i].flat.length xs[i] hIt hl (hdt i hi).2 rfl (hdt i hi).1
  have hnx : ∀ i (hi : i < xs.length), 1 + (flats (xs.take (i + 1))).length = 1 + (flats (xs.take i)).length + xs[i].flat.length := fun i hi => by
    rw [flats_take_succ xs i hi, List.length_append]
    omega
  have hfin : ItAt w (.slice (some (ad.add ((1 + (flats (xs.take k)).length) * 3))) xs[k].flat.length (c - (1 + (flats (xs.take k)).length))) xs[k] := sub_it hq hc (by unfold maxLen; omega) hby hl hbl hcp (hdt k hk).2 (hdt k hk).1
  have hfin2 := (hdt k hk).2
  have hpos := flat_pos xs[k]
  have HEnd := Lib.hid hend
  have HNx := Lib.hid hnx
  have HFin := Lib.hid hfin
  have HDt := Lib.hid hdt
  have hfl1 : its.length ≤ 1 + (flats xs).length := by omega
  have hk5 : k < 524288 := by omega
  clear hdt hend hnx hfin hs hq hby hbl hcp hIt hlt hfl
  go_enter Tryd.func72, Tryd.ntmps72
  go_wp2_with fail
  go_loopw [5, 6] (fun va vi wr => (∃ i P : Nat, i ≤ k ∧ vi = .int .i64 i ∧ va = .int .i64 (P : Int) ∧ P = 1 + (flats (xs.take i)).length) ∧ w = wr) (fun _ vi _ => k - (intOf vi).toNat)
  case atStart => exact ⟨⟨0, 1, by omega, rfl, rfl, by simp [flats]⟩, rfl⟩
  case round =>
    obtain ⟨⟨i, P, hi, rfl, rfl, hP⟩, rfl⟩ := hrel
    by_cases hlt : i < k
    · have di : decide ((i : Int) < (k : Int)) = true := decide_eq_true (by omega)
      have di2 : decide (i < k) = true := decide_eq_true hlt
      have hix : i < xs.length := by omega
      have hc1 := HEnd.out i hix
      have hn1 := HNx.out i hix
      rw [← hP] at hc1 hn1
      generalize xs[i].flat.length = N at hc1 hn1
      have HC1 := Lib.hid hc1
      have HN1 := Lib.hid hn1
      clear hc1 hn1 hP
      go_wp2_with (first
        | (go_at_call 96; (refine HC1.out.mono ?_; rintro e1 w1 ⟨rfl, rfl⟩))
        | fail)
      exact ⟨⟨⟨i + 1, P + N, by omega, by go_num, rfl, HN1.out.symm⟩, trivial⟩, by simp [intOf]; omega⟩
    · have di : decide ((i : Int) < (k : Int)) = false := decide_eq_false (by omega)
      have di2 : decide (i < k) = false := decide_eq_false hlt
      obtain rfl : i = k := by omega
      have hc1 := HEnd.out i hk
      have hfi := HFin.out
      rw [← hP] at hc1 hfi hfin2
      generalize xs[i].flat.length = N at *
      have HC1 := Lib.hid hc1
      have HFi := Lib.hid hfi
      clear hc1 HEnd HNx HDt HFin hfi hP
      have lP : (P : Int) ≤ (c : Int) := by omega
      have lPN : ((P + N : Nat) : Int) ≤ (c : Int) := by omega
      have hcP : ¬ c = P := by omega
      go_wp2_with (first
        | (go_at_call 96; (refine HC1.out.mono ?_; rintro e1 w1 ⟨rfl, rfl⟩))
        | fail)
      go_ret
      exact ⟨⟨.slice (some (ad.add (P * 3))) (P + N - P) (c - P), rfl, by rw [Nat.add_sub_cancel_left]; exact HFi.out⟩, rfl⟩
end Go.Proofs.YtfhindffmghlaaaDoor
/- The document's path and shape. -/
namespace Go.Proofs.YtfhindffmghlaaaDoor
open Go.RowKit It
/-- Nibbles as numbers. -/
def numU (l : List UInt8) : List Value := nums (l.map (·.toNat))
theorem numU_append (a b : List UInt8) : numU (a ++ b) = numU a ++ numU b := by simp [numU, nums]
theorem numU_length (l : List UInt8) : (numU l).length = l.length := by simp [numU, nums]
theorem numU_one (l : List UInt8) : ∀ u ∈ numU l, u.oneCell' = true := fun u hu => by
  simp only [numU, nums, List.map_map, List.mem_map] at hu
  obtain ⟨_, _, rfl⟩ := hu
  rfl
theorem bit16 : ∀ x : UInt8, (x &&& 16 = 0) ↔ x.toNat / 16 % 2 = 0 := by
  have : ∀ n : Fin 256, (UInt8.ofNat n.val &&& 16 = 0) ↔ n.val / 16 % 2 = 0 := by decide +kernel
  intro x
  have h := this ⟨x.toNat, x.toNat_lt⟩
  simpa using h
theorem mark32 : ∀ x : UInt8, (x >>> 5).toNat = x.toNat / 32 := by
  have : ∀ n : Fin 256, (UInt8.ofNat n.val >>> 5).toNat = n.val / 32 := by decide +kernel
  intro x
  have h := this ⟨x.toNat, x.toNat_lt⟩
  simpa using h
/-- What path answers. -/
def PathPost (w : World) (r : Option (List UInt8 × UInt8)) (e : Ending) (w' : World) : Prop := match r with
  | none => e = .returned (.tuple #[.slice none 0 0, .int .i64 0, .bool false]) ∧ Below w.heap.size w w'
  | some (p, m) => ∃ (A : Option Addr) (c : Nat), e = .returned (.tuple #[.slice A p.length c, .int .i64 (m.toNat : Nat), .bool true]) ∧ w'.ownsRow w.heap.size 3 1 (.slice A p.length c) p.length (numU p) ∧ Below w.heap.size w w'
set_option maxHeartbeats 4000000 in
set_option maxRecDepth 20000 in
theorem path_calls (A : Option Addr) (c : Nat) (b : List UInt8) (w : World) (hl : b.length ≤ 1073741824) (hs : Seq w w.heap.size A (bytes b)) :
    Calls Tryd.prog 74 #[.slice A b.length c] w (PathPost w (readT b)) := by
  have HS := Lib.hid hs
  cases hbc : b with
  | nil =>
    subst hbc
    clear hs HS
    go_enter Tryd.func74, Tryd.ntmps74
    go_wp2_with fail
    try rw [Exit.noGoto_ret]
    exact bodyPost_ret (results_tmp3 rfl _ _ _) rfl ⟨rfl, Below.refl _ _⟩
  | cons x r =>
    have hrc := readT_cons x r
    rw [← hbc] at hrc ⊢
    have hbl : b.length = r.length + 1 := by rw [hbc]; rfl
    have hb0 : 0 < b.length := by omega
    have hget : ∀ k (h : k < r.length) (h2 : k + 1 < b.length), b[k + 1] = r[k] := fun k h h2 => by simp [hbc]
    obtain ⟨ad, rfl, hlt, q0⟩ := hs.byte 0 hb0
    have hadd : ad.add 0 = ad := by unfold Addr.add; simp
    rw [hadd, show b[0] = x by simp [hbc]] at q0
    have hd16 := bit16 x
    have hd15 := half_lo x
    have hm32 := mark32 x
    have hx := x.toNat_lt
    replace q0 : w.cell? ad = some (.int .u8 (x.toNat : Int)) := q0
    have h15 : (x &&& 15 ≠ 0) ↔ x.toNat % 16 ≠ 0 := by
      rw [← hd15, Ne, ← UInt8.toNat_inj]
      rfl
    obtain ⟨X, hX⟩ : ∃ X, x.toNat = X := ⟨_, rfl⟩
    rw [hX] at q0 hd16 hd15 hm32 hx h15 hrc
    have HBl := Lib.hid hbl
    have hrl1 : r.length + 1 ≤ b.length := by omega
    have hrl2 : b.length ≤ r.length + 1 := by omega
    have HGet := Lib.hid hget
    have d0 : ((b.length : Int) == 0) = false := by rw [beq_eq_false_iff_ne]; omega
    have l0 : (0 : Int) < (b.length : Int) := by omega
    have ew : IntKind.i64.wrap (X : Int) = (X : Int) := IntWalk.i64_in _ (by omega)
    have e1 : (X : Int).tdiv 16 = ((X / 16 : Nat) : Int) := by rw [Int.tdiv_eq_ediv_of_nonneg (by omega)]; omega
    have e2 : (((X / 16 : Nat) : Int)).tmod 2 = ((X / 16 % 2 : Nat) : Int) := by rw [Int.tmod_eq_emod_of_nonneg (by omega)]; omega
    have e3 : (X : Int).tmod 16 = ((X % 16 : Nat) : Int) := by rw [Int.tmod_eq_emod_of_nonneg (by omega)]; omega
    have e4 : (X : Int).tdiv 32 = ((X / 32 : Nat) : Int) := by rw [Int.tdiv_eq_ediv_of_nonneg (by omega)]; omega
    have w1 : IntKind.i64.wrap ((X / 16 : Nat) : Int) = ((X / 16 : Nat) : Int) := IntWalk.i64_in _ (by omega)
    have w2 : IntKind.i64.wrap ((X / 16 % 2 : Nat) : Int) = ((X / 16 % 2 : Nat) : Int) := IntWalk.i64_in _ (by omega)
    have w3 : IntKind.i64.wrap ((X % 16 : Nat) : Int) = ((X % 16 : Nat) : Int) := IntWalk.i64_in _ (by omega)
    have w4 : IntKind.i64.wrap ((X / 32 : Nat) : Int) = ((X / 32 : Nat) : Int) := IntWalk.i64_in _ (by omega)
    obtain ⟨Y, hY⟩ : ∃ Y, X % 16 = Y := ⟨_, rfl⟩
    obtain ⟨M, hM⟩ : ∃ M, X / 32 = M := ⟨_, rfl⟩
    have f3 : (X : Int) % 16 = (Y : Int) := by omega
    have f4 : (X : Int) / 32 = (M : Int) := by omega
    have wY : IntKind.i64.wrap (Y : Int) = (Y : Int) := IntWalk.i64_in _ (by omega)
    have wM : IntKind.i64.wrap (M : Int) = (M : Int) := IntWalk.i64_in _ (by omega)
    rw [hY] at hd15 h15
    rw [hM] at hm32
    clear hs hbc hbl hget hadd e1 e2 e3 e4 w1 w2 w3 w4
    have HY := Lib.hid hY
    have HMm := Lib.hid hM
    clear hY hM
    by_cases h63 : 63 < X
    · have d1 : decide ((X : Int) > 63) = true := decide_eq_true (by omega)
      have d1b : decide (63 < X) = true := decide_eq_true h63
      rw [if_pos (Or.inl (by omega))] at hrc
      have HR := Lib.hid hrc
      clear hrc hd16 hd15 hm32 h15
      go_enter Tryd.func74, Tryd.ntmps74
      go_wp2_with fail
      try rw [Exit.noGoto_ret]
      refine bodyPost_ret (results_tmp3 rfl _ _ _) rfl ?_
      rw [HR.out]
      exact ⟨rfl, Below.refl _ _⟩
    · have d1 : decide ((X : Int) > 63) = false := decide_eq_false (by omega)
      have d1b : decide (63 < X) = false := decide_eq_false h63
      have HR := Lib.hid hrc
      have HD16 := Lib.hid hd16
      have HD15 := Lib.hid hd15
      have HM32 := Lib.hid hm32
      have H15 := Lib.hid h15
      clear hrc hd16 hd15 hm32 h15
      go_enter Tryd.func74, Tryd.ntmps74
      go_upto_if 24 with fail
      go_cut [5] from 21 to 32 (fun v5 wx => ∃ (L0 : List UInt8) (A5 : Option Addr) (c5 : Nat), v5 = .slice A5 L0.length c5 ∧ L0.length ≤ 1 ∧ wx.ownsRow w.heap.size 3 1 (.slice A5 L0.length c5) L0.length (numU L0) ∧ readT b = some (L0 ++ nib r, x >>> 5) ∧ Below w.heap.size w wx)
      case first =>
        by_cases hodd : X / 16 % 2 = 1
        · have d24 : ((X : Int) / 16 % 2 == 1) = true := by rw [beq_iff_eq]; omega
          have hn16 : ¬ (x &&& 16 = 0) := fun h => by have := HD16.out.1 h; omega
          have hr := HR.out
          rw [if_neg (by rintro (h | h); omega; exact hn16 h.1), if_pos hn16] at hr
          have HRr := Lib.hid hr
          clear hr hn16 HR
          go_wp2_with (at_builtin; first
            | (refine wpL_append rfl (.tmp 25) (.tmp 28) 31 rfl elInt rfl (World.ownsRow_nil _ w.heap.size 3 1) rfl rfl (Seq.of_blk (xs := [.int .i64 Y]) (Blk.new' _ _ _ rfl) (Nat.lt_succ_self _)) (by simp [Value.oneCell']) (by unfold maxLen; omega) (by omega) (by rw [size_alloc]; omega) ?_; intro A7 c7 w7 ho7 hg7 _; simp only [Nat.zero_add, List.nil_append] at ho7; have hb7 := (((Below.refl w.heap.size w).alloc (Nat.le_refl _) _).grown hg7 (by rw [size_alloc]; omega) (fun g hg => by simp [Value.ownBlock] at hg)); have HO7 := Lib.hid ho7; have HB7 := Lib.hid hb7; clear ho7 hg7 hb7)
            | fail)
          go_meet
          case rel => exact ⟨[x &&& 15], A7, c7, rfl, Nat.le_refl _, by rw [show numU [x &&& 15] = [.int .i64 Y] from by simp [numU, nums, HD15.out]]; exact HO7.out, HRr.out, HB7.out⟩
        · have h0 : X / 16 % 2 = 0 := by omega
          have d24 : ((X : Int) / 16 % 2 == 1) = false := by rw [beq_eq_false_iff_ne]; omega
          have h16 := HD16.out.2 h0
          by_cases hy0 : Y = 0
          · have d32 : ((Y : Int) == 0) = true := by rw [hy0]; rfl
            have hn15 : ¬ (x &&& 15 ≠ 0) := fun h => H15.out.1 h hy0
            have hr := HR.out
            rw [if_neg (by rintro (h | h); omega; exact hn15 h.2), if_neg (by simp [h16])] at hr
            have HRr := Lib.hid hr
            have HY0 := Lib.hid hy0
            clear hr hn15 HR h16
            subst hy0
            go_wp2_with fail
            go_meet
            case rel => exact ⟨[], none, 0, rfl, by simp, World.ownsRow_nil _ _ _ _, HRr.out, Below.refl _ _⟩
          · have d32 : ((Y : Int) == 0) = false := by rw [beq_eq_false_iff_ne]; omega
            have d32b : (Y == 0) = false := by rw [beq_eq_false_iff_ne]; exact hy0
            have hr := HR.out
            rw [if_pos (Or.inr ⟨h16, H15.out.2 hy0⟩)] at hr
            have HRr := Lib.hid hr
            clear hr HR h16
            go_wp2_with fail
            try rw [Exit.noGoto_ret]
            refine bodyPost_ret (results_tmp3 rfl _ _ _) rfl ?_
            rw [HRr.out]
            exact ⟨rfl, Below.refl _ _⟩
      case rest =>
        obtain ⟨L0, A5, c5, rfl, hl0, ho5, hr, hb5⟩ := hcut
        rename World => w5
        have HRr := Lib.hid hr
        have HO5 := Lib.hid ho5
        have HB5 := Lib.hid hb5
        clear hr ho5 hb5 HR HD16 HD15 H15
        go_wp2_with fail
        go_loopw [5, 7] (fun v5 v7 wr => ∃ (k : Nat) (S : List UInt8) (A6 : Option Addr) (c6 : Nat), k ≤ r.length ∧ v7 = .int .i64 ((k + 1 : Nat) : Int) ∧ v5 = .slice A6 S.length c6 ∧ S = L0 ++ nib (r.take k) ∧ wr.ownsRow w.heap.size 3 1 (.slice A6 S.length c6) S.length (numU S) ∧ Below w.heap.size w wr) (fun _ v7 _ => b.length - (intOf v7).toNat)
        case atStart => exact ⟨0, L0, A5, c5, by omega, rfl, rfl, by simp [nib], HO5.out, HB5.out⟩
        case round =>
          clear HO5 HB5
          obtain ⟨k, S, A6, c6, hk, rfl, rfl, hS, ho6, hb6⟩ := hrel
          rename World => w6
          have hz6 := hb6.size
          have hSl : S.length ≤ 2 * k + 1 := by rw [hS, List.length_append, nib_length, List.length_take]; omega
          have HS6 := Lib.hid hS
          have HO6 := Lib.hid ho6
          have HB6 := Lib.hid hb6
          clear hS ho6
          by_cases hlt : k < r.length
          · have dk : decide (((k + 1 : Nat) : Int) < (b.length : Int)) = true := decide_eq_true (by omega)
            have dk2 : decide (k + 1 < b.length) = true := decide_eq_true (by omega)
            have lk : ((k + 1 : Nat) : Int) < (b.length : Int) := by omega
            obtain ⟨ad2, had2, _, qz⟩ := (HS.out.below hb6 (Nat.le_refl _)).byte (k + 1) (by omega)
            injection had2 with had2
            subst had2
            rw [HGet.out k hlt (by omega)] at qz
            have hst : L0 ++ nib (r.take (k + 1)) = S ++ [r[k] >>> 4, r[k] &&& 15] := by rw [List.take_succ_eq_append_getElem hlt, nib_snoc, HS6.out, List.append_assoc]
            have hhi := half_hi r[k]
            have hlo := half_lo r[k]
            generalize r[k] = z at *
            have hz := z.toNat_lt
            replace qz : w6.cell? (ad.add (k + 1)) = some (.int .u8 (z.toNat : Int)) := qz
            have qz2 : w6.cell? ⟨ad.block, ad.off + (k + 1), none⟩ = some (.int .u8 (z.toNat : Int)) := (by have h := qz; unfold Addr.add at h; rw [if_neg (by omega)] at h; exact h)
            have lk0 : (0 : Int) ≤ (k : Int) + 1 := by omega
            generalize z.toNat = Z at *
            obtain ⟨H4, hH4⟩ : ∃ H4, Z / 16 = H4 := ⟨_, rfl⟩
            obtain ⟨L4, hL4⟩ : ∃ L4, Z % 16 = L4 := ⟨_, rfl⟩
            have g3 : (Z : Int) % 16 = (L4 : Int) := by omega
            have g4 : (Z : Int) / 16 = (H4 : Int) := by omega
            have g5 : (Z : Int).tmod 16 = (L4 : Int) := by rw [Int.tmod_eq_emod_of_nonneg (by omega)]; exact g3
            have g6 : (Z : Int).tdiv 16 = (H4 : Int) := by rw [Int.tdiv_eq_ediv_of_nonneg (by omega)]; exact g4
            have wZ : IntKind.i64.wrap (Z : Int) = (Z : Int) := IntWalk.i64_in _ (by omega)
            have wH4 : IntKind.i64.wrap (H4 : Int) = (H4 : Int) := IntWalk.i64_in _ (by omega)
            have wL4 : IntKind.i64.wrap (L4 : Int) = (L4 : Int) := IntWalk.i64_in _ (by omega)
            rw [hH4] at hhi
            rw [hL4] at hlo
            have hnu : numU [z >>> 4, z &&& 15] = [.int .i64 H4, .int .i64 L4] := by simp [numU, nums, hhi, hlo]
            have HSt := Lib.hid hst
            have HNu := Lib.hid hnu
            clear hst hnu hhi hlo hH4 hL4 hb6
            go_upto_region 12 with fail
            go_region_law (first
              | (refine step_append_seq rfl (.tmp 39) (.tmp 52) 31 rfl elInt rfl (own_drewN (own_alloc HO6.out _) 1) rfl rfl (Seq.of_blk (xs := [.int .i64 H4, .int .i64 L4]) (Blk.new' _ _ _ rfl) (Nat.lt_succ_self _)) (by simp [Value.oneCell']) (by unfold maxLen; omega) (by omega) (by show _ ≤ (World.alloc _ _).heap.size; rw [size_alloc]; omega) ?_; intro A7 c7 w7 ho7 hg7; have HO7 := Lib.hid ho7; have HG7 := Lib.hid hg7; clear ho7 hg7)
              | fail)
            all_goals
              have HB7 := Lib.hid ((HB6.out.alloc hz6 (.cells #[.int .i64 H4, .int .i64 L4] 3))|> (below_drewN · 1) |>.grown HG7.out (by show _ ≤ (World.alloc _ _).heap.size; rw [size_alloc]; omega) (fun g hg => (HO6.out.lt g hg).1))
              go_wp2_with fail
              have hlen : (S ++ [z >>> 4, z &&& 15]).length = S.length + 2 := by rw [List.length_append]; rfl
              refine ⟨⟨k + 1, S ++ [z >>> 4, z &&& 15], A7, c7, by omega, by go_num, by rw [hlen], HSt.out.symm, ?_, HB7.out⟩, by simp [intOf]; omega⟩
              rw [hlen, numU_append, HNu.out]
              exact HO7.out
          · have dk : decide (((k + 1 : Nat) : Int) < (b.length : Int)) = false := decide_eq_false (by omega)
            have dk2 : decide (k + 1 < b.length) = false := decide_eq_false (by omega)
            have hS2 : S = L0 ++ nib r := by rw [HS6.out, List.take_of_length_le (by omega)]
            have HS2 := Lib.hid hS2
            clear hb6 hS2
            go_wp2_with fail
            try rw [Exit.noGoto_ret]
            refine bodyPost_ret (results_tmp3 rfl _ _ _) rfl ?_
            rw [HRr.out, ← HS2.out]
            exact ⟨A6, c6, by rw [HM32.out]; rfl, HO6.out, HB6.out⟩
end Go.Proofs.YtfhindffmghlaaaDoor
/- The document's shape. -/
namespace Go.Proofs.YtfhindffmghlaaaDoor
open Go.RowKit It
/-- Has an item the shape of a node's list? -/
def shapeD : It → Bool
  | .bytes _ => false
  | .list xs => shapedT xs
attribute [local irreducible] Calls in
set_option maxHeartbeats 4000000 in
set_option maxRecDepth 20000 in
theorem shape_calls (v : Value) (it : It) (w : World) (h : ItAt w v it) : Calls Tryd.prog 71 #[v] w (fun e w' => e = .returned (.bool (shapeD it)) ∧ Below w.heap.size w w') := by
  obtain ⟨ad, c, Ab, cb, lb, hv, -, -, -, r0, r1, -, -, -, -, -, -⟩ := h.head
  have hfp := flat_pos it
  have l0 : (0 : Int) < (it.flat.length : Int) := by omega
  cases it with
  | bytes l =>
    simp only [listI] at r0
    subst hv
    clear r1 h
    go_enter Tryd.func71, Tryd.ntmps71
    go_wp2_with fail
    go_ret
    exact ⟨rfl, Below.refl _ _⟩
  | list xs =>
    simp only [listI] at r0
    simp only [cntI] at r1
    have hxl := flats_length_le xs
    by_cases h17 : xs.length = 17
    · have hsh : shapedT xs = true := by rw [shapedT_else (by omega), h17]; rfl
      have HSh := Lib.hid hsh
      have d1 : ((xs.length : Int) == 17) = true := by rw [h17]; rfl
      rw [h17] at r1
      subst hv
      clear h hsh
      go_enter Tryd.func71, Tryd.ntmps71
      go_wp2_with fail
      go_ret
      exact ⟨by rw [shapeD, HSh.out]; rfl, Below.refl _ _⟩
    · have d1 : ((xs.length : Int) == 17) = false := by rw [beq_eq_false_iff_ne]; omega
      have d1b : (xs.length == 17) = false := by rw [beq_eq_false_iff_ne]; exact h17
      by_cases h2 : xs.length = 2
      · obtain ⟨a, a2, rfl⟩ : ∃ a a2, xs = [a, a2] := by
          match xs, h2 with
          | [a, a2], _ => exact ⟨a, a2, rfl⟩
        obtain ⟨A', c', its, hv2, hc, hm, hs, hq, hby, hl, hbl, hcp⟩ := h
        have hn : its.length = (It.list [a, a2]).flat.length := by rw [← hs, List.length_map]
        rw [hv] at hv2
        injection hv2 with e1 e2 e3
        subst e1 e3
        have hfa := flat_pos a
        have hfl : 2 ≤ (It.list [a, a2]).flat.length := by
          rw [It.flat, flats, List.length_cons, List.length_append]
          omega
        obtain ⟨ad', e, -, g0, -, g2⟩ := (ItemsAt.of_seq hq.seq).get 1 (by omega)
        injection e with e
        subst e
        have hsd := said_at hs (j := 1) (by omega)
        have hm1 : its[1]'(by omega) ∈ its := List.getElem_mem _
        have hb1 := hby _ hm1
        have hb2 := hbl _ hm1
        generalize its[1]'(by omega) = x at *
        obtain ⟨isL, cnt, Ax, cx, lx⟩ := x
        simp only at g0 g2 hb1 hb2
        rw [It.flat, flats, List.getElem?_cons_succ, List.getElem?_append_left hfa] at hsd
        replace g0 : w.cell? (ad.add 3) = some (.bool isL) := g0
        replace g2 : w.cell? ⟨(ad.add 3).block, (ad.add 3).off + 2, none⟩ = some (.slice Ax lx.length cx) := g2
        have had3 : ad.add 3 = ⟨ad.block, ad.off + 3, none⟩ := by unfold Addr.add; simp
        rw [had3] at g0 g2
        have g5 : w.cell? ⟨ad.block, ad.off + 5, none⟩ = some (.slice Ax lx.length cx) := g2
        clear had3
        have l1 : (1 : Int) < ((It.list [a, a2]).flat.length : Int) := by omega
        have d2 : (([a, a2].length : Int) == 2) = true := rfl
        replace r1 : w.cell? ⟨ad.block, ad.off + 1, none⟩ = some (.int .i64 2) := r1
        cases a with
        | bytes b =>
          simp only [It.flat, List.getElem?_cons_zero, Option.some.injEq, said, Prod.mk.injEq] at hsd
          obtain ⟨rfl, -, rfl⟩ := hsd
          obtain ⟨ok, hok⟩ : ∃ ok, (readT b).isSome = ok := ⟨_, rfl⟩
          have hsh : shapedT [.bytes b, a2] = ok := by rw [← hok]; rfl
          have hpc := path_calls Ax cx b w (by omega) hb1.seq
          have hpp : ∀ e w', PathPost w (readT b) e w' → (∃ u1 u2, e = .returned (.tuple #[u1, u2, .bool ok])) ∧ Below w.heap.size w w' := fun e w' h => by
            rw [← hok]
            cases hr : readT b with
            | none => rw [hr] at h; obtain ⟨rfl, hb⟩ := h; exact ⟨⟨_, _, rfl⟩, hb⟩
            | some pm => rw [hr] at h; obtain ⟨A9, c9, rfl, _, hb⟩ := h; exact ⟨⟨_, _, rfl⟩, hb⟩
          have HSh := Lib.hid hsh
          have HPc := Lib.hid hpc
          have HPp := Lib.hid hpp
          generalize (It.list [.bytes b, a2]).flat.length = N at *
          subst hv
          clear hsh hpc hpp hok e2 hn hs hq hby hbl hcp hb1 hm hc hfl hm1
          go_enter Tryd.func71, Tryd.ntmps71
          go_wp2_with (first
            | (go_at_call 74; (refine HPc.out.mono ?_; intro e1 w1 h1; obtain ⟨⟨v1, v2, rfl⟩, hb1⟩ := HPp.out e1 w1 h1; have HB1 := Lib.hid hb1; clear h1 hb1))
            | fail)
          go_ret
          exact ⟨by rw [shapeD, HSh.out]; rfl, HB1.out⟩
        | list ys =>
          simp only [It.flat, List.getElem?_cons_zero, Option.some.injEq, said, Prod.mk.injEq] at hsd
          obtain ⟨rfl, -, -⟩ := hsd
          have hsh : shapedT [.list ys, a2] = false := rfl
          have HSh := Lib.hid hsh
          generalize (It.list [.list ys, a2]).flat.length = N at *
          subst hv
          clear hsh e2 hn hs hq hby hbl hcp hb1 hm hc hfl hm1
          go_enter Tryd.func71, Tryd.ntmps71
          go_wp2_with fail
          go_ret
          exact ⟨by rw [shapeD, HSh.out]; rfl, Below.refl _ _⟩
      · have hsh : shapedT xs = false := by rw [shapedT_else h2]; exact d1b
        have HSh := Lib.hid hsh
        have d2 : ((xs.length : Int) == 2) = false := by rw [beq_eq_false_iff_ne]; omega
        have d2b : (xs.length == 2) = false := by rw [beq_eq_false_iff_ne]; exact h2
        subst hv
        clear h hsh
        go_enter Tryd.func71, Tryd.ntmps71
        go_wp2_with fail
        go_ret
        exact ⟨by rw [shapeD, HSh.out]; rfl, Below.refl _ _⟩
end Go.Proofs.YtfhindffmghlaaaDoor
