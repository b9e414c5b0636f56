/- The document's Check: the plain law of Check. -/
import Derived.Test.YtfhindffmghlaaaDoorG43
import Derived.Test.YtfhindffmghlaaaDoorG41
import Derived.Test.YtfhindffmghlaaaDoorG42
import Derived.Test.YtfhindffmghlaaaDoorG40
import Derived.Test.YtfhindffmghlaaaDoorG22
import Derived.BigQuiet
import Derived.Deep.CutRange
import Derived.Deep.CutBlock
set_option linter.unusedVariables false
set_option linter.unusedSimpArgs false
namespace Go.Proofs.YtfhindffmghlaaaDoor
open Go.RowKit It
/-- What is told of a way at its end. -/
def finD : WayR → Option (List UInt8)
  | some (v, []) => some v
  | _ => none
theorem check_fin (root : List UInt8) (texts : List (List UInt8)) (path : List UInt8) : checkT hashL root texts path = finD (nextT hashL (inT hashL (path.length + 1)) root texts path) := rfl
/-- The hash of the next text is known. -/
def HashD (texts : List (List UInt8)) (key : List UInt8) (R : Option (List UInt8)) (at_ u f : Nat) (v9 : Value) (wr : World) : Prop :=
  ∃ (Ah : Addr) (ch : Nat) (h : List UInt8), v9 = .slice (some Ah) 32 ch ∧ h.length = 32 ∧ Seq wr wr.heap.size (some Ah) (bytes h) ∧ R = finD (nextT hashL (inT hashL f) h (texts.drop u) ((nib key).drop at_))
/-- A node is at hand. -/
def NodeD (texts : List (List UInt8)) (key : List UInt8) (R : Option (List UInt8)) (at_ u f : Nat) (v11 : Value) (wr : World) : Prop :=
  ∃ xs : List It, ItAt wr v11 (.list xs) ∧ shapedT xs = true ∧ R = finD (inT hashL f xs (texts.drop u) ((nib key).drop at_))
theorem Seq.nowD {w w' : World} {A : Option Addr} {xs : List Value} (h : Seq w w.heap.size A xs) (hb : Below w.heap.size w w') : Seq w' w'.heap.size A xs := (h.below hb (Nat.le_refl _)).more hb.size
theorem itemOf_small {b : List UInt8} {it : It} (h : itemOf b = some it) : it.flat.length ≤ b.length ∧ ∀ x ∈ it.flat, x.2.2.length ≤ b.length := by
  have h1 := decM_bound b
  rw [decM_some h] at h1
  exact ⟨h1.1, fun x hx => (h1.2.1 x hx).2.2⟩
section
variable (hash : List UInt8 → List UInt8) (k : List It → List (List UInt8) → List UInt8 → WayR) {xs : List It} (ts : List (List UInt8))
theorem look_17l {ys : List It} (h : xs.length = 17) (hx : xs[16] = .list ys) : lookT hash k xs ts [] = none := by
  unfold lookT
  rw [if_pos h]
  simp only [List.getD_eq_getElem?_getD, List.getElem?_eq_getElem (show 16 < xs.length by omega), Option.getD_some, hx]
theorem look_17b {v : List UInt8} (h : xs.length = 17) (hx : xs[16] = .bytes v) : lookT hash k xs ts [] = some (v, ts) := by
  unfold lookT
  rw [if_pos h]
  simp only [List.getD_eq_getElem?_getD, List.getElem?_eq_getElem (show 16 < xs.length by omega), Option.getD_some, hx]
theorem look_17x {x : UInt8} {r : List UInt8} (h : xs.length = 17) (hx : x.toNat < xs.length) : lookT hash k xs ts (x :: r) = atT hash k xs[x.toNat] ts r := by
  unfold lookT
  rw [if_pos h]
  simp only [List.getD_eq_getElem?_getD, List.getElem?_eq_getElem hx, Option.getD_some]
theorem look_2l {b p path : List UInt8} {ys : List It} (h : readT b = some (p, 1)) : lookT hash k [.bytes b, .list ys] ts path = none := by
  unfold lookT
  rw [if_neg (by simp)]
  simp only [h, if_true]
theorem look_2b {b p path v : List UInt8} (h : readT b = some (p, 1)) : lookT hash k [.bytes b, .bytes v] ts path = if v = [] then none else if p = path then some (v, ts) else some ([], ts) := by
  unfold lookT
  rw [if_neg (by simp)]
  simp only [h, if_true]
theorem look_2x {b p path : List UInt8} {m : UInt8} {far : It} (h : readT b = some (p, m)) (hm : m ≠ 1) : lookT hash k [.bytes b, far] ts path = if p = [] then none
    else if ¬ p <+: path then some ([], ts)
    else if voidI far then none
    else atT hash k far ts (path.drop p.length) := by
  unfold lookT
  rw [if_neg (by simp)]
  simp only [h, if_neg hm]
end
theorem stop_law {P path : List UInt8} {j : Nat} (h1 : j ≤ P.length) (h2 : j ≤ path.length) (hc : P.take j = path.take j) (hst : j = P.length ∨ j = path.length ∨ P[j]? ≠ path[j]?) : (j < P.length ↔ ¬ P <+: path) ∧ ((j = P.length ∧ j = path.length) ↔ P = path) := by
  have hp : P <+: path ↔ j = P.length := by
    constructor
    · rintro ⟨t, rfl⟩
      rcases hst with h | h | h
      · exact h
      · rw [List.length_append] at h
        omega
      · rcases Nat.lt_or_ge j P.length with hj | hj
        · rw [List.getElem?_append_left hj] at h
          exact absurd rfl h
        · omega
    · intro h
      rw [h, List.take_length] at hc
      rw [List.prefix_iff_eq_take]
      exact hc
  refine ⟨by rw [hp]; omega, fun ⟨h3, h4⟩ => ?_, fun h => ?_⟩
  · rw [List.take_of_length_le (by omega), List.take_of_length_le (by omega)] at hc
    exact hc
  · have h3 := hp.1 (h ▸ List.prefix_rfl)
    exact ⟨h3, by rw [h3, h]⟩
theorem second_bytes {w : World} {ad : Addr} {N c : Nat} {b : List UInt8} {xs : List It} (h : ItAt w (.slice (some ad) N c) (.list (.bytes b :: xs))) : ∃ (Ax : Option Addr) (cx : Nat), 1 < N ∧ w.cell? ⟨ad.block, ad.off + 5, none⟩ = some (.slice Ax b.length cx) ∧ SeqB w Ax b ∧ b.length ≤ 524288 := by
  obtain ⟨A', c', its, hv2, hc, hm, hs, hq, hby, hl, hbl, hcp⟩ := h
  injection hv2 with e1 e2 e3
  subst e1 e3
  have hn : its.length = (It.list (.bytes b :: xs)).flat.length := by rw [← hs, List.length_map]
  have hfl : 2 ≤ (It.list (.bytes b :: xs)).flat.length := by
    rw [It.flat, flats, It.flat, List.length_cons, List.length_append, List.length_singleton]
    omega
  obtain ⟨ad', e, -, -, -, g2⟩ := (ItemsAt.of_seq hq.seq).get 1 (by omega)
  injection e with e
  subst e
  have hsd := said_at hs (j := 1) (by omega)
  have hm1 : its[1]'(by omega) ∈ its := List.getElem_mem _
  have hb1 := hby _ hm1
  have hb2 := hbl _ hm1
  generalize its[1]'(by omega) = x at *
  obtain ⟨isL, cnt, Ax, cx, lx⟩ := x
  simp only at g2 hb1 hb2
  rw [It.flat, flats, It.flat] at hsd
  simp only [List.getElem?_cons_succ, List.cons_append, List.getElem?_cons_zero, Option.some.injEq, said, Prod.mk.injEq] at hsd
  obtain ⟨-, -, rfl⟩ := hsd
  have had3 : ad.add (1 * 3) = ⟨ad.block, ad.off + 3, none⟩ := by unfold Addr.add; simp
  rw [had3] at g2
  exact ⟨Ax, cx, by omega, g2, hb1, hb2⟩
theorem readT_len {b p : List UInt8} {m : UInt8} (h : readT b = some (p, m)) : p.length ≤ 2 * b.length := by
  cases b with
  | nil => cases h
  | cons x r =>
    rw [readT_cons] at h
    split at h
    · cases h
    · simp only [Option.some.injEq, Prod.mk.injEq] at h
      obtain ⟨rfl, _⟩ := h
      rw [List.length_append, nib_length, List.length_cons]
      split <;> simp <;> omega
theorem check_tuple {w w' : World} {R : Option (List UInt8)} {e : Ending} (h : CheckPost w R e w') : ∃ x1 x2 x3, e = .returned (.tuple #[x1, x2, x3]) := by
  cases R with
  | none => obtain ⟨rfl, _⟩ := h; exact ⟨_, _, _, rfl⟩
  | some v => obtain ⟨A, c, rfl, _⟩ := h; exact ⟨_, _, _, rfl⟩
theorem CheckPost.lift {w0 w w' : World} {R : Option (List UInt8)} {e : Ending} (h : CheckPost w R e w') (hb : Below w0.heap.size w0 w) : CheckPost w0 R e w' := by
  cases R with
  | none => obtain ⟨rfl, h2⟩ := h; exact ⟨rfl, hb.trans (h2.mono hb.size)⟩
  | some v => obtain ⟨A, c, rfl, h2, h3⟩ := h; exact ⟨A, c, rfl, own_mono h2 hb.size, hb.trans (h3.mono hb.size)⟩
theorem told_calls (A : Option Addr) (c B : Nat) (v : List UInt8) (u : Nat) (texts : List (List UInt8)) (n : Nat) (A2 : Option Addr) (c2 : Nat) (w : World) (hn : texts.length = n) (hl : v.length ≤ 140737488355328) (hs : Seq w B A (bytes v)) :
    Calls Tryd.prog 70 #[.slice A v.length c, .int .i64 u, .slice A2 n c2] w (CheckPost w (finD (some (v, texts.drop u)))) := by
  by_cases h : u < n
  · obtain ⟨t, ts, e⟩ : ∃ t ts, texts.drop u = t :: ts := by
      rw [List.drop_eq_getElem_cons (by omega)]
      exact ⟨_, _, rfl⟩
    rw [e]
    exact told_none A c v u n A2 c2 w h
  · rw [List.drop_of_length_le (by omega)]
    exact told_some A c B v u n A2 c2 w hl hs h
theorem told_nil (u : Nat) (texts : List (List UInt8)) (n : Nat) (A2 : Option Addr) (c2 : Nat) (w : World) (hn : texts.length = n) :
    Calls Tryd.prog 70 #[.slice none 0 0, .int .i64 u, .slice A2 n c2] w (CheckPost w (finD (some ([], texts.drop u)))) := told_calls none 0 w.heap.size [] u texts n A2 c2 w hn (by simp) Seq.none_
attribute [local irreducible] Calls in
set_option maxHeartbeats 8000000 in
set_option maxRecDepth 40000 in
theorem refCheck_calls (f0 : Nat → UInt8) (A : Option Addr) (c : Nat) (key : List UInt8) (v : Value) (texts : List (List UInt8)) (w : World) (hk : key.length ≤ 140737488355328) (hs : Seq w w.heap.size A (bytes key)) (hr : RowAt w v texts) :
    Calls Tryd.prog 46 #[.agg (tab 32 (hashV f0)), .slice A key.length c, v] w (CheckPost w (checkT hashL (listOf f0 32) texts (nib key))) := by
  obtain ⟨At, ct, ps, rfl, hm, hct, hctm, hsq, hps⟩ := hr
  have hpn : texts.length = ps.length := by rw [← hm, List.length_map]
  have hnl := nib_length key
  obtain ⟨N, hN⟩ : ∃ N, (nib key).length = N := ⟨_, rfl⟩
  have hN2 : N ≤ 281474976710656 := by omega
  have hN3 : N ≤ 2 * key.length := by omega
  have hN4 : 2 * key.length ≤ N := by omega
  obtain ⟨R, hR⟩ : ∃ R, checkT hashL (listOf f0 32) texts (nib key) = R := ⟨_, rfl⟩
  rw [hR]
  have hR2 := hR
  rw [check_fin, hN] at hR2
  have hpl63 : ps.length ≤ 9223372036854775807 := by have := hctm; unfold maxLen at this; omega
  have HR := Lib.hid hR2
  have HM := Lib.hid hm
  have HPn := Lib.hid hpn
  have HN := Lib.hid hN
  have HS := Lib.hid hs
  have HSq := Lib.hid hsq
  have HPs := Lib.hid hps
  have hba := (Below.refl w.heap.size w).alloc (Nat.le_refl _) (.cells (tab 32 (hashV f0)) 23)
  have hb1 : Blk (w.alloc (.cells (tab 32 (hashV f0)) 23)) w.heap.size 23 (tab 32 (hashV f0)) := Blk.new _ _ _
  have hq1 : Seq (w.alloc (.cells (tab 32 (hashV f0)) 23)) (w.alloc (.cells (tab 32 (hashV f0)) 23)).heap.size (some ⟨w.heap.size, 0, none⟩) (bytes (listOf f0 32)) := Seq.of_array hb1 hb1.lt
  have HBa := Lib.hid hba
  have HQ1 := Lib.hid hq1
  clear hR hR2 hm hpn hN hs hsq hps hba hb1 hq1 hnl
  go_enter Tryd.func46, Tryd.ntmps46
  go_wp2_with fail
  go_loopw [9, 10, 11, 12, 13, 14, 15, 16, 17, 18, 19, 20, 21, 22, 23, 24, 25, 26] (fun v9 v10 v11 v12 _ _ _ _ _ _ _ _ _ _ _ _ _ _ wr => ∃ (at_ u f : Nat), v10 = .int .i64 at_ ∧ v12 = .int .i64 u ∧ at_ ≤ N ∧ u ≤ ps.length ∧ N - at_ < f ∧ Below w.heap.size w wr ∧ (HashD texts key R at_ u f v9 wr ∨ (v9 = .slice none 0 0 ∧ NodeD texts key R at_ u f v11 wr))) (fun _ v10 _ _ _ _ _ _ _ _ _ _ _ _ _ _ _ _ _ => N - (intOf v10).toNat)
  case atStart => exact ⟨0, 0, N + 1, rfl, rfl, by omega, by omega, by omega, HBa.out, Or.inl ⟨_, 32, _, rfl, listOf_length _ _, HQ1.out, HR.out.symm⟩⟩
  case round =>
    clear HBa HQ1 HR
    obtain ⟨at_, u, f, rfl, rfl, hat, hu, hf, hbl, hd⟩ := hrel
    rename World => w2
    have hz2 := hbl.size
    have HBl := Lib.hid hbl
    have HD := Lib.hid hd
    clear hbl hd
    go_upto_region 5 with fail
    go_cut [29] from 28 to 29 (fun v29 wx => (∃ b : Bool, v29 = .bool b ∧ (b = true → HashD texts key R at_ u f u9 w2) ∧ (b = false → u9 = .slice none 0 0 ∧ NodeD texts key R at_ u f u11 w2)) ∧ w2 = wx)
    case first =>
      rcases HD.out with h | ⟨h1, h2⟩
      · obtain ⟨Ah, ch, hh, he, hl, hq, hR⟩ := id h
        have HH := Lib.hid h
        have HE9 := Lib.hid he
        clear hl hq hR h
        subst he
        go_wp2_with fail
        go_meet
        case rel => exact ⟨⟨true, rfl, fun _ => HH.out, fun h => by cases h⟩, rfl⟩
      · have HH := Lib.hid h2
        clear h2
        subst h1
        go_wp2_with fail
        go_meet
        case rel => exact ⟨⟨false, rfl, (fun h => by cases h), fun _ => ⟨by trivial, HH.out⟩⟩, rfl⟩
    case rest =>
      obtain ⟨⟨b, rfl, hb1, hb2⟩, rfl⟩ := hcut
      have HB1 := Lib.hid hb1
      have HB2 := Lib.hid hb2
      clear hb1 hb2 HD
      go_upto_if 29 with fail
      go_cut [9, 11, 12, 13, 14, 15, 16, 17] from 28 to 80 (fun v9 v11 v12 _ _ _ _ _ wx => ∃ u' : Nat, v9 = .slice none 0 0 ∧ v12 = .int .i64 u' ∧ u' ≤ ps.length ∧ NodeD texts key R at_ u' f v11 wx ∧ Below w.heap.size w wx)
      case first =>
        cases b with
        | false =>
          obtain ⟨h9, hnd⟩ := HB2.out rfl
          have HND := Lib.hid hnd
          clear hnd HB1 HB2
          subst h9
          go_wp2_with fail
          go_meet
          case rel => exact ⟨u, by trivial, by trivial, hu, HND.out, HBl.out⟩
        | true => as_aux_lemma =>
          obtain ⟨Ah, ch, hh, h9, hl, hq, hRR⟩ := HB1.out rfl
          have HQ := Lib.hid hq
          have HRR := Lib.hid hRR
          clear hq hRR HB1 HB2
          subst h9
          by_cases hul : u = ps.length
          · have d33 : ((u : Int) == (ps.length : Int)) = true := by rw [hul, beq_iff_eq]
            have hRn : R = none := by
              rw [HRR.out, List.drop_of_length_le (by have := HPn.out; omega)]
              rfl
            have HRn := Lib.hid hRn
            clear hRn hul
            go_wp2_with fail
            try rw [Exit.noGoto_ret]
            refine bodyPost_ret (results_tmp3 rfl _ _ _) rfl ?_
            rw [HRn.out]
            exact ⟨rfl, HBl.out⟩
          · have d33 : ((u : Int) == (ps.length : Int)) = false := by rw [beq_eq_false_iff_ne]; omega
            have hul2 : u < ps.length := by omega
            have lu : (u : Int) < (ps.length : Int) := by omega
            have hsp := (HSq.out.below HBl.out).at_ (k := u) (by simpa [pcs] using hul2)
            obtain ⟨adt, rfl, hltt, q0⟩ := hsp
            have hpm := HPs.out _ (List.getElem_mem hul2)
            have hdr : texts.drop u = ps[u].2.2 :: texts.drop (u + 1) := by
              rw [← HM.out, List.drop_eq_getElem_cons (by rw [List.length_map]; exact hul2), List.getElem_map]
              rfl
            replace q0 : w2.cell? (adt.add u) = some (pcV ps[u]) := by
              rw [q0]
              simp [pcs]
            generalize ps[u] = pu at q0 hpm hdr
            obtain ⟨Ap, cp, lp⟩ := pu
            simp only [pcV] at q0
            simp only at hpm hdr
            obtain ⟨hpb, hpc, hpcm, hpl⟩ := hpm
            have hpb2 := hpb.below HBl.out
            have HPb := Lib.hid hpb2
            have hRd := HRR.out
            rw [hdr] at hRd
            have HRd := Lib.hid hRd
            have eu : IntKind.i64.wrap ((u : Int) + 1) = (u : Int) + 1 := IntWalk.i64_in _ (by omega)
            clear hpb hpb2 hdr hRd HRR hul
            have hba3 := (Below.refl w2.heap.size w2).alloc (Nat.le_refl _) (.cells #[.slice Ap lp.length cp] 24)
            have hsum := sumR_calls (some ⟨w2.heap.size, 0, none⟩) 1 (w2.heap.size + 1) [(Ap, cp, lp)] (w2.alloc (.cells #[.slice Ap lp.length cp] 24)) (by simp) (by simp [joinP]; omega) (Seq.of_blk (xs := [.slice Ap lp.length cp]) (Blk.new' _ _ _ rfl) (Nat.lt_succ_self _)) (by rw [size_alloc]; exact Nat.le_refl _) (fun p hp => by
              have e : p = (Ap, cp, lp) := by simpa using hp
              subst e
              exact ((HPb.out.below hba3).seq).more (by rw [size_alloc]; exact Nat.le_refl _))
            rw [show joinP [(Ap, cp, lp)] = lp by simp [joinP]] at hsum
            have HSum := Lib.hid hsum
            have HBa3 := Lib.hid hba3
            clear hsum hba3
            go_upto_region 11 with (first
              | (go_at_call 68; (refine HSum.out.mono ?_; rintro e3 w3 ⟨rfl, hb3⟩; have hb23 := HBa3.out.trans (hb3.mono (by rw [size_alloc]; omega)); have hz3 := hb23.size; have HB23 := Lib.hid hb23; have hv3 : Blk (w3.alloc (.cells (tab 32 fun _ => .int .u8 0) 23)) w3.heap.size 23 (tab 32 fun _ => .int .u8 0) := Blk.new _ _ _; have HV3 := Lib.hid hv3; clear hb3 hb23 hv3))
              | (refine wpL_alloc rfl 23 rfl (tab 32 fun _ => .int .u8 0) (by kernel_rfl) ?_)
              | (refine wpL_store rfl 23 (.tmp 14) (.tmp 42) rfl 0 rfl rfl HV3.out (by omega) (by kernel_rfl) (fun _ => rfl) ?_)
              | fail)
            have hv4 : Blk ((w3.alloc (.cells (tab 32 fun _ => .int .u8 0) 23)).setRow w3.heap.size (tab 32 (over (fun _ => .int .u8 0) 0 32 (hashV (hashS lp))))) w3.heap.size 23 (tab 32 (hashV (hashS lp))) := HV3.out.setRow.same (over_whole _ _ _)
            have hb24 : Below w2.heap.size w2 ((w3.alloc (.cells (tab 32 fun _ => .int .u8 0) 23)).setRow w3.heap.size (tab 32 (over (fun _ => .int .u8 0) 0 32 (hashV (hashS lp))))) := below_setRow (HB23.out.alloc hz3 _) hz3 _
            generalize (w3.alloc (.cells (tab 32 fun _ => .int .u8 0) 23)).setRow w3.heap.size (tab 32 (over (fun _ => .int .u8 0) 0 32 (hashV (hashS lp)))) = w4 at *
            have hz4 := hb24.size
            have hq4 : Seq w4 w4.heap.size (some ⟨w3.heap.size, 0, none⟩) (bytes (hashL lp)) := Seq.of_array hv4 hv4.lt
            have hq4h := HQ.out.nowD hb24
            have hdec := refDecode_calls Ap cp w4.heap.size lp w4 (by omega) hpc (Nat.le_refl _) ((HPb.out.below hb24).seq)
            have HQ4 := Lib.hid hq4
            have HQ4h := Lib.hid hq4h
            have HDec := Lib.hid hdec
            have HB24 := Lib.hid hb24
            clear hv4 hb24 hq4 hq4h hdec HV3 HB23
            have hEl := hashL_length lp
            obtain ⟨r, hr⟩ : ∃ r, itemOf lp = r := ⟨_, rfl⟩
            have hdc := HDec.out
            rw [hr] at hdc
            by_cases heq : hashL lp = hh
            · cases r with
              | none =>
                have hRn : R = none := by rw [HRd.out, next_none heq hr]; rfl
                have HRn := Lib.hid hRn
                have HDc := Lib.hid hdc
                clear hRn hr hdc HDec
                go_upto_region 12 with (first
                  | (go_at_call 69; (refine HDc.out.mono ?_; rintro e5 w5 ⟨er, pl, her, rfl, hb5⟩; have HB5 := Lib.hid hb5; have der : ((er : Int) == 0) = false := (by rw [beq_eq_false_iff_ne]; omega); have der2 : ((er : Int) != 0) = true := (by rw [bne_iff_ne]; omega); clear hb5))
                  | fail)
                have h1 := fun (n : Nat) => run_str (some ⟨w3.heap.size, 0, none⟩) 32 w5.heap.size (hashL lp) (w5.drewN n) (((HQ4.out.nowD HB5.out)).drewN n)
                have h2 := fun (n : Nat) => run_str (some Ah) ch w5.heap.size hh (w5.drewN n) (((HQ4h.out.nowD HB5.out)).drewN n)
                rw [hEl] at h1
                rw [hl] at h2
                subst heq
                go_quiet (fail)
                go_wp2_with fail
                try rw [Exit.noGoto_ret]
                refine bodyPost_ret (results_tmp3 rfl _ _ _) rfl ?_
                rw [HRn.out]
                exact ⟨rfl, below_drewN ((HBl.out.trans (HB24.out.mono hz2)).trans (HB5.out.mono (by omega))) nq⟩
              | some it =>
                have HDc := Lib.hid hdc
                have HRi := Lib.hid hr
                clear hr hdc HDec
                go_upto_region 12 with (first
                  | (go_at_call 69; (refine HDc.out.mono ?_; rintro e5 w5 ⟨v5, rfl, hrow, hb5⟩; have hz5 := hb5.size; have HB5 := Lib.hid hb5; have HRow := Lib.hid hrow; clear hb5 hrow))
                  | fail)
                have h1 := fun (n : Nat) => run_str (some ⟨w3.heap.size, 0, none⟩) 32 w5.heap.size (hashL lp) (w5.drewN n) (((HQ4.out.nowD HB5.out)).drewN n)
                have h2 := fun (n : Nat) => run_str (some Ah) ch w5.heap.size hh (w5.drewN n) (((HQ4h.out.nowD HB5.out)).drewN n)
                rw [hEl] at h1
                rw [hl] at h2
                have HEq := Lib.hid heq
                subst heq
                go_quiet (fail)
                have hbq : Below w.heap.size w (w5.drewN nq) := below_drewN ((HBl.out.trans (HB24.out.mono hz2)).trans (HB5.out.mono (by omega))) nq
                have hb5q : Below w5.heap.size w5 (w5.drewN nq) := below_drewN (Below.refl _ _) nq
                obtain ⟨hfl, hfb⟩ := itemOf_small HRi.out
                have hrow2 : ItAt (w5.drewN nq) v5 it := (ItAt.of_row HRow.out (by omega) (fun s hs => by have := hfb s hs; omega)).below hb5q
                have HBq := Lib.hid hbq
                have HIt := Lib.hid hrow2
                clear hbq hb5q hrow2 h1 h2 HB5 HRow hfl hfb
                generalize w5.drewN nq = w6 at *
                have hz6 := HBq.out.size
                obtain ⟨adr, cr, Ar, cbr, lr, hvr, -, -, -, r0, -, r2, hlr, -, -, -, hlrl⟩ := HIt.out.head
                have hfp := flat_pos it
                have lf0 : (0 : Int) < (it.flat.length : Int) := by omega
                subst hvr
                cases it with
                | bytes l =>
                  simp only [listI] at r0
                  simp only [bytesI] at hlr
                  subst hlr
                  have hnx := next_bytes (k := inT hashL f) (ts := texts.drop (u + 1)) (path := (nib key).drop at_) HEq.out HRi.out
                  by_cases hl0 : lr = []
                  · subst hl0
                    have hRn : R = finD (some ([], texts.drop (u + 1))) := by rw [HRd.out, hnx, if_pos rfl]
                    have htold := told_nil (u + 1) texts ps.length (some adt) ct w6 HPn.out
                    rw [← hRn, show (((u + 1 : Nat)) : Int) = (u : Int) + 1 from by omega] at htold
                    have HTold := Lib.hid htold
                    clear hRn htold hnx
                    go_wp2_with (first
                      | (go_at_call 70; (refine HTold.out.mono ?_; intro e7 w7 h7; obtain ⟨x1, x2, x3, rfl⟩ := check_tuple h7; have H7 := Lib.hid h7; clear h7))
                      | fail)
                    try rw [Exit.noGoto_ret]
                    refine bodyPost_ret (results_tmp3 rfl _ _ _) rfl ?_
                    exact H7.out.lift HBq.out
                  · have hRn : R = none := by
                      rw [HRd.out, hnx, if_neg hl0]
                      rfl
                    have HRn := Lib.hid hRn
                    have hlp : 0 < lr.length := List.length_pos_iff.2 hl0
                    have dl0 : ((lr.length : Int) == 0) = false := by rw [beq_eq_false_iff_ne]; omega
                    have hsh := shape_calls _ _ _ HIt.out
                    rw [shapeD] at hsh
                    have HSh := Lib.hid hsh
                    clear hRn hnx hsh hl0
                    go_wp2_with (first
                      | (go_at_call 71; (refine HSh.out.mono ?_; rintro e7 w7 ⟨rfl, hb7⟩; have HB7 := Lib.hid hb7; clear hb7))
                      | fail)
                    try rw [Exit.noGoto_ret]
                    refine bodyPost_ret (results_tmp3 rfl _ _ _) rfl ?_
                    rw [HRn.out]
                    exact ⟨rfl, HBq.out.trans (HB7.out.mono hz6)⟩
                | list xs =>
                  simp only [listI] at r0
                  have hnx := next_lists (k := inT hashL f) (ts := texts.drop (u + 1)) (path := (nib key).drop at_) HEq.out HRi.out
                  have hsh := shape_calls _ _ _ HIt.out
                  rw [shapeD] at hsh
                  clear r2
                  cases hsd : shapedT xs with
                  | false =>
                    have hRn : R = none := by
                      rw [HRd.out, hnx, hsd]
                      rfl
                    rw [hsd] at hsh
                    have HRn := Lib.hid hRn
                    have HSh := Lib.hid hsh
                    clear hRn hnx hsh hsd
                    go_wp2_with (first
                      | (go_at_call 71; (refine HSh.out.mono ?_; rintro e7 w7 ⟨rfl, hb7⟩; have HB7 := Lib.hid hb7; clear hb7))
                      | fail)
                    try rw [Exit.noGoto_ret]
                    refine bodyPost_ret (results_tmp3 rfl _ _ _) rfl ?_
                    rw [HRn.out]
                    exact ⟨rfl, HBq.out.trans (HB7.out.mono hz6)⟩
                  | true =>
                    have hRn : R = finD (inT hashL f xs (texts.drop (u + 1)) ((nib key).drop at_)) := by
                      rw [HRd.out, hnx, hsd]
                      rfl
                    rw [hsd] at hsh
                    have HRn := Lib.hid hRn
                    have HSh := Lib.hid hsh
                    have HSd := Lib.hid hsd
                    clear hRn hnx hsh hsd
                    go_wp2_with (first
                      | (go_at_call 71; (refine HSh.out.mono ?_; rintro e7 w7 ⟨rfl, hb7⟩; have HB7 := Lib.hid hb7; clear hb7))
                      | fail)
                    go_meet
                    case rel => exact ⟨u + 1, by trivial, by go_num, by omega, ⟨xs, HIt.out.below HB7.out, HSd.out, HRn.out⟩, HBq.out.trans (HB7.out.mono hz6)⟩
            · have hRn : R = none := by
                rw [HRd.out]
                unfold nextT
                simp only
                rw [if_pos heq]
                rfl
              have HRn := Lib.hid hRn
              have hq1 : (hashL lp == hh) = false := beq_eq_false_iff_ne.2 heq
              have hq2 : (hashL lp != hh) = true := bne_iff_ne.2 heq
              have HDc := Lib.hid hdc
              clear hRn hdc HDec hr
              have hpost : ∀ e w', DecPost w4 r e w' → (∃ u1 u2 u3 : Value, e = .returned (.tuple #[u1, u2, u3])) ∧ Below w4.heap.size w4 w' := fun e w' h => by
                cases r with
                | none => obtain ⟨er, pl, _, rfl, hb⟩ := h; exact ⟨⟨_, _, _, rfl⟩, hb⟩
                | some it => obtain ⟨v, rfl, _, hb⟩ := h; exact ⟨⟨_, _, _, rfl⟩, hb⟩
              have HPost := Lib.hid hpost
              clear hpost
              go_upto_region 12 with (first
                | (go_at_call 69; (refine HDc.out.mono ?_; intro e5 w5 h5; obtain ⟨⟨u1, u2, u3, rfl⟩, hb5⟩ := HPost.out e5 w5 h5; have HB5 := Lib.hid hb5; clear hb5 h5))
                | fail)
              have h1 := fun (n : Nat) => run_str (some ⟨w3.heap.size, 0, none⟩) 32 w5.heap.size (hashL lp) (w5.drewN n) (((HQ4.out.nowD HB5.out)).drewN n)
              have h2 := fun (n : Nat) => run_str (some Ah) ch w5.heap.size hh (w5.drewN n) (((HQ4h.out.nowD HB5.out)).drewN n)
              rw [hEl] at h1
              rw [hl] at h2
              go_quiet (fail)
              go_wp2_with fail
              try rw [Exit.noGoto_ret]
              refine bodyPost_ret (results_tmp3 rfl _ _ _) rfl ?_
              rw [HRn.out]
              exact ⟨rfl, below_drewN ((HBl.out.trans (HB24.out.mono hz2)).trans (HB5.out.mono (by omega))) nq⟩
      case rest =>
        obtain ⟨u', rfl, rfl, hu', hnd, hbl7⟩ := hcut
        rename World => w7
        obtain ⟨xs, hit7, hsh7, hR7⟩ := hnd
        have hz7 := hbl7.size
        have HBl7 := Lib.hid hbl7
        have HIt7 := Lib.hid hit7
        have HSh7 := Lib.hid hsh7
        obtain ⟨f', rfl⟩ : ∃ f', f = f' + 1 := ⟨f - 1, by omega⟩
        have hR8 : R = finD (lookT hashL (inT hashL f') xs (texts.drop u') ((nib key).drop at_)) := hR7
        have HR7 := Lib.hid hR8
        obtain ⟨ad7, c7, A7, cb7, l7, hv7, -, -, -, r0, r1, -, -, -, -, -, -⟩ := hit7.head
        have hfp7 := flat_pos (.list xs)
        have hn17 : (0 : Int) < ((It.list xs).flat.length : Int) := by omega
        simp only [cntI] at r1
        have h17i : (((xs.length : Nat) : Int) == 17) = decide (xs.length = 17) := by
          rw [Bool.eq_iff_iff, beq_iff_eq, decide_eq_true_iff]
          omega
        clear hbl7 hsh7 hR7 hR8 hit7 HB1 HB2 HBl r0
        subst hv7
        go_upto_if 85 with fail
        go_cut [10, 18, 19, 20, 21, 22, 23, 24] from 81 to 225 (fun v10 v18 _ _ _ _ _ _ wx => ∃ (at' : Nat) (it : It), v10 = .int .i64 at' ∧ at_ < at' ∧ at' ≤ N ∧ ItAt wx v18 it ∧ R = finD (atT hashL (inT hashL f') it (texts.drop u') ((nib key).drop at')) ∧ Below w.heap.size w wx)
        case first =>
          by_cases h17 : xs.length = 17
          · have d85 : (((xs.length : Nat) : Int) == 17) = true := by rw [h17]; rfl
            clear h17i
            by_cases hend : at_ = N
            · have d90 : ((at_ : Int) == 2 * (key.length : Int)) = true := by rw [beq_iff_eq]; omega
              have hpth : (nib key).drop at_ = [] := List.drop_of_length_le (by rw [HN.out]; omega)
              have hRe := HR7.out
              rw [hpth] at hRe
              have hpart := part_calls _ xs 16 w7 HIt7.out (by omega)
              have HRe := Lib.hid hRe
              have HPart := Lib.hid hpart
              clear hpth hRe hpart hend
              go_upto_region 24 with (first
                | (go_at_call 72; (refine HPart.out.mono ?_; rintro e8 w8 ⟨⟨v8, rfl, hv8⟩, rfl⟩; have HV8 := Lib.hid hv8; clear hv8))
                | fail)
              obtain ⟨ad8, c8, A8, cb8, l8, hv8e, -, -, -, r80, -, r82, hl8, hs8, -, -, hl8l⟩ := HV8.out.head
              have hfp8 := flat_pos (xs[16]'(by omega))
              have lf8 : (0 : Int) < ((xs[16]'(by omega)).flat.length : Int) := by omega
              cases hx16 : xs[16]'(by omega) with
              | list ys =>
                rw [hx16] at r80
                simp only [listI] at r80
                have hRn : R = none := by rw [HRe.out, look_17l _ _ _ h17 hx16]; rfl
                have HRn := Lib.hid hRn
                generalize (xs[16]'(by omega)).flat.length = n8 at *
                subst hv8e
                clear hRn hx16 HV8 hl8 r82
                go_wp2_with fail
                try rw [Exit.noGoto_ret]
                refine bodyPost_ret (results_tmp3 rfl _ _ _) rfl ?_
                rw [HRn.out]
                exact ⟨rfl, HBl7.out⟩
              | bytes v9 =>
                rw [hx16] at r80 hl8
                simp only [listI] at r80
                simp only [bytesI] at hl8
                have hRn : R = finD (some (v9, texts.drop u')) := by rw [HRe.out, look_17b _ _ _ h17 hx16]
                subst hl8
                have htold := told_calls A8 cb8 w7.heap.size l8 u' texts ps.length At ct w7 HPn.out (by omega) hs8.seq
                rw [← hRn] at htold
                have HTold := Lib.hid htold
                generalize (xs[16]'(by omega)).flat.length = n8 at *
                subst hv8e
                clear hRn htold hx16 HV8
                go_wp2_with (first
                  | (go_at_call 70; (refine HTold.out.mono ?_; intro e9 w9 h9; obtain ⟨x1, x2, x3, rfl⟩ := check_tuple h9; have H9 := Lib.hid h9; clear h9))
                  | fail)
                try rw [Exit.noGoto_ret]
                refine bodyPost_ret (results_tmp3 rfl _ _ _) rfl ?_
                exact H9.out.lift HBl7.out
            · have d90 : ((at_ : Int) == 2 * (key.length : Int)) = false := by rw [beq_eq_false_iff_ne]; omega
              have hatN : at_ < (nib key).length := by rw [HN.out]; omega
              obtain ⟨x, hx⟩ : ∃ x, (nib key).getD at_ 0 = x := ⟨_, rfl⟩
              have hgx : (nib key)[at_] = x := by rw [← hx, List.getD_eq_getElem?_getD, List.getElem?_eq_getElem hatN]; rfl
              have hx16 : x.toNat < 16 := nib_nibs key x (by rw [← hgx]; exact List.getElem_mem _)
              have hRe := HR7.out
              rw [List.drop_eq_getElem_cons hatN, hgx, look_17x _ _ _ h17 (by omega)] at hRe
              have hnb := nibble_calls A c w.heap.size key at_ w7 hk (HS.out.below HBl7.out (Nat.le_refl _)) (by omega)
              rw [hx] at hnb
              have hpart := part_calls _ xs x.toNat w7 HIt7.out (by omega)
              have hat1 : IntKind.i64.wrap ((at_ : Int) + 1) = (at_ : Int) + 1 := IntWalk.i64_in _ (by omega)
              generalize xs[x.toNat]'(by omega) = itx at hRe hpart
              generalize x.toNat = X at hnb hpart
              have HRe := Lib.hid hRe
              have HNb := Lib.hid hnb
              have HPart := Lib.hid hpart
              clear hgx hx hRe hnb hpart
              go_wp2_with (first
                | (go_at_call 73; (refine HNb.out.mono ?_; rintro e8 w8 ⟨rfl, rfl⟩))
                | (go_at_call 72; (refine HPart.out.mono ?_; rintro e9 w9 ⟨⟨v8, rfl, hv8⟩, rfl⟩; have HV8 := Lib.hid hv8; clear hv8))
                | fail)
              go_meet
              case rel => exact ⟨at_ + 1, _, by go_num, by omega, by omega, HV8.out, HRe.out, HBl7.out⟩
          · have d85 : (((xs.length : Nat) : Int) == 17) = false := by rw [beq_eq_false_iff_ne]; omega
            clear h17i
            obtain ⟨b2, far, P, mk, rfl, hrd⟩ := shaped_two HSh7.out h17
            obtain ⟨Ax, cx, hl1, g5, hsx, hxl⟩ := second_bytes HIt7.out
            have hpc := path_calls Ax cx b2 w7 (by omega) hsx.seq
            rw [hrd] at hpc
            have hPl := readT_len hrd
            have hfar := fun (W : World) (hb : Below w7.heap.size w7 W) => part_calls _ [.bytes b2, far] 1 W (HIt7.out.below hb) (by simp)
            have hl1i : (1 : Int) < ((It.list [.bytes b2, far]).flat.length : Int) := by omega
            have HPc := Lib.hid hpc
            have HFar := Lib.hid hfar
            have HRd := Lib.hid hrd
            have d2x : (([It.bytes b2, far].length : Int) == 17) = false := d85
            replace r1 : w7.cell? ⟨ad7.block, ad7.off + 1, none⟩ = some (.int .i64 2) := r1
            generalize (It.list [.bytes b2, far]).flat.length = n7 at *
            clear hpc hfar hrd hsx d85 d2x
            have hpathl : ((nib key).drop at_).length = N - at_ := by rw [List.length_drop, HN.out]
            obtain ⟨path, hpath⟩ : ∃ path, (nib key).drop at_ = path := ⟨_, rfl⟩
            have hRe := HR7.out
            rw [hpath] at hpathl hRe
            have hpg : ∀ j (h : j < path.length), (nib key).getD (at_ + j) 0 = path[j] := fun j h => by
              have h2 : at_ + j < (nib key).length := by rw [HN.out]; omega
              rw [List.getD_eq_getElem?_getD, List.getElem?_eq_getElem h2, Option.getD_some]
              simp only [← hpath, List.getElem_drop]
            have HRe := Lib.hid hRe
            have HPg := Lib.hid hpg
            have HPath := Lib.hid hpath
            have hpl1 : path.length ≤ N - at_ := by omega
            have hpl2 : N - at_ ≤ path.length := by omega
            clear hRe hpg hpath hpathl HR7
            go_upto_region 31 with (first
              | (go_at_call 74; (refine HPc.out.mono ?_; rintro e8 w8 ⟨A8, c8, rfl, ho8, hb8⟩; have hz8 := hb8.size; have HO8 := Lib.hid ho8; have HB8 := Lib.hid hb8; clear ho8 hb8))
              | (go_at_call 72; (refine (HFar.out w8 HB8.out).mono ?_; rintro e9 w9 ⟨⟨v8, rfl, hv8⟩, rfl⟩; have HV8 := Lib.hid (show ItAt w8 v8 far from hv8); clear hv8))
              | fail)
            obtain ⟨adf, cf, Af, cbf, lf, hvf, -, -, hltf, rf0, -, rf2, hlf, hsf, -, -, hlfl⟩ := HV8.out.head
            have hfpf := flat_pos far
            have lff : (0 : Int) < (far.flat.length : Int) := by omega
            have hPl2 : P.length ≤ 1048576 := by omega
            have hk2 : IntKind.i64.wrap (2 * (key.length : Int)) = (N : Int) := by rw [IntWalk.i64_in _ (by omega)]; omega
            have hk3 : 2 * (key.length : Int) = (N : Int) := by omega
            obtain ⟨nf, hnf⟩ : ∃ nf, far.flat.length = nf := ⟨_, rfl⟩
            rw [hnf] at hvf lff
            subst hvf
            clear hnf hfpf
            go_upto_block 2 with fail
            go_cut [24] from 125 to 151 (fun v24 wx => ∃ j : Nat, v24 = .int .i64 j ∧ j ≤ P.length ∧ (j < P.length ↔ ¬ P <+: path) ∧ ((j = P.length ∧ at_ + j = N) ↔ P = path) ∧ Below w8.heap.size w8 wx)
            case first => as_aux_lemma =>
              go_wp2_with fail
              go_loopw [24] (fun v24 wr => ∃ j : Nat, v24 = .int .i64 j ∧ j ≤ P.length ∧ at_ + j ≤ N ∧ P.take j = path.take j ∧ Below w8.heap.size w8 wr) (fun v24 _ => P.length - (intOf v24).toNat)
              case atStart => exact ⟨0, rfl, by omega, by omega, rfl, Below.refl _ _⟩
              case round =>
                obtain ⟨j, rfl, hj1, hj2, hj3, hb9⟩ := hrel
                rename World => w9
                have hz9 := hb9.size
                have HJ3 := Lib.hid hj3
                have HB9 := Lib.hid hb9
                have HStop := Lib.hid (fun (h : j = P.length ∨ j = path.length ∨ P[j]? ≠ path[j]?) => stop_law hj1 (by omega) hj3 h)
                have hjl : at_ + j = N ↔ j = path.length := by omega
                have HJl := Lib.hid hjl
                have haj : IntKind.i64.wrap ((at_ : Int) + (j : Int)) = (at_ : Int) + (j : Int) := IntWalk.i64_in _ (by omega)
                clear hj3 hb9 hjl
                by_cases hjP : j < P.length
                · have dj : decide ((j : Int) < (P.length : Int)) = true := decide_eq_true (by omega)
                  have dj2 : decide (j < P.length) = true := decide_eq_true hjP
                  have lj : (j : Int) < (P.length : Int) := by omega
                  by_cases hjN : at_ + j < N
                  · have dk : decide ((at_ : Int) + (j : Int) < (N : Int)) = true := decide_eq_true (by omega)
                    have hjp : j < path.length := by omega
                    have hnb : ∀ nq, Calls Tryd.prog 73 #[.slice A key.length c, .int .i64 ((at_ : Int) + (j : Int))] (w9.drewN nq) (fun e w' => e = .returned (.int .i64 ((path[j].toNat : Nat) : Int)) ∧ w' = w9.drewN nq) := fun nq => by
                      have h1 := nibble_calls A c w.heap.size key (at_ + j) (w9.drewN nq) hk (((HS.out.below (HBl7.out.trans ((HB8.out.trans (HB9.out.mono hz8)).mono hz7)) (Nat.le_refl _))).drewN nq) (by omega)
                      rw [HPg.out j hjp] at h1
                      rw [show ((at_ : Int) + (j : Int)) = ((at_ + j : Nat) : Int) from by omega]
                      exact h1.mono fun e w' ⟨h2, h3⟩ => ⟨h2, h3.symm⟩
                    obtain ⟨ad8, hA8, _, q8⟩ := ((Seq.of_own HO8.out).below HB9.out (Nat.le_refl _)).at_ (k := j) (by rw [numU_length]; exact hjP)
                    subst hA8
                    replace q8 : w9.cell? (ad8.add j) = some (.int .i64 ((P[j].toNat : Nat) : Int)) := by
                      rw [q8]
                      simp [numU, nums]
                    have hgs : P[j]? = some P[j] := List.getElem?_eq_getElem hjP
                    have hgt : path[j]? = some path[j] := List.getElem?_eq_getElem hjp
                    have htk1 : P.take (j + 1) = P.take j ++ [P[j]] := List.take_succ_eq_append_getElem hjP
                    have htk2 : path.take (j + 1) = path.take j ++ [path[j]] := List.take_succ_eq_append_getElem hjp
                    by_cases hxy : path[j] = P[j]
                    · have hn1 : P.take (j + 1) = path.take (j + 1) := by rw [htk1, htk2, HJ3.out, hxy]
                      rw [hxy] at hnb
                      have HNb := Lib.hid hnb
                      have HN1 := Lib.hid hn1
                      generalize P[j].toNat = X at *
                      clear hn1 hnb hgs hgt htk1 htk2 hxy
                      go_upto_region 32 with fail
                      go_quiet ((go_at_call 73; exact Calls.quiet_of_same (HNb.out _)))
                      go_wp2_with fail
                      exact ⟨⟨j + 1, by go_num, by omega, by omega, HN1.out, below_drewN HB9.out nq⟩, by simp [intOf]; omega⟩
                    · have hst := HStop.out (Or.inr (Or.inr (by rw [hgs, hgt]; intro h; exact hxy (Option.some.inj h).symm)))
                      have hne : ((path[j].toNat : Int) == (P[j].toNat : Int)) = false := by
                        rw [beq_eq_false_iff_ne]
                        intro h
                        exact hxy (UInt8.toNat_inj.1 (by omega))
                      have HNb := Lib.hid hnb
                      have HSt := Lib.hid hst
                      have hne2 : (path[j].toNat == P[j].toNat) = false := by
                        rw [beq_eq_false_iff_ne]
                        intro h
                        exact hxy (UInt8.toNat_inj.1 h)
                      generalize P[j].toNat = X at *
                      generalize path[j].toNat = Y at *
                      clear hst hnb hgs hgt htk1 htk2 hxy
                      go_upto_region 32 with fail
                      go_quiet ((go_at_call 73; exact Calls.quiet_of_same (HNb.out _)))
                      go_wp2_with fail
                      go_meet
                      case rel => exact ⟨j, by trivial, hj1, HSt.out.1, by rw [HJl.out]; exact HSt.out.2, below_drewN HB9.out nq⟩
                  · have dk : decide ((at_ : Int) + (j : Int) < (N : Int)) = false := decide_eq_false (by omega)
                    have hst := HStop.out (Or.inr (Or.inl (by omega)))
                    have HSt := Lib.hid hst
                    clear hst
                    go_upto_region 32 with fail
                    go_quiet (fail)
                    go_wp2_with fail
                    go_meet
                    case rel => exact ⟨j, by trivial, hj1, HSt.out.1, by rw [HJl.out]; exact HSt.out.2, below_drewN HB9.out nq⟩
                · have dj : decide ((j : Int) < (P.length : Int)) = false := decide_eq_false (by omega)
                  have dj2 : decide (j < P.length) = false := decide_eq_false hjP
                  have hst := HStop.out (Or.inl (by omega))
                  have HSt := Lib.hid hst
                  clear hst
                  go_upto_region 32 with fail
                  go_quiet (fail)
                  go_wp2_with fail
                  go_meet
                  case rel => exact ⟨j, by trivial, hj1, HSt.out.1, by rw [HJl.out]; exact HSt.out.2, below_drewN HB9.out nq⟩
            case rest => as_aux_lemma =>
              obtain ⟨j, rfl, hj1, hj2, hj3, hb9⟩ := hcut
              rename World => w9
              have hz9 := hb9.size
              have rg0 := (hb9.cell (p := adf) hltf).trans rf0
              have rg2 := (hb9.cell (p := ⟨adf.block, adf.off + 2, none⟩) hltf).trans rf2
              have HSf := Lib.hid (hsf.below hb9)
              have HBx := Lib.hid (HBl7.out.trans ((HB8.out.trans (hb9.mono hz8)).mono hz7))
              have HV9 := Lib.hid (HV8.out.below hb9)
              have HJ2 := Lib.hid hj2
              have HJ3 := Lib.hid hj3
              have htn := told_nil u' texts ps.length At ct w9 HPn.out
              have HTn := Lib.hid htn
              have htv := told_calls Af cbf w9.heap.size lf u' texts ps.length At ct w9 HPn.out (by omega) HSf.out.seq
              have HTv := Lib.hid htv
              have hap : IntKind.i64.wrap ((at_ : Int) + (P.length : Int)) = (at_ : Int) + (P.length : Int) := IntWalk.i64_in _ (by omega)
              have haj : IntKind.i64.wrap ((at_ : Int) + (j : Int)) = (at_ : Int) + (j : Int) := IntWalk.i64_in _ (by omega)
              obtain ⟨M, hM⟩ : ∃ M, mk.toNat = M := ⟨_, rfl⟩
              have hM1 : M = 1 ↔ mk = 1 := by
                rw [← hM, ← UInt8.toNat_inj]
                rfl
              rw [hM]
              clear hM hj2 hj3 hb9 htn htv hsf rf0 rf2 HV8 r1 g5
              by_cases hmk : M = 1
              · have hmk1 := hM1.1 hmk
                have hrd1 := HRd.out
                rw [hmk1] at hrd1
                have HRd1 := Lib.hid hrd1
                subst hmk
                clear hmk1 hrd1 hM1 HRd
                cases far with
                | list ys =>
                  simp only [listI] at rg0
                  have hRn : R = none := by rw [HRe.out, look_2l _ _ _ HRd1.out]; rfl
                  have HRn := Lib.hid hRn
                  clear hRn rg2 hlf
                  go_wp2_with fail
                  try rw [Exit.noGoto_ret]
                  refine bodyPost_ret (results_tmp3 rfl _ _ _) rfl ?_
                  rw [HRn.out]
                  exact ⟨rfl, HBx.out⟩
                | bytes v =>
                  simp only [listI] at rg0
                  simp only [bytesI] at hlf
                  subst hlf
                  have hR2 := HRe.out
                  rw [look_2b _ _ _ HRd1.out] at hR2
                  by_cases hv0 : lf = []
                  · rw [if_pos hv0] at hR2
                    have HRn := Lib.hid (show R = none from hR2)
                    subst hv0
                    clear hR2
                    go_wp2_with fail
                    try rw [Exit.noGoto_ret]
                    refine bodyPost_ret (results_tmp3 rfl _ _ _) rfl ?_
                    rw [HRn.out]
                    exact ⟨rfl, HBx.out⟩
                  · rw [if_neg hv0] at hR2
                    have hlp := List.length_pos_iff.2 hv0
                    have dl0 : ((lf.length : Int) == 0) = false := by rw [beq_eq_false_iff_ne]; omega
                    by_cases hPp : P = path
                    · rw [if_pos hPp] at hR2
                      obtain ⟨h1, h2⟩ := HJ3.out.2 hPp
                      have d1 : ((j : Int) == (P.length : Int)) = true := by rw [beq_iff_eq]; omega
                      have d2 : ((at_ : Int) + (j : Int) == (N : Int)) = true := by rw [beq_iff_eq]; omega
                      have ht := HTv.out
                      rw [← hR2] at ht
                      have HTold := Lib.hid ht
                      clear hR2 ht h1 h2 hPp hv0
                      go_wp2_with (first
                        | (go_at_call 70; (refine HTold.out.mono ?_; intro e11 w11 h11; obtain ⟨x1, x2, x3, rfl⟩ := check_tuple h11; have H11 := Lib.hid h11; clear h11))
                        | fail)
                      try rw [Exit.noGoto_ret]
                      refine bodyPost_ret (results_tmp3 rfl _ _ _) rfl ?_
                      exact H11.out.lift HBx.out
                    · rw [if_neg hPp] at hR2
                      have ht := HTn.out
                      rw [← hR2] at ht
                      have HTold := Lib.hid ht
                      have hno := fun h => hPp (HJ3.out.1 h)
                      clear hR2 ht hPp hv0
                      by_cases hjl : j = P.length
                      · have d1 : ((j : Int) == (P.length : Int)) = true := by rw [beq_iff_eq]; omega
                        have hjn : ¬ at_ + j = N := fun h => hno ⟨hjl, h⟩
                        have d2 : ((at_ : Int) + (j : Int) == (N : Int)) = false := by rw [beq_eq_false_iff_ne]; omega
                        clear hjl hno hjn
                        go_wp2_with (first
                          | (go_at_call 70; (refine HTold.out.mono ?_; intro e11 w11 h11; obtain ⟨x1, x2, x3, rfl⟩ := check_tuple h11; have H11 := Lib.hid h11; clear h11))
                          | fail)
                        try rw [Exit.noGoto_ret]
                        refine bodyPost_ret (results_tmp3 rfl _ _ _) rfl ?_
                        exact H11.out.lift HBx.out
                      · have d1 : ((j : Int) == (P.length : Int)) = false := by rw [beq_eq_false_iff_ne]; omega
                        clear hjl hno
                        go_wp2_with (first
                          | (go_at_call 70; (refine HTold.out.mono ?_; intro e11 w11 h11; obtain ⟨x1, x2, x3, rfl⟩ := check_tuple h11; have H11 := Lib.hid h11; clear h11))
                          | fail)
                        try rw [Exit.noGoto_ret]
                        refine bodyPost_ret (results_tmp3 rfl _ _ _) rfl ?_
                        exact H11.out.lift HBx.out
              · have hmk1 : mk ≠ 1 := fun h => hmk (hM1.2 h)
                have d153 : ((M : Int) == 1) = false := by rw [beq_eq_false_iff_ne]; omega
                have d153b : (M == 1) = false := by rw [beq_eq_false_iff_ne]; omega
                have hR2 := HRe.out
                rw [look_2x _ _ _ HRd.out hmk1] at hR2
                clear hM1 hmk hmk1
                by_cases hP0 : P = []
                · rw [if_pos hP0] at hR2
                  have HRn := Lib.hid (show R = none from hR2)
                  have d197 : ((P.length : Int) == 0) = true := by rw [hP0]; rfl
                  clear hR2 hP0
                  go_wp2_with fail
                  try rw [Exit.noGoto_ret]
                  refine bodyPost_ret (results_tmp3 rfl _ _ _) rfl ?_
                  rw [HRn.out]
                  exact ⟨rfl, HBx.out⟩
                · rw [if_neg hP0] at hR2
                  have hPp := List.length_pos_iff.2 hP0
                  have d197 : ((P.length : Int) == 0) = false := by rw [beq_eq_false_iff_ne]; omega
                  by_cases hjl : j < P.length
                  · rw [if_pos (HJ2.out.1 hjl)] at hR2
                    have d201 : decide ((j : Int) < (P.length : Int)) = true := decide_eq_true (by omega)
                    have ht := HTn.out
                    rw [← hR2] at ht
                    have HTold := Lib.hid ht
                    clear hR2 ht hP0
                    go_wp2_with (first
                      | (go_at_call 70; (refine HTold.out.mono ?_; intro e11 w11 h11; obtain ⟨x1, x2, x3, rfl⟩ := check_tuple h11; have H11 := Lib.hid h11; clear h11))
                      | fail)
                    try rw [Exit.noGoto_ret]
                    refine bodyPost_ret (results_tmp3 rfl _ _ _) rfl ?_
                    exact H11.out.lift HBx.out
                  · have hpre : P <+: path := Decidable.byContradiction fun h => hjl (HJ2.out.2 h)
                    rw [if_neg (fun h => h hpre)] at hR2
                    have hPle : P.length ≤ path.length := hpre.length_le
                    have d201 : decide ((j : Int) < (P.length : Int)) = false := decide_eq_false (by omega)
                    have hdr : path.drop P.length = (nib key).drop (at_ + P.length) := by rw [← HPath.out, List.drop_drop]
                    cases far with
                    | list ys =>
                      simp only [listI] at rg0
                      rw [show voidI (.list ys) = false from rfl, if_neg (by simp), hdr] at hR2
                      have HR3 := Lib.hid hR2
                      clear hR2 hdr hpre hP0 rg2 hlf
                      go_wp2_with fail
                      go_meet
                      case rel => exact ⟨at_ + P.length, _, by go_num, by omega, by omega, HV9.out, HR3.out, HBx.out⟩
                    | bytes v =>
                      simp only [listI] at rg0
                      simp only [bytesI] at hlf
                      subst hlf
                      by_cases hv0 : lf = []
                      · rw [hv0, show voidI (.bytes []) = true from rfl, if_pos rfl] at hR2
                        have HRn := Lib.hid (show R = none from hR2)
                        have dl0 : ((lf.length : Int) == 0) = true := by rw [hv0]; rfl
                        clear hR2 hdr hpre hP0 hv0
                        go_wp2_with fail
                        try rw [Exit.noGoto_ret]
                        refine bodyPost_ret (results_tmp3 rfl _ _ _) rfl ?_
                        rw [HRn.out]
                        exact ⟨rfl, HBx.out⟩
                      · have hlp := List.length_pos_iff.2 hv0
                        have dl0 : ((lf.length : Int) == 0) = false := by rw [beq_eq_false_iff_ne]; omega
                        have hvd : voidI (.bytes lf) = false := by
                          cases lf with
                          | nil => exact absurd rfl hv0
                          | cons _ _ => rfl
                        rw [hvd, if_neg (by simp), hdr] at hR2
                        have HR3 := Lib.hid hR2
                        clear hR2 hdr hpre hP0 hv0 hvd
                        go_wp2_with fail
                        go_meet
                        case rel => exact ⟨at_ + P.length, _, by go_num, by omega, by omega, HV9.out, HR3.out, HBx.out⟩
        case rest => as_aux_lemma =>
          obtain ⟨at', it, rfl, hat1, hat2, hit, hRR, hb10⟩ := hcut
          rename World => w10
          have hz10 := hb10.size
          obtain ⟨adr, cr, Ar, cbr, lr, hvr, -, -, -, rf0, -, rg2, hlr, hsr, -, -, hlrl⟩ := hit.head
          have hfpr := flat_pos it
          have lfr : (0 : Int) < (it.flat.length : Int) := by omega
          have HIt10 := Lib.hid hit
          have HRR := Lib.hid hRR
          have HBx := Lib.hid hb10
          clear hit hRR hb10 r1 h17i
          subst hvr
          cases it with
          | bytes v =>
            simp only [listI] at rf0
            simp only [bytesI] at hlr
            subst hlr
            have hR2 := HRR.out
            unfold atT at hR2
            simp only at hR2
            generalize (It.bytes lr).flat.length = nf at *
            by_cases hv0 : lr = []
            · rw [if_pos hv0] at hR2
              have ht := told_nil u' texts ps.length At ct w10 HPn.out
              rw [← hR2] at ht
              have HTold := Lib.hid ht
              have dl0 : ((lr.length : Int) == 0) = true := by rw [hv0]; rfl
              clear hR2 ht hv0
              go_wp2_with (first
                | (go_at_call 70; (refine HTold.out.mono ?_; intro e11 w11 h11; obtain ⟨x1, x2, x3, rfl⟩ := check_tuple h11; have H11 := Lib.hid h11; clear h11))
                | fail)
              try rw [Exit.noGoto_ret]
              refine bodyPost_ret (results_tmp3 rfl _ _ _) rfl ?_
              exact H11.out.lift HBx.out
            · rw [if_neg hv0] at hR2
              have hlp := List.length_pos_iff.2 hv0
              have dl0 : ((lr.length : Int) == 0) = false := by rw [beq_eq_false_iff_ne]; omega
              by_cases h32 : lr.length = 32
              · rw [if_pos h32] at hR2
                obtain ⟨ah, hah, _⟩ := hsr (by omega)
                subst hah
                have d32 : ((lr.length : Int) == 32) = true := by rw [h32]; rfl
                have d32b : ((lr.length : Int) != 32) = false := by rw [h32]; rfl
                have hhd : HashD texts key R at' u' f' (.slice (some ah) lr.length cbr) w10 := ⟨ah, cbr, lr, by rw [h32], h32, hsr.seq, hR2⟩
                have HHd := Lib.hid hhd
                clear hhd hR2 hv0 h32
                go_wp2_with fail
                exact ⟨⟨at', u', f', rfl, rfl, by omega, by omega, by omega, HBx.out, Or.inl HHd.out⟩, by simp [intOf]; omega⟩
              · rw [if_neg h32] at hR2
                have HRn := Lib.hid (show R = none from hR2)
                have d32 : ((lr.length : Int) == 32) = false := by rw [beq_eq_false_iff_ne]; omega
                have d32b : ((lr.length : Int) != 32) = true := by rw [bne_iff_ne]; omega
                have d32c : (lr.length == 32) = false := by rw [beq_eq_false_iff_ne]; exact h32
                clear hR2 hv0
                go_wp2_with fail
                try rw [Exit.noGoto_ret]
                refine bodyPost_ret (results_tmp3 rfl _ _ _) rfl ?_
                rw [HRn.out]
                exact ⟨rfl, HBx.out⟩
          | list xs2 =>
            simp only [listI] at rf0
            have henc := refEncode_calls _ _ _ HIt10.out
            have hsh := fun (W : World) (hb : Below w10.heap.size w10 W) => shape_calls _ _ W (HIt10.out.below hb)
            have hR2 := HRR.out
            unfold atT at hR2
            simp only at hR2
            have HEnc := Lib.hid henc
            have HSh := Lib.hid hsh
            obtain ⟨L, hL⟩ : ∃ L, (It.list xs2).enc.length = L := ⟨_, rfl⟩
            rw [hL] at hR2
            have HL := Lib.hid hL
            generalize (It.list xs2).flat.length = nf at *
            clear rg2 hlr henc hsh hL
            by_cases h32 : 32 ≤ L
            · rw [if_pos (Or.inl h32)] at hR2
              have HRn := Lib.hid (show R = none from hR2)
              have d260 : decide ((L : Int) ≥ 32) = true := decide_eq_true (by omega)
              have d260b : decide (32 ≤ L) = true := decide_eq_true h32
              clear hR2
              go_wp2_with (first
                | (go_at_call 75; (refine HEnc.out.mono ?_; rw [HL.out]; rintro e11 w11 ⟨A11, c11, rfl, hb11⟩; have HB11 := Lib.hid hb11; clear hb11))
                | fail)
              try rw [Exit.noGoto_ret]
              refine bodyPost_ret (results_tmp3 rfl _ _ _) rfl ?_
              rw [HRn.out]
              exact ⟨rfl, HBx.out.trans (HB11.out.mono hz10)⟩
            · have d260 : decide ((L : Int) ≥ 32) = false := decide_eq_false (by omega)
              have d260b : decide (32 ≤ L) = false := decide_eq_false h32
              cases hsd : shapedT xs2 with
              | false =>
                rw [hsd, if_pos (Or.inr rfl)] at hR2
                have HRn := Lib.hid (show R = none from hR2)
                have hs2 := HSh.out
                simp only [shapeD, hsd] at hs2
                have HSh2 := Lib.hid hs2
                clear hR2 hsd hs2 HSh
                go_wp2_with (first
                  | (go_at_call 75; (refine HEnc.out.mono ?_; rw [HL.out]; rintro e11 w11 ⟨A11, c11, rfl, hb11⟩; have hz11 := hb11.size; have HB11 := Lib.hid hb11; clear hb11))
                  | (go_at_call 71; (refine (HSh2.out w11 HB11.out).mono ?_; rintro e12 w12 ⟨rfl, hb12⟩; have HB12 := Lib.hid hb12; clear hb12))
                  | fail)
                try rw [Exit.noGoto_ret]
                refine bodyPost_ret (results_tmp3 rfl _ _ _) rfl ?_
                rw [HRn.out]
                exact ⟨rfl, HBx.out.trans ((HB11.out.trans (HB12.out.mono hz11)).mono hz10)⟩
              | true =>
                rw [hsd, if_neg (by rintro (h | h); exact h32 h; cases h)] at hR2
                have hs2 := HSh.out
                simp only [shapeD, hsd] at hs2
                have HSh2 := Lib.hid hs2
                have HR3 := Lib.hid hR2
                have HSd := Lib.hid hsd
                clear hR2 hsd hs2 HSh
                go_wp2_with (first
                  | (go_at_call 75; (refine HEnc.out.mono ?_; rw [HL.out]; rintro e11 w11 ⟨A11, c11, rfl, hb11⟩; have hz11 := hb11.size; have HB11 := Lib.hid hb11; clear hb11))
                  | (go_at_call 71; (refine (HSh2.out w11 HB11.out).mono ?_; rintro e12 w12 ⟨rfl, hb12⟩; have HB12 := Lib.hid hb12; clear hb12))
                  | fail)
                have hb1012 := HB11.out.trans (HB12.out.mono hz11)
                exact ⟨⟨at', u', f', rfl, rfl, by omega, by omega, by omega, HBx.out.trans (hb1012.mono hz10), Or.inr ⟨rfl, xs2, HIt10.out.below hb1012, HSd.out, HR3.out⟩⟩, by simp [intOf]; omega⟩
end Go.Proofs.YtfhindffmghlaaaDoor
