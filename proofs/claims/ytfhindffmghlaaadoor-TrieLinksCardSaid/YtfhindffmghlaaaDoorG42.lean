/- The document's Encode, read from behind: the texts of the items. No walk. -/
import Derived.Test.YtfhindffmghlaaaDoorG20
import Derived.Test.YtfhindffmghlaaaDoorMRDocB
import Derived.Test.YtfhindffmghlaaaDoorMTBuiltB
import Derived.Deep.CutRange
import Derived.Deep.CutBlock
set_option linter.unusedVariables false
set_option linter.unusedSimpArgs false
namespace Go.Proofs.YtfhindffmghlaaaDoor
open Go.RowKit It
/-- The texts of a row's whole items. -/
def encS : List SaidI → List (List UInt8)
  | [] => []
  | x :: r => if x.1 then withM 192 ((encS r).take x.2.1.toNat).flatten :: (encS r).drop x.2.1.toNat else bytesM x.2.2 :: encS r
/-- Is it a row that can be written? -/
def okS : List SaidI → Prop
  | [] => True
  | x :: r => okS r ∧ (if x.1 then 0 ≤ x.2.1 ∧ x.2.1.toNat ≤ (encS r).length ∧ x.2.2 = [] else x.2.1 = 0)
theorem encs_flat (xs : List It) : encs xs = (xs.map It.enc).flatten := by
  induction xs with
  | nil => rfl
  | cons x xs ih => rw [encs, ih, List.map_cons, List.flatten_cons]
mutual
theorem encS_it : ∀ (it : It) (r : List SaidI), encS (it.flat ++ r) = it.enc :: encS r
  | .bytes l, r => by rw [It.flat, It.enc]; rfl
  | .list xs, r => by
    rw [It.flat, It.enc, List.cons_append]
    have h := encS_its xs r
    conv => lhs; unfold encS
    rw [if_pos rfl, h]
    simp only [Int.toNat_natCast]
    rw [List.take_append_of_le_length (by simp), List.take_of_length_le (by simp), List.drop_append_of_le_length (by simp), List.drop_of_length_le (by simp), ← encs_flat, List.nil_append]
theorem encS_its : ∀ (xs : List It) (r : List SaidI), encS (flats xs ++ r) = xs.map It.enc ++ encS r
  | [], r => by rw [flats]; rfl
  | x :: xs, r => by rw [flats, List.append_assoc, encS_it x, encS_its xs, List.map_cons, List.cons_append]
end
mutual
theorem okS_it : ∀ (it : It) (r : List SaidI), okS r → okS (it.flat ++ r)
  | .bytes l, r, h => by rw [It.flat]; exact ⟨h, rfl⟩
  | .list xs, r, h => by
    rw [It.flat, List.cons_append]
    refine ⟨okS_its xs r h, ?_⟩
    rw [if_pos rfl, encS_its xs r]
    exact ⟨by simp, by simp, rfl⟩
theorem okS_its : ∀ (xs : List It) (r : List SaidI), okS r → okS (flats xs ++ r)
  | [], r, h => by rw [flats]; exact h
  | x :: xs, r, h => by rw [flats, List.append_assoc]; exact okS_it x _ (okS_its xs r h)
end
theorem okS_drop : ∀ (L : List SaidI) (i : Nat), okS L → okS (L.drop i)
  | [], i, h => by rw [List.drop_nil]; exact h
  | x :: r, 0, h => h
  | x :: r, i + 1, h => by rw [List.drop_succ_cons]; exact okS_drop r i h.1
theorem bytesM_le9 {l : List UInt8} (h : l.length ≤ 1099511627776) : (bytesM l).length ≤ l.length + 9 := by
  unfold bytesM
  rw [List.length_append]
  split
  · simp
  · have h1 := headL_length 128 l.length
    have h2 := wholeN_le l.length (by omega)
    omega
theorem flatten_cut (T : List (List UInt8)) (k : Nat) : (T.take k).flatten.length + (T.drop k).flatten.length = T.flatten.length := by
  conv => rhs; rw [← List.take_append_drop k T]
  rw [List.flatten_append, List.length_append]
theorem encS_len {m : Nat} (hm : m ≤ 524288) : ∀ (L : List SaidI), L.length ≤ 524288 → (∀ x ∈ L, x.2.2.length ≤ m) → (encS L).flatten.length ≤ L.length * (m + 9) ∧ (encS L).length ≤ L.length
  | [], _, _ => ⟨by simp [encS], by simp [encS]⟩
  | x :: r, hl, h => by
    rw [List.length_cons] at hl
    obtain ⟨h1, h2⟩ := encS_len hm r (by omega) (fun y hy => h y (List.mem_cons_of_mem _ hy))
    have hx := h x List.mem_cons_self
    have hb : r.length * (m + 9) ≤ 524288 * (524288 + 9) := Nat.mul_le_mul (by omega) (by omega)
    rw [List.length_cons, Nat.add_mul, Nat.one_mul]
    unfold encS
    split
    · have hc := flatten_cut (encS r) x.2.1.toNat
      have hw : (withM 192 ((encS r).take x.2.1.toNat).flatten).length ≤ ((encS r).take x.2.1.toNat).flatten.length + 9 := by
        rw [withM_length]
        exact wholeN_le _ (by omega)
      rw [List.flatten_cons, List.length_append, List.length_cons, List.length_drop]
      omega
    · have hw := bytesM_le9 (l := x.2.2) (by omega)
      rw [List.flatten_cons, List.length_append, List.length_cons]
      omega
theorem join_take {ps : List Piece} {T : List (List UInt8)} (h : ps.map txt = T.reverse) (k : Nat) : joinP (ps.reverse.take k) = (T.take k).flatten := by
  rw [joinP_txt, List.map_take, List.map_reverse, h, List.reverse_reverse]
theorem take_rev {ps : List Piece} {T : List (List UInt8)} (h : ps.map txt = T.reverse) (k : Nat) (hk : k ≤ T.length) : (ps.take (ps.length - k)).map txt = (T.drop k).reverse := by
  have hl : ps.length = T.length := by
    have := congrArg List.length h
    simpa using this
  rw [List.map_take, h, hl]
  apply List.ext_getElem
  · simp
  · intro i h1 h2
    simp only [List.length_take, List.length_reverse, List.length_drop] at h1 h2
    simp only [List.getElem_take, List.getElem_reverse, List.getElem_drop]
    congr 1
    simp only [List.length_drop]
    omega
theorem rev_at {ps : List Piece} {k : Nat} (h : k < ps.length) : ps.reverse.take (k + 1) = ps.reverse.take k ++ [ps[ps.length - 1 - k]'(by omega)] := by
  rw [List.take_succ_eq_append_getElem (by rw [List.length_reverse]; exact h), List.getElem_reverse]
end Go.Proofs.YtfhindffmghlaaaDoor
/- The document's Encode of an item's row: its bytes. -/
namespace Go.Proofs.YtfhindffmghlaaaDoor
open Go.RowKit It
theorem SeqT.itemsAt {w : World} {A : Option Addr} {l : List ItemL} (h : SeqT w 109 A (itemsC l)) : ItemsAt w w.heap.size A l := fun j hj => by
  have hl := itemsC_length l
  obtain ⟨ad, e, ⟨cs, hb⟩, hc⟩ := h (by omega)
  refine ⟨ad, e, hb.lt, fun i hi => ?_⟩
  rw [hc (j * 3 + i) (by omega), ← itemsC_get l j i hj hi, List.getElem?_eq_getElem (by omega)]
theorem own_cutS {w : World} {base : Nat} {e : TypeId} {A : Option Addr} {n c : Nat} {xs : List Value} (h : w.ownsRow base e 1 (.slice A n c) n xs) (k : Nat) (hk : k ≤ n) : w.ownsRow base e 1 (.slice A k c) k (xs.take k) := by
  rcases Nat.eq_zero_or_pos n with h0 | h0
  · subst h0
    obtain rfl : k = 0 := by omega
    have hx : xs = [] := List.eq_nil_of_length_eq_zero (by simpa using h.1)
    subst hx
    exact h
  · exact own_short h k hk h0
attribute [local irreducible] Calls in
set_option maxHeartbeats 4000000 in
set_option maxRecDepth 20000 in
theorem refEncode_calls (v : Value) (it : It) (w : World) (h : ItAt w v it) :
    Calls Tryd.prog 75 #[v] w (fun e w' => ∃ (A : Option Addr) (c : Nat), e = .returned (.tuple #[.slice A it.enc.length c, .int .i64 0]) ∧ Below w.heap.size w w') := by
  obtain ⟨A, c, its, rfl, hc, hcm, hsd, hsq, hby, hil, hbl, hbc⟩ := h
  have hE : encS it.flat = [it.enc] := by
    have := encS_it it []
    rwa [List.append_nil] at this
  have hok : okS it.flat := by
    have := okS_it it [] trivial
    rwa [List.append_nil] at this
  rw [← hsd] at hE hok
  have hlen := fun (i : Nat) => encS_len (m := 524288) (Nat.le_refl _) ((its.map said).drop i) (by rw [List.length_drop, List.length_map]; omega) (fun x hx => by
    obtain ⟨y, hy, rfl⟩ := List.mem_map.1 (List.mem_of_mem_drop hx)
    exact hbl y hy)
  have hit := hsq.itemsAt
  have HE := Lib.hid hE
  have HOk := Lib.hid hok
  have HLen := Lib.hid hlen
  have HIt := Lib.hid hit
  have HBy := Lib.hid hby
  have HBl := Lib.hid hbl
  have hcl : (its.length : Int) ≤ (c : Int) := by omega
  have e0 : IntKind.i64.wrap ((its.length : Int) - 1) = (its.length : Int) - 1 := IntWalk.i64_in _ (by omega)
  clear hE hok hlen hit hsd hsq hby hbl hbc
  go_enter Tryd.func75, Tryd.ntmps75
  go_wp2_with fail
  go_loopw [4, 5, 6, 7, 8] (fun v4 v5 _ _ _ wr => ∃ (i : Nat) (ps : List Piece) (A4 : Option Addr) (c4 : Nat), i ≤ its.length ∧ v5 = .int .i64 ((i : Int) - 1) ∧ v4 = .slice A4 ps.length c4 ∧ wr.ownsRow w.heap.size 24 1 (.slice A4 ps.length c4) ps.length (pcs ps) ∧ (∀ p ∈ ps, OwnP wr w.heap.size p) ∧ ps.map txt = (encS ((its.map said).drop i)).reverse ∧ Below w.heap.size w wr) (fun _ v5 _ _ _ _ => (intOf v5 + 1).toNat)
  case atStart => exact ⟨its.length, [], none, 0, Nat.le_refl _, rfl, rfl, World.ownsRow_nil _ _ _ _, fun _ h => (List.not_mem_nil h).elim, by rw [List.drop_of_length_le (by simp)]; rfl, Below.refl _ _⟩
  case round =>
    obtain ⟨i, ps, A4, c4, hi, rfl, rfl, ho4, hp4, hm4, hb4⟩ := hrel
    rename World => w5
    have hz5 := hb4.size
    obtain ⟨hln1, hln2⟩ := HLen.out i
    rw [List.length_drop, List.length_map] at hln1 hln2
    have hpl : ps.length = (encS ((its.map said).drop i)).length := by
      have := congrArg List.length hm4
      simpa using this
    have hpl1 : ps.length ≤ its.length - i := by omega
    have HO4 := Lib.hid ho4
    have HP4 := Lib.hid hp4
    have HM4 := Lib.hid hm4
    have HB4 := Lib.hid hb4
    have HPl := Lib.hid hpl
    clear ho4 hp4 hm4 hpl
    cases i with
    | zero =>
      have hm := HM4.out
      rw [List.drop_zero, HE.out] at hm
      obtain ⟨p, rfl⟩ : ∃ p, ps = [p] := List.length_eq_one_iff.1 (by have := congrArg List.length hm; simpa using this)
      have hp : p.2.2 = it.enc := by simpa [txt] using hm
      have HPe := Lib.hid hp
      obtain ⟨g4, rfl, _, _, _, _⟩ := own_form HO4.out (by simp)
      have q0 : w5.cell? ⟨g4, 0, none⟩ = some (pcV p) := by
        have := (Seq.of_own HO4.out).at_ (k := 0) (by simp [pcs])
        obtain ⟨ad, e, _, hc⟩ := this
        injection e with e
        subst e
        exact hc
      unfold pcV at q0
      clear hm hp hb4
      go_wp2_with fail
      go_ret2
      rw [← HPe.out]
      exact ⟨p.1, p.2.1, rfl, HB4.out⟩
    | succ i =>
      have hii : i < its.length := by omega
      have hdr : (its.map said).drop i = said its[i] :: (its.map said).drop (i + 1) := by
        rw [List.drop_eq_getElem_cons (by simpa using hii), List.getElem_map]
      have hok : okS ((its.map said).drop i) := okS_drop _ i HOk.out
      rw [hdr] at hok
      have hes : encS ((its.map said).drop i) = encS (said its[i] :: (its.map said).drop (i + 1)) := by rw [hdr]
      have hlb := HBl.out _ (List.getElem_mem hii)
      have hsb := (HBy.out _ (List.getElem_mem hii)).below HB4.out
      obtain ⟨ad, rfl, hlt, r0, r1, r2⟩ := (HIt.out.below HB4.out (Nat.le_refl _)).get i hii
      generalize its[i] = x at r0 r1 r2 hok hes hlb hsb
      obtain ⟨bx, nx, Ab, cb, lb⟩ := x
      simp only [said] at r0 r1 r2 hok hes hlb hsb
      have hm4 := HM4.out
      have li : (i : Int) < (its.length : Int) := by omega
      have li0 : (0 : Int) ≤ (i : Int) := by omega
      have ei : ((i + 1 : Nat) : Int) - 1 = (i : Int) := by omega
      have HEs := Lib.hid hes
      have HM4 := Lib.hid hm4
      have HSb := Lib.hid hsb
      clear hdr hes hm4 hsb hb4
      cases bx with
      | false =>
        obtain ⟨_, hn⟩ := hok
        rw [if_neg (by simp)] at hn
        subst hn
        have HBb := Lib.hid (fun (o : Obj) => refBytes_calls Ab cb (w5.alloc o).heap.size lb (w5.alloc o) (by omega) (Nat.le_refl _) ((HSb.out.below ((Below.refl w5.heap.size w5).alloc (Nat.le_refl _) o)).seq))
        go_wp2_with (first
          | (go_at_call 97; (refine (HBb.out _).mono ?_; unfold Fresh; rintro e6 w6 ⟨A6, c6, rfl, ho6, hb6⟩; have hz6 := hb6.size; rw [size_alloc] at hz6; have HO6 := Lib.hid (own_mono ho6 (base' := w.heap.size) (by rw [size_alloc]; omega)); have HB56 := Lib.hid (((Below.refl w5.heap.size w5).alloc (Nat.le_refl _) _).trans (hb6.mono (by rw [size_alloc]; omega))); clear ho6 hb6))
          | (at_builtin; (refine wpL_append rfl (.tmp 26) (.tmp 30) 25 rfl elText rfl (own_alloc (own_below' HO4.out HB56.out) _) rfl rfl (Seq.of_blk (xs := [.slice A6 (bytesM lb).length c6]) (Blk.new' _ _ _ rfl) (Nat.lt_succ_self _)) (by simp [Value.oneCell']) (by unfold maxLen; omega) (by omega) (by rw [size_alloc]; omega) ?_; intro A7 c7 w7 ho7 hg7 _; have hz7 := hg7.size; rw [size_alloc] at hz7; have HO7 := Lib.hid ho7; have HG7 := Lib.hid hg7; clear ho7 hg7))
          | fail)
        have hp6 : OwnP (w6.alloc (.cells #[.slice A6 (bytesM lb).length c6] 24)) w.heap.size (A6, c6, bytesM lb) := own_alloc HO6.out _
        have ho4 := own_alloc (own_below' HO4.out HB56.out) (.cells #[.slice A6 (bytesM lb).length c6] 24)
        have e7 : (ps ++ [(A6, c6, bytesM lb)]).length = ps.length + 1 := by simp
        have hes := HEs.out
        rw [show encS ((false, 0, lb) :: (its.map said).drop (i + 1)) = bytesM lb :: encS ((its.map said).drop (i + 1)) from rfl] at hes
        refine ⟨⟨i, ps ++ [(A6, c6, bytesM lb)], A7, c7, by omega, by go_num, by rw [e7], by rw [e7, show pcs (ps ++ [(A6, c6, bytesM lb)]) = pcs ps ++ [.slice A6 (bytesM lb).length c6] from by simp [pcs, pcV]]; exact HO7.out, fun p hp => ?_, ?_, ((HB4.out.trans (HB56.out.mono hz5)).alloc (by omega) _).grown HG7.out (by rw [size_alloc]; omega) (fun g hg => (ho4.lt g hg).1)⟩, by simp [intOf] <;> omega⟩
        · rcases List.mem_append.1 hp with hp | hp
          · exact ((OwnP.below (HP4.out p hp) HB56.out).alloc _).grown ho4 (by decide) HG7.out
          · rw [List.mem_singleton] at hp
            subst hp
            exact hp6.grown ho4 (by decide) HG7.out
        · rw [List.map_append, HM4.out, hes, List.reverse_cons]
          rfl
      | true =>
        obtain ⟨-, hn⟩ := hok
        rw [if_pos rfl] at hn
        obtain ⟨hn0, hn1, hn2⟩ := hn
        simp only at hn0 hn1 hn2
        obtain ⟨n, rfl⟩ : ∃ n : Nat, nx = n := ⟨nx.toNat, by omega⟩
        rw [Int.toNat_natCast] at hn1
        subst hn2
        have hpl := HPl.out
        have hn1' : n ≤ ps.length := by omega
        have dn0 : decide ((n : Int) < 0) = false := decide_eq_false (by omega)
        have dn1 : decide ((n : Int) > (ps.length : Int)) = false := decide_eq_false (by omega)
        have dn2 : decide (ps.length < n) = false := decide_eq_false (by omega)
        have hx6 : Blk (w5.alloc (.cells #[.bool true, .int .i64 n, .slice Ab 0 cb] 109)) w5.heap.size 109 #[.bool true, .int .i64 n, .slice Ab 0 cb] := Blk.new _ _ _
        have hb56 : Below w5.heap.size w5 (w5.alloc (.cells #[.bool true, .int .i64 n, .slice Ab 0 cb] 109)) := (Below.refl _ _).alloc (Nat.le_refl _) _
        have hz6 := size_alloc w5 (.cells #[.bool true, .int .i64 n, .slice Ab 0 cb] 109)
        have hz6a := Nat.le_of_eq hz6
        have hz6b := Nat.le_of_eq hz6.symm
        have HX6 := Lib.hid hx6
        have HB56 := Lib.hid hb56
        clear hz6 hx6 hb56 hpl hn0
        go_upto_block 2 with fail
        generalize w5.alloc (.cells #[.bool true, .int .i64 n, .slice Ab 0 cb] 109) = w6x at *
        rename World => w6
        have ho6 := own_below' HO4.out HB56.out
        have hp6 : ∀ p ∈ ps, OwnP w6 w.heap.size p := fun p hp => OwnP.below (HP4.out p hp) HB56.out
        have hz06 := HB56.out.size
        have HO6 := Lib.hid ho6
        have HP6 := Lib.hid hp6
        have hlt5 : w5.heap.size < w6.heap.size := by omega
        clear ho6 hp6
        go_cut [7] from 48 to 64 (fun v7 wx => ∃ (A7 : Option Addr) (c7 : Nat), v7 = .slice A7 n c7 ∧ wx.ownsRow w6.heap.size 24 1 (.slice A7 n c7) n (pcs (ps.reverse.take n)) ∧ Below w6.heap.size w6 wx)
        case first =>
          go_wp2_with fail
          go_loopw [7, 8] (fun v7 v8 wr => ∃ (k : Nat) (A7 : Option Addr) (c7 : Nat), k ≤ n ∧ v8 = .int .i64 k ∧ v7 = .slice A7 k c7 ∧ wr.ownsRow w6.heap.size 24 1 (.slice A7 k c7) k (pcs (ps.reverse.take k)) ∧ Below w6.heap.size w6 wr) (fun _ v8 _ => n - (intOf v8).toNat)
          case atStart => exact ⟨0, none, 0, by omega, rfl, rfl, World.ownsRow_nil _ _ _ _, Below.refl _ _⟩
          case round =>
            obtain ⟨k, A7, c7, hkn, rfl, rfl, ho7, hb7⟩ := hrel
            rename World => w7
            have hz7 := hb7.size
            have q1 : w7.cell? ⟨w5.heap.size, 1, none⟩ = some (.int .i64 n) := (hb7.cell (p := ⟨w5.heap.size, 1, none⟩) hlt5).trans (HX6.out.cell 1)
            have HO7 := Lib.hid ho7
            have HB7 := Lib.hid hb7
            clear ho7 hb7
            by_cases hlt : k < n
            · have dk : decide ((k : Int) < (n : Int)) = true := decide_eq_true (by omega)
              have dk2 : decide (k < n) = true := decide_eq_true hlt
              obtain ⟨m, hm⟩ : ∃ m, ps.length - 1 - k = m := ⟨_, rfl⟩
              have em1 : IntKind.i64.wrap ((ps.length : Int) - 1) = (ps.length : Int) - 1 := IntWalk.i64_in _ (by omega)
              have em : (ps.length : Int) - 1 - (k : Int) = (m : Int) := by omega
              have em2 : IntKind.i64.wrap ((ps.length : Int) - 1 - (k : Int)) = (m : Int) := by rw [IntWalk.i64_in _ (by omega)]; exact em
              have lm : (m : Int) < (ps.length : Int) := by omega
              have lm0 : (0 : Int) ≤ (m : Int) := by omega
              have hml : m < ps.length := by omega
              obtain ⟨g4, rfl, hg4, hg4b, _, _⟩ := own_form HO6.out (by omega)
              obtain ⟨ad4, had4, _, r4⟩ := ((Seq.of_own HO6.out).below HB7.out (Nat.le_refl _)).piece m hml
              injection had4 with had4
              subst had4
              rw [addr_add, Nat.zero_add] at r4
              have hrv : ps.reverse.take (k + 1) = ps.reverse.take k ++ [ps[m]] := by
                rw [rev_at (by omega)]
                congr 2
                simp only [hm]
              generalize ps[m] = pm at r4 hrv
              obtain ⟨Am, cm, lmm⟩ := pm
              simp only at r4
              have HRv := Lib.hid hrv
              clear hrv hm
              go_wp2_with (at_builtin; first
                | (refine wpL_append rfl (.tmp 54) (.tmp 63) 25 rfl elText rfl (own_alloc HO7.out _) rfl rfl (Seq.of_blk (xs := [.slice Am lmm.length cm]) (Blk.new' _ _ _ rfl) (Nat.lt_succ_self _)) (by simp [Value.oneCell']) (by unfold maxLen; omega) (by omega) (by rw [size_alloc]; omega) ?_; intro A9 c9 w9 ho9 hg9 _; have HO9 := Lib.hid ho9; have HB9 := Lib.hid ((HB7.out.alloc hz7 (.cells #[.slice Am lmm.length cm] 24)).grown hg9 (by rw [size_alloc]; omega) (fun g hg => (HO7.out.lt g hg).1)); clear ho9 hg9)
                | fail)
              exact ⟨⟨k + 1, by omega, by go_num, A9, c9, ⟨rfl, rfl, rfl⟩, by rw [HRv.out, show pcs (ps.reverse.take k ++ [(Am, cm, lmm)]) = pcs (ps.reverse.take k) ++ [.slice Am lmm.length cm] from by simp [pcs, pcV]]; exact HO9.out, HB9.out⟩, by simp [intOf]; omega⟩
            · have dk : decide ((k : Int) < (n : Int)) = false := decide_eq_false (by omega)
              have dk2 : decide (k < n) = false := decide_eq_false hlt
              obtain rfl : k = n := by omega
              go_wp2_with fail
              go_meet
              case rel => exact ⟨A7, c7, rfl, HO7.out, HB7.out⟩
        case rest =>
          obtain ⟨A7, c7, rfl, ho7, hb67⟩ := hcut
          rename World => w7
          have hz7 := hb67.size
          have q1 : w7.cell? ⟨w5.heap.size, 1, none⟩ = some (.int .i64 n) := (hb67.cell (p := ⟨w5.heap.size, 1, none⟩) hlt5).trans (HX6.out.cell 1)
          have hlen7 : (ps.reverse.take n).length = n := by rw [List.length_take, List.length_reverse]; omega
          have hjt := join_take HM4.out n
          have hfc := flatten_cut (encS ((its.map said).drop (i + 1))) n
          have hjl : (joinP (ps.reverse.take n)).length ≤ 1099511627776 := by rw [hjt]; omega
          have hli := refList_calls A7 c7 w7.heap.size (ps.reverse.take n) w7 (by omega) hjl (Nat.le_refl _) (Seq.of_own ho7) (fun q hq => (OwnP.below (HP6.out q (List.mem_reverse.1 (List.mem_of_mem_take hq))) hb67).seq)
          rw [hlen7] at hli
          obtain ⟨m, hm⟩ : ∃ m, ps.length - n = m := ⟨_, rfl⟩
          have hos := own_cutS (own_below' HO6.out hb67) m (by omega)
          have hpt : (pcs ps).take m = pcs (ps.take m) := by simp [pcs, List.map_take]
          rw [hpt] at hos
          have em : (ps.length : Int) - (n : Int) = (m : Int) := by omega
          have em2 : IntKind.i64.wrap ((ps.length : Int) - (n : Int)) = (m : Int) := by rw [IntWalk.i64_in _ (by omega)]; exact em
          have lmc : (m : Int) ≤ (c4 : Int) := by
            rcases Nat.eq_zero_or_pos ps.length with h0 | h0
            · omega
            · obtain ⟨_, _, _, _, h5, _⟩ := own_form HO6.out h0
              omega
          have hmp : m ≤ ps.length := by omega
          have HLi := Lib.hid hli
          have HOs := Lib.hid hos
          have HJt := Lib.hid hjt
          have HMm := Lib.hid hm
          have HB67 := Lib.hid hb67
          clear hli hos hjt hfc hm hb67 ho7 hpt hlen7
          go_wp2_with (first
            | (go_at_call 98; (refine HLi.out.mono ?_; unfold Fresh; rintro e8 w8 ⟨A8, c8, rfl, ho8, hb8⟩; have hz8 := hb8.size; have HO8 := Lib.hid (own_mono ho8 (base' := w.heap.size) (by omega)); have HOs8 := Lib.hid (own_below' HOs.out hb8); have HB8 := Lib.hid (HB67.out.trans (hb8.mono hz7)); clear ho8 hb8))
            | (at_builtin; (refine wpL_append rfl (.tmp 72) (.tmp 75) 25 rfl elText rfl (own_alloc HOs8.out _) rfl rfl (Seq.of_blk (xs := [.slice A8 (withM 192 (joinP (ps.reverse.take n))).length c8]) (Blk.new' _ _ _ rfl) (Nat.lt_succ_self _)) (by simp [Value.oneCell']) (by unfold maxLen; omega) (by omega) (by rw [size_alloc]; omega) ?_; intro A9 c9 w9 ho9 hg9 _; have hz9 := hg9.size; rw [size_alloc] at hz9; have HO9 := Lib.hid ho9; have HG9 := Lib.hid hg9; clear ho9 hg9))
            | fail)
          have hp8 : OwnP (w8.alloc (.cells #[.slice A8 (withM 192 (joinP (ps.reverse.take n))).length c8] 24)) w.heap.size (A8, c8, withM 192 (joinP (ps.reverse.take n))) := own_alloc HO8.out _
          have ho4 := own_alloc HOs8.out (.cells #[.slice A8 (withM 192 (joinP (ps.reverse.take n))).length c8] 24)
          have e7 : (ps.take m ++ [(A8, c8, withM 192 (joinP (ps.reverse.take n)))]).length = m + 1 := by rw [List.length_append, List.length_take, Nat.min_eq_left hmp]; rfl
          have hes := HEs.out
          rw [show encS ((true, (n : Int), []) :: (its.map said).drop (i + 1)) = withM 192 ((encS ((its.map said).drop (i + 1))).take n).flatten :: (encS ((its.map said).drop (i + 1))).drop n from by
            conv => lhs; unfold encS
            rw [if_pos rfl]
            simp only [Int.toNat_natCast]] at hes
          have htr := take_rev HM4.out n (by omega)
          rw [HMm.out] at htr
          have hb68 := HB56.out.trans (HB8.out.mono (by omega))
          refine ⟨⟨i, ps.take m ++ [(A8, c8, withM 192 (joinP (ps.reverse.take n)))], A9, c9, by omega, by go_num, by rw [e7], by rw [e7, show pcs (ps.take m ++ [(A8, c8, withM 192 (joinP (ps.reverse.take n)))]) = pcs (ps.take m) ++ [.slice A8 (withM 192 (joinP (ps.reverse.take n))).length c8] from by simp [pcs, pcV]]; exact HO9.out, fun p hp => ?_, ?_, ((HB4.out.trans (hb68.mono hz5)).alloc (by omega) _).grown HG9.out (by rw [size_alloc]; omega) (fun g hg => (ho4.lt g hg).1)⟩, by simp [intOf] <;> omega⟩
          · rcases List.mem_append.1 hp with hp | hp
            · exact ((OwnP.below (HP6.out p (List.mem_of_mem_take hp)) HB8.out).alloc _).grown ho4 (by decide) HG9.out
            · rw [List.mem_singleton] at hp
              subst hp
              exact hp8.grown ho4 (by decide) HG9.out
          · rw [List.map_append, htr, hes, List.reverse_cons, ← HJt.out]
            rfl
end Go.Proofs.YtfhindffmghlaaaDoor
