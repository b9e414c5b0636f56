/- Encode: the walk. -/
import Derived.Test.YtfhindffmghlaaaDoorG04
import Derived.Laws.EntriesVeiled
import Derived.Deep.RegionHeld3
set_option linter.unusedVariables false
set_option linter.unusedSimpArgs false
namespace Go.Proofs.YtfhindffmghlaaaDoor
open Go.RowKit Go.Shelf
attribute [local go_sem] Oper.semAt_some
theorem below_between {m : Nat} {w0 W W' : World} (h : Below m w0 W) (h' : Below m w0 W') (hs : W.heap.size ≤ W'.heap.size) : Below m W W' :=
  ⟨h'.os.trans h.os.symm, h'.tape.trans h.tape.symm, h'.output.trans h.output.symm, hs, fun k hk => (h'.block k hk).trans (h.block k hk).symm⟩
theorem KpB.of_below {n₀ Bs : Nat} {W W' : World} (h : Below W.heap.size W W') (hn : n₀ ≤ W.heap.size) (hb : Bs < W.heap.size) : KpB n₀ Bs W W' := ⟨h.mono hn, fun _ hv => (h.cell (p := ⟨Bs, 0, none⟩) hb).trans hv⟩
theorem EncAt.kp {w0 W W' : World} {Ai : Option Addr} {ci : Nat} {its : List ItemL} {st st' : List Nat} {sz sz' : Nat → Nat} {A A' : Option Addr} {c c' : Nat} (h : EncAt w0 W Ai ci its st sz A c) (h' : EncAt w0 W' Ai ci its st' sz' A' c') (hs : W.heap.size ≤ W'.heap.size) : KpB w0.heap.size (w0.heap.size + 6) W W' :=
  ⟨below_between h.below h'.below hs, fun v hv => by
    have h1 := h.box.cell 0
    rw [h1] at hv
    rw [← hv]
    exact h'.box.cell 0⟩
theorem own_short' {w : World} {base : Nat} {e : TypeId} {A : Option Addr} {n c : Nat} {xs : List Value} (h : w.ownsRow base e 1 (.slice A n c) n xs) (k : Nat) (hk : k ≤ n) : w.ownsRow base e 1 (.slice A k c) k (xs.take k) := by
  by_cases h0 : 0 < n
  · exact own_short h k hk h0
  · obtain rfl : k = n := by omega
    rw [List.take_of_length_le (by have := h.1; omega)]
    exact h
theorem keeps_below {W W' : World} (h : Below W.heap.size W W') : KeepsOthers W W' := KeepsOthers.of_grownBy (grown_below (grown_refl W none) h) (fun _ _ e => by cases e)
theorem keeps_only {W W' : World} {g : Nat} {t : TypeId} {cs : Array Value} (hb : Blk W g t cs) (h : Only g W W') : KeepsOthers W W' :=
  KeepsOthers.of_grownBy (grown_only (grown_refl W (some g)) h) (fun j o e ho => by
    injection e with e
    subst e
    have hb : W.heap[g]? = some (.cells cs t (0, 0)) := hb
    rw [hb] at ho
    injection ho with ho
    subst ho
    rfl)
theorem keeps_own {W W' : World} {base : Nat} {e : TypeId} {size n : Nat} {v : Value} {xs : List Value} (ho : W.ownsRow base e size v n xs) (hg : W.grownBy W' v.ownBlock) : KeepsOthers W W' :=
  KeepsOthers.of_grownBy hg (fun j o he hj => by
    obtain ⟨cur, hb⟩ := own_blk ho j he
    have hb : W.heap[j]? = some (.cells cur _ (0, 0)) := hb
    rw [hb] at hj
    injection hj with hj
    subst hj
    rfl)
theorem EncAt.opnAt {w0 W w1 : World} {Ai : Option Addr} {ci : Nat} {its : List ItemL} {st : List Nat} {sz : Nat → Nat} {A : Option Addr} {c : Nat} (h : EncAt w0 W Ai ci its st sz A c) (hg : W.grownBy w1 (Value.slice A st.length c).ownBlock) : Blk w1 (w0.heap.size + 4) 31 #[.slice A st.length c] :=
  (hg.block _ h.opn.lt (fun e => by have := (h.row.lt _ e.symm).1; omega)).trans h.opn
theorem EncAt.failed {w0 W : World} {Ai : Option Addr} {ci : Nat} {its : List ItemL} {st : List Nat} {sz : Nat → Nat} {A : Option Addr} {c : Nat} (h : EncAt w0 W Ai ci its st sz A c) :
    Blk ((W.setCell ⟨w0.heap.size, 0, none⟩ (.slice none 0 0)).setCell ⟨w0.heap.size + 1, 0, none⟩ (.int .i64 250)) w0.heap.size 24 #[.slice none 0 0] ∧
    Blk ((W.setCell ⟨w0.heap.size, 0, none⟩ (.slice none 0 0)).setCell ⟨w0.heap.size + 1, 0, none⟩ (.int .i64 250)) (w0.heap.size + 1) 41 #[.int .i64 250] ∧
    Below w0.heap.size w0 ((W.setCell ⟨w0.heap.size, 0, none⟩ (.slice none 0 0)).setCell ⟨w0.heap.size + 1, 0, none⟩ (.int .i64 250)) := by
  have h1 := (h.res.set_ 0 (.slice none 0 0)).far (p := ⟨w0.heap.size + 1, 0, none⟩) (show w0.heap.size ≠ w0.heap.size + 1 by omega) (.int .i64 250)
  have h2 := (h.err.far (p := ⟨w0.heap.size, 0, none⟩) (show w0.heap.size + 1 ≠ w0.heap.size by omega) (.slice none 0 0)).set_ 0 (.int .i64 250)
  exact ⟨h1, h2, (Only.setCell _ ⟨w0.heap.size + 1, 0, none⟩ _).below ((Only.setCell W ⟨w0.heap.size, 0, none⟩ _).below h.below (Nat.le_refl _)) (Nat.le_succ _)⟩
def pieceE (x : ItemL) (s : Nat) : List UInt8 := if x.1 then headL 192 s else (if small x.2.2.2.2 then [] else headL 128 s) ++ x.2.2.2.2
def outE (its : List ItemL) (sz : Nat → Nat) (k : Nat) : List UInt8 := ((List.range k).map fun i => match its[i]? with | some x => pieceE x (sz i) | none => []).flatten
def encM (its : List ItemL) : Option (List UInt8) := match runE its (down its.length) with
  | some ([_], sz) => some (outE its sz its.length)
  | _ => none
theorem fold_sz {its : List ItemL} {M : Nat} (hM : ∀ x ∈ its, x.2.2.2.2.length ≤ M) : ∀ (pre : List (Fin its.length)) (st0 : List Nat) (sz0 : Nat → Nat) (B T : Nat) {st : List Nat} {sz : Nat → Nat}, st0.sum ≤ B → (∀ i, sz0 i ≤ T) →
    pre.foldl (nextE its) (some (st0, sz0)) = some (st, sz) → B + pre.length * (M + 9) ≤ T → T ≤ 281474976710656 → ∀ i, sz i ≤ T
  | [], st0, sz0, B, T, st, sz, _, h2, h, _, _ => by
    injection h with h
    injection h with _ h3
    subst h3
    exact h2
  | x :: pre, st0, sz0, B, T, st, sz, h1, h2, h, hb, hT => by
    rw [List.length_cons, Nat.add_mul, Nat.one_mul] at hb
    rw [List.foldl_cons] at h
    cases hs : stepE its[x.val] st0 with
    | none =>
      rw [show nextE its (some (st0, sz0)) x = none by simp [nextE, hs], fold_none] at h
      cases h
    | some t =>
      obtain ⟨st1, s1⟩ := t
      rw [show nextE its (some (st0, sz0)) x = some (st1, upd sz0 x.val s1) by simp [nextE, hs]] at h
      have h3 := stepE_le hs (hM _ (List.getElem_mem x.2)) h1 (by omega)
      refine fold_sz hM pre st1 _ (B + M + 9) T h3.1 (fun i => ?_) h (by omega) hT
      unfold upd
      split
      · omega
      · exact h2 i
theorem runE_sz {its : List ItemL} {M : Nat} (hM : ∀ x ∈ its, x.2.2.2.2.length ≤ M) {pre : List (Fin its.length)} {st : List Nat} {sz : Nat → Nat} (h : runE its pre = some (st, sz)) (hb : pre.length * (M + 9) ≤ 1099511627776) : ∀ i, sz i ≤ 1099511627776 :=
  fold_sz hM pre [] (fun _ => 0) 0 1099511627776 (by simp) (fun _ => by omega) h (by omega) (by omega)
theorem outE_zero (its : List ItemL) (sz : Nat → Nat) : outE its sz 0 = [] := rfl
theorem outE_succ (its : List ItemL) (sz : Nat → Nat) (k : Nat) (h : k < its.length) : outE its sz (k + 1) = outE its sz k ++ pieceE its[k] (sz k) := by
  unfold outE
  rw [List.range_succ, List.map_append, List.flatten_append]
  simp [h]
theorem headL_le (kd n : Nat) (h : n ≤ 281474976710656) : (headL kd n).length ≤ 9 := by
  have h1 := headL_length kd n
  have h2 := wholeN_le n h
  omega
theorem pieceE_le (x : ItemL) (s M : Nat) (hs : s ≤ 281474976710656) (hx : x.2.2.2.2.length ≤ M) : (pieceE x s).length ≤ M + 9 := by
  have h1 := headL_le 192 s hs
  have h2 := headL_le 128 s hs
  unfold pieceE
  split
  · omega
  · rw [List.length_append]
    split <;> simp <;> omega
theorem outE_le (its : List ItemL) (sz : Nat → Nat) (M : Nat) (hM : ∀ x ∈ its, x.2.2.2.2.length ≤ M) (hs : ∀ i, sz i ≤ 1099511627776) (k : Nat) (hk : k ≤ its.length) : (outE its sz k).length ≤ k * (M + 9) := by
  induction k with
  | zero => simp [outE_zero]
  | succ k ih =>
    rw [outE_succ its sz k (by omega), List.length_append, Nat.add_mul, Nat.one_mul]
    have := pieceE_le its[k] (sz k) M (by have := hs k; omega) (hM _ (List.getElem_mem (by omega)))
    have := ih (by omega)
    omega
theorem own_made (w : World) (e : TypeId) (n : Nat) (V : Nat → Value) (hn : n ≤ maxLen) : (w.alloc (.cells (tab n V) e)).ownsRow w.heap.size e 1 (.slice (some ⟨w.heap.size, 0, none⟩) 0 n) 0 [] :=
  ⟨rfl, .inr ⟨w.heap.size, n, tab n V, rfl, Nat.le_refl _, heap_alloc_new w _, Nat.zero_le _, hn, by rw [tab_size, Nat.mul_one], by simp⟩⟩
def encPost (w : World) (its : List ItemL) (e : Ending) (w' : World) : Prop := match encM its with
  | some out => ∃ (A' : Option Addr) (c' : Nat), e = .returned (.tuple #[.slice A' out.length c', .int .i64 0]) ∧ w'.ownsRow w.heap.size 5 1 (.slice A' out.length c') out.length (bytes out)
  | none => e = .returned (.tuple #[.slice none 0 0, .int .i64 250])
theorem encPost_none {w w' : World} {its : List ItemL} (h : encM its = none) : encPost w its (.returned (.tuple #[.slice none 0 0, .int .i64 250])) w' := by unfold encPost; rw [h]
theorem encPost_some {w w' : World} {its : List ItemL} {out : List UInt8} {A' : Option Addr} {c' n : Nat} (h : encM its = some out) (hn : n = out.length) (ho : w'.ownsRow w.heap.size 5 1 (.slice A' n c') n (bytes out)) : encPost w its (.returned (.tuple #[.slice A' n c', .int .i64 0])) w' := by
  unfold encPost; rw [h]; subst hn; exact ⟨A', c', rfl, ho⟩
def three (a b c : Value) (j : Nat) : Value := if j = 0 then a else if j = 1 then b else c
theorem three_one {a b c : Value} (ha : a.oneCell' = true) (hb : b.oneCell' = true) (hc : c.oneCell' = true) (j : Nat) : (three a b c j).oneCell' = true := by unfold three; split; assumption; split <;> assumption
set_option maxHeartbeats 4000000 in
set_option maxRecDepth 100000 in
theorem encode_calls (A : Option Addr) (c M : Nat) (its : List ItemL) (w : World) (hl : its.length ≤ 16777216) (hb : its.length * (M + 9) ≤ 1099511627776) (hs : ItemsAt w w.heap.size A its)
    (hp : ∀ x ∈ its, x.2.2.2.2.length ≤ M ∧ Seq w w.heap.size x.2.2.1 (bytes x.2.2.2.2)) :
    Calls Tryd.prog 118 #[.slice A its.length c] w fun e w' => encPost w its e w' ∧ Below w.heap.size w w' := by
  have HS := Lib.hid hs
  have HP := Lib.hid hp
  clear hs hp
  refine (callsIn_wide (n := 6)).1 (callsIn_of_wp_marks Tryd.func118 rfl trivial (wpIn_wide.2 ?_) rfl)
  simp only [Tryd.ntmps118, List.size_toArray, List.length_cons, List.length_nil, Nat.reduceAdd, Nat.reduceSub, Array.replicate_succ, Array.replicate_zero, List.push_toArray, List.append_toArray, List.nil_append, List.cons_append]
  go_wp2_with (first
    | (refine wpL_make rfl (.tmp 16) (.tmp 16) 31 rfl Tryd.underlying31 infoInt rfl .i64 .i64 its.length its.length rfl rfl (Nat.le_refl _) (by omega) (by omega) ?_))
  refine (back_calls A its.length c _).mono ?_
  rintro e w1 ⟨rfl, hw1⟩
  have hsz1 : w1.heap.size = w.heap.size + 7 := by rw [hw1]; simp only [size_alloc]
  have hbox : w1.cell? ⟨w.heap.size + 6, 0, none⟩ = some (.slice A its.length c) := by
    rw [hw1]
    exact (Blk.new' (g := w.heap.size + 6) _ 105 #[.slice A its.length c] (by simp only [size_alloc])).cell 0
  have hE : EncAt w w1 A c its [] (fun _ => 0) none 0 := by
    rw [hw1]
    have b0 : Below w.heap.size w w := Below.refl _ _
    refine ⟨((((((b0.alloc (Nat.le_refl _) _).alloc (by simp only [size_alloc]; omega) _).alloc (by simp only [size_alloc]; omega) _).alloc (by simp only [size_alloc]; omega) _).alloc (by simp only [size_alloc]; omega) _).alloc (by simp only [size_alloc]; omega) _).alloc (by simp only [size_alloc]; omega) _, by simp only [size_alloc]; omega, ?_, ?_, ?_, ?_, ?_, ?_, ?_, World.ownsRow_nil _ _ _ _⟩
    · exact ((((((Blk.new' (g := w.heap.size) w _ _ rfl).alloc _).alloc _).alloc _).alloc _).alloc _).alloc _
    · exact (((((Blk.new' (g := w.heap.size + 1) _ _ _ (by simp only [size_alloc])).alloc _).alloc _).alloc _).alloc _).alloc _
    · exact ((((Blk.new' (g := w.heap.size + 2) _ _ _ (by simp only [size_alloc])).alloc _).alloc _).alloc _).alloc _
    · exact (((Blk.new' (g := w.heap.size + 3) _ _ _ (by simp only [size_alloc])).alloc _).alloc _).alloc _
    · exact ((Blk.new' (g := w.heap.size + 4) _ _ _ (by simp only [size_alloc])).alloc _).alloc _
    · exact (Blk.new' (g := w.heap.size + 5) _ _ _ (by simp only [size_alloc])).alloc _
    · exact Blk.new' (g := w.heap.size + 6) _ _ _ (by simp only [size_alloc])
  have HE := Lib.hid hE
  have HBox := Lib.hid hbox
  have hsz := Nat.le_of_eq hsz1
  have hsz' := Nat.le_of_eq hsz1.symm
  simp only [size_alloc]
  clear hE hbox hw1 hsz1
  simp only [Nat.add_assoc, Nat.reduceAdd]
  go_wp2_with fail
  -- LOOP
  refine (wpIn_wide (n := 6)).1 ?_
  refine wpIn_rangeFunc_ownH (F := Fence.wide) rfl (by omega) (gf := 124) (lb := #[.pointer (some ⟨w.heap.size + 6, 0, none⟩)]) rfl trivial (enters_of Tryd.func124 (by kernel_rfl) rfl)
    (back_stops 5 (w.heap.size + 6) w.heap.size (by omega) A c its (by omega) w1 (by omega) (by omega) HBox.out (HS.out.below HE.out.below (Nat.le_refl _))) (fun h k => h.trans k) (kpB_b (by omega)) (Below.refl _ _) (fun _ => rfl)
    (fun pre W => ∃ (st : List Nat) (sz : Nat → Nat) (A3 : Option Addr) (c3 : Nat), runE its pre = some (st, sz) ∧ EncAt w W A c its st sz A3 c3)
    (fun cd pre W => (cd = .ret ∧ runE its pre = none) ∧ Blk W w.heap.size 24 #[.slice none 0 0] ∧ Blk W (w.heap.size + 1) 41 #[.int .i64 250] ∧ Below w.heap.size w W)
    ?hI ?hIx ⟨[], _, _, _, rfl, HE.out⟩
    (fun x a' W => ∃ Bx, w.heap.size + 7 ≤ Bx ∧ Blk W Bx 109 #[Value.bool its[x.val].1, Value.int .i64 its[x.val].2.1, Value.slice its[x.val].2.2.1 its[x.val].2.2.2.2.length its[x.val].2.2.2.1] ∧ a' = { tmps := #[Value.slice A its.length c, undef, Value.pointer (some ⟨w.heap.size, 0, none⟩), Value.pointer (some ⟨w.heap.size + 1, 0, none⟩), Value.pointer (some ⟨w.heap.size + 3, 0, none⟩), Value.pointer (some ⟨w.heap.size + 4, 0, none⟩), Value.pointer (some ⟨w.heap.size + 5, 0, none⟩), Value.int .i64 (x.val : Int), Value.pointer (some ⟨Bx, 0, none⟩), undef, undef, undef, undef, undef, undef, Value.slice A its.length c, Value.int .i64 (its.length : Int), Value.slice (some ⟨w.heap.size + 2, 0, none⟩) its.length its.length, Value.func (.func 122) #[] #[Value.pointer (some ⟨w.heap.size + 4, 0, none⟩)], Value.slice A its.length c, Value.func (.func 124) #[] #[Value.pointer (some ⟨w.heap.size + 6, 0, none⟩)], Value.int .i64 (x.val : Int), Value.agg #[Value.bool its[x.val].1, Value.int .i64 its[x.val].2.1, Value.slice its[x.val].2.2.1 its[x.val].2.2.2.2.length its[x.val].2.2.2.1], undef, undef, undef, undef, undef, undef, undef, undef, undef, undef, undef, undef, undef, undef, undef, undef, undef, undef, undef, undef, undef, undef, undef, undef, undef, undef, undef, undef, undef, undef, undef, undef, undef, undef, undef, undef, undef, undef, undef, undef, undef, undef, undef, undef, undef, undef, undef, undef, undef, undef, undef, undef, undef, undef, undef, undef, undef, undef, undef, undef, undef, undef, undef, undef, undef, undef, undef, undef, undef, undef, undef, undef, undef, undef, undef, undef, undef, undef, undef, undef, undef, undef, undef, undef, undef, undef, undef, undef, undef, undef, undef, undef, undef, undef, undef, undef, undef, undef, undef], defers := [] }) ?hAx ?assign ?body ?done ?stop
  case hI =>
    rintro pre W W' row ⟨st, sz, A3, c3, hr, hE⟩ hg hrow
    exact ⟨st, sz, A3, c3, hr, hE.own hg (fun r e => ⟨by have := (hrow r e).1; omega, (hrow r e).2⟩)⟩
  case hIx =>
    rintro cd pre W W' row ⟨h1, h2, h3, h4⟩ hg hrow
    exact ⟨h1, h2.keptN hg (fun r e => (hrow r e).2), h3.keptN hg (fun r e => (hrow r e).2), h4.grown hg h4.size (fun q e => by have := (hrow q e).1; omega)⟩
  case hAx =>
    rintro x a' s W W' row ⟨Bx, h1, h2, h3⟩ hg hrow
    exact ⟨Bx, h1, h2.keptN hg (fun r e => (hrow r e).2), h3⟩
  case assign =>
    rintro l pre x W K ⟨st, sz, A3, c3, hr, hE⟩ hK
    have HEa := Lib.hid hE
    have HK := Lib.hid hK
    clear hE hK
    unfold encI
    refine wpIn_seq (region_round rfl (by rintro ⟨_, _, h⟩; exact h) ?_)
    go_wp2_with fail
    refine region_round rfl (by rintro ⟨_, _, h⟩; exact h) ?_
    go_wp2_with fail
    have hba := (Below.refl W.heap.size W).alloc (Nat.le_refl _) (.cells #[Value.bool its[x.val].1, Value.int .i64 its[x.val].2.1, Value.slice its[x.val].2.2.1 its[x.val].2.2.2.2.length its[x.val].2.2.2.1] 109)
    have hsE := HEa.out.size
    exact HK.out _ _ ((KeepsOthers.alloc W _).from _) (KpB.of_below hba (by omega) (by omega)) ⟨st, sz, A3, c3, hr, HEa.out.next hba⟩ ⟨W.heap.size, by omega, Blk.new W _ _, rfl⟩
  case body =>
    rintro l pre x a' W hl ⟨r, hlr⟩ ⟨st, sz, A3, c3, hr, hE⟩ ⟨Bx, hBx, hX, rfl⟩ hlt
    have hrn := runE_some hr x
    have hle := runE_le (fun y hy => (HP.out y hy).1) hr (by have := Nat.mul_le_mul_right (M + 9) (Nat.le_of_lt hlt); omega)
    have hpm := Nat.mul_le_mul_right (M + 9) (Nat.le_of_lt hlt)
    have hlx := (HP.out _ (List.getElem_mem x.2)).1
    have hsx := (HP.out _ (List.getElem_mem x.2)).2.below hE.below (Nat.le_refl _)
    have hxN := x.2
    generalize its[x.val] = it at *
    obtain ⟨isL, cnt, Ab, cb, lb⟩ := it
    simp only at hlx hsx hX
    have hsE := hE.size
    have HEb := Lib.hid hE
    have HX := Lib.hid hX
    have HRn := Lib.hid hrn
    have HSx := Lib.hid hsx
    have q0 : W.cell? ⟨Bx, 0, none⟩ = some (.bool isL) := hX.cell 0
    have q1 : W.cell? ⟨Bx, 1, none⟩ = some (.int .i64 cnt) := hX.cell 1
    have q2 : W.cell? ⟨Bx, 2, none⟩ = some (.slice Ab lb.length cb) := hX.cell 2
    have q6 : W.cell? ⟨w.heap.size + 5, 0, none⟩ = some (.func (.func 122) #[] #[.pointer (some ⟨w.heap.size + 4, 0, none⟩)]) := hE.fn.cell 0
    clear hE hX hrn hsx hr
    simp only
    cases isL with
    | true =>
      gi_wp2_with fail
      refine ⟨trivial, CallsIn.inRound l (callsIn_wide.2 ?_)⟩
      refine (take_calls (w.heap.size + 7) (w.heap.size + 4) A3 c3 st cnt (by omega) (by omega) W HEb.out.opn HEb.out.row).mono ?_
      rintro e W1 ⟨(⟨k0, k1, rfl, hb1⟩ | ⟨hbad, rfl, hb1⟩), ho1⟩
      · obtain ⟨k, rfl⟩ := Int.eq_ofNat_of_zero_le k0
        rw [Int.toNat_natCast] at hb1 ⊢
        have hkl : k ≤ st.length := by omega
        have hlen : (st.take (st.length - k)).length = st.length - k := by rw [List.length_take]; omega
        have hE1 : EncAt w W1 A c its (st.take (st.length - k)) sz A3 c3 := HEb.out.popped ho1 (by rw [hlen]; exact hb1) (by rw [hlen, nums_take]; exact own_short' HEb.out.row _ (by omega))
        have HK1 := Lib.hid (keeps_only HEb.out.opn ho1)
        have hz1 := Nat.le_of_eq ho1.size.symm
        have hX1 := ho1.blk HX.out (by omega)
        have q2 : W1.cell? ⟨Bx, 2, none⟩ = some (.slice Ab lb.length cb) := hX1.cell 2
        have r2 : W1.cell? ⟨w.heap.size, 0, none⟩ = some (.slice none 0 0) := hE1.res.cell 0
        have f2 := hE1.res.frozen 0
        have r3 : W1.cell? ⟨w.heap.size + 1, 0, none⟩ = some (.int .i64 0) := hE1.err.cell 0
        have f3 := hE1.err.frozen 0
        have r4 : W1.cell? ⟨w.heap.size + 3, 0, none⟩ = some (.slice (some ⟨w.heap.size + 2, 0, none⟩) its.length its.length) := hE1.szh.cell 0
        have r5 := hE1.szb.at_ x.val hxN
        have f5 := hE1.szb.frozen x.val
        have HE1 := Lib.hid hE1
        have HLen := Lib.hid hlen
        have htop := topSum_le st k
        have lx : (x.val : Int) < (its.length : Int) := by omega
        clear hE1 hb1 ho1 hX1 q0 q1 q6 hlen
        by_cases hlb : lb.length = 0
        · have dl : decide ((lb.length : Int) > 0) = false := decide_eq_false (by omega)
          gi_wp2_with fail
          have hE2 := HE1.out.sized x.val (topSum st k)
          have hK2 := HK1.out.trans (KeepsOthers.setCell W1 ⟨w.heap.size + 2, x.val, none⟩ (.int .i64 (topSum st k : Int)))
          have hz2 : W1.heap.size ≤ (W1.setCell ⟨w.heap.size + 2, x.val, none⟩ (.int .i64 (topSum st k : Int))).heap.size := by rw [size_setCell]; exact Nat.le_refl _
          have HTn := Lib.hid (show topSum st k ≤ 1099511627776 by omega)
          have HTn' := Lib.hid (show stepE (true, (k : Int), Ab, cb, lb) st = some (st.take (st.length - k) ++ [wholeN (topSum st k)], topSum st k) by
            unfold stepE
            rw [if_pos rfl, if_pos (by refine ⟨by simp only; omega, by simp only; omega, by simpa using hlb⟩)]
            simp only [Int.toNat_natCast])
          clear r2 r3 r4 r5 f2 f3 f5 q2
          generalize hts : topSum st k = s at *
          have HTs := Lib.hid hts
          clear hts
          generalize hW2 : W1.setCell ⟨w.heap.size + 2, x.val, none⟩ (.int .i64 (s : Int)) = W2 at *
          clear hW2
          generalize hs1 : st.take (st.length - k) = st1 at *
          have hst1 : st1.length ≤ st.length := by rw [← hs1, List.length_take]; omega
          clear hs1
          have hbd : Below W2.heap.size W2 W2.drew := ⟨rfl, rfl, rfl, Nat.le_refl _, fun _ _ => rfl⟩
          have HEa := Lib.hid (hE2.next hbd)
          have HKa := Lib.hid (hK2.trans (keeps_below hbd))
          have hza : W.heap.size ≤ W2.drew.heap.size := by have : W2.drew.heap.size = W2.heap.size := rfl; omega
          have hcA : W2.drew.cell? ⟨w.heap.size + 4, 0, none⟩ = some (.slice A3 st1.length c3) := HEa.out.opn.cell 0
          clear hE2 hK2 hz2 hbd
          refine region_round_held (S := fun _ => True) (by kernel_rfl) (by kernel_rfl) (by rintro ⟨_, _, h⟩; exact h) trivial (fun hHeld => ?_)
          refine wpAnyH_take (i := 1) (oi := _) (v := .int .i64 s) rfl (by kernel_rfl) (by kernel_rfl) (by kernel_rfl) (fun _ _ _ h => h) (Or.inl ⟨by rfl, by intro w hSw; go_simp⟩) hHeld ?_
          try simp only [Act.put, List.getElem_toArray, List.getElem_cons_zero, List.getElem_cons_succ, List.setIfInBounds_toArray, List.set_cons_zero, List.set_cons_succ]
          refine wpAnyH_ready (rs := [0, 2]) (by kernel_rfl) (by simp) ?_
          refine AllReadyH.cons (o := _) rfl (fun K hK => ?_) (AllReadyH.cons (o := _) rfl (fun K hK => ?_) AllReadyH.nil)
          · simp only [List.getElem_toArray, List.getElem_cons_succ, List.getElem_cons_zero]
            go_simp
            refine hK.out _ _ trivial (fun _ => ?_)
            clear hK K
            try simp only [Act.put, List.getElem_toArray, List.getElem_cons_zero, List.getElem_cons_succ, List.setIfInBounds_toArray, List.set_cons_zero, List.set_cons_succ]
            refine wpAnyH_ready (rs := [2]) (by kernel_rfl) (by simp) ?_
            refine AllReadyH.cons (o := _) rfl (fun K hK => ?_) AllReadyH.nil
            simp only [List.getElem_toArray, List.getElem_cons_succ, List.getElem_cons_zero]
            go_simp
            go_at_call 103
            refine (whole_calls s (by have := HTn.out; omega) W2.drew).mono ?_
            rintro e W5 ⟨rfl, hb5⟩
            have HEb5 := Lib.hid (HEa.out.next hb5)
            have HKb5 := Lib.hid (HKa.out.trans (keeps_below hb5))
            have hz5 := hb5.size
            clear hb5
            refine hK.out _ _ trivial (fun _ => ?_)
            clear hK K
            try simp only [Act.put, List.getElem_toArray, List.getElem_cons_zero, List.getElem_cons_succ, List.setIfInBounds_toArray, List.set_cons_zero, List.set_cons_succ]
            refine wpAnyH_ready (rs := [3]) (by kernel_rfl) (by simp) ?_
            refine AllReadyH.cons (o := _) rfl (fun K hK => ?_) AllReadyH.nil
            simp only [List.getElem_toArray, List.getElem_cons_succ, List.getElem_cons_zero]
            go_simp
            have hba := (Below.refl W5.heap.size W5).alloc (Nat.le_refl _) (.cells #[.int .i64 (wholeN s : Int)] 3)
            have HEc := Lib.hid (HEb5.out.next hba)
            have HKc := Lib.hid (HKb5.out.trans (keeps_below hba))
            clear hba
            refine hK.out _ _ trivial (fun _ => ?_)
            clear hK K
            try simp only [Act.put, List.getElem_toArray, List.getElem_cons_zero, List.getElem_cons_succ, List.setIfInBounds_toArray, List.set_cons_zero, List.set_cons_succ]
            refine wpAnyH_ready (rs := [4]) (by kernel_rfl) (by simp) ?_
            refine AllReadyH.cons (o := _) rfl (fun K hK => ?_) AllReadyH.nil
            simp only [List.getElem_toArray, List.getElem_cons_succ, List.getElem_cons_zero]
            rw [if_pos (by rfl)]
            refine wp_append_seq (.tmp 44) (.tmp 47) 31 rfl elInt rfl HEc.out.row rfl rfl (Seq.one_new W5 (.int .i64 (wholeN s : Int)) 3) (by simp [Value.oneCell']) (by unfold maxLen; omega) (by omega) (by rw [size_alloc]; have := HEb5.out.size; omega) ?_
            intro A7 c7 W7 ho7 hg7 _
            have hk7 := HEc.out.opnAt hg7
            have h7c : W7.cell? ⟨w.heap.size + 4, 0, none⟩ = some (.slice A3 st1.length c3) := hk7.cell 0
            have h7f := hk7.frozen 0
            have HE7 := Lib.hid (HEc.out.pushed hg7 ho7)
            have HK7 := Lib.hid ((HKc.out.trans (keeps_own HEc.out.row hg7)).trans (KeepsOthers.setCell W7 ⟨w.heap.size + 4, 0, none⟩ (.slice A7 (st1.length + 1) c7)))
            have hz7 := hg7.size
            rw [size_alloc] at hz7
            clear ho7 hg7 hk7
            refine hK.out _ _ trivial (fun _ => ?_)
            clear hK K
            try simp only [Act.put, List.getElem_toArray, List.getElem_cons_zero, List.getElem_cons_succ, List.setIfInBounds_toArray, List.set_cons_zero, List.set_cons_succ]
            refine wpAnyH_ready (rs := [5]) (by kernel_rfl) (by simp) ?_
            refine AllReadyH.cons (o := _) rfl (fun K hK => ?_) AllReadyH.nil
            simp only [List.getElem_toArray, List.getElem_cons_succ, List.getElem_cons_zero]
            go_simp
            refine hK.out _ _ trivial (fun _ => ?_)
            clear hK K
            try simp only [Act.put, List.getElem_toArray, List.getElem_cons_zero, List.getElem_cons_succ, List.setIfInBounds_toArray, List.set_cons_zero, List.set_cons_succ]
            refine wpAnyH_done (by kernel_rfl) ?_ _
            gi_wp2_with fail
            exact ⟨HK7.out.from _, HEb.out.kp HE7.out (by rw [size_setCell]; omega), ⟨_, _, A7, c7, by rw [HRn.out, HTn'.out]; rfl, HE7.out⟩⟩
          · simp only [List.getElem_toArray, List.getElem_cons_succ, List.getElem_cons_zero]
            go_simp
            go_at_call 103
            refine (whole_calls s (by have := HTn.out; omega) W2.drew).mono ?_
            rintro e W5 ⟨rfl, hb5⟩
            have HEb5 := Lib.hid (HEa.out.next hb5)
            have HKb5 := Lib.hid (HKa.out.trans (keeps_below hb5))
            have hz5 := hb5.size
            clear hb5
            refine hK.out _ _ trivial (fun _ => ?_)
            clear hK K
            try simp only [Act.put, List.getElem_toArray, List.getElem_cons_zero, List.getElem_cons_succ, List.setIfInBounds_toArray, List.set_cons_zero, List.set_cons_succ]
            refine wpAnyH_ready (rs := [0, 3]) (by kernel_rfl) (by simp) ?_
            refine AllReadyH.cons (o := _) rfl (fun K hK => ?_) (AllReadyH.cons (o := _) rfl (fun K hK => ?_) AllReadyH.nil)
            · have hcB : W5.cell? ⟨w.heap.size + 4, 0, none⟩ = some (.slice A3 st1.length c3) := HEb5.out.opn.cell 0
              simp only [List.getElem_toArray, List.getElem_cons_succ, List.getElem_cons_zero]
              go_simp
              refine hK.out _ _ trivial (fun _ => ?_)
              clear hK K
              try simp only [Act.put, List.getElem_toArray, List.getElem_cons_zero, List.getElem_cons_succ, List.setIfInBounds_toArray, List.set_cons_zero, List.set_cons_succ]
              refine wpAnyH_ready (rs := [3]) (by kernel_rfl) (by simp) ?_
              refine AllReadyH.cons (o := _) rfl (fun K hK => ?_) AllReadyH.nil
              simp only [List.getElem_toArray, List.getElem_cons_succ, List.getElem_cons_zero]
              go_simp
              have hba := (Below.refl W5.heap.size W5).alloc (Nat.le_refl _) (.cells #[.int .i64 (wholeN s : Int)] 3)
              have HEc := Lib.hid (HEb5.out.next hba)
              have HKc := Lib.hid (HKb5.out.trans (keeps_below hba))
              clear hba
              refine hK.out _ _ trivial (fun _ => ?_)
              clear hK K
              try simp only [Act.put, List.getElem_toArray, List.getElem_cons_zero, List.getElem_cons_succ, List.setIfInBounds_toArray, List.set_cons_zero, List.set_cons_succ]
              refine wpAnyH_ready (rs := [4]) (by kernel_rfl) (by simp) ?_
              refine AllReadyH.cons (o := _) rfl (fun K hK => ?_) AllReadyH.nil
              simp only [List.getElem_toArray, List.getElem_cons_succ, List.getElem_cons_zero]
              rw [if_pos (by rfl)]
              refine wp_append_seq (.tmp 44) (.tmp 47) 31 rfl elInt rfl HEc.out.row rfl rfl (Seq.one_new W5 (.int .i64 (wholeN s : Int)) 3) (by simp [Value.oneCell']) (by unfold maxLen; omega) (by omega) (by rw [size_alloc]; have := HEb5.out.size; omega) ?_
              intro A7 c7 W7 ho7 hg7 _
              have hk7 := HEc.out.opnAt hg7
              have h7c : W7.cell? ⟨w.heap.size + 4, 0, none⟩ = some (.slice A3 st1.length c3) := hk7.cell 0
              have h7f := hk7.frozen 0
              have HE7 := Lib.hid (HEc.out.pushed hg7 ho7)
              have HK7 := Lib.hid ((HKc.out.trans (keeps_own HEc.out.row hg7)).trans (KeepsOthers.setCell W7 ⟨w.heap.size + 4, 0, none⟩ (.slice A7 (st1.length + 1) c7)))
              have hz7 := hg7.size
              rw [size_alloc] at hz7
              clear ho7 hg7 hk7
              refine hK.out _ _ trivial (fun _ => ?_)
              clear hK K
              try simp only [Act.put, List.getElem_toArray, List.getElem_cons_zero, List.getElem_cons_succ, List.setIfInBounds_toArray, List.set_cons_zero, List.set_cons_succ]
              refine wpAnyH_ready (rs := [5]) (by kernel_rfl) (by simp) ?_
              refine AllReadyH.cons (o := _) rfl (fun K hK => ?_) AllReadyH.nil
              simp only [List.getElem_toArray, List.getElem_cons_succ, List.getElem_cons_zero]
              go_simp
              refine hK.out _ _ trivial (fun _ => ?_)
              clear hK K
              try simp only [Act.put, List.getElem_toArray, List.getElem_cons_zero, List.getElem_cons_succ, List.setIfInBounds_toArray, List.set_cons_zero, List.set_cons_succ]
              refine wpAnyH_done (by kernel_rfl) ?_ _
              gi_wp2_with fail
              exact ⟨HK7.out.from _, HEb.out.kp HE7.out (by rw [size_setCell]; omega), ⟨_, _, A7, c7, by rw [HRn.out, HTn'.out]; rfl, HE7.out⟩⟩
            · simp only [List.getElem_toArray, List.getElem_cons_succ, List.getElem_cons_zero]
              go_simp
              have hba := (Below.refl W5.heap.size W5).alloc (Nat.le_refl _) (.cells #[.int .i64 (wholeN s : Int)] 3)
              have HEc := Lib.hid (HEb5.out.next hba)
              have HKc := Lib.hid (HKb5.out.trans (keeps_below hba))
              clear hba
              refine hK.out _ _ trivial (fun _ => ?_)
              clear hK K
              try simp only [Act.put, List.getElem_toArray, List.getElem_cons_zero, List.getElem_cons_succ, List.setIfInBounds_toArray, List.set_cons_zero, List.set_cons_succ]
              refine wpAnyH_ready (rs := [0]) (by kernel_rfl) (by simp) ?_
              refine AllReadyH.cons (o := _) rfl (fun K hK => ?_) AllReadyH.nil
              have hcB : (W5.alloc (.cells #[.int .i64 (wholeN s : Int)] 3)).cell? ⟨w.heap.size + 4, 0, none⟩ = some (.slice A3 st1.length c3) := HEc.out.opn.cell 0
              simp only [List.getElem_toArray, List.getElem_cons_succ, List.getElem_cons_zero]
              go_simp
              refine hK.out _ _ trivial (fun _ => ?_)
              clear hK K
              try simp only [Act.put, List.getElem_toArray, List.getElem_cons_zero, List.getElem_cons_succ, List.setIfInBounds_toArray, List.set_cons_zero, List.set_cons_succ]
              refine wpAnyH_ready (rs := [4]) (by kernel_rfl) (by simp) ?_
              refine AllReadyH.cons (o := _) rfl (fun K hK => ?_) AllReadyH.nil
              simp only [List.getElem_toArray, List.getElem_cons_succ, List.getElem_cons_zero]
              rw [if_pos (by rfl)]
              refine wp_append_seq (.tmp 44) (.tmp 47) 31 rfl elInt rfl HEc.out.row rfl rfl (Seq.one_new W5 (.int .i64 (wholeN s : Int)) 3) (by simp [Value.oneCell']) (by unfold maxLen; omega) (by omega) (by rw [size_alloc]; have := HEb5.out.size; omega) ?_
              intro A7 c7 W7 ho7 hg7 _
              have hk7 := HEc.out.opnAt hg7
              have h7c : W7.cell? ⟨w.heap.size + 4, 0, none⟩ = some (.slice A3 st1.length c3) := hk7.cell 0
              have h7f := hk7.frozen 0
              have HE7 := Lib.hid (HEc.out.pushed hg7 ho7)
              have HK7 := Lib.hid ((HKc.out.trans (keeps_own HEc.out.row hg7)).trans (KeepsOthers.setCell W7 ⟨w.heap.size + 4, 0, none⟩ (.slice A7 (st1.length + 1) c7)))
              have hz7 := hg7.size
              rw [size_alloc] at hz7
              clear ho7 hg7 hk7
              refine hK.out _ _ trivial (fun _ => ?_)
              clear hK K
              try simp only [Act.put, List.getElem_toArray, List.getElem_cons_zero, List.getElem_cons_succ, List.setIfInBounds_toArray, List.set_cons_zero, List.set_cons_succ]
              refine wpAnyH_ready (rs := [5]) (by kernel_rfl) (by simp) ?_
              refine AllReadyH.cons (o := _) rfl (fun K hK => ?_) AllReadyH.nil
              simp only [List.getElem_toArray, List.getElem_cons_succ, List.getElem_cons_zero]
              go_simp
              refine hK.out _ _ trivial (fun _ => ?_)
              clear hK K
              try simp only [Act.put, List.getElem_toArray, List.getElem_cons_zero, List.getElem_cons_succ, List.setIfInBounds_toArray, List.set_cons_zero, List.set_cons_succ]
              refine wpAnyH_done (by kernel_rfl) ?_ _
              gi_wp2_with fail
              exact ⟨HK7.out.from _, HEb.out.kp HE7.out (by rw [size_setCell]; omega), ⟨_, _, A7, c7, by rw [HRn.out, HTn'.out]; rfl, HE7.out⟩⟩
        · have dl : decide ((lb.length : Int) > 0) = true := decide_eq_true (by omega)
          gi_wp2_with fail
          have hfail := HE1.out.failed
          have hstep : stepE (true, (k : Int), Ab, cb, lb) st = none := by
            unfold stepE
            rw [if_pos rfl, if_neg (fun h => hlb h.2.2)]
          exact ⟨((HK1.out.trans (KeepsOthers.setCell _ _ _)).trans (KeepsOthers.setCell _ _ _)).from _, ⟨rfl, by rw [HRn.out, hstep]; rfl⟩, hfail⟩
      · have hstep : stepE (true, cnt, Ab, cb, lb) st = none := by
          unfold stepE
          rw [if_pos rfl, if_neg (fun h => by have := h.1; have := h.2.1; simp only at *; omega)]
        have hE1 : EncAt w W1 A c its st sz A3 c3 := HEb.out.popped ho1 hb1 HEb.out.row
        have HK1 := Lib.hid (keeps_only HEb.out.opn ho1)
        have r2 : W1.cell? ⟨w.heap.size, 0, none⟩ = some (.slice none 0 0) := hE1.res.cell 0
        have f2 := hE1.res.frozen 0
        have r3 : W1.cell? ⟨w.heap.size + 1, 0, none⟩ = some (.int .i64 0) := hE1.err.cell 0
        have f3 := hE1.err.frozen 0
        have HE1 := Lib.hid hE1
        clear hE1 hb1 ho1 q0 q1 q6 hbad
        gi_wp2_with fail
        exact ⟨((HK1.out.trans (KeepsOthers.setCell _ _ _)).trans (KeepsOthers.setCell _ _ _)).from _, ⟨rfl, by rw [HRn.out, hstep]; rfl⟩, HE1.out.failed⟩
    | false =>
      by_cases hc0 : cnt = 0
      · subst hc0
        have r4 : W.cell? ⟨w.heap.size + 3, 0, none⟩ = some (.slice (some ⟨w.heap.size + 2, 0, none⟩) its.length its.length) := HEb.out.szh.cell 0
        have r5 := HEb.out.szb.at_ x.val hxN
        have f5 := HEb.out.szb.frozen x.val
        have lx : (x.val : Int) < (its.length : Int) := by omega
        have hE2 := HEb.out.sized x.val lb.length
        have hK2 := KeepsOthers.setCell W ⟨w.heap.size + 2, x.val, none⟩ (.int .i64 (lb.length : Int))
        have hS2 := HSx.out.setCell (p := ⟨w.heap.size + 2, x.val, none⟩) (show w.heap.size ≤ w.heap.size + 2 by omega) (.int .i64 (lb.length : Int))
        have hz2 : W.heap.size ≤ (W.setCell ⟨w.heap.size + 2, x.val, none⟩ (.int .i64 (lb.length : Int))).heap.size := by rw [size_setCell]; exact Nat.le_refl _
        have hX2 := HX.out.far (p := ⟨w.heap.size + 2, x.val, none⟩) (show Bx ≠ w.heap.size + 2 by omega) (.int .i64 (lb.length : Int))
        have q22 : (W.setCell ⟨w.heap.size + 2, x.val, none⟩ (.int .i64 (lb.length : Int))).cell? ⟨Bx, 2, none⟩ = some (.slice Ab lb.length cb) := hX2.cell 2
        have HE2 := Lib.hid hE2
        have HK2 := Lib.hid hK2
        have HS2 := Lib.hid hS2
        have HX2 := Lib.hid hX2
        clear hE2 hK2 hS2 hX2 q6
        have hlm : lb.length ≤ 281474976710656 := by
          have := Nat.le_mul_of_pos_left (M + 9) (show 0 < its.length by omega)
          omega
        gi_wp2_with fail
        refine ⟨trivial, CallsIn.inRound l (callsIn_wide.2 ?_)⟩
        refine (whole_calls lb.length hlm _).mono ?_
        rintro e W3 ⟨rfl, hb3⟩
        have hz3 := hb3.size
        rw [size_setCell] at hz3
        have HE3 := Lib.hid (HE2.out.next hb3)
        have hS3 := HS2.out.below hb3 (by rw [size_setCell]; omega)
        have HK3 := Lib.hid (HK2.out.trans (keeps_below hb3))
        have hX3 := HX2.out.below hb3 (by have := HX2.out.lt; exact this)
        have q23 : W3.cell? ⟨Bx, 2, none⟩ = some (.slice Ab lb.length cb) := hX3.cell 2
        have o3 : W3.cell? ⟨w.heap.size + 4, 0, none⟩ = some (.slice A3 st.length c3) := HE3.out.opn.cell 0
        have hcase : (∃ b : UInt8, lb = [b] ∧ decide (by8 b < 128) = true ∧ ownN lb = 1) ∨ (∃ b : UInt8, lb = [b] ∧ decide (by8 b < 128) = false ∧ ownN lb = wholeN lb.length) ∨ (((lb.length : Int) == 1) = false ∧ ownN lb = wholeN lb.length) := by
          by_cases h1 : lb.length = 1
          · obtain ⟨b, rfl⟩ := List.length_eq_one_iff.1 h1
            by_cases h2 : b < 128
            · refine Or.inl ⟨b, rfl, ?_, ?_⟩
              · have : b.toNat < 128 := UInt8.lt_iff_toNat_lt.1 h2
                exact decide_eq_true (by unfold by8; omega)
              · unfold ownN small
                simp [h2]
            · refine Or.inr (Or.inl ⟨b, rfl, ?_, ?_⟩)
              · have : ¬ b.toNat < 128 := fun h => h2 (UInt8.lt_iff_toNat_lt.2 h)
                exact decide_eq_false (by unfold by8; omega)
              · unfold ownN small
                simp [h2]
          · refine Or.inr (Or.inr ⟨by rw [beq_eq_false_iff_ne]; omega, ?_⟩)
            unfold ownN small
            simp [h1]
        clear hb3 q22 q0 q1 q2 r4 r5 f5
        have hwle := wholeN_le lb.length hlm
        rcases hcase with ⟨b, hlb, db, ho⟩ | ⟨b, hlb, db, ho⟩ | ⟨db, ho⟩
        · have HStep := Lib.hid (show stepE (false, (0 : Int), Ab, cb, lb) st = some (st ++ [1], lb.length) by unfold stepE; simp [ho])
          subst hlb
          obtain ⟨ad, rfl, _, hcell⟩ := hS3.at_ (k := 0) (by simp [bytes])
          have hcell : W3.cell? ad = some (.int .u8 (by8 b)) := hcell
          have hba := (Below.refl W3.heap.size W3).alloc (Nat.le_refl _) (.cells #[.int .i64 ((1 : Nat) : Int)] 3)
          have HE4 := Lib.hid (HE3.out.next hba)
          have HK4 := Lib.hid (HK3.out.trans (keeps_below hba))
          clear hba hS3 ho
          gi_wp2_with (first
            | (gi_at_builtin; refine listIn_op rfl (by intro c h; cases h) (wp_append_seq (.tmp 73) (.tmp 75) 31 rfl elInt rfl (HE3.out.row.alloc _) rfl rfl (Seq.one_new W3 (.int .i64 (((1 : Nat) : Int) : Int)) 3) (by simp [Value.oneCell']) (by unfold maxLen; omega) (by omega) (by rw [size_alloc]; have := HE3.out.size; omega) ?_); intro A7 c7 W7 ho7 hg7 _; have hk7 := HE4.out.opnAt hg7; have h7c : W7.cell? ⟨w.heap.size + 4, 0, none⟩ = some (.slice A3 st.length c3) := hk7.cell 0; have h7f := hk7.frozen 0; have HE7 := Lib.hid (HE4.out.pushed hg7 ho7); have HK7 := Lib.hid ((HK4.out.trans (keeps_own HE4.out.row hg7)).trans (KeepsOthers.setCell W7 ⟨w.heap.size + 4, 0, none⟩ (.slice A7 (st.length + 1) c7))); have hz7 := hg7.size; rw [size_alloc] at hz7; clear ho7 hg7 hk7))
          exact ⟨HK7.out.from _, HEb.out.kp HE7.out (by rw [size_setCell]; omega), ⟨_, _, A7, c7, by rw [HRn.out, HStep.out]; rfl, HE7.out⟩⟩
        · have HStep := Lib.hid (show stepE (false, (0 : Int), Ab, cb, lb) st = some (st ++ [wholeN lb.length], lb.length) by unfold stepE; simp [ho])
          subst hlb
          obtain ⟨ad, rfl, _, hcell⟩ := hS3.at_ (k := 0) (by simp [bytes])
          have hcell : W3.cell? ad = some (.int .u8 (by8 b)) := hcell
          have hba := (Below.refl W3.heap.size W3).alloc (Nat.le_refl _) (.cells #[.int .i64 (wholeN [b].length : Int)] 3)
          have HE4 := Lib.hid (HE3.out.next hba)
          have HK4 := Lib.hid (HK3.out.trans (keeps_below hba))
          clear hba hS3 ho
          gi_wp2_with (first
            | (gi_at_builtin; refine listIn_op rfl (by intro c h; cases h) (wp_append_seq (.tmp 73) (.tmp 75) 31 rfl elInt rfl (HE3.out.row.alloc _) rfl rfl (Seq.one_new W3 (.int .i64 ((wholeN [b].length : Int) : Int)) 3) (by simp [Value.oneCell']) (by unfold maxLen; omega) (by omega) (by rw [size_alloc]; have := HE3.out.size; omega) ?_); intro A7 c7 W7 ho7 hg7 _; have hk7 := HE4.out.opnAt hg7; have h7c : W7.cell? ⟨w.heap.size + 4, 0, none⟩ = some (.slice A3 st.length c3) := hk7.cell 0; have h7f := hk7.frozen 0; have HE7 := Lib.hid (HE4.out.pushed hg7 ho7); have HK7 := Lib.hid ((HK4.out.trans (keeps_own HE4.out.row hg7)).trans (KeepsOthers.setCell W7 ⟨w.heap.size + 4, 0, none⟩ (.slice A7 (st.length + 1) c7))); have hz7 := hg7.size; rw [size_alloc] at hz7; clear ho7 hg7 hk7))
          exact ⟨HK7.out.from _, HEb.out.kp HE7.out (by rw [size_setCell]; omega), ⟨_, _, A7, c7, by rw [HRn.out, HStep.out]; rfl, HE7.out⟩⟩
        · have HStep := Lib.hid (show stepE (false, (0 : Int), Ab, cb, lb) st = some (st ++ [wholeN lb.length], lb.length) by unfold stepE; simp [ho])
          have hba := (Below.refl W3.heap.size W3).alloc (Nat.le_refl _) (.cells #[.int .i64 (wholeN lb.length : Int)] 3)
          have HE4 := Lib.hid (HE3.out.next hba)
          have HK4 := Lib.hid (HK3.out.trans (keeps_below hba))
          clear hba hS3 ho
          gi_wp2_with (first
            | (gi_at_builtin; refine listIn_op rfl (by intro c h; cases h) (wp_append_seq (.tmp 73) (.tmp 75) 31 rfl elInt rfl (HE3.out.row.alloc _) rfl rfl (Seq.one_new W3 (.int .i64 ((wholeN lb.length : Int) : Int)) 3) (by simp [Value.oneCell']) (by unfold maxLen; omega) (by omega) (by rw [size_alloc]; have := HE3.out.size; omega) ?_); intro A7 c7 W7 ho7 hg7 _; have hk7 := HE4.out.opnAt hg7; have h7c : W7.cell? ⟨w.heap.size + 4, 0, none⟩ = some (.slice A3 st.length c3) := hk7.cell 0; have h7f := hk7.frozen 0; have HE7 := Lib.hid (HE4.out.pushed hg7 ho7); have HK7 := Lib.hid ((HK4.out.trans (keeps_own HE4.out.row hg7)).trans (KeepsOthers.setCell W7 ⟨w.heap.size + 4, 0, none⟩ (.slice A7 (st.length + 1) c7))); have hz7 := hg7.size; rw [size_alloc] at hz7; clear ho7 hg7 hk7))
          exact ⟨HK7.out.from _, HEb.out.kp HE7.out (by rw [size_setCell]; omega), ⟨_, _, A7, c7, by rw [HRn.out, HStep.out]; rfl, HE7.out⟩⟩
      · have hstep : stepE (false, cnt, Ab, cb, lb) st = none := by
          unfold stepE
          rw [if_neg (by simp), if_neg hc0]
        have dc : (cnt != 0) = true := by simpa using hc0
        have r2 : W.cell? ⟨w.heap.size, 0, none⟩ = some (.slice none 0 0) := HEb.out.res.cell 0
        have f2 := HEb.out.res.frozen 0
        have r3 : W.cell? ⟨w.heap.size + 1, 0, none⟩ = some (.int .i64 0) := HEb.out.err.cell 0
        have f3 := HEb.out.err.frozen 0
        gi_wp2_with fail
        exact ⟨((KeepsOthers.setCell _ _ _).trans (KeepsOthers.setCell _ _ _)).from _, ⟨rfl, by rw [HRn.out, hstep]; rfl⟩, HEb.out.failed⟩
  case stop =>
    rintro D cd pre W hD ⟨k, hk⟩ ⟨⟨rfl, hn⟩, h2, h3, hB⟩ hK
    have HM := Lib.hid (show encM its = none by unfold encM; rw [run_none hk hn])
    refine (wpIn_wide (n := 6)).2 ?_
    go_wp2_with fail
    refine ⟨by simp, .inl ⟨_, _, rfl, run_takeDeferred hK, ?_⟩⟩
    have hg := grownBy_putObj' W D (.deferred none)
    have hr : ∀ r, some D = some r → ∃ o : Obj, W.heap[r]? = some o ∧ o.isCells = false := fun r e => by cases e; exact ⟨_, hK, rfl⟩
    have e2 := (h2.keptN hg hr).cell 0
    have e3 := (h3.keptN hg hr).cell 0
    refine ⟨.tuple #[.slice none 0 0, .int .i64 250], ?_, ?_⟩
    · simp [results, Tryd.f118, go_sem, e2, e3]
    · exact ⟨encPost_none HM.out, hB.grown hg hB.size (fun q e => by cases e; omega)⟩
  case done =>
    rintro D ys W hD rfl ⟨st, sz, A3, c3, hr, hE⟩ hK
    have hle := runE_le (fun y hy => (HP.out y hy).1) hr (by rw [down_length]; omega)
    rw [down_length] at hle
    have o0 : W.cell? ⟨w.heap.size + 4, 0, none⟩ = some (.slice A3 st.length c3) := hE.opn.cell 0
    have r2 : W.cell? ⟨w.heap.size, 0, none⟩ = some (.slice none 0 0) := hE.res.cell 0
    have f2 := hE.res.frozen 0
    have r3 : W.cell? ⟨w.heap.size + 1, 0, none⟩ = some (.int .i64 0) := hE.err.cell 0
    have f3 := hE.err.frozen 0
    have hsE := hE.size
    have HEd := Lib.hid hE
    have HKd := Lib.hid hK
    have HR := Lib.hid hr
    clear hE hK hr
    by_cases h1 : st.length = 1
    · obtain ⟨n0, rfl⟩ := List.length_eq_one_iff.1 h1
      have hn0 : n0 ≤ 1099511627776 := by have := hle.1; simp at this; omega
      obtain ⟨g, rfl, hg1, hg2, hgc, hgm⟩ := own_form HEd.out.row (by simp)
      have hcg : W.cell? ⟨g, 0, none⟩ = some (.int .i64 (n0 : Int)) := HEd.out.row.cellAt 0 (by simp)
      go_wp2_with (first
        | (refine wpL_make rfl (.const (.int .i64 0)) (.tmp 82) 24 rfl Tryd.underlying24 infoByte rfl .i64 .i64 0 n0 rfl rfl (Nat.zero_le _) (by omega) (by omega) ?_))
      have hsz := runE_sz (fun y hy => (HP.out y hy).1) HR.out (by rw [down_length]; omega)
      have hol := outE_le its sz M (fun y hy => (HP.out y hy).1) hsz
      have HM := Lib.hid (show encM its = some (outE its sz its.length) by unfold encM; rw [HR.out])
      have HSz := Lib.hid hsz
      have HOl := Lib.hid hol
      have hDl : D < W.heap.size := (Array.getElem?_eq_some_iff.1 HKd.out).1
      clear hsz hol o0 hcg
      go_loopw [12, 86] (fun b i wr => ∃ (k : Nat) (A1 : Option Addr) (c1 : Nat), k ≤ its.length ∧ i = .int .i64 k ∧ b = .slice A1 (outE its sz k).length c1 ∧ wr.ownsRow W.heap.size 5 1 (.slice A1 (outE its sz k).length c1) (outE its sz k).length (bytes (outE its sz k)) ∧ Below W.heap.size W wr) (fun _ i _ => its.length - (intOf i).toNat)
      case atStart => exact ⟨0, some ⟨W.heap.size, 0, none⟩, n0, by omega, rfl, rfl, own_made W _ n0 _ (by unfold maxLen; omega), (Below.refl _ _).alloc (Nat.le_refl _) _⟩
      case round =>
        obtain ⟨k, A1, c1, hk, rfl, rfl, hown, hBl⟩ := hrel
        have hs1 := hBl.size
        have hok := HOl.out k hk
        have hkM := Nat.mul_le_mul_right (M + 9) hk
        by_cases hlt : k < its.length
        · have dk : decide ((k : Int) < (its.length : Int)) = true := by simp; omega
          have lk : (k : Int) < (its.length : Int) := by omega
          have hEr := HEd.out.next hBl
          obtain ⟨ad, rfl, hadb, hc0, hc1, hc2⟩ := (HS.out.below hEr.below (Nat.le_refl _)).get k hlt
          have hstep := outE_succ its sz k hlt
          have hlx := (HP.out _ (List.getElem_mem hlt)).1
          have hsx := (HP.out _ (List.getElem_mem hlt)).2.below hEr.below (Nat.le_refl _)
          generalize its[k] = it at *
          obtain ⟨isL, cnt, Ab, cb, lb⟩ := it
          simp only at hlx hsx hc0 hc1 hc2
          have hszk := HSz.out k
          have hba := (Below.refl wr.heap.size wr).alloc (Nat.le_refl _) (.cells #[.bool isL, .int .i64 cnt, .slice Ab lb.length cb] 109)
          have hoa := own_below' hown hba
          have hBa := hBl.trans (hba.mono hs1)
          have hEa := HEd.out.next hBa
          have r4 : (wr.alloc (.cells #[.bool isL, .int .i64 cnt, .slice Ab lb.length cb] 109)).cell? ⟨w.heap.size + 3, 0, none⟩ = some (.slice (some ⟨w.heap.size + 2, 0, none⟩) its.length its.length) := hEa.szh.cell 0
          have r5 : (wr.alloc (.cells #[.bool isL, .int .i64 cnt, .slice Ab lb.length cb] 109)).cell? ⟨w.heap.size + 2, k, none⟩ = some (.int .i64 (sz k : Int)) := hEa.szb.at_ k hlt
          have hsx := hsx.below hba (by omega)
          have HOa := Lib.hid hoa
          have HOw := Lib.hid hown
          have HBa := Lib.hid hBa
          have HSx := Lib.hid hsx
          have HStep := Lib.hid hstep
          clear hoa hBa hba hsx hstep hown hBl hEr hEa
          generalize hO : outE its sz k = O at *
          have HOO := Lib.hid hO
          clear hO
          cases isL with
          | true =>
            have hpc : pieceE (true, cnt, Ab, cb, lb) (sz k) = headL 192 (sz k) := rfl
            rw [hpc] at HStep
            go_wp2_with fail
            have hh := head_calls W.heap.size A1 c1 O 192 (sz k) (by omega) (by omega) _ HOa.out (by rw [size_alloc]; omega)
            rw [show by8 (UInt8.ofNat 192) = 192 from rfl] at hh
            refine hh.mono ?_
            rintro e W5 ⟨A5, c5, rfl, ho5, hg5, _⟩
            have HB5 := Lib.hid (HBa.out.grown hg5 (by rw [size_alloc]; omega) (fun q e => (HOa.out.lt q e).1))
            have HO5 := Lib.hid ho5
            clear hh ho5 hg5
            go_wp2_with fail
            exact ⟨⟨k + 1, A5, c5, by omega, by go_num, by rw [HStep.out]; first | rfl | rw [List.length_append], by rw [HStep.out]; exact HO5.out, HB5.out⟩, by simp [intOf]; omega⟩
          | false =>
            have hcase : (∃ b : UInt8, lb = [b] ∧ decide (by8 b ≥ 128) = false ∧ pieceE (false, cnt, Ab, cb, lb) (sz k) = [] ++ lb) ∨ (∃ b : UInt8, lb = [b] ∧ decide (by8 b ≥ 128) = true ∧ pieceE (false, cnt, Ab, cb, lb) (sz k) = headL 128 (sz k) ++ lb) ∨
                (((lb.length : Int) != 1) = true ∧ pieceE (false, cnt, Ab, cb, lb) (sz k) = headL 128 (sz k) ++ lb) := by
              unfold pieceE small
              by_cases h1 : lb.length = 1
              · obtain ⟨b, rfl⟩ := List.length_eq_one_iff.1 h1
                by_cases h2 : b < 128
                · refine Or.inl ⟨b, rfl, ?_, ?_⟩
                  · have : b.toNat < 128 := UInt8.lt_iff_toNat_lt.1 h2
                    exact decide_eq_false (by unfold by8; omega)
                  · simp [h2]
                · refine Or.inr (Or.inl ⟨b, rfl, ?_, ?_⟩)
                  · have : ¬ b.toNat < 128 := fun h => h2 (UInt8.lt_iff_toNat_lt.2 h)
                    exact decide_eq_true (by unfold by8; omega)
                  · simp [h2]
              · refine Or.inr (Or.inr ⟨by rw [bne_iff_ne]; omega, ?_⟩)
                simp [h1]
            have hah := HOa.out.lt
            have hpl : (pieceE (false, cnt, Ab, cb, lb) (sz k)).length ≤ M + 9 := pieceE_le _ _ M (by omega) hlx
            have hOl : O.length + (M + 9) ≤ 2199023255552 := by
              have := Nat.le_mul_of_pos_left (M + 9) (show 0 < its.length by omega)
              omega
            have hwlt : ∀ q, (Value.slice A1 O.length c1).ownBlock = some q → q ≠ wr.heap.size := fun q e => by have := HOw.out.lt q e; omega
            rcases hcase with ⟨b, hlb, db, hpc⟩ | ⟨b, hlb, db, hpc⟩ | ⟨db, hpc⟩
            · rw [hpc] at HStep
              subst hlb
              obtain ⟨adb, rfl, _, hcell⟩ := HSx.out.at_ (k := 0) (by simp [bytes])
              have hcell : (wr.alloc (.cells #[.bool false, .int .i64 cnt, .slice (some adb) 1 cb] 109)).cell? adb = some (.int .u8 (by8 b)) := hcell
              clear hpc
              go_wp2_with (first
                | (at_builtin; refine wpL_append rfl (.tmp 116) (.tmp 118) 24 rfl elByte rfl HOa.out rfl (by rw [bytes_length]; simp) HSx.out (bytes_one _) (by unfold maxLen; simp; omega) (by simp; omega) (by rw [size_alloc]; omega) ?_; intro A6 c6 W6 ho6 hg6 _; have HB6 := Lib.hid (HBa.out.grown hg6 (by rw [size_alloc]; omega) (fun q e => (HOa.out.lt q e).1)); rw [← bytes_append] at ho6; have HO6 := Lib.hid ho6; clear ho6 hg6))
              exact ⟨⟨k + 1, A6, c6, by omega, by go_num, by rw [HStep.out]; simp, by rw [HStep.out]; simpa using HO6.out, HB6.out⟩, by simp [intOf]; omega⟩
            · rw [hpc] at HStep
              have hoff : O.length + (headL 128 (sz k)).length + lb.length ≤ 2199023255552 := by rw [hpc, List.length_append] at hpl; omega
              clear hpc
              subst hlb
              obtain ⟨adb, rfl, _, hcell⟩ := HSx.out.at_ (k := 0) (by simp [bytes])
              have hcell : (wr.alloc (.cells #[.bool false, .int .i64 cnt, .slice (some adb) 1 cb] 109)).cell? adb = some (.int .u8 (by8 b)) := hcell
              simp only [List.length_cons, List.length_nil, Nat.zero_add] at r4 r5
              go_wp2_with fail
              have hh := head_calls W.heap.size A1 c1 O 128 (sz k) (by omega) (by omega) (wr.alloc (.cells #[.bool false, .int .i64 cnt, .slice (some adb) 1 cb] 109)) HOa.out (by rw [size_alloc]; omega)
              rw [show by8 (UInt8.ofNat 128) = 128 from rfl] at hh
              refine hh.mono ?_
              rintro e W5 ⟨A5, c5, rfl, ho5, hg5, _⟩
              have HB5 := Lib.hid (HBa.out.grown hg5 (by rw [size_alloc]; omega) (fun q e => (HOa.out.lt q e).1))
              rw [List.length_append] at ho5
              have HO5 := Lib.hid ho5
              have hs5 := hg5.size
              rw [size_alloc] at hs5
              have hS5 := HSx.out.grown hg5 (by rw [size_alloc]; omega) (fun q e => by have := (HOa.out.lt q e).1; omega)
              have HS5 := Lib.hid hS5
              have q5 : W5.cell? ⟨wr.heap.size, 2, none⟩ = some (.slice (some adb) [b].length cb) := by
                have hx : Blk W5 wr.heap.size 109 _ := (hg5.block wr.heap.size (by rw [size_alloc]; omega) (fun e => hwlt _ e.symm rfl)).trans (Blk.new wr _ _)
                exact hx.cell 2
              clear hh ho5 hg5 hS5
              go_wp2_with (first
                | (at_builtin; refine wpL_append rfl (.tmp 116) (.tmp 118) 24 rfl elByte rfl HO5.out rfl (by rw [bytes_length]; simp) HS5.out (bytes_one _) (by unfold maxLen; simp; omega) (by simp; omega) (by omega) ?_; intro A6 c6 W6 ho6 hg6 _; have HB6 := Lib.hid (HB5.out.grown hg6 (by omega) (fun q e => (HO5.out.lt q e).1)); rw [← bytes_append] at ho6; have HO6 := Lib.hid ho6; clear ho6 hg6))
              have hfin : outE its sz (k + 1) = O ++ headL 128 (sz k) ++ [b] := by rw [HStep.out, List.append_assoc]
              refine ⟨⟨k + 1, A6, c6, by omega, by go_num, ?_, ?_, HB6.out⟩, by simp [intOf]; omega⟩
              · rw [hfin, List.length_append, List.length_append]
                first | done | rfl
              · rw [hfin, List.length_append, List.length_append]
                exact HO6.out
            · rw [hpc] at HStep
              have hoff : O.length + (headL 128 (sz k)).length + lb.length ≤ 2199023255552 := by rw [hpc, List.length_append] at hpl; omega
              clear hpc
              go_wp2_with fail
              have hh := head_calls W.heap.size A1 c1 O 128 (sz k) (by omega) (by omega) _ HOa.out (by rw [size_alloc]; omega)
              rw [show by8 (UInt8.ofNat 128) = 128 from rfl] at hh
              refine hh.mono ?_
              rintro e W5 ⟨A5, c5, rfl, ho5, hg5, _⟩
              have HB5 := Lib.hid (HBa.out.grown hg5 (by rw [size_alloc]; omega) (fun q e => (HOa.out.lt q e).1))
              rw [List.length_append] at ho5
              have HO5 := Lib.hid ho5
              have hs5 := hg5.size
              rw [size_alloc] at hs5
              have hS5 := HSx.out.grown hg5 (by rw [size_alloc]; omega) (fun q e => by have := (HOa.out.lt q e).1; omega)
              have HS5 := Lib.hid hS5
              have q5 : W5.cell? ⟨wr.heap.size, 2, none⟩ = some (.slice Ab lb.length cb) := by
                have hx : Blk W5 wr.heap.size 109 _ := (hg5.block wr.heap.size (by rw [size_alloc]; omega) (fun e => hwlt _ e.symm rfl)).trans (Blk.new wr _ _)
                exact hx.cell 2
              clear hh ho5 hg5 hS5
              go_wp2_with (first
                | (at_builtin; refine wpL_append rfl (.tmp 116) (.tmp 118) 24 rfl elByte rfl HO5.out rfl (by rw [bytes_length]; simp) HS5.out (bytes_one _) (by unfold maxLen; simp; omega) (by simp; omega) (by omega) ?_; intro A6 c6 W6 ho6 hg6 _; have HB6 := Lib.hid (HB5.out.grown hg6 (by omega) (fun q e => (HO5.out.lt q e).1)); rw [← bytes_append] at ho6; have HO6 := Lib.hid ho6; clear ho6 hg6))
              have hfin : outE its sz (k + 1) = O ++ headL 128 (sz k) ++ lb := by rw [HStep.out, List.append_assoc]
              refine ⟨⟨k + 1, A6, c6, by omega, by go_num, ?_, ?_, HB6.out⟩, by simp [intOf]; omega⟩
              · rw [hfin, List.length_append, List.length_append]
                first | done | rfl
              · rw [hfin, List.length_append, List.length_append]
                exact HO6.out
        · have dk : decide ((k : Int) < (its.length : Int)) = false := by simp; omega
          have hkn : k = its.length := by omega
          have hown' := hown
          rw [hkn] at hown'
          have hEr := HEd.out.next hBl
          have r2 : wr.cell? ⟨w.heap.size, 0, none⟩ = some (.slice none 0 0) := hEr.res.cell 0
          have f2 := hEr.res.frozen 0
          have r3 : wr.cell? ⟨w.heap.size + 1, 0, none⟩ = some (.int .i64 0) := hEr.err.cell 0
          have f3 := hEr.err.frozen 0
          have hK1 : wr.heap[D]? = some (.deferred (some [])) := (hBl.block D hDl).trans HKd.out
          have hlen : (outE its sz k).length = (outE its sz its.length).length := by rw [hkn]
          rw [hlen]
          have hoc := Only.setCell wr ⟨w.heap.size, 0, none⟩ (.slice A1 (outE its sz its.length).length c1)
          have h2 := (hEr.res.set_ 0 (.slice A1 (outE its sz its.length).length c1)).far (p := ⟨w.heap.size + 1, 0, none⟩) (show w.heap.size ≠ w.heap.size + 1 by omega) (.int .i64 0)
          have h3 := (hEr.err.far (p := ⟨w.heap.size, 0, none⟩) (show w.heap.size + 1 ≠ w.heap.size by omega) (.slice A1 (outE its sz its.length).length c1)).set_ 0 (.int .i64 0)
          have hK2 := ((KeepsOthers.setCell wr ⟨w.heap.size, 0, none⟩ (.slice A1 (outE its sz its.length).length c1)).trans (KeepsOthers.setCell _ ⟨w.heap.size + 1, 0, none⟩ (.int .i64 0))).same D _ hK1 rfl
          have hoc2 := Only.setCell (wr.setCell ⟨w.heap.size, 0, none⟩ (.slice A1 (outE its sz its.length).length c1)) ⟨w.heap.size + 1, 0, none⟩ (.int .i64 0)
          have ho9 := own_only (own_only hown' hoc (fun e => by have : W.heap.size ≤ w.heap.size := (hown'.lt _ e).1; omega)) hoc2 (fun e => by have : W.heap.size ≤ w.heap.size + 1 := (hown'.lt _ e).1; omega)
          have hB9 := hoc2.below (hoc.below hEr.below (Nat.le_refl _)) (Nat.le_succ _)
          have H2 := Lib.hid h2
          have H3 := Lib.hid h3
          have HK2 := Lib.hid hK2
          have HO9 := Lib.hid ho9
          have HB9 := Lib.hid hB9
          clear hown hown' hBl hkn hEr h2 h3 hK1 hK2 ho9 hB9 hoc hoc2 hlen
          go_wp2_with fail
          have h2 := H2.out
          have h3 := H3.out
          have hK2 := HK2.out
          have ho9 := HO9.out
          have hB9 := HB9.out
          refine ⟨by simp, .inl ⟨_, _, rfl, run_takeDeferred hK2, ?_⟩⟩
          generalize ((wr.setCell ⟨w.heap.size, 0, none⟩ (.slice A1 (outE its sz its.length).length c1)).setCell ⟨w.heap.size + 1, 0, none⟩ (.int .i64 0)) = W9 at *
          have hg := grownBy_putObj' W9 D (.deferred none)
          have hr : ∀ r, some D = some r → ∃ o : Obj, W9.heap[r]? = some o ∧ o.isCells = false := fun r e => by cases e; exact ⟨_, hK2, rfl⟩
          have e2 : (W9.putObj D (.deferred none)).cell? ⟨w.heap.size, 0, none⟩ = some (.slice A1 (outE its sz its.length).length c1) := (h2.keptN hg hr).cell 0
          have e3 : (W9.putObj D (.deferred none)).cell? ⟨w.heap.size + 1, 0, none⟩ = some (.int .i64 0) := (h3.keptN hg hr).cell 0
          refine ⟨.tuple #[.slice A1 (outE its sz its.length).length c1, .int .i64 0], ?_, ?_⟩
          · simp [results, Tryd.f118, go_sem, e2, e3]
          · exact ⟨encPost_some HM.out rfl (own_mono (own_keptN ho9 hg hr) (by omega)), hB9.grown hg hB9.size (fun q e => by cases e; omega)⟩
    · have d1 : ((st.length : Int) != 1) = true := by rw [bne_iff_ne]; omega
      have HM := Lib.hid (show encM its = none by
        unfold encM
        rw [HR.out]
        match st, h1 with
        | [], _ => rfl
        | [_], h => exact absurd rfl h
        | _ :: _ :: _, _ => rfl)
      go_wp2_with fail
      have hfail := HEd.out.failed
      have hK2 := ((KeepsOthers.setCell W ⟨w.heap.size, 0, none⟩ (.slice none 0 0)).trans (KeepsOthers.setCell _ ⟨w.heap.size + 1, 0, none⟩ (.int .i64 250))).same D _ HKd.out rfl
      refine ⟨by simp, .inl ⟨_, _, rfl, run_takeDeferred hK2, ?_⟩⟩
      obtain ⟨h2, h3, hB⟩ := hfail
      generalize ((W.setCell ⟨w.heap.size, 0, none⟩ (.slice none 0 0)).setCell ⟨w.heap.size + 1, 0, none⟩ (.int .i64 250)) = W9 at *
      have hg := grownBy_putObj' W9 D (.deferred none)
      have hr : ∀ r, some D = some r → ∃ o : Obj, W9.heap[r]? = some o ∧ o.isCells = false := fun r e => by cases e; exact ⟨_, hK2, rfl⟩
      have e2 := (h2.keptN hg hr).cell 0
      have e3 := (h3.keptN hg hr).cell 0
      refine ⟨.tuple #[.slice none 0 0, .int .i64 250], ?_, ?_⟩
      · simp [results, Tryd.f118, go_sem, e2, e3]
      · exact ⟨encPost_none HM.out, hB.grown hg hB.size (fun q e => by cases e; omega)⟩
end Go.Proofs.YtfhindffmghlaaaDoor
