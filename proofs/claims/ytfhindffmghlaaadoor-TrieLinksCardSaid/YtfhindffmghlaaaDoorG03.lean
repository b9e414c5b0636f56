/- Decode: what it answers, in plain words; its rows in memory. -/
import Derived.Test.YtfhindffmghlaaaDoorG02
import Derived.Test.YtfhindffmghlaaaDoorG01
import Derived.RangeFuncNested
import Derived.RangeFuncBound
import Derived.RangeFuncCalls
import Derived.RangeFuncLeaves
import Derived.OwnWalkIn
import Derived.TacticsInMore
import Derived.LoopNIn
import Derived.LoopIn
import Derived.OrdersHeld
import Derived.Shelf.Abstract
set_option linter.unusedVariables false
set_option linter.unusedSimpArgs false
namespace Go.Proofs.YtfhindffmghlaaaDoor
open Go.RowKit
abbrev SaidI := Bool × Int × List UInt8
theorem readM_ok {b : List UInt8} {p en : Nat} (h : (readM b p en).2.2.2 = 0) (hen : en ≤ b.length) :
    p < en ∧ p ≤ (readM b p en).2.1 ∧ (readM b p en).2.1 ≤ (readM b p en).2.2.1 ∧ (readM b p en).2.2.1 ≤ en ∧ p < (readM b p en).2.2.1 ∧ ((readM b p en).1 = true → p < (readM b p en).2.1) := by
  unfold readM at *
  split
  · rename_i h1; rw [if_pos h1] at h; cases h
  rename_i h1
  rw [if_neg h1] at h
  split
  · simp only; exact ⟨by omega, by omega, by omega, by omega, by omega, by simp⟩
  rename_i h2
  rw [if_neg h2] at h
  split
  · rename_i h3
    rw [if_pos h3] at h
    split
    · rename_i h4; rw [if_pos h4] at h; cases h
    rename_i h4
    rw [if_neg h4] at h
    split
    · rename_i h5; rw [if_pos h5] at h; cases h
    rename_i h5
    rw [if_neg h5] at h
    split
    · rename_i h6; rw [if_pos h6] at h; cases h
    simp only; exact ⟨by omega, by omega, by omega, by omega, by omega, by omega⟩
  rename_i h3
  rw [if_neg h3] at h
  split
  · rename_i h4; rw [if_pos h4] at h; cases h
  rename_i h4
  rw [if_neg h4] at h
  split
  · rename_i h5; rw [if_pos h5] at h; cases h
  simp only; exact ⟨by omega, by omega, by omega, by omega, by omega, by omega⟩
theorem readM_err (b : List UInt8) (p en : Nat) : (readM b p en).2.2.2 = 0 ∨ (readM b p en).2.2.2 = 50 ∨ (readM b p en).2.2.2 = 251 := by
  unfold readM
  split
  · simp
  split
  · simp
  split
  · split
    · simp
    split
    · simp
    split
    · simp
    simp
  split
  · simp
  split
  · simp
  simp
def up (x : SaidI) : SaidI := (x.1, x.2.1 + 1, x.2.2)
def upL (L : List SaidI) : List (Nat × Nat) → List SaidI
  | [] => L
  | q :: _ => L.modify q.1 up
theorem upL_length (L : List SaidI) (st : List (Nat × Nat)) : (upL L st).length = L.length := by
  cases st <;> simp [upL]
def newI (b : List UInt8) (r : ReadR) : SaidI := if r.1 then (true, 0, []) else (false, 0, (b.take r.2.2.1).drop r.2.1)
def openN (r : ReadR) (L : List SaidI) (st : List (Nat × Nat)) : List (Nat × Nat) := if r.1 then (L.length, r.2.2.1) :: st else st
def atN (r : ReadR) : Nat := if r.1 then r.2.1 else r.2.2.1
def enN (r : ReadR) (en : Nat) : Nat := if r.1 then r.2.2.1 else en
def endOf (n : Nat) : List (Nat × Nat) → Nat
  | [] => n
  | q :: _ => q.2
def popM (n p : Nat) : Nat → List (Nat × Nat) → Option (Nat × List (Nat × Nat))
  | _, [] => none
  | en, q :: st => if p < en then some (en, q :: st) else popM n p (endOf n st) st
abbrev DecR := List SaidI × Nat × Nat
def decGo (b : List UInt8) : Nat → List SaidI → List (Nat × Nat) → Nat → Nat → DecR
  | 0, _, _, _, _ => ([], 0, 0)
  | k + 1, L, st, p, en =>
    if (readM b p en).2.2.2 ≠ 0 then ([], (readM b p en).2.2.2, p) else
    match popM b.length (atN (readM b p en)) (enN (readM b p en) en) (openN (readM b p en) L st) with
    | none => if atN (readM b p en) < b.length then ([], 58, atN (readM b p en)) else (upL L st ++ [newI b (readM b p en)], 0, 0)
    | some (en', st') => decGo b k (upL L st ++ [newI b (readM b p en)]) st' (atN (readM b p en)) en'
def decM (b : List UInt8) : DecR := decGo b (b.length + 1) [] [] 0 b.length
/-- What holds at the head of each round. -/
structure DecInv (n : Nat) (L : List SaidI) (st : List (Nat × Nat)) (p en : Nat) : Prop where
  hp : p ≤ n
  hen : en ≤ n
  hlen : L.length ≤ p
  hcnt : ∀ x ∈ L, 0 ≤ x.2.1 ∧ x.2.1 ≤ L.length ∧ x.2.2.length ≤ n
  hst : ∀ q ∈ st, q.1 < L.length ∧ q.2 ≤ n
  hsize : st.length ≤ L.length
theorem DecInv.start (n : Nat) : DecInv n [] [] 0 n := ⟨by omega, by omega, by simp, by simp, by simp, by simp⟩
theorem upL_mem {n k : Nat} {L : List SaidI} {st : List (Nat × Nat)} (h : ∀ x ∈ L, 0 ≤ x.2.1 ∧ x.2.1 ≤ k ∧ x.2.2.length ≤ n) : ∀ x ∈ upL L st, 0 ≤ x.2.1 ∧ x.2.1 ≤ (k + 1 : Nat) ∧ x.2.2.length ≤ n := by
  intro x hx
  cases st with
  | nil => have := h x hx; omega
  | cons q st =>
    obtain ⟨j, hj, rfl⟩ := List.getElem_of_mem hx
    simp only [upL] at *
    rw [List.getElem_modify]
    have hj' : j < L.length := by rw [upL_length] at hj; exact hj
    have := h L[j] (List.getElem_mem hj')
    split
    · simp only [up]; omega
    · omega
theorem DecInv.next {b : List UInt8} {L : List SaidI} {st : List (Nat × Nat)} {p en : Nat} (h : DecInv b.length L st p en) (hr : (readM b p en).2.2.2 = 0) :
    DecInv b.length (upL L st ++ [newI b (readM b p en)]) (openN (readM b p en) L st) (atN (readM b p en)) (enN (readM b p en) en) := by
  obtain ⟨h1, h2, h3, h4, h5, h6⟩ := readM_ok hr h.hen
  have hp := h.hp
  have he := h.hen
  have hl := h.hlen
  have hsz := h.hsize
  refine ⟨?_, ?_, ?_, ?_, ?_, ?_⟩
  · unfold atN; split <;> omega
  · unfold enN; split <;> omega
  · rw [List.length_append, upL_length]
    unfold atN
    split
    · rename_i hd; have := h6 hd; simp; omega
    · simp; omega
  · intro x hx
    rw [List.length_append, upL_length]
    rcases List.mem_append.1 hx with hx | hx
    · have := upL_mem h.hcnt x hx
      simp only [List.length_cons, List.length_nil]
      omega
    · rw [List.mem_singleton] at hx
      subst hx
      unfold newI
      split
      · simp
        omega
      · simp
        omega
  · intro q hq
    rw [List.length_append, upL_length]
    unfold openN at hq
    split at hq
    · rcases List.mem_cons.1 hq with rfl | hq
      · simp only [List.length_cons, List.length_nil]; omega
      · have := h.hst q hq; simp only [List.length_cons, List.length_nil]; omega
    · have := h.hst q hq; simp only [List.length_cons, List.length_nil]; omega
  · rw [List.length_append, upL_length]
    unfold openN
    split
    · simp; omega
    · simp; omega
theorem DecInv.pop {n p : Nat} {L : List SaidI} : ∀ {st : List (Nat × Nat)} {en : Nat} {en' : Nat} {st' : List (Nat × Nat)}, DecInv n L st p en → popM n p en st = some (en', st') → DecInv n L st' p en' ∧ p < en'
  | [], en, en', st', h, hp => by simp [popM] at hp
  | q :: st, en, en', st', h, hp => by
    unfold popM at hp
    split at hp
    · injection hp with hp
      injection hp with h1 h2
      subst h1 h2
      exact ⟨h, by assumption⟩
    · have h' : DecInv n L st p (endOf n st) := ⟨h.hp, by
        cases st with
        | nil => exact Nat.le_refl _
        | cons q' st => exact (h.hst q' (by simp)).2, h.hlen, h.hcnt, fun q hq => h.hst q (List.mem_cons_of_mem _ hq), by have := h.hsize; simp at this; omega⟩
      exact h'.pop hp
theorem atN_lt {b : List UInt8} {p en : Nat} (hr : (readM b p en).2.2.2 = 0) (hen : en ≤ b.length) : p < atN (readM b p en) := by
  obtain ⟨h1, h2, h3, h4, h5, h6⟩ := readM_ok hr hen
  unfold atN
  split
  · rename_i hd; exact h6 hd
  · exact h5
/-- The row that is read has no more items than there are bytes, nor longer ones. -/
theorem decGo_bound {b : List UInt8} : ∀ (k : Nat) {L : List SaidI} {st : List (Nat × Nat)} {p en : Nat}, DecInv b.length L st p en →
    (decGo b k L st p en).1.length ≤ b.length ∧ (∀ x ∈ (decGo b k L st p en).1, 0 ≤ x.2.1 ∧ x.2.1 ≤ (b.length : Nat) ∧ x.2.2.length ≤ b.length) ∧ (decGo b k L st p en).2.1 ≤ 251 ∧ (decGo b k L st p en).2.2 ≤ b.length
  | 0, L, st, p, en, h => by simp [decGo]
  | k + 1, L, st, p, en, h => by
    unfold decGo
    split
    · have := readM_err b p en
      exact ⟨by simp, by simp, by simp only; omega, h.hp⟩
    rename_i hr
    have hn := h.next (by omega)
    have h1 := hn.hlen
    have h2 := hn.hp
    split
    · split
      · exact ⟨by simp, by simp, by simp only; omega, h2⟩
      · refine ⟨Nat.le_trans h1 h2, fun x hx => ?_, by simp only; omega, by simp only; omega⟩
        have := hn.hcnt x hx
        omega
    · rename_i en' st' hp
      exact decGo_bound k (hn.pop hp).1
theorem decM_bound (b : List UInt8) : (decM b).1.length ≤ b.length ∧ (∀ x ∈ (decM b).1, 0 ≤ x.2.1 ∧ x.2.1 ≤ (b.length : Nat) ∧ x.2.2.length ≤ b.length) ∧ (decM b).2.1 ≤ 251 ∧ (decM b).2.2 ≤ b.length := decGo_bound _ (DecInv.start _)
/- The rows in memory. -/
def openV (q : Nat × Nat) : List Value := [.int .i64 q.1, .int .i64 q.2]
def opensC (st : List (Nat × Nat)) : List Value := st.reverse.flatMap openV
theorem opensC_length (st : List (Nat × Nat)) : (opensC st).length = st.length * 2 := by
  induction st with
  | nil => rfl
  | cons q st ih => simp only [opensC, List.reverse_cons, List.flatMap_append, List.length_append, List.length_cons] at *; rw [ih]; simp [openV]; omega
theorem opensC_cons (q : Nat × Nat) (st : List (Nat × Nat)) : opensC (q :: st) = opensC st ++ [.int .i64 q.1, .int .i64 q.2] := by simp [opensC, openV]
theorem infoOpened : (Tryd.prog.info? 149).map (fun i => (i.zero, i.size, i.bytes)) = some (some (.agg #[.int .i64 0, .int .i64 0]), 2, 16) := by kernel_rfl
theorem elOpened : Elem Tryd.prog 145 149 2 16 := Elem.mk' Tryd.underlying145 infoOpened rfl (by decide)
def StackIs (W : World) (base : Nat) (v : Value) (st : List (Nat × Nat)) : Prop := ∃ A c, v = .slice A st.length c ∧ W.ownsRow base 149 2 v st.length (opensC st)
def RowIs (W : World) (base : Nat) (v : Value) (L : List SaidI) : Prop := ∃ A c, ∃ l : List ItemL, v = .slice A L.length c ∧ l.map said = L ∧ W.ownsRow base 109 3 v L.length (itemsC l) ∧ ∀ x ∈ l, OwnI W base x
theorem StackIs.nil (W : World) (base : Nat) : StackIs W base (.slice none 0 0) [] := ⟨none, 0, rfl, World.ownsRow_nil _ _ _ _⟩
theorem RowIs.nil (W : World) (base : Nat) : RowIs W base (.slice none 0 0) [] := ⟨none, 0, [], rfl, rfl, World.ownsRow_nil _ _ _ _, by simp⟩
section
variable {W W' : World} {base : Nat} {v : Value} {st : List (Nat × Nat)} {L : List SaidI}
theorem StackIs.below (h : StackIs W base v st) (hb : Below W.heap.size W W') : StackIs W' base v st := by
  obtain ⟨A, c, e, h⟩ := h
  exact ⟨A, c, e, own_below' h hb⟩
theorem RowIs.below (h : RowIs W base v L) (hb : Below W.heap.size W W') : RowIs W' base v L := by
  obtain ⟨A, c, l, e, hl, h, ho⟩ := h
  exact ⟨A, c, l, e, hl, own_below' h hb, fun x hx => own_below' (ho x hx) hb⟩
theorem StackIs.grown {base' : Nat} {e' : TypeId} {s' n' : Nat} {v' : Value} {xs' : List Value} (h : StackIs W base v st) (ho : W.ownsRow base' e' s' v' n' xs') (he : e' ≠ 149) (hg : W.grownBy W' v'.ownBlock) : StackIs W' base v st := by
  obtain ⟨A, c, e, h⟩ := h
  exact ⟨A, c, e, own_grown h hg fun q hq e => own_two ho h he q e hq⟩
theorem OwnI.grown {base' : Nat} {e' : TypeId} {s' n' : Nat} {v' : Value} {xs' : List Value} {x : ItemL} (h : OwnI W base x) (ho : W.ownsRow base' e' s' v' n' xs') (he : e' ≠ 5) (hg : W.grownBy W' v'.ownBlock) : OwnI W' base x :=
  own_grown h hg fun q hq e => own_two ho h he q e hq
theorem RowIs.grown {base' : Nat} {e' : TypeId} {s' n' : Nat} {v' : Value} {xs' : List Value} (h : RowIs W base v L) (ho : W.ownsRow base' e' s' v' n' xs') (he : e' ≠ 109) (he2 : e' ≠ 5) (hg : W.grownBy W' v'.ownBlock) : RowIs W' base v L := by
  obtain ⟨A, c, l, e, hl, h, ho'⟩ := h
  exact ⟨A, c, l, e, hl, own_grown h hg fun q hq e => own_two ho h he q e hq, fun x hx => (ho' x hx).grown ho he2 hg⟩
theorem own_set {e : TypeId} {size n c g i : Nat} {xs : List Value} (h : W.ownsRow base e size (.slice (some ⟨g, 0, none⟩) n c) n xs) (hi : i < xs.length) (u : Value) : (W.setCell ⟨g, i, none⟩ u).ownsRow base e size (.slice (some ⟨g, 0, none⟩) n c) n (xs.set i u) := by
  obtain ⟨h1, h2⟩ := h
  refine ⟨by rw [List.length_set]; exact h1, ?_⟩
  rcases h2 with ⟨h2, h3⟩ | ⟨g', cap, cur, hv, hg, hh, hnc, hcm, hcs, htake⟩
  · cases h2
  · injection hv with e1 e2 e3
    injection e1 with e1
    injection e1 with e1
    subst e1 e3
    refine .inr ⟨g, c, cur.setIfInBounds i u, rfl, hg, Blk.set_ hh i u, hnc, hcm, by simpa using hcs, ?_⟩
    rw [Array.toList_setIfInBounds, List.take_set, htake]
end
end Go.Proofs.YtfhindffmghlaaaDoor
/- A region of the body of a loop over a function: it is walked as any other. No program in sight. -/
namespace Go.Proofs.YtfhindffmghlaaaDoor
open Go.RowKit
section
variable {P : Program} {ops : Array Oper} {Q : Exit → Act → World → Prop} {l n : Nat}
theorem rows_wide {row : String} {args : Array Value} {w : World} {R : Value → World → Prop} (h : Rows P row args w R) : RowsIn (Fence.wide.inRound l) n P row args w R :=
  fun c cs _ => let ⟨v, w', r, s⟩ := h c cs; ⟨v, w', r, stepsIn_wide.2 s⟩
theorem oper_round {o : Oper} {a : Act} {w : World} {K : Act → World → Prop} (hd : ∀ c, o.op ≠ .defer c) (h : o.wp P a w K Q) : o.wpIn (Fence.wide.inRound l) n P a w K Q := by
  refine ⟨fun _ _ => trivial, ?_⟩
  rw [Oper.semAt_plain _ _ _ hd]
  unfold Oper.wp at h
  cases hr : (execOp a.eval o).run P w with
  | ok v w' =>
    rw [hr] at h
    cases v with
    | enter f args => exact ⟨fun e => (by cases e), CallsIn.inRound l (callsIn_wide.2 h)⟩
    | row r args => exact ⟨fun e => (by cases e), rows_wide h⟩
    | round l f tmps assign body => exact h.elim
    | _ => exact h
  | halt x w' => rw [hr] at h; cases x <;> exact h
theorem list_round (hQ : ¬ LetsOut Q) : ∀ (os : List Oper) (a : Act) (w : World), (∀ o ∈ os, ∀ c, o.op ≠ .defer c) → wpList P ops Q os a w → wpListIn (Fence.wide.inRound l) n P ops Q os a w
  | [], _, _, _, h => h
  | o :: os, a, w, hd, h => by
    have ih := fun a w => list_round hQ os a w (fun o ho => hd o (List.mem_cons_of_mem _ ho))
    unfold wpList at h
    unfold wpListIn
    split at h
    · rename_i hw
      rw [if_pos hw]
      rcases h with h | ⟨_, h⟩
      · exact oper_round (hd o (List.mem_cons_self ..)) (Oper.wp_mono (fun a w h => ih a w h) h)
      · exact absurd h hQ
    · rename_i hw
      rw [if_neg hw]
      exact ⟨fun _ _ => trivial, ih _ _ h⟩
theorem listIn_op {o : Oper} {os : List Oper} {a : Act} {w : World} (hg : o.guard = none) (hd : ∀ c, o.op ≠ .defer c) (h : o.wp P a w (wpListIn (Fence.wide.inRound l) n P ops Q os) Q) : wpListIn (Fence.wide.inRound l) n P ops Q (o :: os) a w :=
  wpListIn_plain hg fun _ hK => oper_round hd (Oper.wp_mono (fun _ _ h => hK _ _ h) h)
def noDefer (ops : Array Oper) : Bool := ops.toList.all fun o => match o.op with | .defer _ => false | _ => true
theorem noDefer_spec (h : noDefer ops = true) : ∀ o ∈ ops.toList, ∀ c, o.op ≠ .defer c := fun o ho c e => by
  have := List.all_eq_true.1 h o ho
  rw [e] at this
  cases this
theorem region_round {id : Nat} {a : Act} {w : World} (hd : noDefer ops = true) (hQ : ¬ LetsOut Q) (h : wpList P ops Q ops.toList a w) : (Code.region id ops false).wpIn (Fence.wide.inRound l) n P Q a w :=
  wpIn_region_list (list_round hQ _ a w (noDefer_spec hd) h)
theorem op_round (hd : noDefer ops = true) (hQ : ¬ LetsOut Q) {i : Nat} {K K' : Act → World → Prop} (hK : ∀ a w, K a w → K' a w) {a : Act} {w : World} (h : wpOp P ops Q i K a w) : wpOpIn (Fence.wide.inRound l) n P ops Q i K' a w := by
  unfold wpOp at h
  unfold wpOpIn
  cases ho : ops[i]? with
  | none => rw [ho] at h; exact hK _ _ h
  | some o =>
    rw [ho] at h
    have hm : o ∈ ops.toList := by
      obtain ⟨hi, rfl⟩ := Array.getElem?_eq_some_iff.1 ho
      simp
    simp only at h ⊢
    split at h
    · rename_i hw
      rw [if_pos hw]
      rcases h with h | ⟨_, h⟩
      · exact oper_round (noDefer_spec hd o hm) (Oper.wp_mono (fun a w h => hK a w h) h)
      · exact absurd h hQ
    · rename_i hw
      rw [if_neg hw]
      exact ⟨fun _ _ => trivial, hK _ _ h⟩
theorem any_round (hd : noDefer ops = true) (hQ : ¬ LetsOut Q) {md : Region.Mode} : ∀ (fuel : Nat) (listed : Array Bool) (a : Act) (w : World), wpAny P md ops Q fuel listed a w → wpAnyIn (Fence.wide.inRound l) n P md ops Q fuel listed a w
  | 0, _, _, _, h => h
  | fuel + 1, _, _, _, h => ⟨h.1, fun i hi => op_round hd hQ (fun a w h => any_round hd hQ fuel _ a w h) (h.2 i hi)⟩
/-- A region of a round that draws its order. -/
theorem region_round_held {S : World → Prop} {id : Nat} {a : Act} {w : World} (hm : P.follows .mixedOrders = true) (hd : noDefer ops = true) (hQ : ¬ LetsOut Q) (hS : S w.drew)
    (h : S w.drew → wpAnyH P .any ops Q S ops.size (Array.replicate ops.size false) a w.drew) : (Code.region id ops true).wpIn (Fence.wide.inRound l) n P Q a w :=
  wpIn_region_any hm (any_round hd hQ _ _ _ _ (wpAny_of_held _ _ _ _ (h hS)))
end
end Go.Proofs.YtfhindffmghlaaaDoor
/- slices.Backward over items: its contract. -/
namespace Go.Proofs.YtfhindffmghlaaaDoor
open Go.RowKit Go.Shelf
attribute [local go_sem] Oper.semAt_some
def encI (its : List ItemL) (x : Fin its.length) : Array Value := #[.int .i64 (x.val : Int), .agg #[.bool its[x.val].1, .int .i64 its[x.val].2.1, .slice its[x.val].2.2.1 its[x.val].2.2.2.2.length its[x.val].2.2.2.1]]
def down (N : Nat) : List (Fin N) := (List.finRange N).reverse
theorem down_length (N : Nat) : (down N).length = N := by simp [down]
theorem down_take (N k : Nat) (m : Nat) (h : N = k + (m + 1)) : (down N).take (k + 1) = (down N).take k ++ [⟨m, by omega⟩] := by
  rw [List.take_succ_eq_append_getElem (by rw [down_length]; omega)]
  congr 2
  unfold down
  rw [List.getElem_reverse]
  simp only [List.length_finRange, List.getElem_finRange]
  apply Fin.ext
  simp
  omega
theorem back_calls (A : Option Addr) (n c : Nat) (w : World) : Calls Tryd.prog 123 #[.slice A n c] w fun e w' =>
    e = .returned (.func (.func 124) #[] #[.pointer (some ⟨w.heap.size, 0, none⟩)]) ∧ w' = w.alloc (.cells #[.slice A n c] 105) := by
  go_enter Tryd.func123, Tryd.ntmps123
  go_wp2_with fail
  go_ret
  exact ⟨rfl, rfl⟩
/-- What a round keeps: what lay below n₀, and the box of the slice. -/
def KpB (n₀ Bs : Nat) (W W' : World) : Prop := Below n₀ W W' ∧ ∀ v, W.cell? ⟨Bs, 0, none⟩ = some v → W'.cell? ⟨Bs, 0, none⟩ = some v
theorem KpB.refl (n₀ Bs : Nat) (W : World) : KpB n₀ Bs W W := ⟨Below.refl _ _, fun _ h => h⟩
theorem KpB.trans {n₀ Bs : Nat} {X Y Z : World} (h : KpB n₀ Bs X Y) (k : KpB n₀ Bs Y Z) : KpB n₀ Bs X Z := ⟨h.1.trans k.1, fun v hv => k.2 v (h.2 v hv)⟩
theorem kpB_b {n₀ Bs : Nat} {w : World} (hn : n₀ ≤ w.heap.size) (W : World) (l : Nat) (o o' : Obj) (hl : w.heap.size ≤ l) (h : W.heap[l]? = some o) (h1 : o.isCells = false) (h2 : o.isWalk = false) : KpB n₀ Bs W (W.putObj l o') :=
  ⟨belowK_b hn W l o o' hl h h1 h2, fun v hv => cell_kept hv (grownBy_putObj' W l o') (fun r e => by cases e; exact ⟨o, h, h1⟩)⟩
set_option maxRecDepth 100000 in
set_option maxHeartbeats 2000000 in
set_option maxRecDepth 20000 in
theorem back1_in (n l Bs n₀ : Nat) (hn : 1 ≤ n) (A : Option Addr) (c : Nat) (its : List ItemL) (hl : its.length ≤ 1099511627776) (J Jx : List (Fin its.length) → World → Prop)
    (hY : ∀ pre x W, J pre W → pre.length < its.length → YieldAt Fence.wide (n - 1) Tryd.prog l (encI its x) W fun e W' =>
      (e = .returned (.bool true) ∧ J (pre ++ [x]) W' ∧ KpB n₀ Bs W W') ∨ (e = .returned (.bool false) ∧ Jx (pre ++ [x]) W'))
    (W : World) (hBs : W.cell? ⟨Bs, 0, none⟩ = some (.slice A its.length c)) (hc : ItemsAt W n₀ A its) (h0 : J [] W) :
    CallsIn Fence.wide n Tryd.prog 124 #[.func (.yield l) #[] #[], .pointer (some ⟨Bs, 0, none⟩)] W fun e W' => (∃ v, e = .returned v) ∧
      ((∃ ys, ys = down its.length ∧ J ys W') ∨ (∃ pre, (∃ k, pre = (down its.length).take k) ∧ Jx pre W')) := by
  refine callsIn_of_wp Tryd.func124 rfl trivial ?_ rfl
  simp only [Tryd.ntmps124, List.size_toArray, List.length_cons, List.length_nil, Nat.reduceAdd, Nat.reduceSub, Array.replicate_succ, Array.replicate_zero, List.push_toArray, List.append_toArray, List.nil_append, List.cons_append]
  gi_wp2
  gi_loopw [3] (fun i wr => ∃ k m : Nat, its.length = k + m ∧ i = .int .i64 ((m : Int) - 1) ∧ J ((down its.length).take k) wr ∧ KpB n₀ Bs W wr)
    (fun i _ => (intOf i + 1).toNat)
  case atStart => exact ⟨0, its.length, by omega, by rfl, h0, KpB.refl _ _ _⟩
  case round =>
    obtain ⟨k, m, hkm, rfl, hJs, hnx⟩ := hrel
    have hBs' := hnx.2 _ hBs
    have hkm1 := Nat.le_of_eq hkm
    have hkm2 := Nat.le_of_eq hkm.symm
    have HKM := Lib.hid hkm
    clear hkm
    cases m with
    | zero =>
      have hJ' : J (down its.length) wr := by rw [List.take_of_length_le (by rw [down_length]; omega)] at hJs; exact hJs
      gi_wp2
      go_end0
      exact ⟨⟨_, rfl⟩, .inl ⟨_, rfl, hJ'⟩⟩
    | succ i =>
      rw [show (((i + 1 : Nat) : Int) - 1) = (i : Int) by omega]
      obtain ⟨fn, tmps, assign, body, hy, hR⟩ := hY _ ⟨i, by omega⟩ wr hJs (by rw [List.length_take, down_length]; omega)
      dsimp only [encI] at hy
      obtain ⟨ad, rfl, hadb, hc0, hc1, hc2⟩ := (hc.below hnx.1 (Nat.le_refl _)).get i (by omega)
      have li : (i : Int) < (its.length : Int) := by omega
      gi_wp2
      refine hR.mono ?_
      rintro e W3 (⟨rfl, hJ3, hk3⟩ | ⟨rfl, hJx3⟩)
      · gi_wp2
        go_roundw
        case rel => exact ⟨k + 1, i, by omega, by rfl, by rw [down_take _ k i HKM.out]; exact hJ3, hnx.trans hk3⟩
        case measure => simp [intOf]
      · gi_wp2
        refine bodyPost_ret (results_none rfl _ _ _) rfl ?_
        exact ⟨⟨_, rfl⟩, .inr ⟨_, ⟨k + 1, (down_take _ k i HKM.out).symm⟩, hJx3⟩⟩
/-- The contract of what Backward hands back. -/
theorem back_stops (n Bs n₀ : Nat) (hn : 1 ≤ n) (A : Option Addr) (c : Nat) (its : List ItemL) (hl : its.length ≤ 1099511627776) (w : World) (hBs : Bs < w.heap.size) (hn₀ : n₀ ≤ w.heap.size)
    (hc : w.cell? ⟨Bs, 0, none⟩ = some (.slice A its.length c)) (hI : ItemsAt w n₀ A its) :
    SeqStopsK Fence.wide n Tryd.prog 124 #[.pointer (some ⟨Bs, 0, none⟩)] (encI its) (KpB n₀ Bs) (fun ys => ys = down its.length) (fun pre => ∃ k, pre = (down its.length).take k) its.length w := fun l J Jx W hW _ _ hY h0 =>
  back1_in n l Bs n₀ hn A c its hl J Jx hY W ((hW.cell (p := ⟨Bs, 0, none⟩) hBs).trans hc) (hI.below (hW.mono hn₀) (Nat.le_refl _)) h0
end Go.Proofs.YtfhindffmghlaaaDoor
