/- Tries in memory. -/
import Derived.Test.YtfhindffmghlaaaDoorG05
import Derived.Deep.LoopGhost
import Derived.Deep.CutRange
set_option linter.unusedVariables false
set_option linter.unusedSimpArgs false
namespace Go.Proofs.YtfhindffmghlaaaDoor
open Go.RowKit
/-- From w to w' nothing has turned but the blocks of F, and what is new. -/
structure Kept (w w' : World) (F : Nat → Prop) : Prop where
  os : w'.os = w.os
  tape : w'.tape = w.tape
  output : w'.output = w.output
  size : w.heap.size ≤ w'.heap.size
  block : ∀ g, g < w.heap.size → ¬ F g → w'.heap[g]? = w.heap[g]?
/-- A slice's bytes, in a block of bytes. -/
def SeqB (w : World) (A : Option Addr) (l : List UInt8) : Prop :=
  0 < l.length → ∃ ad, A = some ad ∧ (∃ cs, Blk w ad.block 5 cs) ∧ ∀ j, (h : j < l.length) → w.cell? (ad.add j) = some (.int .u8 (by8 l[j]))
section
variable {w w' w'' : World} {F G : Nat → Prop} {A : Option Addr} {l : List UInt8} {base B g : Nat}
theorem Kept.refl (w : World) (F : Nat → Prop) : Kept w w F := ⟨rfl, rfl, rfl, Nat.le_refl _, fun _ _ _ => rfl⟩
theorem Kept.of_below (h : Below w.heap.size w w') (F : Nat → Prop) : Kept w w' F := ⟨h.os, h.tape, h.output, h.size, fun g hg _ => h.block g hg⟩
theorem Kept.below (h : Kept w w' F) (hF : ∀ g, F g → B ≤ g) (hB : B ≤ w.heap.size) : Below B w w' := ⟨h.os, h.tape, h.output, h.size, fun g hg => h.block g (by omega) (fun hf => by have := hF g hf; omega)⟩
theorem Kept.mono (h : Kept w w' F) (hF : ∀ g, F g → G g) : Kept w w' G := ⟨h.os, h.tape, h.output, h.size, fun g hg hn => h.block g hg (fun hf => hn (hF g hf))⟩
/-- One step behind another: what the second turns was the first's, or is new. -/
theorem Kept.trans (h : Kept w w' F) (h2 : Kept w' w'' G) (hG : ∀ g, G g → F g ∨ w.heap.size ≤ g) : Kept w w'' F :=
  ⟨h2.os.trans h.os, h2.tape.trans h.tape, h2.output.trans h.output, Nat.le_trans h.size h2.size, fun g hg hn => (h2.block g (Nat.lt_of_lt_of_le hg h.size) (fun hf => by
    rcases hG g hf with h3 | h3
    · exact hn h3
    · omega)).trans (h.block g hg hn)⟩
theorem Kept.then_below (h : Kept w w' F) (h2 : Below w'.heap.size w' w'') : Kept w w'' F := h.trans (Kept.of_below h2 (fun _ => False)) (fun _ hf => hf.elim)
theorem Kept.only (h : Kept w w' F) (h2 : Only g w' w'') (hg : F g ∨ w.heap.size ≤ g) : Kept w w'' F :=
  h.trans (G := fun b => b = g) ⟨h2.os, h2.tape, h2.output, Nat.le_of_eq h2.size.symm, fun b _ hn => h2.block b hn⟩ (fun b hb => by subst hb; exact hg)
theorem Kept.blk {t : TypeId} {cs : Array Value} (h : Kept w w' F) (hb : Blk w g t cs) (hn : ¬ F g) : Blk w' g t cs := (h.block g hb.lt hn).trans hb
theorem Kept.alloc (h : Kept w w' F) (o : Obj) : Kept w (w'.alloc o) F := h.then_below ((Below.refl _ _).alloc (Nat.le_refl _) o)
theorem Kept.drewN (h : Kept w w' F) (n : Nat) : Kept w (w'.drewN n) F := ⟨h.os, h.tape, h.output, h.size, h.block⟩
/-- All blocks of F are nodes. -/
def Nodes (w : World) (F : Nat → Prop) : Prop := ∀ g, F g → ∃ cs, Blk w g 99 cs
theorem Kept.blk_ne {t : TypeId} {cs : Array Value} (h : Kept w w' F) (hN : Nodes w F) (hb : Blk w g t cs) (ht : t ≠ 99) : Blk w' g t cs :=
  h.blk hb (fun hf => by
    obtain ⟨cs', hc⟩ := hN g hf
    exact Blk.ne hb hc ht rfl)
theorem SeqB.seq (h : SeqB w A l) : Seq w w.heap.size A (bytes l) := fun hn => by
  rw [bytes_length] at hn
  obtain ⟨ad, e, ⟨cs, hb⟩, hc⟩ := h hn
  refine ⟨ad, e, hb.lt, fun j hj => ?_⟩
  rw [bytes_get]
  exact hc j (by rw [bytes_length] at hj; exact hj)
theorem SeqB.nil : SeqB w A [] := fun h => absurd h (by simp)
theorem SeqB.drop (h : SeqB w A l) (k : Nat) : SeqB w (A.map (·.add k)) (l.drop k) := fun hn => by
  rw [List.length_drop] at hn
  obtain ⟨ad, rfl, ⟨cs, hb⟩, hc⟩ := h (by omega)
  refine ⟨ad.add k, rfl, ⟨cs, by rw [block_add]; exact hb⟩, fun j hj => ?_⟩
  rw [List.length_drop] at hj
  rw [add_add', hc (k + j) (by omega), List.getElem_drop]
theorem SeqB.take (h : SeqB w A l) (k : Nat) : SeqB w A (l.take k) := fun hn => by
  rw [List.length_take] at hn
  obtain ⟨ad, rfl, hb, hc⟩ := h (by omega)
  refine ⟨ad, rfl, hb, fun j hj => ?_⟩
  rw [List.length_take] at hj
  rw [hc j (by omega), List.getElem_take]
theorem SeqB.cut (h : SeqB w A l) {k cap : Nat} (hc : l.length ≤ cap) : SeqB w (if cap = k then A else A.map (·.add k)) (l.drop k) := by
  split
  · exact fun hl => by rw [List.length_drop] at hl; omega
  · exact h.drop k
theorem SeqB.keep (h : SeqB w A l) (hk : ∀ g cs, Blk w g 5 cs → Blk w' g 5 cs) : SeqB w' A l := fun hn => by
  obtain ⟨ad, e, ⟨cs, hb⟩, hc⟩ := h hn
  have hb' := hk _ _ hb
  refine ⟨ad, e, ⟨cs, hb'⟩, fun j hj => ?_⟩
  rw [← hc j hj]
  exact World.cell?_of_block (w := w) (by rw [block_add]; exact hb'.trans hb.symm)
theorem SeqB.kept (h : SeqB w A l) (hk : Kept w w' F) (hN : Nodes w F) : SeqB w' A l := h.keep fun _ _ hb => hk.blk_ne hN hb (by decide)
theorem SeqB.below (h : SeqB w A l) (hb : Below w.heap.size w w') : SeqB w' A l := h.keep fun _ _ hq => hq.below hb hq.lt
theorem SeqB.of_own {n c : Nat} (h : w.ownsRow base 5 1 (.slice A n c) n (bytes l)) : SeqB w A l := fun hn => by
  have hl : l.length = n := by have := h.1; rw [bytes_length, Nat.mul_one] at this; exact this
  obtain ⟨g, rfl, _⟩ := own_form h (by omega)
  obtain ⟨cur, hb⟩ := own_blk h g rfl
  refine ⟨_, rfl, ⟨cur, hb⟩, fun j hj => ?_⟩
  obtain ⟨ad, e, _, hc⟩ := (Seq.of_own h).at_ (k := j) (by rw [bytes_length]; exact hj)
  injection e with e
  subst e
  rw [hc, bytes_get]
theorem OwnP.seqB {p : Piece} (h : OwnP w base p) : SeqB w p.1 p.2.2 := SeqB.of_own h
theorem OwnP.kept {p : Piece} (h : OwnP w base p) (hk : Kept w w' F) (hN : Nodes w F) : OwnP w' base p := by
  obtain ⟨h1, h2⟩ := h
  refine ⟨h1, ?_⟩
  rcases h2 with h2 | ⟨g', cap, cur, hv, hg', hh, r⟩
  · exact .inl h2
  · exact .inr ⟨g', cap, cur, hv, hg', hk.blk_ne hN hh (by decide), r⟩
end
/-- A node's cells. -/
def nodeV (pv : Value) (kv : Nat → Value) (vv : Value) (j : Nat) : Value := if j = 0 then pv else if j < 17 then kv (j - 1) else vv
def TreeAt (w : World) (base : Nat) : Tr → Value → (Nat → Prop) → Prop
  | .nil, v, F => v = .pointer none ∧ ∀ b, ¬ F b
  | .node p ks val, v, F => ∃ (g : Nat) (pp vp : Piece) (kv : Nat → Value) (Fk : Nat → Nat → Prop),
      v = .pointer (some ⟨g, 0, none⟩) ∧ base ≤ g ∧ Blk w g 99 (tab 18 (nodeV (pcV pp) kv (pcV vp))) ∧ pp.2.2 = p ∧ OwnP w base pp ∧ vp.2.2 = val ∧ OwnP w base vp ∧ (val = [] → pcV vp = .slice none 0 0) ∧
      (∀ i, i < 16 → TreeAt w base (ks i) (kv i) (Fk i)) ∧ (∀ i, i < 16 → ¬ Fk i g) ∧ (∀ i j b, i < 16 → j < 16 → Fk i b → Fk j b → i = j) ∧ (∀ b, F b ↔ b = g ∨ ∃ i, i < 16 ∧ Fk i b)
theorem TreeAt.typed {w : World} {base : Nat} : ∀ {t : Tr} {v : Value} {F : Nat → Prop}, TreeAt w base t v F → ∀ g, F g → base ≤ g ∧ ∃ cs, Blk w g 99 cs
  | .nil, v, F, h, g, hg => absurd hg (h.2 g)
  | .node p ks val, v, F, h, g, hg => by
    obtain ⟨g0, pp, vp, kv, Fk, _, hb, hB, _, _, _, _, _, hk, _, _, hF⟩ := h
    rcases (hF g).1 hg with rfl | ⟨i, hi, hi2⟩
    · exact ⟨hb, _, hB⟩
    · exact TreeAt.typed (hk i hi) g hi2
theorem TreeAt.nodes {w : World} {base : Nat} {t : Tr} {v : Value} {F : Nat → Prop} (h : TreeAt w base t v F) : Nodes w F := fun g hg => (h.typed g hg).2
theorem TreeAt.lt {w : World} {base : Nat} {t : Tr} {v : Value} {F : Nat → Prop} (h : TreeAt w base t v F) (g : Nat) (hg : F g) : base ≤ g ∧ g < w.heap.size := by
  obtain ⟨h1, cs, h2⟩ := h.typed g hg
  exact ⟨h1, h2.lt⟩
/-- Steps that turn other nodes, or make memory, leave it. -/
theorem TreeAt.kept {w w' : World} {base : Nat} {F0 : Nat → Prop} (hk : Kept w w' F0) (hN : Nodes w F0) : ∀ {t : Tr} {v : Value} {F : Nat → Prop}, TreeAt w base t v F → (∀ g, F g → ¬ F0 g) → TreeAt w' base t v F
  | .nil, v, F, h, _ => h
  | .node p ks val, v, F, h, hd => by
    obtain ⟨g, pp, vp, kv, Fk, h1, h2, h3, h4, h5, h6, h7, h8, h9, h10, h11, h12⟩ := h
    exact ⟨g, pp, vp, kv, Fk, h1, h2, hk.blk h3 (hd g ((h12 g).2 (Or.inl rfl))), h4, h5.kept hk hN, h6, h7.kept hk hN, h8, fun i hi => TreeAt.kept hk hN (h9 i hi) (fun b hb => hd b ((h12 b).2 (Or.inr ⟨i, hi, hb⟩))), h10, h11, h12⟩
theorem TreeAt.below {w w' : World} {base : Nat} {t : Tr} {v : Value} {F : Nat → Prop} (h : TreeAt w base t v F) (hb : Below w.heap.size w w') : TreeAt w' base t v F :=
  TreeAt.kept (Kept.of_below hb (fun _ => False)) (fun _ hf => hf.elim) h (fun _ _ hf => hf)
theorem TreeAt.mono {w : World} {base base' : Nat} (hb : base' ≤ base) : ∀ {t : Tr} {v : Value} {F : Nat → Prop}, TreeAt w base t v F → TreeAt w base' t v F
  | .nil, v, F, h => h
  | .node p ks val, v, F, h => by
    obtain ⟨g, pp, vp, kv, Fk, h1, h2, h3, h4, h5, h6, h7, h8, h9, h10, h11, h12⟩ := h
    exact ⟨g, pp, vp, kv, Fk, h1, Nat.le_trans hb h2, h3, h4, own_mono h5 hb, h6, own_mono h7 hb, h8, fun i hi => TreeAt.mono hb (h9 i hi), h10, h11, h12⟩
theorem TreeAt.congr {w : World} {base : Nat} {t : Tr} {v : Value} {F G : Nat → Prop} (h : TreeAt w base t v F) (e : ∀ b, F b ↔ G b) : TreeAt w base t v G := by
  cases t with
  | nil => exact ⟨h.1, fun b hb => h.2 b ((e b).2 hb)⟩
  | node p ks val =>
    obtain ⟨g, pp, vp, kv, Fk, h1, h2, h3, h4, h5, h6, h7, h8, h9, h10, h11, h12⟩ := h
    exact ⟨g, pp, vp, kv, Fk, h1, h2, h3, h4, h5, h6, h7, h8, h9, h10, h11, fun b => (e b).symm.trans (h12 b)⟩
end Go.Proofs.YtfhindffmghlaaaDoor
/- The trie's small functions: nibbles, common, HasPrefix, Equal. -/
namespace Go.Proofs.YtfhindffmghlaaaDoor
open Go.RowKit
theorem nib_snoc (l : List UInt8) (x : UInt8) : nib (l ++ [x]) = nib l ++ [x >>> 4, x &&& 15] := by simp [nib]
theorem nib_length (l : List UInt8) : (nib l).length = 2 * l.length := by
  induction l with
  | nil => rfl
  | cons x l ih =>
    have : nib (x :: l) = [x >>> 4, x &&& 15] ++ nib l := rfl
    rw [this, List.length_append, ih]
    simp
    omega
theorem by8_hi (x : UInt8) : by8 x / (16 : Int) = by8 (x >>> 4) := by
  unfold by8
  rw [UInt8.toNat_shiftRight]
  have : x.toNat >>> ((4 : UInt8).toNat % 8) = x.toNat / 16 := by rw [Nat.shiftRight_eq_div_pow]; rfl
  rw [this]
  omega
theorem u8_and15 (x : UInt8) : bits .and .u8 (by8 x) 15 = by8 (x &&& 15) := by
  have h127 : (BitVec.ofInt 8 15).toNat = 2 ^ 4 - 1 := by decide
  have hx := x.toNat_lt
  have key : (BitVec.ofInt 8 (by8 x) &&& BitVec.ofInt 8 15).toNat = (by8 x % ((2 ^ 8 : Nat) : Int)).toNat % 2 ^ 4 := by
    rw [BitVec.toNat_and, BitVec.toNat_ofInt, h127, Nat.and_two_pow_sub_one_eq_mod]
  show IntKind.u8.wrap ((BitVec.ofInt 8 (by8 x) &&& BitVec.ofInt 8 15).toNat : Nat) = by8 (x &&& 15)
  rw [key, IntKind.wrap_u8']
  unfold by8
  rw [UInt8.toNat_and]
  have : x.toNat &&& (15 : UInt8).toNat = x.toNat % 16 := Nat.and_two_pow_sub_one_eq_mod x.toNat 4
  rw [this]
  omega
theorem by8_hi2 (x : UInt8) : by8 x / (2 : Int) ^ 4 = by8 (x >>> 4) := by8_hi x
/-- append onto a row of the call's own that has the room. -/
theorem run_append_in {P : Program} {w : World} {t ty e : TypeId} {size bytes : Nat} (el : Elem P t e size bytes) {base : Nat} {A : Option Addr} {n c : Nat} {xs : List Value} (hown : w.ownsRow base e size (.slice A n c) n xs)
    {B : Nat} {A2 : Option Addr} {m c2 : Nat} {news : List Value} (hl : news.length = m * size) (hr : Seq w B A2 news) (h1 : ∀ u ∈ news, u.oneCell' = true) (hm : 0 < m) (hroom : n + m ≤ c) :
    ∃ w', (Builtin.append_ #[t, t] ty #[.slice A n c, .slice A2 m c2]).run P w = .ok (.slice A (n + m) c) w' ∧ w'.ownsRow base e size (.slice A (n + m) c) (n + m) (xs ++ news) ∧ w.grownBy w' (Value.slice A n c).ownBlock := by
  obtain ⟨i, z, hi, hz, hs, hb, hzs⟩ := el.row
  have hsz := el.pos
  subst hs
  have hmp : 0 < news.length := by rw [hl]; exact Nat.mul_pos hm hsz
  obtain ⟨ad, rfl, _, hcells⟩ := hr hmp
  have hnews : ∀ j u, news[j]? = some u → w.cell? (ad.add j) = some u := fun j u hu => by
    obtain ⟨hj, rfl⟩ := List.getElem?_eq_some_iff.1 hu
    exact hcells j hj
  have hlen : (xs ++ news).length = (n + m) * i.size := by rw [List.length_append, hown.1, hl, Nat.add_mul]
  rcases hown.2 with ⟨hv, h0⟩ | ⟨g, cap, cur, hv, hbg, hg, hnc, hcm, hcs, htake⟩
  · simp only [Value.slice.injEq] at hv
    omega
  · simp only [Value.slice.injEq] at hv
    obtain ⟨rfl, _, rfl⟩ := hv
    have hfit : n * i.size + news.length ≤ cur.size := by rw [hl, hcs, ← Nat.add_mul]; exact Nat.mul_le_mul_right _ hroom
    have hrun := run_append_room (P := P) w t ty e i el.slice hi g n c cur hg ad m c2 news hl hnews h1 hroom hfit
    refine ⟨_, hrun, ⟨hlen, .inr ⟨g, c, _, rfl, hbg, setRow_heap w g cur _ e _ hg, hroom, hcm, ?_, ?_⟩⟩, ⟨rfl, rfl, rfl, by simp, fun k _ hk => setRow_other w g k _ (fun e => hk (by simp [Value.ownBlock, e]))⟩⟩
    · simp only [List.size_toArray, List.length_append, List.length_take, List.length_drop, Array.length_toList]
      omega
    · rw [htake, ← hlen]
      exact List.take_left
theorem wpL_append_in {P : Program} {w : World} {ops : Array Oper} {rest : List Oper} {o : Oper} {a : Act} {Q : Exit → Act → World → Prop} (hgd : o.guard = none) (s x : Operand) (t : TypeId)
    (ho : o.op = .call { callee := .builtin .append, args := #[s, x], argTypes := #[t, t] }) {e : TypeId} {size bytes : Nat} (el : Elem P t e size bytes)
    {base : Nat} {A : Option Addr} {n c : Nat} {xs : List Value} (hs : a.eval s = .slice A n c) (hown : w.ownsRow base e size (.slice A n c) n xs)
    {B : Nat} {A2 : Option Addr} {m c2 : Nat} {news : List Value} (hx : a.eval x = .slice A2 m c2) (hl : news.length = m * size) (hr : Seq w B A2 news) (h1 : ∀ u ∈ news, u.oneCell' = true) (hm : 0 < m) (hroom : n + m ≤ c)
    (h : ∀ w', w'.ownsRow base e size (.slice A (n + m) c) (n + m) (xs ++ news) → w.grownBy w' (Value.slice A n c).ownBlock → wpList P ops Q rest (a.put o.dst (.slice A (n + m) c)) w') :
    wpList P ops Q (o :: rest) a w := by
  refine wpList_plain hgd fun K hK => ?_
  obtain ⟨w', hr', h2, h3⟩ := run_append_in (P := P) (ty := o.type) el (c2 := c2) hown hl hr h1 hm hroom
  unfold Oper.wp execOp
  simp only [ho, resolve, invoke, builtin, Sem.run_bind, Sem.run_pure, Result.andThen_ok, List.map_toArray, List.map_cons, List.map_nil, hs, hx, hr']
  exact hK _ _ (h w' h2 h3)
set_option maxHeartbeats 1000000 in
set_option maxRecDepth 20000 in
theorem nibbles_calls (A : Option Addr) (c B : Nat) (l : List UInt8) (w : World) (hl : l.length ≤ 140737488355328) (hs : Seq w B A (bytes l)) (hB : B ≤ w.heap.size) :
    Calls Tryd.prog 52 #[.slice A l.length c] w (Fresh w (nib l)) := by
  have HS := Lib.hid hs
  clear hs
  have e2 : IntKind.i64.wrap (2 * (l.length : Int)) = ((2 * l.length : Nat) : Int) := by rw [IntWalk.i64_in _ (by omega)]; omega
  obtain ⟨N, hN⟩ : ∃ N, 2 * l.length = N := ⟨_, rfl⟩
  have hN1 : N ≤ 281474976710656 := by omega
  have hN2 : (2 : Int) * (l.length : Int) = (N : Int) := by omega
  have HN := Lib.hid hN
  rw [hN] at e2
  clear hN
  go_enter Tryd.func52, Tryd.ntmps52
  go_wp2_with (first
    | (refine wpL_make rfl (.const (.int .i64 0)) (.tmp 8) 24 rfl Tryd.underlying24 infoByte rfl .i64 .i64 0 N rfl rfl (Nat.zero_le _) (by omega) (by omega) ?_; have hm := own_made w 5 N (fun _ => .int .u8 0) (by unfold maxLen; omega); have HM1 := Lib.hid hm; clear hm))
  clear e2 hN2
  go_loopw [3, 12] (fun v i wr => ∃ (k : Nat) (A1 : Option Addr) (c1 : Nat), k ≤ l.length ∧ c1 = N ∧ i = .int .i64 k ∧ v = .slice A1 (nib (l.take k)).length c1 ∧ wr.ownsRow w.heap.size 5 1 (.slice A1 (nib (l.take k)).length c1) (nib (l.take k)).length (bytes (nib (l.take k))) ∧ Below w.heap.size w wr) (fun _ i _ => l.length - (intOf i).toNat)
  case atStart => exact ⟨0, _, N, by omega, rfl, rfl, rfl, HM1.out, (Below.refl _ _).alloc (Nat.le_refl _) _⟩
  case round =>
    clear HM1
    obtain ⟨k, A1, c1, hk, hc1, rfl, rfl, hown, hBl⟩ := hrel
    have hsz := hBl.size
    have HC1 := Lib.hid hc1
    clear hc1
    by_cases hlt : k < l.length
    · have dk : decide ((k : Int) < (l.length : Int)) = true := by simp; omega
      have lk : (k : Int) < (l.length : Int) := by omega
      obtain ⟨ad, rfl, _, hc0⟩ := (HS.out.below hBl hB).byte k hlt
      have htk : nib (l.take (k + 1)) = nib (l.take k) ++ [l[k] >>> 4, l[k] &&& 15] := by rw [List.take_succ_eq_append_getElem hlt, nib_snoc]
      have hnl : (nib (l.take k)).length + 2 ≤ c1 := by rw [nib_length, List.length_take, HC1.out, ← HN.out]; omega
      have hnl2 : (nib (l.take k)).length ≤ 281474976710656 := by rw [nib_length, List.length_take]; omega
      generalize l[k] = x at *
      have e3 := by8_hi x
      have e3a := by8_hi2 x
      have e4 := u8_and15 x
      have HTk := Lib.hid htk
      have HO := Lib.hid hown
      have HB := Lib.hid hBl
      clear htk hown hBl
      generalize nib (l.take k) = L at *
      generalize x >>> 4 = y at *
      generalize x &&& 15 = z at *
      go_wp2_with (at_builtin; refine wpL_append_in rfl (.tmp 16) (.tmp 21) 24 rfl elByte rfl (own_alloc HO.out _) rfl rfl (Seq.of_blk (xs := bytes [y, z]) (Blk.new' _ _ _ rfl) (Nat.lt_succ_self _)) (bytes_one _) (by omega) hnl ?_; intro w7 ho7 hg7; rw [← bytes_append, ← HTk.out] at ho7; have HO7 := Lib.hid ho7; have HB7 := Lib.hid ((HB.out.alloc hsz _).grown hg7 (by rw [size_alloc]; omega) (fun g hg => (HO.out.lt g hg).1)); clear ho7 hg7)
      have hlen : (nib (l.take (k + 1))).length = L.length + 2 := by rw [HTk.out, List.length_append]; rfl
      exact ⟨⟨k + 1, A1, c1, by omega, HC1.out, by go_num, by rw [hlen], by rw [hlen]; exact HO7.out, HB7.out⟩, by simp [intOf]; omega⟩
    · have dk : decide ((k : Int) < (l.length : Int)) = false := by simp; omega
      have hfin : l.take k = l := List.take_of_length_le (by omega)
      rw [hfin] at hown ⊢
      have HO := Lib.hid hown
      have HB := Lib.hid hBl
      clear hown hBl hfin
      go_wp2_with fail
      go_ret
      exact ⟨A1, c1, rfl, HO.out, HB.out⟩
theorem equal_calls (A : Option Addr) (c B : Nat) (l : List UInt8) (A2 : Option Addr) (c2 B2 : Nat) (l2 : List UInt8) (w : World) (hs : Seq w B A (bytes l)) (hs2 : Seq w B2 A2 (bytes l2)) :
    Calls Tryd.prog 104 #[.slice A l.length c, .slice A2 l2.length c2] w fun e w' => e = .returned (.bool (l == l2)) ∧ w' = w := by
  have h1 := run_str A c B l w hs
  have h2 := run_str A2 c2 B2 l2 w hs2
  clear hs hs2
  go_enter Tryd.func104, Tryd.ntmps104
  go_wp2_with fail
  go_ret
  exact ⟨rfl, rfl⟩
theorem prefix_take (l p : List UInt8) (h : p.length ≤ l.length) : (l.take p.length == p) = decide (p <+: l) := by
  rw [Bool.eq_iff_iff, beq_iff_eq, decide_eq_true_iff, List.prefix_iff_eq_take]
  exact eq_comm
theorem prefix_calls (A : Option Addr) (c B : Nat) (l : List UInt8) (A2 : Option Addr) (c2 B2 : Nat) (p : List UInt8) (w : World) (hc : l.length ≤ c) (hs : Seq w B A (bytes l)) (hs2 : Seq w B2 A2 (bytes p)) :
    Calls Tryd.prog 82 #[.slice A l.length c, .slice A2 p.length c2] w fun e w' => e = .returned (.bool (decide (p <+: l))) ∧ w' = w := by
  have HS := Lib.hid hs
  have HS2 := Lib.hid hs2
  clear hs hs2
  by_cases h : p.length ≤ l.length
  · have d1 : decide ((l.length : Int) ≥ (p.length : Int)) = true := decide_eq_true (by omega)
    have d2 : decide (p.length ≤ l.length) = true := decide_eq_true h
    have l1 : (p.length : Int) ≤ (c : Int) := by omega
    have n1 : (0 : Int) ≤ (p.length : Int) := by omega
    have hlen : (l.take p.length).length = p.length := by rw [List.length_take]; omega
    have hst : Seq w B A (bytes (l.take p.length)) := by
      have := HS.out.take p.length
      rwa [show (bytes l).take p.length = bytes (l.take p.length) by simp [bytes, List.map_take]] at this
    have hcl := equal_calls A c B (l.take p.length) A2 c2 B2 p w hst HS2.out
    rw [hlen, prefix_take l p h] at hcl
    have HC := Lib.hid hcl
    clear hlen hst hcl
    go_enter Tryd.func82, Tryd.ntmps82
    go_wp2_with (go_at_call 104; refine HC.out.mono ?_; rintro e1 w1 ⟨rfl, rfl⟩)
    go_ret
    exact ⟨rfl, rfl⟩
  · have d1 : decide ((l.length : Int) ≥ (p.length : Int)) = false := decide_eq_false (by omega)
    have d2 : decide (p.length ≤ l.length) = false := decide_eq_false h
    have hf : decide (p <+: l) = false := decide_eq_false (fun hp => h hp.length_le)
    rw [hf]
    clear hf
    go_enter Tryd.func82, Tryd.ntmps82
    go_wp2_with fail
    go_ret
    exact ⟨rfl, rfl⟩
end Go.Proofs.YtfhindffmghlaaaDoor
