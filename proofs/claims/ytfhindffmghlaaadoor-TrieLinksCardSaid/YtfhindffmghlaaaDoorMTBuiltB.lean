/- built: a branch; built of any trie. -/
import Derived.Test.YtfhindffmghlaaaDoorG15
import Derived.Deep.RegionLaw
import Derived.Deep.CutRange
import Derived.BigQuiet
set_option linter.unusedVariables false
set_option linter.unusedSimpArgs false
namespace Go.Proofs.YtfhindffmghlaaaDoor
open Go.RowKit
/-- What is left of a way below a node. -/
def restT (on : Bool) (p path : List UInt8) : List UInt8 := if (on && decide (p <+: path)) = true then path.drop p.length else []
theorem kidU_rest (hash : List UInt8 → List UInt8) (ks : Nat → Tr) (all on : Bool) (p path : List UInt8) (x : Nat) :
    kidU hash ks all (on && decide (p <+: path)) (path.drop p.length) x = kidU hash ks all (on && decide (p <+: path)) (restT on p path) x := by
  unfold restT
  cases h : (on && decide (p <+: path))
  · unfold kidU
    simp
  · simp
theorem wrap64_by8 (x : UInt8) : wrap64 (by8 x) = by8 x := by
  have h1 := by8_nonneg x
  have h2 := by8_lt x
  unfold wrap64
  omega
theorem mem_le_sum : ∀ (l : List Nat) (x : Nat), x ∈ l → x ≤ l.sum
  | [], _, h => by cases h
  | y :: l, x, h => by
    rw [List.sum_cons]
    rcases List.mem_cons.1 h with rfl | h
    · omega
    · have := mem_le_sum l x h; omega
theorem one1 (A : Option Addr) (n c : Nat) : ∀ u ∈ [Value.slice A n c], u.oneCell' = true := fun u hu => by
  rw [List.mem_singleton] at hu
  subst hu
  rfl
/-- The rows of a round: the parts, those under, the kid's own. -/
structure KidAt (B0 Bk : Nat) (W : World) (vP vU vM : Value) (pl ul ml : List Piece) (q : Piece) : Prop where
  rowP : W.ownsRow B0 24 1 vP pl.length (pcs pl)
  rowU : W.ownsRow B0 24 1 vU ul.length (pcs ul)
  rowM : W.ownsRow Bk 24 1 vM ml.length (pcs ml)
  itP : ∀ p ∈ pl, OwnP W B0 p
  itU : ∀ p ∈ ul, OwnP W B0 p
  itM : ∀ p ∈ ml, OwnP W Bk p
  itQ : OwnP W Bk q
  apPU : Apart vP vU
  apPM : Apart vP vM
  apUM : Apart vU vM
section
variable {B0 Bk : Nat} {W W' : World} {vP vU vM : Value} {pl ul ml : List Piece} {q : Piece}
theorem KidAt.below (h : KidAt B0 Bk W vP vU vM pl ul ml q) (hb : Below W.heap.size W W') : KidAt B0 Bk W' vP vU vM pl ul ml q :=
  ⟨own_below' h.rowP hb, own_below' h.rowU hb, own_below' h.rowM hb, fun p hp => (h.itP p hp).below hb, fun p hp => (h.itU p hp).below hb, fun p hp => (h.itM p hp).below hb, h.itQ.below hb, h.apPU, h.apPM, h.apUM⟩
theorem KidAt.part (h : KidAt B0 Bk W vP vU vM pl ul ml q) {x : Piece} (hx : OwnP W B0 x) {vP' : Value} (hw : W'.ownsRow B0 24 1 vP' (pl.length + 1) (pcs pl ++ [pcV x])) (hg : W.grownBy W' vP.ownBlock) (hv : vP'.ownBlock = vP.ownBlock ∨ vP'.ownBlock = some W.heap.size) :
    KidAt B0 Bk W' vP' vU vM (pl ++ [x]) ul ml q :=
  ⟨by rw [← pcs_snoc, List.length_append]; exact hw, own_grown h.rowU hg (fun b hb e => h.apPU b e hb), own_grown h.rowM hg (fun b hb e => h.apPM b e hb),
    fun p hp => by
      rcases List.mem_append.1 hp with hp | hp
      · exact (h.itP p hp).grown h.rowP (by decide) hg
      · rw [List.mem_singleton] at hp
        subst hp
        exact hx.grown h.rowP (by decide) hg,
    fun p hp => (h.itU p hp).grown h.rowP (by decide) hg, fun p hp => (h.itM p hp).grown h.rowP (by decide) hg, h.itQ.grown h.rowP (by decide) hg,
    h.apPU.step hv (fun b hb => (h.rowU.lt b hb).2), h.apPM.step hv (fun b hb => (h.rowM.lt b hb).2), h.apUM⟩
theorem KidAt.under (h : KidAt B0 Bk W vP vU vM pl ul ml q) {nl : List Piece} (hx : ∀ p ∈ nl, OwnP W B0 p) {vU' : Value} (hw : W'.ownsRow B0 24 1 vU' (ul.length + nl.length) (pcs ul ++ pcs nl)) (hg : W.grownBy W' vU.ownBlock) (hv : vU'.ownBlock = vU.ownBlock ∨ vU'.ownBlock = some W.heap.size) :
    KidAt B0 Bk W' vP vU' vM pl (ul ++ nl) ml q :=
  ⟨own_grown h.rowP hg (fun b hb e => h.apPU b hb e), by rw [show pcs (ul ++ nl) = pcs ul ++ pcs nl by simp [pcs], List.length_append]; exact hw, own_grown h.rowM hg (fun b hb e => h.apUM b e hb),
    fun p hp => (h.itP p hp).grown h.rowU (by decide) hg,
    fun p hp => by
      rcases List.mem_append.1 hp with hp | hp
      · exact (h.itU p hp).grown h.rowU (by decide) hg
      · exact (hx p hp).grown h.rowU (by decide) hg,
    fun p hp => (h.itM p hp).grown h.rowU (by decide) hg, h.itQ.grown h.rowU (by decide) hg,
    (h.apPU.symm.step hv (fun b hb => (h.rowP.lt b hb).2)).symm, h.apPM, h.apUM.step hv (fun b hb => (h.rowM.lt b hb).2)⟩
end
theorem Blk.grownT {w w' : World} {g base size n : Nat} {t e : TypeId} {cs : Array Value} {v : Value} {xs : List Value} (h : Blk w g t cs) (ho : w.ownsRow base e size v n xs) (he : t ≠ e) (hg : w.grownBy w' v.ownBlock) : Blk w' g t cs :=
  (hg.block g h.lt (fun hq => by
    obtain ⟨cur, hb⟩ := own_blk ho g hq.symm
    exact Blk.ne h hb he rfl)).trans h
theorem apart_old {w w' : World} {b b' : Nat} {p p' : Piece} (h : OwnP w b p) (h' : OwnP w' b' p') (hb : w.heap.size ≤ b') : Apart (pcV p) (pcV p') := fun q h1 h2 => by
  have := (World.ownsRow.lt h q h1).2
  have := (World.ownsRow.lt h' q h2).1
  omega
theorem kids_under (hash : List UInt8 → List UInt8) (ks : Nat → Tr) (all ob : Bool) (rest : List UInt8) (p v : List UInt8) (k : Nat) (hk : k ≤ 16) : (((List.range k).map (kidU hash ks all ob rest)).flatten).length ≤ 2 * cntT (.node p ks v) := by
  have hkl : ∀ x, (kidU hash ks all ob rest x).length ≤ 2 * cntT (ks x) := fun x => by
    unfold kidU
    simp only
    have h := underT_length hash (ks x) all (ob && decide (0 < rest.length) && decide ((rest.headD 0).toNat = x)) (if (ob && decide (0 < rest.length) && decide ((rest.headD 0).toNat = x)) = true then rest.tail else [])
    rw [List.length_append]
    cases hx : ks x with
    | nil =>
      have e1 : encT hash .nil = bytesM [] := by rw [encT]
      have e2 : (bytesM []).length = 1 := by decide
      rw [if_neg (by rw [e1, e2]; omega)]
      simp [underT]
    | node p2 k2 v2 =>
      rw [hx] at h
      simp only [Tr.isNil, Bool.false_eq_true, if_false] at h
      split
      · simp only [List.length_singleton]; omega
      · simp only [List.length_nil]; omega
  have hle : ∀ k j, k ≤ j → (((List.range k).map (kidU hash ks all ob rest)).flatten).length ≤ (((List.range j).map (kidU hash ks all ob rest)).flatten).length := fun k j h => by
    induction h with
    | refl => exact Nat.le_refl _
    | step _ ih => rw [flat_succ, List.length_append]; omega
  have h16 : (((List.range 16).map (kidU hash ks all ob rest)).flatten).length ≤ 2 * ((List.range 16).map fun i => cntT (ks i)).sum := by
    rw [List.length_flatten, List.map_map, ← sum_mul2]
    exact sum_le_sum _ _ hkl _
  have hc : cntT (.node p ks v) = ((List.range 16).map fun i => cntT (ks i)).sum + 1 := by rw [cntT]
  have := hle k 16 hk
  omega
theorem own_new1 (w : World) (v : Value) (e : TypeId) (base : Nat) (hb : base ≤ w.heap.size) : (w.alloc (.cells #[v] e)).ownsRow base e 1 (.slice (some ⟨w.heap.size, 0, none⟩) 1 1) 1 [v] :=
  ⟨rfl, .inr ⟨w.heap.size, 1, #[v], rfl, hb, Blk.new _ _ _, Nat.le_refl _, by simp [maxLen], rfl, rfl⟩⟩
theorem pcs_length (l : List Piece) : (pcs l).length = l.length := by simp [pcs]
theorem pcs_one (l : List Piece) : ∀ u ∈ pcs l, u.oneCell' = true := fun u hu => by
  obtain ⟨p, _, rfl⟩ := List.mem_map.1 hu
  rfl
theorem cntT_kid (p : List UInt8) (ks : Nat → Tr) (v : List UInt8) (k : Nat) (hk : k < 16) : cntT (ks k) ≤ cntT (.node p ks v) := by
  have hc : cntT (.node p ks v) = ((List.range 16).map fun i => cntT (ks i)).sum + 1 := by rw [cntT]
  have : cntT (ks k) ≤ ((List.range 16).map fun i => cntT (ks i)).sum := mem_le_sum _ _ (List.mem_map.2 ⟨k, List.mem_range.2 hk, rfl⟩)
  omega
theorem BuiltPre.kid {base M K g : Nat} {pp vp : Piece} {ks : Nat → Tr} {kv : Nat → Value} {v : Value} {F : Nat → Prop} {Fk : Nat → Nat → Prop} {Aw : Option Addr} {cw : Nat} {path : List UInt8} {w w1 wx : World} (h : BuiltPre base M K (.node pp.2.2 ks vp.2.2) v F Aw cw path w)
    (hN : NodeAt w1 base g pp vp kv ks Fk) (hb1 : Below w.heap.size w w1) (hb : Below w1.heap.size w1 wx) {k : Nat} (hk : k < 16) {Ax : Option Addr} {cx : Nat} {nx : List UInt8} (hc : nx.length ≤ cx) (hm : cx ≤ maxLen) (hs : SeqB wx Ax nx) :
    BuiltPre base M K (ks k) (kv k) (Fk k) Ax cx nx wx := by
  have h1 := hb1.size
  have h2 := hb.size
  have h3 := h.floor
  exact ⟨(h.tables.below hb1 h.tables.size).below hb (h.tables.below hb1 h.tables.size).size, by omega, h.bound, Nat.le_trans (cntT_kid _ _ _ k hk) h.many, h.manyK, h.bnd.2.2.2 k, (hN.kids k hk).below hb, hc, hm, hs⟩
/-- What the loop over the kids holds. -/
def LoopB (w : World) (all ob : Bool) (ks : Nat → Tr) (rest : List UInt8) (k : Nat) (vp vu : Value) (wr : World) : Prop :=
  ∃ (ps us : List Piece) (A : Option Addr) (c : Nat) (A' : Option Addr) (c' : Nat), vp = .slice A ps.length c ∧ vu = .slice A' us.length c' ∧
    ps.map txt = (List.range k).map (fun i => stands hashL (encT hashL (ks i))) ∧ us.map txt = ((List.range k).map (kidU hashL ks all ob rest)).flatten ∧
    wr.ownsRow w.heap.size 24 1 (.slice A ps.length c) ps.length (pcs ps) ∧ wr.ownsRow w.heap.size 24 1 (.slice A' us.length c') us.length (pcs us) ∧
    (∀ p ∈ ps, OwnP wr w.heap.size p) ∧ (∀ p ∈ us, OwnP wr w.heap.size p) ∧ us.Pairwise (fun a b => Apart (pcV a) (pcV b)) ∧ Apart (.slice A ps.length c) (.slice A' us.length c') ∧ Below w.heap.size w wr
theorem LoopB.start {w wr : World} {all ob : Bool} {ks : Nat → Tr} {rest : List UInt8} (h : Below w.heap.size w wr) : LoopB w all ob ks rest 0 (.slice none 0 0) (.slice none 0 0) wr :=
  ⟨[], [], none, 0, none, 0, rfl, rfl, rfl, rfl, World.ownsRow_nil _ _ _ _, World.ownsRow_nil _ _ _ _, by simp, by simp, by simp, Apart.none_ _ _ _, h⟩
theorem LoopB.next {w1 W : World} {all ob : Bool} {ks : Nat → Tr} {rest : List UInt8} {k Bk : Nat} {ps us nl ms : List Piece} {s q : Piece} {A7 A9 : Option Addr} {c7 c9 : Nat} {vM : Value}
    (hk : KidAt w1.heap.size Bk W (.slice A7 (ps.length + 1) c7) (.slice A9 (us.length + nl.length + ms.length) c9) vM (ps ++ [s]) (us ++ nl ++ ms) ms q)
    (h1 : ps.map txt = (List.range k).map (fun i => stands hashL (encT hashL (ks i)))) (h2 : us.map txt = ((List.range k).map (kidU hashL ks all ob rest)).flatten)
    (hs : s.2.2 = stands hashL (encT hashL (ks k))) (hn : nl.map txt ++ ms.map txt = kidU hashL ks all ob rest k) (hpw : us.Pairwise (fun a b => Apart (pcV a) (pcV b))) (hqw : (q :: ms).Pairwise (fun a b => Apart (pcV a) (pcV b)))
    (hnl : nl = [] ∨ nl = [q]) (hx : ∀ a ∈ us, ∀ b, b = q ∨ b ∈ ms → Apart (pcV a) (pcV b)) (hb : Below w1.heap.size w1 W) :
    LoopB w1 all ob ks rest (k + 1) (.slice A7 (ps.length + 1) c7) (.slice A9 (us.length + nl.length + ms.length) c9) W := by
  have e1 : (ps ++ [s]).length = ps.length + 1 := by simp
  have e2 : (us ++ nl ++ ms).length = us.length + nl.length + ms.length := by simp [Nat.add_assoc]
  refine ⟨ps ++ [s], us ++ nl ++ ms, A7, c7, A9, c9, by rw [e1], by rw [e2], ?_, ?_, ?_, ?_, hk.itP, hk.itU, ?_, ?_, hb⟩
  · rw [List.range_succ, List.map_append, List.map_append, h1]
    simp [txt, hs]
  · rw [flat_succ, ← h2, ← hn]
    simp
  · have := hk.rowP
    rw [e1] at this ⊢
    exact this
  · have := hk.rowU
    rw [e2] at this ⊢
    exact this
  · have hq := List.pairwise_cons.1 hqw
    rw [List.append_assoc, List.pairwise_append]
    refine ⟨hpw, ?_, fun a ha b hb => ?_⟩
    · rcases hnl with rfl | rfl
      · exact hq.2
      · exact hqw
    · rcases hnl with rfl | rfl
      · exact hx a ha b (Or.inr hb)
      · rcases List.mem_cons.1 hb with hb | hb
        · exact hx a ha b (Or.inl hb)
        · exact hx a ha b (Or.inr hb)
  · rw [e1, e2]
    exact hk.apPU
theorem joinP_branch (ks : Nat → Tr) (v : List UInt8) {ps : List Piece} (h : ps.map txt = (List.range 16).map (fun i => stands hashL (encT hashL (ks i)))) (A : Option Addr) (c : Nat) :
    joinP (ps ++ [(A, c, bytesM v)]) = ((List.range 16).map fun i => stands hashL (encT hashL (ks i))).flatten ++ bytesM v := by
  rw [joinP_snoc, joinP_txt, h]
theorem branchT_join (hash : List UInt8 → List UInt8) (hh : ∀ l, (hash l).length = 32) (ks : Nat → Tr) (v : List UInt8) : (((List.range 16).map fun i => stands hash (encT hash (ks i))).flatten ++ bytesM v).length ≤ 656 + (bytesM v).length := by
  have h1 := flatK_le (fun i => stands hash (encT hash (ks i))) 41 (fun i => stands_le hash hh _) 16
  rw [List.length_append]
  omega
set_option maxHeartbeats 4000000 in
set_option maxRecDepth 20000 in
theorem builtBranch_calls (base M K : Nat) (p : List UInt8) (ks : Nat → Tr) (val : List UInt8) (v : Value) (F : Nat → Prop) (Aw : Option Addr) (cw : Nat) (path : List UInt8) (all on : Bool) (w : World) (h : BuiltPre base M K (.node p ks val) v F Aw cw path w) (hlf : leafK ks = false)
    (ih : ∀ (i : Nat) (v : Value) (F : Nat → Prop) (Aw : Option Addr) (cw : Nat) (path : List UInt8) (on : Bool) (w : World), BuiltPre base M K (ks i) v F Aw cw path w → Calls Tryd.prog 51 #[v, .agg #[.slice Aw path.length cw, .bool all, .bool on]] w (BuiltPost w (ks i) all on path)) :
    Calls Tryd.prog 51 #[v, .agg #[.slice Aw path.length cw, .bool all, .bool on]] w (BuiltPost w (.node p ks val) all on path) := by
  have HIh := Lib.hid ih
  clear ih
  obtain ⟨g, ⟨Ap, cp, p'⟩, ⟨An, cn, val'⟩, kv, Fk, rfl, rfl, rfl, hN, hF⟩ := h.tree.parts
  have hM := h.bound
  have hpM : p'.length ≤ M := h.bnd.1
  have hvM : val'.length ≤ M := h.bnd.2.2.1
  have hcap := h.cap
  have hba := (Below.refl w.heap.size w).alloc (Nat.le_refl _) (.cells #[.slice Aw path.length cw, .bool all, .bool on] 85)
  have hn1 := hN.below hba
  have hwb : Blk (w.alloc (.cells #[.slice Aw path.length cw, .bool all, .bool on] 85)) w.heap.size 85 #[.slice Aw path.length cw, .bool all, .bool on] := Blk.new _ _ _
  have hz1 := size_alloc w (.cells #[.slice Aw path.length cw, .bool all, .bool on] 85)
  have hp1 := h.path_.below hba
  have hlc := leaf_calls base g (Ap, cp, p') (An, cn, val') kv ks Fk _ hn1
  rw [hlf] at hlc
  have HLc := Lib.hid hlc
  have HBa := Lib.hid hba
  have HN1 := Lib.hid hn1
  have HWb := Lib.hid hwb
  have HP1 := Lib.hid hp1
  have HPre := Lib.hid h
  have HF := Lib.hid hF
  have hz1a := Nat.le_of_eq hz1
  have hz1b := Nat.le_of_eq hz1.symm
  clear hlc hba hN hF h hp1 hwb hn1 hz1
  go_enter Tryd.func51, Tryd.ntmps51
  go_upto_region 5 with (go_at_call 79; refine HLc.out.mono ?_; rintro e1 w1 ⟨rfl, rfl⟩)
  generalize w.alloc (.cells #[.slice Aw path.length cw, .bool all, .bool on] 85) = w1 at *
  have qw0 : w1.cell? ⟨w.heap.size, 0, none⟩ = some (.slice Aw path.length cw) := HWb.out.cell 0
  have qw2 : w1.cell? ⟨w.heap.size, 2, none⟩ = some (.bool on) := HWb.out.cell 2
  have q0 : w1.cell? ⟨g, 0, none⟩ = some (.slice Ap p'.length cp) := HN1.out.blk.at_ 0 (by omega)
  have hpx := fun m => prefix_calls Aw cw _ path Ap cp _ p' (w1.drewN m) hcap (HP1.out.seq.drewN m) ((Seq.of_own HN1.out.path).drewN m)
  have HPx := Lib.hid hpx
  clear hpx
  go_cut [6] from 33 to 44 (fun v6 wx => v6 = .bool (on && decide (p' <+: path)) ∧ ∃ m, wx = w1.drewN m)
  case first =>
    cases on
    · go_quiet (fail)
      go_wp2_with fail
      go_meet
      case rel => exact ⟨by simp, _, rfl⟩
    · by_cases hpf : p' <+: path
      · have hd := decide_eq_true hpf
        go_quiet ((go_at_call 82; exact Calls.quiet_of_same (HPx.out _)))
        go_wp2_with fail
        go_meet
        case rel => exact ⟨by simp [hpf], _, rfl⟩
      · have hd := decide_eq_false hpf
        go_quiet ((go_at_call 82; exact Calls.quiet_of_same (HPx.out _)))
        go_wp2_with fail
        go_meet
        case rel => exact ⟨by simp [hpf], _, rfl⟩
  case rest =>
    obtain ⟨rfl, m0, rfl⟩ := hcut
    clear HPx
    have qw0' := (show (w1.drewN m0).cell? ⟨w.heap.size, 0, none⟩ = some (.slice Aw path.length cw) from qw0)
    have q0' := (show (w1.drewN m0).cell? ⟨g, 0, none⟩ = some (.slice Ap p'.length cp) from q0)
    have hcm := HPre.out.capM
    unfold maxLen at hcm
    obtain ⟨ob, hob⟩ : ∃ ob, (on && decide (p' <+: path)) = ob := ⟨_, rfl⟩
    obtain ⟨rest, hrest⟩ : ∃ r, restT on p' path = r := ⟨_, rfl⟩
    have hrt : rest = if ob = true then path.drop p'.length else [] := by rw [← hrest, ← hob]; rfl
    rw [hob]
    have HOb := Lib.hid hob
    have HRest := Lib.hid hrest
    have HRt := Lib.hid hrt
    clear hob hrest hrt
    go_upto_if 45 with (fail)
    go_cut [7] from 46 to 54 (fun v7 wx => ∃ (Ar : Option Addr) (cr : Nat), v7 = .slice Ar rest.length cr ∧ rest.length ≤ cr ∧ cr ≤ maxLen ∧ SeqB w1 Ar rest ∧ ∃ m, wx = w1.drewN m)
    case first =>
      cases ob
      · have hr := HRt.out
        rw [if_neg (by simp)] at hr
        subst hr
        go_wp2_with fail
        go_meet
        case rel => exact ⟨none, 0, rfl, by simp, by simp [maxLen], SeqB.nil, _, rfl⟩
      · have hr := HRt.out
        rw [if_pos rfl] at hr
        have hpf : p' <+: path := by
          have := HOb.out
          simp at this
          exact this.2
        have hpl := hpf.length_le
        have n1 : (p'.length : Int) ≤ (path.length : Int) := by omega
        have hcut := HP1.out.cut (k := p'.length) hcap
        have HCut := Lib.hid hcut
        have HR := Lib.hid hr
        clear hcut hpf hr
        by_cases hcc : cw = p'.length
        · have hc2 := HCut.out
          rw [if_pos hcc] at hc2
          have HC2 := Lib.hid hc2
          subst hcc
          clear hc2 HCut
          go_upto_region 8 with fail
          go_quiet (fail)
          go_wp2_with fail
          go_meet
          case rel =>
            have hl : rest.length = path.length - p'.length := by rw [HR.out, List.length_drop]
            have h0 : path.length - p'.length = 0 := by omega
            exact ⟨Aw, 0, by rw [hl, h0], by omega, by simp [maxLen], by rw [HR.out]; exact HC2.out, _, rfl⟩
        · have hc2 := HCut.out
          rw [if_neg hcc] at hc2
          have HC2 := Lib.hid hc2
          clear hc2 HCut
          go_upto_region 8 with fail
          go_quiet (fail)
          go_wp2_with fail
          go_meet
          case rel =>
            have hl : rest.length = path.length - p'.length := by rw [HR.out, List.length_drop]
            exact ⟨_, cw - p'.length, by rw [hl], by omega, by unfold maxLen; omega, by rw [HR.out]; exact HC2.out, _, rfl⟩
    case rest =>
      obtain ⟨Ar, cr, rfl, hrc, hrm, hrs, m1, rfl⟩ := hcut
      have HRs := Lib.hid hrs
      clear hrs
      go_upto_region 11 with (refine wpL_load rfl 97 (.tmp 57) rfl (n := 16) 1 rfl _ (HN1.out.below (below_drewN (Below.refl _ _) _)).blk (by omega) Tryd.underlying97 rfl (by kernel_rfl) ?_; rw [load_kids])
      go_loopw [8, 5, 59] (fun vp vu i wr => ∃ k : Nat, k ≤ 16 ∧ i = .int .i64 k ∧ LoopB w1 all ob ks rest k vp vu wr) (fun _ _ i _ => 16 - (intOf i).toNat)
      case atStart => exact ⟨0, by omega, rfl, LoopB.start (below_drewN (Below.refl _ _) m1)⟩
      case round =>
        obtain ⟨k, hk, rfl, hL⟩ := hrel
        obtain ⟨ps, us, Ap', cp', Au, cu, rfl, rfl, hpt, hut, hpo, huo, hpp, huu, hpw, hap, hbl⟩ := hL
        have HB := Lib.hid hbl
        have HPt := Lib.hid hpt
        have HUt := Lib.hid hut
        have HPo := Lib.hid hpo
        have HUo := Lib.hid huo
        have HPp := Lib.hid hpp
        have HUu := Lib.hid huu
        have HPw := Lib.hid hpw
        have HAp := Lib.hid hap
        clear hpt hut hpo huo hpp huu hpw hap hbl
        by_cases hlt : k < 16
        · have dk : decide ((k : Int) < 16) = true := by simp; omega
          have hix : ∀ W : World, (Instr.index 97 (.agg (tab 16 kv)) (.int .i64 (k : Int))).run Tryd.prog W = .ok (kv k) W :=
            fun W => run_index_tab _ 80 _ Tryd.underlying97 Tryd.underlying80 rfl (by kernel_rfl) _ k hlt W
          have hszr := HB.out.size
          have hwr := HWb.out.below HB.out HWb.out.lt
          have qr1 : wr.cell? ⟨w.heap.size, 1, none⟩ = some (.bool all) := hwr.cell 1
          have HWr := Lib.hid hwr
          clear hwr
          go_upto_region 14 with fail
          have hw2 : Blk (wr.alloc (.cells #[.slice none 0 0, .bool all, .bool false] 85)) wr.heap.size 85 #[.slice none 0 0, .bool all, .bool false] := Blk.new _ _ _
          have hb2 := (Below.refl wr.heap.size wr).alloc (Nat.le_refl _) (.cells #[.slice none 0 0, .bool all, .bool false] 85)
          have hz2 := size_alloc wr (.cells #[.slice none 0 0, .bool all, .bool false] 85)
          have hz2a := Nat.le_of_eq hz2.symm
          have hrs2 := (HRs.out.below HB.out).below hb2
          generalize wr.alloc (.cells #[.slice none 0 0, .bool all, .bool false] 85) = w2 at *
          obtain ⟨gb, hgb⟩ : ∃ b, (ob && decide (0 < rest.length) && decide ((rest.headD 0).toNat = k)) = b := ⟨_, rfl⟩
          have HGb := Lib.hid hgb
          have HW2 := Lib.hid hw2
          have HB2 := Lib.hid hb2
          have HRs2 := Lib.hid hrs2
          clear hw2 hb2 hz2 hrs2 hgb
          go_cut [] from 66 to 80 (fun wx => Blk wx wr.heap.size 85 #[.slice none 0 0, .bool all, .bool gb] ∧ Below wr.heap.size wr wx ∧ wr.heap.size + 1 ≤ wx.heap.size)
          case first =>
            have f2 := HW2.out.frozen 2
            have c2 : w2.cell? ⟨wr.heap.size, 2, none⟩ = some (.bool false) := HW2.out.cell 2
            cases ob
            · go_wp2_with fail
              go_meet
              case rel =>
                have e : gb = false := by have := HGb.out; simpa using this.symm
                subst e
                exact ⟨HW2.out.set_ 2 _, (Only.setCell w2 ⟨wr.heap.size, 2, none⟩ _).below HB2.out (Nat.le_refl _), by rw [size_setCell]; exact hz2a⟩
            · cases rest with
              | nil =>
                go_wp2_with fail
                go_meet
                case rel =>
                  have e : gb = false := by have := HGb.out; simpa using this.symm
                  subst e
                  exact ⟨HW2.out.set_ 2 _, (Only.setCell w2 ⟨wr.heap.size, 2, none⟩ _).below HB2.out (Nat.le_refl _), by rw [size_setCell]; exact hz2a⟩
              | cons y r =>
                obtain ⟨ar, rfl, _, hcb⟩ := HRs2.out.seq.byte 0 (by simp)
                have hadd : ar.add 0 = ar := by unfold Addr.add; simp
                rw [hadd] at hcb
                have l0 : (0 : Int) < ((y :: r).length : Int) := by simp
                have dl : decide (((y :: r).length : Int) > 0) = true := by simp
                go_wp2_with fail
                go_meet
                case rel =>
                  have e : (wrap64 (by8 y) == (k : Int)) = gb := by
                    have h : decide (y.toNat = k) = gb := by have := HGb.out; simpa using this
                    rw [← h, wrap64_by8, Bool.eq_iff_iff, decide_eq_true_iff]
                    unfold by8
                    rw [beq_iff_eq]
                    omega
                  rw [e]
                  exact ⟨HW2.out.set_ 2 _, (Only.setCell w2 ⟨wr.heap.size, 2, none⟩ _).below HB2.out (Nat.le_refl _), by rw [size_setCell]; exact hz2a⟩
          case rest =>
            obtain ⟨hw3, hb3, hz3⟩ := hcut
            have HW3 := Lib.hid hw3
            have HB3 := Lib.hid hb3
            have c3 : wc.cell? ⟨wr.heap.size, 2, none⟩ = some (.bool gb) := hw3.cell 2
            clear hw3 hb3
            have f3 := HW3.out.frozen 0
            have d3 : wc.cell? ⟨wr.heap.size, 0, none⟩ = some (.slice none 0 0) := HW3.out.cell 0
            obtain ⟨nx, hnx⟩ : ∃ l, (if gb = true then rest.tail else []) = l := ⟨_, rfl⟩
            have HNx := Lib.hid hnx
            have HRs3 := Lib.hid ((HRs.out.below HB.out).below HB3.out)
            clear hnx
            go_upto_if 82 with fail
            go_cut [] from 83 to 85 (fun wx => ∃ (Ax : Option Addr) (cx : Nat), Blk wx wr.heap.size 85 #[.slice Ax nx.length cx, .bool all, .bool gb] ∧ nx.length ≤ cx ∧ cx ≤ maxLen ∧ SeqB wx Ax nx ∧ Below wr.heap.size wr wx ∧ wr.heap.size + 1 ≤ wx.heap.size)
            case first =>
              cases gb
              · have e : nx = [] := HNx.out.symm
                subst e
                go_wp2_with fail
                go_meet
                case rel => exact ⟨none, 0, HW3.out, by simp, by simp [maxLen], SeqB.nil, HB3.out, hz3⟩
              · have e : nx = rest.tail := HNx.out.symm
                have hl1 : 0 < rest.length := by
                  have hg1 := HGb.out
                  simp only [Bool.and_eq_true, decide_eq_true_eq] at hg1
                  exact hg1.1.2
                clear HGb
                cases rest with
                | nil => exact absurd hl1 (by simp)
                | cons y r =>
                obtain rfl : nx = r := e
                obtain ⟨ar, rfl, _, _⟩ := HRs3.out.seq.byte 0 (by simp)
                rw [List.length_cons] at hrc
                unfold maxLen at hrm
                have l1 : (1 : Int) ≤ ((y :: nx).length : Int) := by simp; omega
                have hcut := HRs3.out.cut (k := 1) (cap := cr) (by simp; omega)
                have HCut := Lib.hid hcut
                clear hcut hl1
                by_cases hcc : cr = 1
                · subst hcc
                  go_wp2_with fail
                  go_meet
                  case rel =>
                    have e0 : nx = [] := List.eq_nil_of_length_eq_zero (by omega)
                    subst e0
                    exact ⟨some ar, 0, HW3.out.set_ 0 _, by simp, by simp [maxLen], SeqB.nil, (Only.setCell wc ⟨wr.heap.size, 0, none⟩ _).below HB3.out (Nat.le_refl _), by rw [size_setCell]; exact hz3⟩
                · go_wp2_with fail
                  go_meet
                  case rel =>
                    have hs : SeqB wc (some ⟨ar.block, ar.off + 1, none⟩) nx := by
                      have := HCut.out
                      rw [if_neg hcc] at this
                      exact this
                    exact ⟨_, cr - 1, HW3.out.set_ 0 _, by omega, by unfold maxLen; omega, hs.keep (fun g cs hb => (Only.setCell wc ⟨wr.heap.size, 0, none⟩ _).blk hb (Blk.ne hb HW3.out (by decide))), (Only.setCell wc ⟨wr.heap.size, 0, none⟩ _).below HB3.out (Nat.le_refl _), by rw [size_setCell]; exact hz3⟩
            case rest =>
              obtain ⟨Ax, cx, hw4, hxc, hxm, hxs, hb4, hz4⟩ := hcut
              rename World => wk
              have HW4 := Lib.hid hw4
              have HXs := Lib.hid hxs
              have HB4 := Lib.hid hb4
              have d0 : wk.cell? ⟨wr.heap.size, 0, none⟩ = some (.slice Ax nx.length cx) := hw4.cell 0
              have d1 : wk.cell? ⟨wr.heap.size, 1, none⟩ = some (.bool all) := hw4.cell 1
              have d2 : wk.cell? ⟨wr.heap.size, 2, none⟩ = some (.bool gb) := hw4.cell 2
              have hpre : BuiltPre base M K (ks k) (kv k) (Fk k) Ax cx nx wk := HPre.out.kid HN1.out HBa.out (HB.out.trans (hb4.mono hszr)) hlt hxc hxm hxs
              have hcall := HIh.out k (kv k) (Fk k) Ax cx nx gb wk hpre
              have HCall := Lib.hid hcall
              clear hw4 hxs hb4 hcall hpre
              go_upto_region 18 with (go_at_call 51; refine HCall.out.mono ?_; rintro e5 w5 ⟨⟨Aq, cq, lq⟩, Am, cm, ms, rfl, hq, hms, hoq, hom, hmm, hqa, hb5⟩; unfold pcV; have HQ := Lib.hid hq; have HMs := Lib.hid hms; have HOq := Lib.hid hoq; have HOm := Lib.hid hom; have HMm := Lib.hid hmm; have HQa := Lib.hid hqa; have HB5 := Lib.hid hb5; clear hq hms hoq hom hmm hqa hb5)
              have hz4' := HB4.out.size
              have hz5 := HB5.out.size
              have hb45 := HB4.out.trans (HB5.out.mono hz4')
              have hqe : lq = encT hashL (ks k) := HQ.out
              have hel := encT_le hashL hashL_length (ks k) M (by omega) (HPre.out.bnd.2.2.2 k)
              rw [← hqe] at hel
              have hT5 := HPre.out.tables.below HBa.out HPre.out.tables.size |>.below (HB.out.trans (hb45.mono hszr)) (HPre.out.tables.below HBa.out HPre.out.tables.size).size
              have hst := stands_calls wk.heap.size (Aq, cq, lq) w5 hT5 hz5 (by show lq.length ≤ _; omega) HOq.out
              have hka : KidAt w1.heap.size wk.heap.size w5 (.slice Ap' ps.length cp') (.slice Au us.length cu) (.slice Am ms.length cm) ps us ms (Aq, cq, lq) :=
                ⟨own_below' HPo.out hb45, own_below' HUo.out hb45, HOm.out, fun p hp => (HPp.out p hp).below hb45, fun p hp => (HUu.out p hp).below hb45, HMm.out, HOq.out, HAp.out,
                  fun b h1 h2 => by have := (HPo.out.lt b h1).2; have := (HOm.out.lt b h2).1; omega, fun b h1 h2 => by have := (HUo.out.lt b h1).2; have := (HOm.out.lt b h2).1; omega⟩
              have hw5 := HW4.out.below HB5.out HW4.out.lt
              have hwr5 := HWr.out.below hb45 HWr.out.lt
              have HSt := Lib.hid hst
              have HKa := Lib.hid hka
              have HW5 := Lib.hid hw5
              have HWr5 := Lib.hid hwr5
              have HB15 := Lib.hid (HB.out.trans (hb45.mono hszr))
              have HQe := Lib.hid hqe
              have HXa : Hid (∀ a ∈ us, ∀ b, b = (Aq, cq, lq) ∨ b ∈ ms → Apart (pcV a) (pcV b)) := Lib.hid (fun a ha b hb => by
                rcases hb with rfl | hb
                · exact apart_old (HUu.out a ha) HOq.out (by omega)
                · exact apart_old (HUu.out a ha) (HMm.out b hb) (by omega))
              have hkl : ps.length = k := by
                have := congrArg List.length HPt.out
                simpa using this
              have hkl1 : ps.length ≤ 16 := by omega
              have hul : us.length ≤ 2 * K := by
                have h1 := kids_under hashL ks all ob rest p' val' k hk
                have h2 := congrArg List.length HUt.out
                rw [List.length_map] at h2
                have h3 : cntT (.node p' ks val') ≤ K := HPre.out.many
                omega
              have hml : ms.length ≤ 2 * K := by
                have h1 := underT_length hashL (ks k) all gb nx
                have h2 := congrArg List.length HMs.out
                rw [List.length_map] at h2
                have h3 : cntT (.node p' ks val') ≤ K := HPre.out.many
                have h4 := cntT_kid p' ks val' k hlt
                omega
              have hKM := HPre.out.manyK
              clear hb45 hqe hst hkl hka hw5 hwr5 hT5 d0 d1 d2 c3 d3 HB5 HB4 HOq HOm HMm HUu HPp HUo HPo HW4 HCall
              go_upto_region 19 with (first
                | (go_at_call 83; (refine HSt.out.mono ?_; rintro e6 w6 ⟨⟨As, cs, ls⟩, rfl, hls, hos, hb6⟩; unfold pcV; have HLs := Lib.hid hls; have HOs := Lib.hid (own_mono hos (show w1.heap.size ≤ wk.heap.size by omega)); have hs6 := hb6.size; have hba6 := hb6.alloc hs6 (.cells #[.slice As ls.length cs] 24); have HB6 := Lib.hid hba6; have HK6 := Lib.hid (HKa.out.below hba6); clear hls hos hb6 hba6))
                | (at_builtin; ((refine wpL_append rfl (.tmp 92) (.tmp 95) 25 rfl elText rfl HK6.out.rowP rfl rfl (Seq.one_new _ _ _) (one1 _ _ _) (by unfold maxLen; omega) (by omega) (by rw [size_alloc]; omega) ?_; intro A7 c7 w7 ho7 hg7 hv7; have HO7 := Lib.hid ho7; have HG7 := Lib.hid hg7; have HV7 := Lib.hid hv7; clear ho7 hg7 hv7))))
              have hk7 := HK6.out.part (own_alloc HOs.out _) HO7.out HG7.out HV7.out
              have hw7 := (HW5.out.below HB6.out HW5.out.lt).grownT HK6.out.rowP (by decide) HG7.out
              have hwr7 := (HWr5.out.below HB6.out HWr5.out.lt).grownT HK6.out.rowP (by decide) HG7.out
              have hb17 := (HB15.out.trans (HB6.out.mono HB15.out.size)).grown HG7.out (Nat.le_trans HB15.out.size HB6.out.size) (fun g hg => (HK6.out.rowP.lt g hg).1)
              have hz7 := HG7.out.size
              have e2 : w7.cell? ⟨wr.heap.size, 2, none⟩ = some (.bool gb) := hw7.cell 2
              have e1 : w7.cell? ⟨w.heap.size, 1, none⟩ = some (.bool all) := hwr7.cell 1
              have HK7 := Lib.hid hk7
              have HW7 := Lib.hid hw7
              have HB17 := Lib.hid hb17
              clear hk7 hw7 hwr7 hb17 HG7 HV7 HO7 HK6 HB6 HB15 HW5 HWr5 HKa HSt HOs hz7
              obtain ⟨cb, hcb⟩ : ∃ b, (decide (32 ≤ lq.length) && (all || gb)) = b := ⟨_, rfl⟩
              have HCb := Lib.hid hcb
              clear hcb
              go_cut [107] from 97 to 106 (fun v wx => v = .bool cb ∧ w7 = wx)
              case first =>
                by_cases h32 : 32 ≤ lq.length
                · have d32 : decide ((lq.length : Int) ≥ 32) = true := decide_eq_true (by omega)
                  cases all
                  · go_wp2_with fail
                    go_meet
                    case rel => exact ⟨by rw [← HCb.out]; simp [h32], rfl⟩
                  · go_wp2_with fail
                    go_meet
                    case rel => exact ⟨by rw [← HCb.out]; simp [h32], rfl⟩
                · have d32 : decide ((lq.length : Int) ≥ 32) = false := decide_eq_false (by omega)
                  go_wp2_with fail
                  go_meet
                  case rel => exact ⟨by rw [← HCb.out]; simp [h32], rfl⟩
              case rest =>
                obtain ⟨rfl, rfl⟩ := hcut
                obtain ⟨nl, hnl⟩ : ∃ l, (if cb = true then [((Aq, cq, lq) : Piece)] else []) = l := ⟨_, rfl⟩
                have HNl := Lib.hid hnl
                clear hnl
                go_upto_if 107 with fail
                go_cut [5] from 108 to 111 (fun vu wx => ∃ (A8 : Option Addr) (c8 : Nat), vu = .slice A8 (us.length + nl.length) c8 ∧ nl.length ≤ 1 ∧ KidAt w1.heap.size wk.heap.size wx (.slice A7 (ps.length + 1) c7) (.slice A8 (us.length + nl.length) c8) (.slice Am ms.length cm) (ps ++ [(As, cs, ls)]) (us ++ nl) ms (Aq, cq, lq) ∧ Below w1.heap.size w1 wx)
                case first =>
                  cases cb
                  · have e : nl = [] := HNl.out.symm
                    subst e
                    go_wp2_with fail
                    go_meet
                    case rel => exact ⟨Au, cu, rfl, by simp, by rw [List.append_nil]; exact HK7.out, HB17.out⟩
                  · have e : nl = [(Aq, cq, lq)] := HNl.out.symm
                    subst e
                    have hka := HK7.out.below ((Below.refl w7.heap.size w7).alloc (Nat.le_refl _) (.cells #[.slice Aq lq.length cq] 24))
                    have HKa := Lib.hid hka
                    clear hka
                    have hz17 := HB17.out.size
                    go_wp2_with (at_builtin; ((refine wpL_append rfl (.tmp 108) (.tmp 110) 25 rfl elText rfl HKa.out.rowU rfl rfl (Seq.one_new _ _ _) (one1 _ _ _) (by unfold maxLen; omega) (by omega) (by rw [size_alloc]; omega) ?_; intro A8 c8 w8 ho8 hg8 hv8; have HO8 := Lib.hid ho8; have HG8 := Lib.hid hg8; have HV8 := Lib.hid hv8; clear ho8 hg8 hv8)))
                    go_meet
                    case rel => exact ⟨A8, c8, rfl, by simp, HKa.out.under (nl := [(Aq, cq, lq)]) (fun p hp => by rw [List.mem_singleton] at hp; subst hp; exact own_mono HKa.out.itQ (by omega)) HO8.out HG8.out HV8.out, (HB17.out.alloc hz17 _).grown HG8.out (by rw [size_alloc]; omega) (fun g hg => (HKa.out.rowU.lt g hg).1)⟩
                case rest =>
                  obtain ⟨A8, c8, rfl, hnl1, hk8, hb8⟩ := hcut
                  have HK8 := Lib.hid hk8
                  have HB8 := Lib.hid hb8
                  have hz18 := hb8.size
                  have hru := hk8.rowU
                  rw [List.length_append] at hru
                  have HRu := Lib.hid hru
                  clear hk8 hb8 HK7 HB17 hru
                  go_wp2_with (at_builtin; ((refine wpL_append rfl (.tmp 112) (.tmp 113) 25 rfl elText rfl HRu.out rfl (by rw [pcs_length, Nat.mul_one]) (Seq.of_own HK8.out.rowM) (pcs_one _) (by unfold maxLen; omega) (by omega) hz18 ?_; intro A9 c9 w9 ho9 hg9 hv9; have HO9 := Lib.hid ho9; have HG9 := Lib.hid hg9; have HV9 := Lib.hid hv9; clear ho9 hg9 hv9)))
                  have hk9 := HK8.out.under (nl := ms) (fun p hp => own_mono (HK8.out.itM p hp) (by omega)) (by rw [List.length_append]; exact HO9.out) HG9.out HV9.out
                  refine ⟨⟨k + 1, by omega, by go_num, LoopB.next hk9 HPt.out HUt.out (by rw [← HQe.out]; exact HLs.out) ?_ HPw.out HQa.out ?_ HXa.out (HB8.out.grown HG9.out hz18 (fun g hg => (HRu.out.lt g hg).1))⟩, by simp [intOf]; omega⟩
                  · rw [HMs.out, ← HNl.out]
                    unfold kidU
                    simp only
                    rw [HGb.out, HNx.out, ← HQe.out, ← HCb.out]
                    by_cases h32 : 32 ≤ lq.length <;> cases all <;> cases gb <;> simp [h32, txt]
                  · rw [← HNl.out]
                    cases cb <;> simp
        · obtain rfl : k = 16 := by omega
          clear hlt hk
          have dk : decide ((16 : Int) < 16) = false := by decide
          have hszr := HB.out.size
          have hn2 := HN1.out.below HB.out
          have q17 : wr.cell? ⟨g, 17, none⟩ = some (.slice An val'.length cn) := hn2.blk.at_ 17 (by omega)
          have hwr := HWb.out.below HB.out HWb.out.lt
          have hka : KidAt w1.heap.size w1.heap.size wr (.slice Ap' ps.length cp') (.slice Au us.length cu) (.slice none 0 0) ps us [] (none, 0, []) :=
            ⟨HPo.out, HUo.out, World.ownsRow_nil _ _ _ _, HPp.out, HUu.out, by simp, World.ownsRow_nil _ _ _ _, HAp.out, (Apart.none_ _ _ _).symm, (Apart.none_ _ _ _).symm⟩
          have hT1 := HPre.out.tables.below HBa.out HPre.out.tables.size
          have hkl : ps.length = 16 := by
            have := congrArg List.length HPt.out
            simpa using this
          have hkl1 : ps.length ≤ 16 := by omega
          have hul : us.length ≤ 2 * K := by
            have h1 := kids_under hashL ks all ob rest p' val' 16 (by omega)
            have h2 := congrArg List.length HUt.out
            rw [List.length_map] at h2
            have h3 : cntT (.node p' ks val') ≤ K := HPre.out.many
            omega
          have hKM := HPre.out.manyK
          have HKa := Lib.hid hka
          have HN2 := Lib.hid hn2
          have HWr := Lib.hid hwr
          have HT1 := Lib.hid hT1
          have hbv := bytesM_le val' (by omega)
          obtain ⟨L, hL⟩ : ∃ L, ((List.range 16).map fun i => stands hashL (encT hashL (ks i))).flatten ++ bytesM val' = L := ⟨_, rfl⟩
          have HL := Lib.hid hL
          have hLl : L.length ≤ 656 + (bytesM val').length := by rw [← hL]; exact branchT_join hashL hashL_length ks val'
          clear hL
          clear hkl hn2 hwr hka hT1 HPo HUo HPp HAp
          go_upto_region 24 with (first
            | (go_at_call 78; (refine (rlpBytes_calls An cn wr.heap.size val' wr (by omega) (Nat.le_refl _) (Seq.of_own HN2.out.value)).mono ?_; rintro e2 w2 ⟨A2, c2, rfl, ho2, hb2⟩; have hs2 := hb2.size; have HO2 := Lib.hid (own_mono ho2 hszr); have HB2 := Lib.hid (hb2.alloc hs2 (.cells #[.slice A2 (bytesM val').length c2] 24)); have HK2 := Lib.hid (HKa.out.below (hb2.alloc hs2 (.cells #[.slice A2 (bytesM val').length c2] 24))); clear ho2 hb2))
            | (at_builtin; ((refine wpL_append rfl (.tmp 116) (.tmp 122) 25 rfl elText rfl HK2.out.rowP rfl rfl (Seq.one_new _ _ _) (one1 _ _ _) (by unfold maxLen; omega) (by omega) (by rw [size_alloc]; omega) ?_; intro A3 c3 w3 ho3 hg3 hv3; have hz3 := hg3.size; rw [size_alloc] at hz3; have hk3 := HK2.out.part (x := (A2, c2, bytesM val')) (own_alloc HO2.out _) ho3 hg3 hv3; have HB3 := Lib.hid (((HB.out.trans (HB2.out.mono hszr))).grown hg3 (by rw [size_alloc]; omega) (fun g hg => (HK2.out.rowP.lt g hg).1)); have HW3 := Lib.hid ((HWr.out.below HB2.out HWr.out.lt).grownT HK2.out.rowP (by decide) hg3); have HJ := Lib.hid ((joinP_branch ks val' HPt.out A2 c2).trans HL.out); have hrp := hk3.rowP; have HK3 := Lib.hid hk3; clear ho3 hg3 hv3 hk3; rw [show (ps ++ [((A2, c2, bytesM val') : Piece)]).length = ps.length + 1 by simp] at hrp; have HRp := Lib.hid hrp; clear hrp)))
            | (go_at_call 80; (have hlc := rlpList_calls A3 c3 w3.heap.size (ps ++ [(A2, c2, bytesM val')]) w3 (by simp; omega) (by rw [HJ.out]; omega) (Nat.le_refl _) (Seq.of_own HRp.out) (fun p hp => (HK3.out.itP p hp).seq); rw [show (ps ++ [((A2, c2, bytesM val') : Piece)]).length = ps.length + 1 by simp, HJ.out] at hlc; refine hlc.mono ?_; clear hlc; rintro e4 w4 ⟨A4, c4, rfl, ho4, hb4⟩; have HO4 := Lib.hid ho4; have HB4 := Lib.hid hb4; clear ho4 hb4)))
          have hwb : withM 192 L = branchT hashL ks val' := by rw [← HL.out]; rfl
          have hwl := withM_le 192 L (by omega)
          rw [hwb] at hwl
          have ho4 := HO4.out
          rw [hwb] at ho4 ⊢
          have hz4 := HB4.out.size
          have hz3 := HB3.out.size
          have hk4 := HK3.out.below HB4.out
          have hb14 := HB3.out.trans (HB4.out.mono hz3)
          have hn4 := HN1.out.below hb14
          have hw4 := HW3.out.below HB4.out HW3.out.lt
          have r0 : w4.cell? ⟨g, 0, none⟩ = some (.slice Ap p'.length cp) := hn4.blk.at_ 0 (by omega)
          have r1 : w4.cell? ⟨w.heap.size, 1, none⟩ = some (.bool all) := hw4.cell 1
          have ht4 := HT1.out.below hb14 HT1.out.size
          have hoP : OwnP w4 w3.heap.size (A4, c4, branchT hashL ks val') := ho4
          have HO4' := Lib.hid hoP
          have HK4 := Lib.hid hk4
          have HB14 := Lib.hid hb14
          have HN4 := Lib.hid hn4
          have HW4 := Lib.hid hw4
          have HT4 := Lib.hid ht4
          have hund : underT hashL (.node p' ks val') all on path = (if p' ≠ [] ∧ 32 ≤ (branchT hashL ks val').length ∧ (all || ob) = true then [branchT hashL ks val'] else []) ++ us.map txt := by
            rw [underT_node, if_neg (by rw [hlf]; simp), HUt.out, HOb.out]
            congr 1
            congr 1
            refine List.map_congr_left fun i _ => ?_
            have := kidU_rest hashL ks all on p' path i
            rw [HOb.out, HRest.out] at this
            exact this
          have henc : encT hashL (.node p' ks val') = wrapT hashL p' (branchT hashL ks val') := by rw [encT_node, if_neg (by rw [hlf]; simp)]
          have HUnd := Lib.hid hund
          have HEnc := Lib.hid henc
          have hxa : ∀ a ∈ us, Apart (pcV (A4, c4, branchT hashL ks val')) (pcV a) := fun a ha => (apart_old (HUu.out a ha) HO4'.out (by omega)).symm
          have HXa := Lib.hid hxa
          have hcp := own_cap HN4.out.path
          have HCp := Lib.hid hcp
          clear hoP ho4 hk4 hb14 hn4 hw4 ht4 HO4 HK3 HB3 HB4 HN2 HW3 HK2 HB2 HO2 HKa HWr hwb HJ HRp q17 hund henc hxa hcp HN1 HUu hlf
          generalize branchT hashL ks val' = br at *
          by_cases hp0 : p' = []
          · subst hp0
            go_wp2_with fail
            go_ret2
            have hu := HUnd.out
            rw [if_neg (by simp), List.nil_append] at hu
            have hw : w.heap.size ≤ w1.heap.size := by omega
            exact ⟨(A4, c4, br), Au, cu, us, rfl, by rw [HEnc.out]; rfl, hu.symm, own_mono HO4'.out (by omega), own_mono HK4.out.rowU hw, fun p hp => own_mono (HK4.out.itU p hp) hw, List.pairwise_cons.2 ⟨HXa.out, HPw.out⟩, HBa.out.trans (HB14.out.mono hw)⟩
          · have hpp : 0 < p'.length := List.length_pos_iff.2 hp0
            have dp : decide ((p'.length : Int) > 0) = true := decide_eq_true (by omega)
            obtain ⟨cb, hcb⟩ : ∃ b, (decide (32 ≤ br.length) && (all || ob)) = b := ⟨_, rfl⟩
            have HCb := Lib.hid hcb
            have HP0 := Lib.hid hp0
            clear hcb hp0
            go_upto_region 25 with fail
            go_cut [141] from 132 to 140 (fun v wx => v = .bool cb ∧ w4 = wx)
            case first =>
              by_cases h32 : 32 ≤ br.length
              · have d32 : decide ((br.length : Int) ≥ 32) = true := decide_eq_true (by omega)
                cases all
                · go_wp2_with fail
                  go_meet
                  case rel => exact ⟨by rw [← HCb.out]; simp [h32], rfl⟩
                · go_wp2_with fail
                  go_meet
                  case rel => exact ⟨by rw [← HCb.out]; simp [h32], rfl⟩
              · have d32 : decide ((br.length : Int) ≥ 32) = false := decide_eq_false (by omega)
                go_wp2_with fail
                go_meet
                case rel => exact ⟨by rw [← HCb.out]; simp [h32], rfl⟩
            case rest =>
              obtain ⟨rfl, rfl⟩ := hcut
              go_upto_if 141 with fail
              go_cut [5] from 142 to 145 (fun vu wx => ∃ (A5 : Option Addr) (c5 n5 : Nat) (us' : List Piece), vu = .slice A5 n5 c5 ∧ n5 = us'.length ∧ us'.map txt = (if cb = true then [br] else []) ++ us.map txt ∧ wx.ownsRow w1.heap.size 24 1 (.slice A5 n5 c5) n5 (pcs us') ∧ (∀ p ∈ us', OwnP wx w1.heap.size p) ∧ us'.Pairwise (fun a b => Apart (pcV a) (pcV b)) ∧ Below w4.heap.size w4 wx)
              case first =>
                cases cb
                · go_wp2_with fail
                  go_meet
                  case rel => exact ⟨Au, cu, us.length, us, rfl, rfl, rfl, HK4.out.rowU, HK4.out.itU, HPw.out, Below.refl _ _⟩
                · have hb5 := (Below.refl w4.heap.size w4).alloc (Nat.le_refl _) (.cells #[.slice A4 br.length c4] 24)
                  have HB5 := Lib.hid hb5
                  have HO5 := Lib.hid (own_new1 w4 (.slice A4 br.length c4) 24 w1.heap.size (by have := HB14.out.size; omega))
                  have HK5 := Lib.hid (HK4.out.below hb5)
                  clear hb5
                  have hz14 := HB14.out.size
                  go_wp2_with (at_builtin; ((refine wpL_append rfl (.tmp 143) (.tmp 144) 25 rfl elText rfl HO5.out rfl (by rw [pcs_length, Nat.mul_one]) (Seq.of_own HK5.out.rowU) (pcs_one _) (by unfold maxLen; omega) (by omega) (by rw [size_alloc]; omega) ?_; intro A8 c8 w8 ho8 hg8 hv8; have HO8 := Lib.hid ho8; have HG8 := Lib.hid hg8; clear ho8 hg8 hv8)))
                  go_meet
                  case rel =>
                    refine ⟨A8, c8, 1 + us.length, (A4, c4, br) :: us, rfl, by simp; omega, rfl, HO8.out, fun p hp => ?_, List.pairwise_cons.2 ⟨HXa.out, HPw.out⟩, HB5.out.grown HG8.out (by rw [size_alloc]; omega) (fun g hg => by simp [Value.ownBlock] at hg; omega)⟩
                    rcases List.mem_cons.1 hp with rfl | hp
                    · exact OwnP.grown (own_mono (OwnP.alloc HO4'.out _) (by omega)) HO5.out (by decide) HG8.out
                    · exact (HK5.out.itU p hp).grown HO5.out (by decide) HG8.out
              case rest =>
                obtain ⟨A5, c5, n5, us', rfl, hn5, hut5, hou5, hit5, hpw5, hb5⟩ := hcut
                rename World => w5
                have hz5 := hb5.size
                have hz14 := HB14.out.size
                have hn6 := HN4.out.below hb5
                have s0 : w5.cell? ⟨g, 0, none⟩ = some (.slice Ap p'.length cp) := hn6.blk.at_ 0 (by omega)
                have HN6 := Lib.hid hn6
                have HN5 := Lib.hid hn5
                have HUt5 := Lib.hid hut5
                have HOu5 := Lib.hid hou5
                have HIt5 := Lib.hid hit5
                have HPw5 := Lib.hid hpw5
                have HB5 := Lib.hid hb5
                have HT5 := Lib.hid (HT4.out.below hb5 HT4.out.size)
                have HQ5 := Lib.hid (OwnP.below HO4'.out hb5)
                have hwl0 := written_le p' 0
                have hbw := bytesM_le (written p' 0) (by omega)
                have hst := stands_le hashL hashL_length br
                clear hn6 hn5 hut5 hou5 hit5 hpw5 hb5
                go_wp2_with (first
                  | (go_at_call 81; (refine (written_calls Ap cp w5.heap.size p' 0 w5 (by omega) HCp.out (Nat.le_refl _) (Seq.of_own HN6.out.path)).mono ?_; rintro e6 w6 ⟨A6, c6, rfl, ho6, hb6⟩; have hs6 := hb6.size; have HO6 := Lib.hid ho6; have HB6 := Lib.hid hb6; clear ho6 hb6))
                  | (go_at_call 78; (refine (rlpBytes_calls A6 c6 w6.heap.size (written p' 0) w6 (by omega) (Nat.le_refl _) (Seq.of_own HO6.out)).mono ?_; rintro e7 w7 ⟨A7, c7, rfl, ho7, hb7⟩; have hs7 := hb7.size; have HO7 := Lib.hid ho7; have HB7 := Lib.hid (HB6.out.trans (hb7.mono hs6)); clear ho7 hb7))
                  | (go_at_call 83; (refine (stands_calls w3.heap.size (A4, c4, br) w7 (HT5.out.below HB7.out HT5.out.size) (by omega) (by show br.length ≤ _; omega) (HQ5.out.below HB7.out)).mono ?_; rintro e8 w8 ⟨⟨As, cs, ls⟩, rfl, hls, hos, hb8⟩; unfold pcV; have hls' : ls = stands hashL br := hls; subst hls'; have hs8 := hb8.size; have HO78 := Lib.hid (own_below' HO7.out hb8); have HOs := Lib.hid hos; have HB8 := Lib.hid (HB7.out.trans (hb8.mono (by omega))); clear hls hos hb8))
                  | (go_at_call 80; (refine (list2 _ _ A7 As c7 cs (bytesM (written p' 0)) (stands hashL br) w8 (by omega) (by omega) HO78.out HOs.out).mono ?_; rintro e9 w9 ⟨A9, c9, rfl, ho9, hb9⟩; have hs9 := hb9.size; rw [size_alloc] at hs9; have HO9 := Lib.hid ho9; have HB9 := Lib.hid ((HB8.out.alloc (by omega) _).trans (hb9.mono (by rw [size_alloc]; omega))); clear ho9 hb9)))
                go_ret2
                have hu := HUnd.out
                have hw : w.heap.size ≤ w1.heap.size := by omega
                have e5 := HN5.out
                have ho9' : OwnP w9 (w8.alloc (.cells #[.slice A7 (bytesM (written p' 0)).length c7, .slice As (stands hashL br).length cs] 24)).heap.size (A9, c9, withM 192 (bytesM (written p' 0) ++ stands hashL br)) := HO9.out
                refine ⟨(A9, c9, withM 192 (bytesM (written p' 0) ++ stands hashL br)), A5, c5, us', by rw [← e5]; rfl, ?_, ?_, own_mono HO9.out (by rw [size_alloc]; omega), ?_, fun p hp => own_mono ((HIt5.out p hp).below HB9.out) hw, List.pairwise_cons.2 ⟨fun a ha => (apart_old (HIt5.out a ha) ho9' (by rw [size_alloc]; omega)).symm, HPw5.out⟩, HBa.out.trans ((HB14.out.trans ((HB5.out.trans (HB9.out.mono hz5)).mono hz14)).mono hw)⟩
                · rw [HEnc.out]
                  unfold wrapT
                  rw [if_neg HP0.out]
                · rw [HUt5.out, hu]
                  congr 1
                  rw [← HCb.out]
                  by_cases h32 : 32 ≤ br.length <;> cases all <;> cases ob <;> simp [h32, HP0.out]
                · rw [← e5]
                  exact own_mono (own_below' HOu5.out HB9.out) hw
/-- built of any trie. -/
theorem built_calls (base M K : Nat) (all : Bool) : ∀ (t : Tr) (v : Value) (F : Nat → Prop) (Aw : Option Addr) (cw : Nat) (path : List UInt8) (on : Bool) (w : World), BuiltPre base M K t v F Aw cw path w →
    Calls Tryd.prog 51 #[v, .agg #[.slice Aw path.length cw, .bool all, .bool on]] w (BuiltPost w t all on path) := by
  intro t
  induction t with
  | nil =>
    intro v F Aw cw path on w h
    obtain ⟨rfl, _⟩ := h.tree
    exact builtNil_calls Aw cw path all on w
  | node p ks val ih =>
    intro v F Aw cw path on w h
    by_cases hlf : leafK ks = true
    · exact builtLeaf_calls base M K p ks val v F Aw cw path all on w h hlf
    · exact builtBranch_calls base M K p ks val v F Aw cw path all on w h (by simpa using hlf) (fun i v F Aw cw path on w h => ih i v F Aw cw path on w h)
end Go.Proofs.YtfhindffmghlaaaDoor
