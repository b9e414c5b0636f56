/- Root, Nodes, Prove. -/
import Derived.Test.YtfhindffmghlaaaDoorMTBuiltB
import Derived.Test.YtfhindffmghlaaaDoorG17
import Derived.Deep.RegionHeld3
import Derived.Test.YtfhindffmghlaaaDoorG11
import Derived.Test.YtfhindffmghlaaaDoorG06
set_option linter.unusedVariables false
set_option linter.unusedSimpArgs false
namespace Go.Proofs.YtfhindffmghlaaaDoor
open Go.RowKit
/-- A trie whose nodes can be written. -/
structure TriePre (base M K gt : Nat) (t : Tr) (n : Nat) (F : Nat → Prop) (w : World) : Prop where
  tables : Tables w
  floor : base ≤ gt
  bound : M ≤ 1073741824
  many : cntT t ≤ K
  manyK : K ≤ 1073741824
  bnd : Bnd M t
  at_ : TrieAt w base gt t n F
section
variable {base M K gt n : Nat} {t : Tr} {F : Nat → Prop} {w w' : World}
theorem TriePre.below (h : TriePre base M K gt t n F w) (hb : Below w.heap.size w w') : TriePre base M K gt t n F w' :=
  ⟨h.tables.below hb h.tables.size, h.floor, h.bound, h.many, h.manyK, h.bnd, h.at_.below hb⟩
theorem TriePre.drew (h : TriePre base M K gt t n F w) : TriePre base M K gt t n F w.drew := h.below (below_drewN (Below.refl _ _) 1)
theorem TriePre.open_ (h : TriePre base M K gt t n F w) : ∃ o, w.cell? ⟨gt, 0, none⟩ = some (.pointer o) ∧ gt < w.heap.size ∧ ∀ (w' : World) (Aw : Option Addr) (cw : Nat) (path : List UInt8), Below w.heap.size w w' → path.length ≤ cw → cw ≤ maxLen → SeqB w' Aw path → BuiltPre base M K t (.pointer o) F Aw cw path w' := by
  obtain ⟨v, hb, ht⟩ := h.at_
  obtain ⟨o, rfl⟩ := ht.ptr
  have h1 := h.floor
  have h2 := hb.lt
  exact ⟨o, hb.cell 0, hb.lt, fun w' Aw cw path hbl hc hm hs => ⟨h.tables.below hbl h.tables.size, by have := hbl.size; omega, h.bound, h.many, h.manyK, h.bnd, ht.below hbl, hc, hm, hs⟩⟩
end
set_option maxHeartbeats 4000000 in
set_option maxRecDepth 20000 in
theorem root_calls (base M K gt : Nat) (t : Tr) (n : Nat) (F : Nat → Prop) (w : World) (h : TriePre base M K gt t n F w) :
    Calls Tryd.prog 23 #[.pointer (some ⟨gt, 0, none⟩)] w (fun e w' => e = .returned (.agg (tab 32 (hashV (hashS (encT hashL t))))) ∧ Below w.heap.size w w') := by
  have hba := (Below.refl w.heap.size w).alloc (Nat.le_refl _) (.cells (tab 32 fun _ => .int .u8 0) 23)
  have hT := h.tables
  obtain ⟨o, q0, hgt, hpre⟩ := h.open_
  have hle := encT_le hashL hashL_length t M (by have := h.bound; omega) h.bnd
  have hM := h.bound
  have hp1 := hpre _ none 0 [] hba (Nat.le_refl _) (by simp [maxLen]) SeqB.nil
  have hcall := built_calls base M K false t (.pointer o) F none 0 [] false _ hp1
  have HCall := Lib.hid hcall
  have hv1 : Blk (w.alloc (.cells (tab 32 fun _ => .int .u8 0) 23)) w.heap.size 23 (tab 32 fun _ => .int .u8 0) := Blk.new _ _ _
  have q1 : (w.alloc (.cells (tab 32 fun _ => .int .u8 0) 23)).cell? ⟨gt, 0, none⟩ = some (.pointer o) := (hba.cell (p := ⟨gt, 0, none⟩) hgt).trans q0
  have hz1 := size_alloc w (.cells (tab 32 fun _ => .int .u8 0) 23)
  have hz1a := Nat.le_of_eq hz1.symm
  have HV1 := Lib.hid hv1
  have HBa := Lib.hid hba
  have HT1 := Lib.hid (hT.below hba hT.size)
  clear hcall hp1 hpre h hT hba hv1 hz1
  go_enter Tryd.func23, Tryd.ntmps23
  go_upto_region 1 with (refine wpL_alloc rfl 23 rfl (tab 32 fun _ => .int .u8 0) (by kernel_rfl) ?_)
  generalize w.alloc (.cells (tab 32 fun _ => .int .u8 0) 23) = w1 at *
  go_wp2_with (first
    | (go_at_call 51; refine HCall.out.mono ?_; rintro e2 w2 ⟨⟨Aq, cq, lq⟩, Au, cu, us, rfl, hq, _, hoq, _, _, _, hb2⟩; unfold pcV; have hq' : lq = encT hashL t := hq; have HQ := Lib.hid hq'; have hs2 := hb2.size; have hba2 := hb2.alloc hs2 (.cells #[.slice Aq lq.length cq] 24); have HO2 := Lib.hid (OwnP.alloc hoq (.cells #[.slice Aq lq.length cq] 24)); have HT2 := Lib.hid (HT1.out.below hba2 HT1.out.size); have HB2 := Lib.hid hba2; clear hq hq' hoq hb2 hba2)
    | (go_at_call 18; (have hsum := sumF_calls (some ⟨w2.heap.size, 0, none⟩) 1 (w2.alloc (.cells #[.slice Aq lq.length cq] 24)).heap.size [(Aq, cq, lq)] (w2.alloc (.cells #[.slice Aq lq.length cq] 24)) HT2.out (by simp) (Seq.of_blk (xs := [.slice Aq lq.length cq]) (Blk.new _ _ _) (by rw [size_alloc]; exact Nat.lt_succ_self _)) (Nat.le_refl _) (fun p hp => by
        have e : p = (Aq, cq, lq) := by simpa using hp
        subst e
        exact ⟨Seq.of_own HO2.out, by show lq.length ≤ _; rw [HQ.out]; omega⟩); rw [show joinP [(Aq, cq, lq)] = encT hashL t from by rw [← HQ.out]; simp [joinP]] at hsum; refine hsum.mono ?_; clear hsum; rintro e3 w3 ⟨rfl, hb3⟩; have HB3 := Lib.hid (HB2.out.trans (hb3.mono HB2.out.size)); have HV3 := Lib.hid (HV1.out.below HB3.out HV1.out.lt); clear hb3))
    | (refine wpL_store rfl 23 (.tmp 2) (.tmp 16) rfl 0 rfl rfl HV3.out (by omega) (by kernel_rfl) (fun _ => rfl) ?_))
  exact ret_cell rfl rfl _ (HV3.out.setRow.same (over_whole _ _ _)) Tryd.underlying23 rfl (by kernel_rfl) rfl ⟨rfl, below_setRow (HBa.out.trans (HB3.out.mono (by omega))) (by omega) _⟩
/-- What Nodes and Prove answer: a row of texts of its own, all apart. -/
def TextsPost (w : World) (L : List (List UInt8)) (e : Ending) (w' : World) : Prop :=
  ∃ (A : Option Addr) (c : Nat) (us : List Piece), e = .returned (.slice A us.length c) ∧ us.map txt = L ∧ w'.ownsRow w.heap.size 24 1 (.slice A us.length c) us.length (pcs us) ∧ (∀ p ∈ us, OwnP w' w.heap.size p) ∧
    us.Pairwise (fun a b => Apart (pcV a) (pcV b)) ∧ Below w.heap.size w w'
/-- A text laid ahead of a row of texts. -/
theorem ahead_post {w w2 w8 : World} {q : Piece} {us : List Piece} {A8 : Option Addr} {c8 : Nat} {L : List (List UInt8)} (hL : (q :: us).map txt = L) (hq : OwnP w2 w.heap.size q) (hu : ∀ p ∈ us, OwnP w2 w.heap.size p) (hpw : (q :: us).Pairwise (fun a b => Apart (pcV a) (pcV b)))
    (hb : Below w.heap.size w w2) (ho : (w2.alloc (.cells #[pcV q] 24)).ownsRow w.heap.size 24 1 (.slice (some ⟨w2.heap.size, 0, none⟩) 1 1) 1 [pcV q])
    (ho8 : w8.ownsRow w.heap.size 24 1 (.slice A8 (1 + us.length) c8) (1 + us.length) ([pcV q] ++ pcs us)) (hg8 : (w2.alloc (.cells #[pcV q] 24)).grownBy w8 (Value.slice (some ⟨w2.heap.size, 0, none⟩) 1 1).ownBlock) :
    TextsPost w L (.returned (.slice A8 (1 + us.length) c8)) w8 := by
  have e : (q :: us).length = 1 + us.length := by simp; omega
  have hs := hb.size
  refine ⟨A8, c8, q :: us, by rw [e], hL, by rw [e]; exact ho8, fun p hp => ?_, hpw, (hb.alloc hs _).grown hg8 (by rw [size_alloc]; omega) (fun g hg => by simp [Value.ownBlock] at hg; omega)⟩
  rcases List.mem_cons.1 hp with rfl | hp
  · exact (hq.alloc _).grown ho (by decide) hg8
  · exact ((hu p hp).alloc _).grown ho (by decide) hg8
set_option maxHeartbeats 4000000 in
set_option maxRecDepth 20000 in
theorem nodes_calls (base M K gt : Nat) (t : Tr) (n : Nat) (F : Nat → Prop) (w : World) (h : TriePre base M K gt t n F w) :
    Calls Tryd.prog 30 #[.pointer (some ⟨gt, 0, none⟩)] w (TextsPost w (encT hashL t :: underT hashL t true false [])) := by
  obtain ⟨o, q0, hgt, hpre⟩ := h.open_
  have hp1 := hpre w none 0 [] (Below.refl _ _) (Nat.le_refl _) (by simp [maxLen]) SeqB.nil
  have hcall := built_calls base M K true t (.pointer o) F none 0 [] false _ hp1
  have HCall := Lib.hid hcall
  have hul := underT_length hashL t true false []
  have hmk := h.many
  have hkk := h.manyK
  clear hcall hp1 hpre h
  go_enter Tryd.func30, Tryd.ntmps30
  go_wp2_with (first
    | (go_at_call 51; (refine HCall.out.mono ?_; rintro e2 w2 ⟨⟨Aq, cq, lq⟩, Au, cu, us, rfl, hq, hu, hoq, hou, hit, hpw, hb2⟩; unfold pcV; have hq' : lq = encT hashL t := hq; have HQ := Lib.hid hq'; have hs2 := hb2.size; have hla := congrArg List.length hu; rw [List.length_map] at hla; have hl1 : us.length ≤ 2147483648 := (by omega); have hba2 := hb2.alloc hs2 (.cells #[.slice Aq lq.length cq] 24); have HO2 := Lib.hid hoq; have HOu := Lib.hid (own_alloc hou (.cells #[.slice Aq lq.length cq] 24)); have HIt := Lib.hid hit; have HU := Lib.hid hu; have HPw := Lib.hid hpw; have HB2 := Lib.hid hb2; have HN := Lib.hid (own_new1 w2 (.slice Aq lq.length cq) 24 w.heap.size hs2); clear hq hq' hoq hb2 hba2 hou hit hu hpw hla))
    | (at_builtin; ((refine wpL_append rfl (.tmp 15) (.tmp 16) 25 rfl elText rfl HN.out rfl (by rw [pcs_length, Nat.mul_one]) (Seq.of_own HOu.out) (pcs_one _) (by unfold maxLen; omega) (by omega) (by rw [size_alloc]; omega) ?_; intro A8 c8 w8 ho8 hg8 hv8; have HO8 := Lib.hid ho8; have HG8 := Lib.hid hg8; clear ho8 hg8 hv8))))
  go_ret
  exact ahead_post (by rw [← HQ.out, ← HU.out]; rfl) HO2.out HIt.out HPw.out HB2.out HN.out HO8.out HG8.out
set_option maxHeartbeats 4000000 in
set_option maxRecDepth 20000 in
theorem prove_calls (base M K gt : Nat) (t : Tr) (n : Nat) (F : Nat → Prop) (A : Option Addr) (c : Nat) (key : List UInt8) (w : World) (hk : key.length ≤ 140737488355328) (h : TriePre base M K gt t n F w) (hs : Seq w w.heap.size A (bytes key)) :
    Calls Tryd.prog 25 #[.pointer (some ⟨gt, 0, none⟩), .slice A key.length c] w (TextsPost w (proofT hashL t (nib key))) := by
  obtain ⟨o, q0, hgt, hpre⟩ := h.open_
  have hul := underT_length hashL t false true (nib key)
  have hmk := h.many
  have hkk := h.manyK
  have HPre := Lib.hid hpre
  have HS := Lib.hid hs
  have hbd := below_drewN (Below.refl w.heap.size w) 1
  have HBd := Lib.hid hbd
  clear hpre h hs hbd
  go_enter Tryd.func25, Tryd.ntmps25
  go_upto_region 1 with fail
  go_region_held3 (fun w' => w'.cell? ⟨gt, 0, none⟩ = some (.pointer o)) (first | exact k2 | exact k1 | exact q0 | go_keep)
    (first
      | (go_at_call 52; refine (nibbles_calls A c w.heap.size key w.drew (by omega) HS.out.drew (Nat.le_refl _)).mono ?_; rintro e1 w1 ⟨A1, c1, rfl, ho1, hb1⟩; have hb1' := HBd.out.trans hb1; have hs1 := hb1'.size; have k1 : w1.cell? ⟨gt, 0, none⟩ = some (.pointer o) := (hb1'.cell (p := ⟨gt, 0, none⟩) hgt).trans q0; have HO1 := Lib.hid ho1; have HB1 := Lib.hid hb1'; clear ho1 hb1 hb1')
      | (go_at_call 51; refine (built_calls base M K false t (.pointer o) F A1 c1 (nib key) true w1 (HPre.out w1 A1 c1 (nib key) HB1.out (own_cap HO1.out) (own_capM HO1.out) (SeqB.of_own HO1.out))).mono ?_; rintro e2 w2 ⟨⟨Aq, cq, lq⟩, Au, cu, us, rfl, hq, hu, hoq, hou, hit, hpw, hb2⟩; unfold pcV; have k2 : w2.cell? ⟨gt, 0, none⟩ = some (.pointer o) := (hb2.cell (p := ⟨gt, 0, none⟩) (by show gt < w1.heap.size; omega)).trans k1; have hq' : lq = encT hashL t := hq; have HQ := Lib.hid hq'; have hs2 := hb2.size; have hla := congrArg List.length hu; rw [List.length_map] at hla; have hl1 : us.length ≤ 2147483648 := (by omega); have HO2 := Lib.hid (own_mono hoq hs1); have HOu := Lib.hid (own_mono (own_alloc hou (.cells #[.slice Aq lq.length cq] 24)) hs1); have HIt := Lib.hid hit; have HU := Lib.hid hu; have HPw := Lib.hid hpw; have HB2 := Lib.hid (HB1.out.trans (hb2.mono hs1)); have HN := Lib.hid (own_new1 w2 (.slice Aq lq.length cq) 24 w.heap.size (by omega)); clear hq hq' hoq hb2 hou hit hu hpw hla))
  go_wp2_with (at_builtin; ((refine wpL_append rfl (.tmp 19) (.tmp 20) 25 rfl elText rfl HN.out rfl (by rw [pcs_length, Nat.mul_one]) (Seq.of_own HOu.out) (pcs_one _) (by unfold maxLen; omega) (by omega) (by rw [size_alloc]; omega) ?_; intro A8 c8 w8 ho8 hg8 hv8; have HO8 := Lib.hid ho8; have HG8 := Lib.hid hg8; clear ho8 hg8 hv8)))
  go_ret
  exact ahead_post (by rw [proofT, ← HQ.out, ← HU.out]; rfl) HO2.out (fun p hp => own_mono (HIt.out p hp) hs1) HPw.out HB2.out HN.out HO8.out HG8.out
end Go.Proofs.YtfhindffmghlaaaDoor
/- Tries as the laws hold them: Put, Get, Delete, Len, Root, Nodes, Prove on them. -/
namespace Go.Proofs.YtfhindffmghlaaaDoor
open Go.RowKit
/- How many nodes. -/
theorem sum_upd (f : Tr → Nat) (ks : Nat → Tr) (i : Nat) (t' : Tr) : ∀ n, ((List.range n).map fun j => f (upd ks i t' j)).sum + (if i < n then f (ks i) else 0) = ((List.range n).map fun j => f (ks j)).sum + (if i < n then f t' else 0)
  | 0 => by simp
  | n + 1 => by
    have ih := sum_upd f ks i t' n
    rw [List.range_succ, List.map_append, List.map_append, List.sum_append, List.sum_append]
    simp only [List.map_cons, List.map_nil, List.sum_cons, List.sum_nil, Nat.add_zero]
    by_cases hi : i = n
    · subst hi
      rw [if_neg (Nat.lt_irrefl i), if_neg (Nat.lt_irrefl i)] at ih
      rw [upd_self, if_pos (Nat.lt_succ_self i), if_pos (Nat.lt_succ_self i)]
      omega
    · rw [upd_other _ _ (fun e => hi e.symm)]
      by_cases hl : i < n
      · rw [if_pos hl, if_pos hl] at ih
        rw [if_pos (by omega), if_pos (by omega)]
        omega
      · rw [if_neg hl, if_neg hl] at ih
        rw [if_neg (by omega), if_neg (by omega)]
        omega
theorem cnt_node (p : List UInt8) (ks : Nat → Tr) (v : List UInt8) : cntT (.node p ks v) = ((List.range 16).map fun i => cntT (ks i)).sum + 1 := by rw [cntT]
theorem cnt_nil : cntT .nil = 0 := by rw [cntT]
theorem cnt_upd (p : List UInt8) (ks : Nat → Tr) (v v' : List UInt8) (i : Nat) (t' : Tr) (d : Nat) (h : cntT t' ≤ cntT (ks i) + d) : cntT (.node p (upd ks i t') v) ≤ cntT (.node p ks v') + d := by
  have := sum_upd cntT ks i t' 16
  rw [cnt_node, cnt_node]
  split at this <;> omega
theorem cnt_leaf (p v : List UInt8) : cntT (.node p noKids v) = 1 := by
  rw [cnt_node]
  have : ((List.range 16).map fun i => cntT (noKids i)).sum = 0 := by
    have h : (fun i => cntT (noKids i)) = fun _ => 0 := funext fun i => cnt_nil
    rw [h]
    rfl
  omega
theorem cnt_put : ∀ (t : Tr) (path v : List UInt8), cntT (putT t path v) ≤ cntT t + 2
  | .nil, path, v => by rw [putT_leaf, cnt_leaf]; omega
  | .node p ks val, path, v => by
    rcases put_cases p path with rfl | ⟨x, r, rfl⟩ | ⟨x, a, rfl⟩ | ⟨q, x, a, y, r, rfl, rfl, hxy⟩
    · rw [putT_end, cnt_node, cnt_node]; omega
    · rw [putT_down]
      exact cnt_upd p ks val val _ _ 2 (cnt_put _ _ _)
    · rw [putT_cut]
      have h1 := cnt_upd path noKids v v x.toNat (.node a ks val) (cntT (.node a ks val)) (by rw [show noKids x.toNat = Tr.nil from rfl, cnt_nil]; omega)
      rw [cnt_leaf] at h1
      rw [cnt_node (path ++ x :: a), ← cnt_node a ks val]
      omega
    · rw [putT_fork _ _ _ _ _ hxy]
      have h1 := cnt_upd q noKids [] [] x.toNat (.node a ks val) (cntT (.node a ks val)) (by rw [show noKids x.toNat = Tr.nil from rfl, cnt_nil]; omega)
      rw [cnt_leaf] at h1
      have h2 := cnt_upd q (upd noKids x.toNat (.node a ks val)) [] [] y.toNat (.node r noKids v) 1 (by rw [cnt_leaf]; omega)
      rw [cnt_node (q ++ x :: a), ← cnt_node a ks val]
      omega
theorem cnt_fold (p : List UInt8) (ks : Nat → Tr) (v v' : List UInt8) : cntT (foldT p ks v) ≤ cntT (.node p ks v') := by
  unfold foldT
  split
  · rw [cnt_node, cnt_node]; omega
  · split
    · rw [cnt_nil]; omega
    · rename_i i l hl
      have hi : i < 16 := ((there_mem ks i).1 (by rw [hl]; simp)).1
      split
      · rw [cnt_nil]; omega
      · rename_i kp kk kv hk
        have := cntT_kid p ks v' i hi
        rw [hk, cnt_node] at this
        rw [cnt_node]
        exact this
theorem cnt_drop : ∀ (t : Tr) (path : List UInt8), cntT (dropT t path) ≤ cntT t
  | .nil, path => by rw [dropT]; omega
  | .node p ks val, path => by
    rw [dropT_node']
    split
    · exact cnt_fold p ks [] val
    · rename_i x r _
      exact Nat.le_trans (cnt_fold p _ val val) (cnt_upd p ks val val _ _ 0 (cnt_drop _ _))
/-- From w to w' the blocks of tries from base on have turned, and there is new memory. -/
def Turned (base : Nat) (w w' : World) : Prop := ∃ G, Kept w w' G ∧ Tries w G ∧ ∀ b, G b → base ≤ b
section
variable {base B : Nat} {w w' w'' : World}
theorem Turned.refl (base : Nat) (w : World) : Turned base w w := ⟨fun _ => False, Kept.refl _ _, fun _ h => h.elim, fun _ h => h.elim⟩
theorem Turned.of_below (h : Below w.heap.size w w') (base : Nat) : Turned base w w' := ⟨fun _ => False, Kept.of_below h _, fun _ h => h.elim, fun _ h => h.elim⟩
theorem Turned.size (h : Turned base w w') : w.heap.size ≤ w'.heap.size := by
  obtain ⟨G, hk, _⟩ := h
  exact hk.size
theorem Turned.below (h : Turned base w w') (hb : base ≤ w.heap.size) : Below base w w' := by
  obtain ⟨G, hk, _, hG⟩ := h
  exact hk.below hG hb
theorem Turned.blk {g : Nat} {ty : TypeId} {cs : Array Value} (h : Turned base w w') (hb : Blk w g ty cs) (h1 : ty ≠ 99) (h2 : ty ≠ 82) : Blk w' g ty cs := by
  obtain ⟨G, hk, hN, _⟩ := h
  exact hk.blkT hN hb h1 h2
theorem Turned.trans (h : Turned base w w') (h2 : Turned base w' w'') (hb : base ≤ w.heap.size) : Turned base w w'' := by
  obtain ⟨G, hk, hN, hG⟩ := h
  obtain ⟨G2, hk2, hN2, hG2⟩ := h2
  refine ⟨fun b => (G b ∨ G2 b) ∧ b < w.heap.size, ?_, ?_, fun b hb => hb.1.elim (hG b) (hG2 b)⟩
  · refine ⟨hk2.os.trans hk.os, hk2.tape.trans hk.tape, hk2.output.trans hk.output, Nat.le_trans hk.size hk2.size, fun g hg hn => ?_⟩
    have n1 : ¬ G g := fun h => hn ⟨Or.inl h, hg⟩
    have n2 : ¬ G2 g := fun h => hn ⟨Or.inr h, hg⟩
    exact (hk2.block g (Nat.lt_of_lt_of_le hg hk.size) n2).trans (hk.block g hg n1)
  · rintro b ⟨hb1, hb2⟩
    by_cases hGb : G b
    · exact hN b hGb
    · have hG2b : G2 b := hb1.resolve_left hGb
      obtain ⟨cs, hc⟩ := hN2 b hG2b
      have e := hk.block b hb2 hGb
      rcases hc with hc | hc
      · exact ⟨cs, Or.inl (e.symm.trans hc)⟩
      · exact ⟨cs, Or.inr (e.symm.trans hc)⟩
theorem SeqB.turned {A : Option Addr} {l : List UInt8} (h : SeqB w A l) (ht : Turned base w w') : SeqB w' A l := h.keep fun _ _ hb => ht.blk hb (by decide) (by decide)
theorem own_turned {b0 size n : Nat} {e : TypeId} {v : Value} {xs : List Value} (h : w.ownsRow b0 e size v n xs) (ht : Turned base w w') (h1 : e ≠ 99) (h2 : e ≠ 82) : w'.ownsRow b0 e size v n xs := by
  obtain ⟨a1, a2⟩ := h
  refine ⟨a1, ?_⟩
  rcases a2 with a2 | ⟨g', cap, cur, hv, hg', hh, r⟩
  · exact .inl a2
  · exact .inr ⟨g', cap, cur, hv, hg', ht.blk hh h1 h2, r⟩
theorem OwnP.turned {b0 : Nat} {p : Piece} (h : OwnP w b0 p) (ht : Turned base w w') : OwnP w' b0 p := own_turned h ht (by decide) (by decide)
theorem Tables.turned (h : Tables w) (ht : Turned base w w') (hb : base ≤ w.heap.size) (hl : 4 < base ∧ 3 < base) : Tables w' := h.below (ht.below hb) hl
end
/-- A trie as the laws hold it. -/
structure TrieW (w : World) (base gt M K : Nat) (t : Tr) (n : Nat) : Prop where
  pre : ∃ F, TriePre base M K gt t n F w
  good : Good t
  dep : Dep t 128
  size : n ≤ 1099511627776
  low : 4 < base ∧ 3 < base
section
variable {base gt M K n : Nat} {t : Tr} {w w' : World}
theorem TrieW.below (h : TrieW w base gt M K t n) (hb : Below w.heap.size w w') : TrieW w' base gt M K t n := by
  obtain ⟨F, hp⟩ := h.pre
  exact ⟨⟨F, hp.below hb⟩, h.good, h.dep, h.size, h.low⟩
theorem TrieW.lt (h : TrieW w base gt M K t n) : base ≤ gt ∧ gt < w.heap.size := by
  obtain ⟨F, hp⟩ := h.pre
  obtain ⟨v, hb, _⟩ := hp.at_
  exact ⟨hp.floor, hb.lt⟩
theorem TrieW.tables (h : TrieW w base gt M K t n) : Tables w := by
  obtain ⟨F, hp⟩ := h.pre
  exact hp.tables
end
/-- What Put answers, and leaves. -/
def putE (key value : List UInt8) : Nat := if 64 < key.length then 260 else if value = [] then 111 else 0
def putP (t : Tr) (key value : List UInt8) : Tr := if putE key value = 0 then putT t (nib key) value else t
def putN (t : Tr) (n : Nat) (key value : List UInt8) : Nat := if putE key value = 0 then (if getT t key = [] then n + 1 else n) else n
def PutW (w : World) (base gt M K : Nat) (t : Tr) (n : Nat) (key value : List UInt8) (e : Ending) (w' : World) : Prop :=
  e = .returned (.int .i64 (putE key value : Nat)) ∧ TrieW w' base gt M (K + 2) (putP t key value) (putN t n key value) ∧ Turned base w w'
theorem TriePre.more {base M K K' gt n : Nat} {t : Tr} {F : Nat → Prop} {w : World} (h : TriePre base M K gt t n F w) (hK : K ≤ K') (hK' : K' ≤ 1073741824) : TriePre base M K' gt t n F w :=
  ⟨h.tables, h.floor, h.bound, Nat.le_trans h.many hK, hK', h.bnd, h.at_⟩
theorem TrieW.more {base M K K' gt n : Nat} {t : Tr} {w : World} (h : TrieW w base gt M K t n) (hK : K ≤ K') (hK' : K' ≤ 1073741824) : TrieW w base gt M K' t n := by
  obtain ⟨F, hp⟩ := h.pre
  exact ⟨⟨F, hp.more hK hK'⟩, h.good, h.dep, h.size, h.low⟩
theorem putW_calls (base gt M K : Nat) (t : Tr) (n : Nat) (A : Option Addr) (c : Nat) (key : List UInt8) (A2 : Option Addr) (c2 : Nat) (value : List UInt8) (w : World) (h : TrieW w base gt M K t n) (hM : 128 ≤ M) (hn : n < 1099511627776) (hK : K + 2 ≤ 1073741824) (hk : key.length ≤ 1073741824) (hv : value.length ≤ M) (hs : SeqK w A key) (hs2 : SeqB w A2 value) :
    Calls Tryd.prog 40 #[.pointer (some ⟨gt, 0, none⟩), .slice A key.length c, .slice A2 value.length c2] w (PutW w base gt M K t n key value) := by
  obtain ⟨F, hp⟩ := h.pre
  have hgt := h.lt
  have hb := hp.bound
  refine (putM_calls base gt M t n F A c key A2 c2 value w hp.floor h.size (by omega) hM hk hv hp.bnd hp.at_ hs hs2).mono ?_
  rintro e w' hpost
  unfold PutTPost at hpost
  unfold PutW putP putN
  by_cases h1 : 64 < key.length
  · rw [if_pos h1] at hpost
    have he : putE key value = 260 := by unfold putE; rw [if_pos h1]
    rw [he]
    obtain ⟨rfl, rfl⟩ := hpost
    exact ⟨rfl, by rw [if_neg (by omega), if_neg (by omega)]; exact h.more (by omega) hK, Turned.refl _ _⟩
  · rw [if_neg h1] at hpost
    by_cases h2 : value = []
    · rw [if_pos h2] at hpost
      have he : putE key value = 111 := by unfold putE; rw [if_neg h1, if_pos h2]
      rw [he]
      obtain ⟨rfl, rfl⟩ := hpost
      exact ⟨rfl, by rw [if_neg (by omega), if_neg (by omega)]; exact h.more (by omega) hK, Turned.refl _ _⟩
    · rw [if_neg h2] at hpost
      have he : putE key value = 0 := by unfold putE; rw [if_neg h1, if_neg h2]
      rw [he, if_pos rfl, if_pos rfl]
      obtain ⟨rfl, F', hat, hkept, hF⟩ := hpost
      have hTr := hp.at_.tries
      have hlow : ∀ b, footT gt F b → base ≤ b := fun b hb => by
        rcases hb with rfl | hb
        · exact hp.floor
        · obtain ⟨v, _, ht⟩ := hp.at_
          exact (ht.typed b hb).1
      have htu : Turned base w w' := ⟨footT gt F, hkept, hTr, hlow⟩
      refine ⟨rfl, ⟨⟨F', hp.tables.turned htu (by omega) h.low, hp.floor, hp.bound, Nat.le_trans (cnt_put _ _ _) (by have := hp.many; omega), hK, putT_bnd _ _ hp.bnd (by rw [nib_length]; omega) (nib_nibs key) hv, hat⟩, good_put _ h.good (nib_nibs key) h2, putT_dep _ _ h.dep (by rw [nib_length]; omega), by split <;> omega, h.low⟩, htu⟩
/-- What Delete answers, and leaves. -/
def delP (t : Tr) (key : List UInt8) : Tr := if getT t key = [] then t else dropT t (nib key)
def delN (t : Tr) (n : Nat) (key : List UInt8) : Nat := if getT t key = [] then n else n - 1
def DelW (w : World) (base gt M K : Nat) (t : Tr) (n : Nat) (key : List UInt8) (e : Ending) (w' : World) : Prop :=
  e = .returned (.bool (!(getT t key).isEmpty)) ∧ TrieW w' base gt M K (delP t key) (delN t n key) ∧ Turned base w w'
theorem delW_calls (base gt M K : Nat) (t : Tr) (n : Nat) (A : Option Addr) (c : Nat) (key : List UInt8) (w : World) (h : TrieW w base gt M K t n) (hM : 128 ≤ M) (hn1 : getT t key ≠ [] → 1 ≤ n) (hk : key.length ≤ 1073741824) (hs : SeqK w A key) :
    Calls Tryd.prog 34 #[.pointer (some ⟨gt, 0, none⟩), .slice A key.length c] w (DelW w base gt M K t n key) := by
  obtain ⟨F, hp⟩ := h.pre
  have hgt := h.lt
  refine (delete_calls base gt M 128 t n F A c key w hp.floor h.size hn1 hp.bound hM hk h.dep hp.bnd hp.at_ hs).mono ?_
  rintro e w' hpost
  unfold DelPost at hpost
  unfold DelW delP delN
  by_cases h1 : getT t key = []
  · rw [if_pos h1] at hpost
    obtain ⟨rfl, hb⟩ := hpost
    refine ⟨by rw [h1]; rfl, ?_, Turned.of_below hb _⟩
    rw [if_pos h1, if_pos h1]
    exact h.below hb
  · rw [if_neg h1] at hpost
    obtain ⟨rfl, F', hat, hkept, hF⟩ := hpost
    have hlow : ∀ b, footT gt F b → base ≤ b := fun b hb => by
      rcases hb with rfl | hb
      · exact hp.floor
      · obtain ⟨v, _, ht⟩ := hp.at_
        exact (ht.typed b hb).1
    have htu : Turned base w w' := ⟨footT gt F, hkept, hp.at_.tries, hlow⟩
    refine ⟨by rw [show (getT t key).isEmpty = false by simpa using h1]; rfl, ?_, htu⟩
    rw [if_neg h1, if_neg h1]
    exact ⟨⟨F', hp.tables.turned htu (by omega) h.low, hp.floor, hp.bound, Nat.le_trans (cnt_drop _ _) hp.many, hp.manyK, dropT_bnd _ h.dep hM hp.bnd, hat⟩, (drop_spec _ h.good (nib_nibs key) h1).1, dropT_dep _ h.dep, by have := h.size; omega, h.low⟩
theorem newW_calls (w : World) (M K : Nat) (hT : Tables w) (hM : M ≤ 1073741824) (hK : K ≤ 1073741824) : Calls Tryd.prog 37 #[] w (fun e w' => e = .returned (.pointer (some ⟨w.heap.size, 0, none⟩)) ∧ TrieW w' w.heap.size w.heap.size M K .nil 0 ∧ Below w.heap.size w w' ∧ w.heap.size + 1 ≤ w'.heap.size) := by
  refine (newT_calls w).mono ?_
  rintro e w' ⟨rfl, hat, rfl⟩
  have hb := (Below.refl w.heap.size w).alloc (Nat.le_refl _) (.cells #[.pointer none, .int .i64 0] 82)
  exact ⟨rfl, ⟨⟨_, hT.below hb hT.size, Nat.le_refl _, hM, by rw [cnt_nil]; omega, hK, trivial, hat⟩, trivial, trivial, by omega, hT.size⟩, hb, by rw [size_alloc]; omega⟩
end Go.Proofs.YtfhindffmghlaaaDoor
/- own, same of the statements of chapter 26. -/
namespace Go.Proofs.YtfhindffmghlaaaDoor
open Go.RowKit
theorem ownL_calls (A : Option Addr) (c B : Nat) (l : List UInt8) (w : World) (hl : l.length ≤ 140737488355328) (hs : Seq w B A (bytes l)) :
    Calls Tryd.prog 19 #[.slice A l.length c] w fun e w' => ∃ (A' : Option Addr) (c' : Nat), e = .returned (.slice A' l.length c') ∧ w'.ownsRow w.heap.size 5 1 (.slice A' l.length c') l.length (bytes l) ∧ Below w.heap.size w w' := by
  have HS := Lib.hid hs
  clear hs
  go_enter Tryd.func19, Tryd.ntmps19
  go_wp2_with (first
    | (at_builtin; refine wpL_append rfl (.const (.slice none 0 0)) (.tmp 3) 24 rfl elByte rfl (World.ownsRow_nil w w.heap.size 5 1) rfl (by rw [bytes_length]; simp) HS.out (bytes_one l) (by unfold maxLen; omega) (by omega) (Nat.le_refl _) ?_; intro A1 c1 w1 ho1 hg1 _; simp only [Nat.zero_add, List.nil_append] at ho1; have HO1 := Lib.hid ho1; have HB1 := Lib.hid ((Below.refl w.heap.size w).grown hg1 (Nat.le_refl _) (fun g hg => by simp [Value.ownBlock] at hg)); clear ho1 hg1))
  go_ret
  exact ⟨A1, c1, by simp, HO1.out, HB1.out⟩
theorem sameLE_calls (A : Option Addr) (c B : Nat) (l : List UInt8) (A2 : Option Addr) (c2 : Nat) (l2 : List UInt8) (w : World) (hs : Seq w B A (bytes l)) (hs2 : Seq w B A2 (bytes l2)) :
    Calls Tryd.prog 27 #[.slice A l.length c, .slice A2 l2.length c2] w fun e w' => e = .returned (.bool (l == l2)) ∧ w' = w := by
  have h1 := run_str A c B l w hs
  have h2 := run_str A2 c2 B l2 w hs2
  clear hs hs2
  go_enter Tryd.func27, Tryd.ntmps27
  go_wp2_with fail
  go_ret
  exact ⟨rfl, rfl⟩
theorem sameL_calls (A : Option Addr) (c B : Nat) (l : List UInt8) (A2 : Option Addr) (c2 : Nat) (l2 : List UInt8) (w : World) (hs : Seq w B A (bytes l)) (hs2 : Seq w B A2 (bytes l2)) :
    Calls Tryd.prog 27 #[.slice A l.length c, .slice A2 l2.length c2] w fun e w' => e = .returned (.bool (l == l2)) ∧ Below w.heap.size w w' :=
  (sameLE_calls A c B l A2 c2 l2 w hs hs2).mono fun _ _ ⟨h1, h2⟩ => ⟨h1, h2 ▸ Below.refl _ _⟩
end Go.Proofs.YtfhindffmghlaaaDoor
