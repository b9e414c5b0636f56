/- Pairs of a trie: the closure that calls itself. -/
import Derived.Test.YtfhindffmghlaaaDoorMTAllA
import Derived.Deep.RegionLaw
import Derived.Deep.CutRange
set_option linter.unusedVariables false
set_option linter.unusedSimpArgs false
namespace Go.Proofs.YtfhindffmghlaaaDoor
open Go.RowKit
/-- append onto a slice that has no room: a new row. -/
theorem run_append_full {P : Program} {w : World} {t ty e : TypeId} {size bytes : Nat} (el : Elem P t e size bytes) {B n : Nat} {A : Option Addr} {xs : List Value} (hxl : xs.length = n * size) (hs : Seq w B A xs)
    {B2 : Nat} {A2 : Option Addr} {m c2 : Nat} {news : List Value} (hl : news.length = m * size) (hr : Seq w B2 A2 news) (hm : 0 < m) (h63 : n + m ≤ maxLen) (hbytes : (n + m) * bytes ≤ 140737488355328) :
    ∃ c' w', (Builtin.append_ #[t, t] ty #[.slice A n n, .slice A2 m c2]).run P w = .ok (.slice (some ⟨w.heap.size, 0, none⟩) (n + m) c') w' ∧ w'.ownsRow w.heap.size e size (.slice (some ⟨w.heap.size, 0, none⟩) (n + m) c') (n + m) (xs ++ news) ∧ Below w.heap.size w w' := by
  obtain ⟨i, z, hi, hz, hs2, hb, hzs⟩ := el.row
  have hpos := el.pos
  subst hs2 hb
  obtain ⟨ad2, rfl, _, hnews⟩ := hr (by rw [hl]; exact Nat.mul_pos hm hpos)
  have hnews' : ∀ j v, news[j]? = some v → w.cell? (ad2.add j) = some v := fun j v h => by
    obtain ⟨hj, rfl⟩ := List.getElem?_eq_some_iff.1 h
    exact hnews j hj
  have hlen : (xs ++ news).length = (n + m) * i.size := by rw [List.length_append, hxl, hl, Nat.add_mul]
  have own : ∀ old, old < n + m → (w.drew.alloc (.cells (xs.toArray ++ news.toArray ++ Builtin.zeroCells z.cells (grownCap w (n + m) old e - (n + m))) e)).ownsRow w.heap.size e i.size
        (.slice (some ⟨w.heap.size, 0, none⟩) (n + m) (grownCap w (n + m) old e)) (n + m) (xs ++ news) := fun old ho => by
    have hge := grownCap_ge w (n + m) old e
    have hcm : grownCap w (n + m) old e ≤ maxLen := grownCap_le_maxLen w (n + m) old e h63
    refine ⟨hlen, .inr ⟨w.heap.size, _, _, rfl, Nat.le_refl _, heap_alloc_new w.drew _, hge, hcm, ?_, ?_⟩⟩
    · simp only [Array.size_append, List.size_toArray, size_zeroCells, hzs, hxl, hl, ← Nat.add_mul]
      congr 1
      omega
    · simp only [Array.toList_append, List.append_assoc]
      rw [← List.append_assoc, ← hlen]
      exact List.take_left
  have hb2 : ∀ o, Below w.heap.size w (w.drew.alloc o) := fun o => (below_drewN (Below.refl w.heap.size w) 1).alloc (Nat.le_refl _) o
  cases A with
  | none =>
    have hn0 : n = 0 := by
      rcases Nat.eq_zero_or_pos n with h | h
      · exact h
      · obtain ⟨ad, h1, _⟩ := hs (by rw [hxl]; exact Nat.mul_pos h hpos)
        cases h1
    subst hn0
    have hx0 : xs = [] := List.eq_nil_of_length_eq_zero (by simpa using hxl)
    subst hx0
    have hrun := run_append_nil (P := P) w t ty e i z el.slice hi hz ad2 m c2 news hl hnews' hm (by unfold maxLen at h63; omega) (by simp only [Nat.zero_add] at hbytes; omega)
    have ho := own 0 (by omega)
    simp only [Nat.zero_add, List.nil_append, Array.empty_append] at ho hrun ⊢
    exact ⟨_, _, hrun, ho, hb2 _⟩
  | some ad =>
    have holds : ∀ j v, xs[j]? = some v → w.cell? (ad.add j) = some v := fun j v h => by
      obtain ⟨hj, rfl⟩ := List.getElem?_eq_some_iff.1 h
      obtain ⟨ad', e', _, hc⟩ := hs (by omega)
      injection e' with e'
      subst e'
      exact hc j hj
    have hrun := run_append_grow (P := P) w t ty e i z el.slice hi hz ad n n xs hxl holds ad2 m c2 news hl hnews' (by omega) (by unfold maxLen at h63; omega) (growslice_fits (by omega) hbytes)
    exact ⟨_, _, hrun, own n (by omega), hb2 _⟩
theorem step_append_full {P : Program} {w : World} {ops : Array Oper} {o : Oper} {a : Act} {K : Act → World → Prop} {Q : Exit → Act → World → Prop} {E : Prop} (hg : o.guard = none) (s x : Operand) (t : TypeId)
    (ho : o.op = .call { callee := .builtin .append, args := #[s, x], argTypes := #[t, t] }) {e : TypeId} {size bytes : Nat} (el : Elem P t e size bytes)
    {B n : Nat} {A : Option Addr} {xs : List Value} (hs : a.eval s = .slice A n n) (hxl : xs.length = n * size) (hsq : Seq w B A xs)
    {B2 : Nat} {A2 : Option Addr} {m c2 : Nat} {news : List Value} (hx : a.eval x = .slice A2 m c2) (hl : news.length = m * size) (hr : Seq w B2 A2 news) (hm : 0 < m) (h63 : n + m ≤ maxLen) (hbytes : (n + m) * bytes ≤ 140737488355328)
    (h : ∀ c' w', w'.ownsRow w.heap.size e size (.slice (some ⟨w.heap.size, 0, none⟩) (n + m) c') (n + m) (xs ++ news) → Below w.heap.size w w' → K (a.put o.dst (.slice (some ⟨w.heap.size, 0, none⟩) (n + m) c')) w') :
    if Region.wanted o (yielded ops a.tmps) = true then Oper.wp P o a w K Q else E := by
  have hw : Region.wanted o (yielded ops a.tmps) = true := by simp [Region.wanted, hg]
  rw [if_pos hw]
  obtain ⟨c', w', hrun, h2, h3⟩ := run_append_full (P := P) (ty := o.type) el (c2 := c2) hxl hsq hl hr hm h63 hbytes
  unfold Oper.wp execOp
  simp only [ho, resolve, invoke, builtin, Sem.run_bind, Sem.run_pure, Result.andThen_ok, List.map_toArray, List.map_cons, List.map_nil, hs, hx, hrun]
  exact h c' w' h2 h3
theorem full_own {w3 w7 : World} {o : Obj} {c7 : Nat} {L : List UInt8} {x : UInt8} (h : w7.ownsRow ((w3.alloc o).drewN 1).heap.size 5 1 (.slice (some ⟨((w3.alloc o).drewN 1).heap.size, 0, none⟩) (L.length + 1) c7) (L.length + 1) (bytes L ++ bytes [x])) :
    SeqB w7 (some ⟨w3.heap.size + 1, 0, none⟩) (L ++ [x]) ∧ L.length + 1 ≤ c7 ∧ c7 ≤ maxLen := by
  have hz : ((w3.alloc o).drewN 1).heap.size = w3.heap.size + 1 := size_alloc w3 o
  rw [hz, ← bytes_append] at h
  exact ⟨SeqB.of_own h, own_cap h, own_capM h⟩
theorem join2 {base : Nat} {A1 A2 : Option Addr} {c1 c2 : Nat} {p q : List UInt8} {w : World} (hp : p.length ≤ 1073741824) (hq : q.length ≤ 1073741824) (h1 : SeqB w A1 p) (h2 : OwnP w base (A2, c2, q)) :
    Calls Tryd.prog 56 #[.slice (some ⟨w.heap.size, 0, none⟩) 2 2] (w.alloc (.cells #[.slice A1 p.length c1, .slice A2 q.length c2] 24))
      (Fresh (w.alloc (.cells #[.slice A1 p.length c1, .slice A2 q.length c2] 24)) (p ++ q)) := by
  have hb : Below w.heap.size w (w.alloc (.cells #[.slice A1 p.length c1, .slice A2 q.length c2] 24)) := (Below.refl _ _).alloc (Nat.le_refl _) _
  have hB : Blk (w.alloc (.cells #[.slice A1 p.length c1, .slice A2 q.length c2] 24)) w.heap.size 24 _ := Blk.new _ _ _
  have hj : joinP [(A1, c1, p), (A2, c2, q)] = p ++ q := by simp [joinP]
  have := concat_calls (some ⟨w.heap.size, 0, none⟩) 2 (w.alloc (.cells #[.slice A1 p.length c1, .slice A2 q.length c2] 24)).heap.size [(A1, c1, p), (A2, c2, q)] _ (by simp) (by rw [hj]; simp; omega) (Nat.le_refl _) (Seq.of_blk (xs := [.slice A1 p.length c1, .slice A2 q.length c2]) hB hB.lt) (fun r hr => by
    simp only [List.mem_cons, List.not_mem_nil, or_false] at hr
    rcases hr with rfl | rfl
    · exact (h1.below hb).seq
    · exact (OwnP.below h2 hb).seq)
  rw [hj] at this
  exact this
set_option maxHeartbeats 4000000 in
set_option maxRecDepth 20000 in
theorem all_calls (b0 base Bl Bf : Nat) : ∀ (t : Tr) (v : Value) (F : Nat → Prop) (D : Nat) (Ap : Option Addr) (cp : Nat) (path : List UInt8) (out : List PairL) (w : World), TreeAt w b0 t v F → Dep t D → (t = .nil ∨ path.length + D ≤ 1000) → Bnd 131072 t →
    (∀ q, gT t q ≠ [] → (path.length + q.length) % 2 = 0) → out.length + cntT t ≤ 1000000 → SeqB w Ap path → path.length ≤ cp → cp ≤ maxLen → AllAt w base Bl Bf out →
    Calls Tryd.prog 55 #[v, .slice Ap path.length cp, .pointer (some ⟨Bl, 0, none⟩), .pointer (some ⟨Bf, 0, none⟩)] w (AllPost w base Bl Bf out ((pathsT t path).map pkP)) := by
  intro t
  induction t with
  | nil =>
    intro v F D Ap cp path out w ht _ _ _ _ _ _ _ _ hA
    obtain ⟨rfl, _⟩ := ht
    have HA := Lib.hid hA
    clear hA
    go_enter Tryd.func55, Tryd.ntmps55
    go_wp2_with fail
    go_end0
    exact ⟨rfl, [], rfl, by rw [List.append_nil]; exact HA.out, PKept.refl _ _⟩
  | node p ks val ih =>
    intro v F D Ap cp path out w ht hdep hD0 hbd hev hout hsp hcp hcpm hA
    have hD : path.length + D ≤ 1000 := by
      rcases hD0 with h | h
      · cases h
      · exact h
    clear hD0
    have hkt := fun i => hdep.kid i
    obtain ⟨hd1, hd2⟩ := hdep
    obtain ⟨-, hnp, hvl, hbk⟩ := hbd
    obtain ⟨g, pp, vp, kv, Fk, rfl, hg, hblk, hpp, hpo, hvp, hvo, hvn, hkids, -, -, -⟩ := ht
    subst hpp hvp
    obtain ⟨App, cpp, lp⟩ := pp
    obtain ⟨Av, cv, lv⟩ := vp
    have HIh := Lib.hid ih
    have HA := Lib.hid hA
    have HB := Lib.hid hblk
    have HSp := Lib.hid hsp
    have HPo := Lib.hid hpo
    have HVo := Lib.hid hvo
    have HK := Lib.hid hkids
    have HEv := Lib.hid hev
    have HKt := Lib.hid hkt
    have HBk := Lib.hid hbk
    have HNp := Lib.hid hnp
    clear hnp
    have q0 : w.cell? ⟨g, 0, none⟩ = some (.slice App lp.length cpp) := hblk.at_ 0 (by omega)
    have hplen : path.length + lp.length ≤ 1000 := by simp only at hd1; omega
    have hj := join2 (A1 := Ap) (c1 := cp) (p := path) (q := lp) (A2 := App) (c2 := cpp) (by omega) (by omega) hsp hpo
    obtain ⟨L, hL⟩ : ∃ L, path ++ lp = L := ⟨_, rfl⟩
    rw [hL] at hj
    have hLl : L.length ≤ 1000 := by rw [← hL, List.length_append]; exact hplen
    have hLD : L.length + (D - lp.length - 1) ≤ 1000 := by rw [← hL, List.length_append]; omega
    have hLe : lv ≠ [] → L.length % 2 = 0 := fun h => by
      have := HEv.out lp (by rw [gT_self]; exact h)
      rw [← hL, List.length_append]
      exact this
    have hpaths : (pathsT (.node lp ks lv) path).map pkP = (if lv = [] then [] else [(pairUp L, lv)]) ++ ((List.range 16).map fun i => (pathsT (ks i) (L ++ [UInt8.ofNat i])).map pkP).flatten := by
      rw [paths_node, List.map_append, List.map_flatten, List.map_map, hL]
      congr 1
      split <;> rfl
    have hek : ∀ i, i < 16 → ∀ q, gT (ks i) q ≠ [] → ((L ++ [UInt8.ofNat i]).length + q.length) % 2 = 0 := fun i hi q hq => by
      have := HEv.out (lp ++ UInt8.ofNat i :: q) (by rw [gT_kid, nat8 hi]; exact hq)
      rw [← hL]
      simp only [List.length_append, List.length_cons, List.length_nil] at this ⊢
      omega
    have HPa := Lib.hid hpaths
    have HLd := Lib.hid (show ∀ i, ks i = .nil ∨ (L.length + 1) + (D - lp.length - 1) ≤ 1000 from fun i => (hd2 i).imp id (fun h => by have h2 : lp.length + 1 ≤ D := h.1; rw [← hL, List.length_append]; omega))
    clear hLD
    have HEk := Lib.hid hek
    have HLe := Lib.hid hLe
    clear hpaths hek hLe hL HEv
    have HJ := Lib.hid hj
    clear ih hA hblk hsp hpo hvo hkids hev hkt hbk hj hd1 hd2
    go_enter Tryd.func55, Tryd.ntmps55
    go_upto_region 2 with (go_at_call 56; go_loud (refine HJ.out.mono ?_; rintro e1 w1 ⟨A1, c1, rfl, ho1, hb1⟩; have HO1 := Lib.hid ho1; have HB1 := Lib.hid (((Below.refl w.heap.size w).alloc (Nat.le_refl _) (.cells #[.slice Ap path.length cp, .slice App lp.length cpp] 24)).trans (hb1.mono (by rw [size_alloc]; omega))); clear ho1 hb1))
    clear q0 HJ
    have hb1 := HB1.out
    have hz1 := hb1.size
    have q17 := (hb1.cell (p := ⟨g, 17, none⟩) HB.out.lt).trans (HB.out.at_ 17 (by omega))
    have HAw1 := Lib.hid (HA.out.below hb1)
    have HV1 := Lib.hid (HVo.out.below hb1)
    have HCnt := Lib.hid (cnt_node lp ks lv)
    have HOut := Lib.hid hout
    clear hout
    clear hb1
    obtain ⟨eb, heb⟩ : ∃ eb, (!lv.isEmpty) = eb := ⟨_, rfl⟩
    have HEb := Lib.hid heb
    clear heb
    go_cut [24] from 20 to 23 (fun v wx => v = .bool eb ∧ w1 = wx)
    case first =>
      cases eb with
      | false =>
        have hv : lv = [] := by simpa using HEb.out
        have q17b : w1.cell? ⟨g, 17, none⟩ = some (.slice none 0 0) := by
          rw [← hvn hv]
          exact q17
        clear q17 hv
        go_wp2_with fail
        go_meet
        case rel => exact ⟨rfl, rfl⟩
      | true =>
        have hv : lv ≠ [] := by simpa using HEb.out
        obtain ⟨gv, rfl, _⟩ := own_form (show w.ownsRow b0 5 1 (.slice Av lv.length cv) lv.length (bytes lv) from HVo.out) (List.length_pos_iff.2 hv)
        have q17b : w1.cell? ⟨g, 17, none⟩ = some (.slice (some ⟨gv, 0, none⟩) lv.length cv) := q17
        clear q17 hv
        go_wp2_with fail
        go_meet
        case rel => exact ⟨rfl, rfl⟩
    case rest =>
      obtain ⟨rfl, rfl⟩ := hcut
      have HVn := Lib.hid hvn
      have HQ17 := Lib.hid q17
      clear hvn q17
      go_upto_if 24 with fail
      go_cut [6, 7] from 24 to 58 (fun _ _ wx => ∃ nw : List PairL, nw.map saidP = (if lv = [] then [] else [(pairUp L, lv)]) ∧ nw.length ≤ 1 ∧ AllAt wx base Bl Bf (out ++ nw) ∧ PKept base w1 wx)
      case first =>
        cases eb with
        | false =>
          have hv : lv = [] := by simpa using HEb.out
          have HV0 := Lib.hid hv
          clear hv
          go_wp2_with fail
          go_meet
          case rel => exact ⟨[], by rw [if_pos HV0.out]; rfl, by simp, by rw [List.append_nil]; exact HAw1.out, PKept.refl _ _⟩
        | true =>
          have hv : lv ≠ [] := by simpa using HEb.out
          have hL2 := HLe.out hv
          have HV0 := Lib.hid hv
          clear hv
          obtain ⟨h, hh⟩ : ∃ h, L.length = 2 * h := ⟨L.length / 2, by omega⟩
          have ed2 : (L.length : Int) / 2 = (h : Int) := by rw [hh]; omega
          have hh1 : h ≤ 500 := by omega
          have HH := Lib.hid hh
          have hhb := Nat.le_of_eq hh
          have hhb2 := Nat.le_of_eq hh.symm
          clear hh hL2
          go_wp2_with (first
            | (go_loud (refine wpL_make rfl (.const (.int .i64 0)) (.tmp 27) 24 rfl Tryd.underlying24 infoByte rfl .i64 .i64 0 h rfl rfl (Nat.zero_le _) (by omega) (by omega) ?_); have hm := own_made w1 5 h (fun _ => .int .u8 0) (by unfold maxLen; omega); have HM1 := Lib.hid hm; clear hm))
          clear ed2
          go_loopw [6, 7] (fun v i wr => ∃ (k : Nat) (A5 : Option Addr) (c5 : Nat), 2 * k ≤ L.length ∧ i = .int .i64 (2 * k : Nat) ∧ v = .slice A5 (pairUp (L.take (2 * k))).length c5 ∧ wr.ownsRow w1.heap.size 5 1 (.slice A5 (pairUp (L.take (2 * k))).length c5) (pairUp (L.take (2 * k))).length (bytes (pairUp (L.take (2 * k)))) ∧ Below w1.heap.size w1 wr) (fun _ i _ => L.length - (intOf i).toNat)
          case atStart => exact ⟨0, _, h, by omega, rfl, rfl, HM1.out, (Below.refl w1.heap.size w1).alloc (Nat.le_refl _) _⟩
          case round =>
            clear HM1
            obtain ⟨k, A5, c5, hk, rfl, rfl, hown, hBl⟩ := hrel
            rename World => w5
            have hsz := hBl.size
            have HSL := Lib.hid (Seq.of_own HO1.out)
            by_cases hlt : 2 * k < L.length
            · have hlt2 : 2 * k + 1 < L.length := by omega
              have dk : decide (((2 * k : Nat) : Int) < (L.length : Int)) = true := decide_eq_true (by omega)
              obtain ⟨ad, rfl, _, hc0⟩ := (HSL.out.below hBl (Nat.le_refl _)).byte (2 * k) (by omega)
              obtain ⟨ad2, ha2, _, hc1⟩ := (HSL.out.below hBl (Nat.le_refl _)).byte (2 * k + 1) hlt2
              injection ha2 with ha2
              subst ha2
              have htk := pairUp_snoc L k hlt2
              have hpl := pairUp_length (L.take (2 * k))
              rw [List.length_take] at hpl
              generalize L[2 * k] = x at *
              generalize L[2 * k + 1] = y at *
              have HTk := Lib.hid htk
              have HO := Lib.hid hown
              have HBl := Lib.hid hBl
              clear htk hown hBl
              generalize pairUp (L.take (2 * k)) = M at *
              have hM : M.length ≤ 1000 := by omega
              obtain ⟨n, hn⟩ : ∃ n, 2 * k = n := ⟨_, rfl⟩
              rw [hn] at hc0 hc1 hlt hlt2 dk ⊢
              have HNk := Lib.hid hn
              clear hn hk hpl
              have ln : (n : Int) < (L.length : Int) := by omega
              have ln1 : (n : Int) + 1 < (L.length : Int) := by omega
              have hwn : IntKind.i64.wrap ((n : Int) + 1) = ((n + 1 : Nat) : Int) := by rw [IntWalk.i64_in _ (by omega)]; omega
              have ln2 : ((n + 1 : Nat) : Int) < (L.length : Int) := by omega
              have hc1' : w5.cell? ⟨ad.block, ad.off + (n + 1), none⟩ = some (.int .u8 (by8 y)) := hc1
              have l0 : (0 : Int) ≤ (n : Int) + 1 := by omega
              have e4 := wrap_shl4 x
              have e5 := u8_or (x <<< 4) y
              generalize hz : x <<< 4 ||| y = z at *
              generalize hx4 : x <<< 4 = x4 at *
              go_upto_region 7 with fail
              go_region_law (first | (refine step_append_seq rfl (.tmp 35) (.tmp 47) 24 rfl elByte rfl (own_drewN (own_alloc HO.out _) 1) rfl rfl (Seq.of_blk (xs := bytes [z]) (Blk.new' _ _ _ rfl) (Nat.lt_succ_self _)) (bytes_one _) (by unfold maxLen; omega) (by omega) (by show _ ≤ (World.alloc _ _).heap.size; rw [size_alloc]; omega) ?_; intro A7 c7 w7 ho7 hg7; have HO7 := Lib.hid ho7; have HG7 := Lib.hid hg7; clear ho7 hg7))
              all_goals
                have HB7 := Lib.hid ((HBl.out.alloc hsz (.cells #[.int .u8 (by8 z)] 5))|> (below_drewN · 1) |>.grown HG7.out (by show _ ≤ (World.alloc _ _).heap.size; rw [size_alloc]; omega) (fun g hg => (HO.out.lt g hg).1))
                clear hz hx4
                go_wp2_with fail
                exact ⟨⟨k + 1, A7, c7, by have := HNk.out; omega, by have := HNk.out; go_num, by rw [HTk.out]; simp, by have h7 := HO7.out; rw [← bytes_append] at h7; rw [HTk.out]; simpa using h7, HB7.out⟩, by simp [intOf]; omega⟩
            · have dk : decide (((2 * k : Nat) : Int) < (L.length : Int)) = false := decide_eq_false (by omega)
              have hfin : L.take (2 * k) = L := List.take_of_length_le (by omega)
              rw [hfin] at hown ⊢
              have HO := Lib.hid hown
              have HBl := Lib.hid hBl
              clear hown hBl hfin
              obtain ⟨n, hn⟩ : ∃ n, 2 * k = n := ⟨_, rfl⟩
              rw [hn] at dk hlt ⊢
              clear hn hk
              obtain ⟨K, hK⟩ : ∃ K, pairUp L = K := ⟨_, rfl⟩
              rw [hK] at HO ⊢
              have hKl : K.length ≤ 1000 := by rw [← hK]; exact Nat.le_trans (pairUp_length L) hLl
              have HK2 := Lib.hid hK
              clear hK
              have hA5 := HAw1.out.below HBl.out
              obtain ⟨Ao, co, hcell, hrow⟩ := hA5.cell
              have b0c : w5.cell? ⟨Bl, 0, none⟩ = some (.slice Ao out.length co) := hcell.cell 0
              have g17 : w5.cell? ⟨g, 17, none⟩ = some (.slice Av lv.length cv) := (HBl.out.cell (p := ⟨g, 17, none⟩) (Nat.lt_of_lt_of_le HB.out.lt hz1)).trans HQ17.out
              have hV5 := HV1.out.below HBl.out
              have HA5 := Lib.hid hA5
              have HC5 := Lib.hid hcell
              have HR5 := Lib.hid hrow
              have HV5 := Lib.hid hV5
              have hBlt := hcell.lt
              have hglt : g < w5.heap.size := Nat.lt_of_lt_of_le (Nat.lt_of_lt_of_le HB.out.lt hz1) hsz
              have hob : out.length ≤ 1000000 := by have := HOut.out; omega
              have HBd5 := Lib.hid (below_drewN (Below.refl w5.heap.size w5) 1)
              have hbase := hA5.floor
              clear hA5 hcell hrow hV5
              go_upto_region 8 with fail
              go_region_law (first
                | (refine step_append_seq rfl (.tmp 49) (.tmp 57) 34 rfl elPair rfl (own_alloc HR6.out _) rfl rfl (Seq.of_blk (xs := [.slice A5 K.length c5, .slice A6 lv.length c6]) (Blk.new' _ _ _ rfl) (Nat.lt_succ_self _)) (by simp [Value.oneCell']) (by unfold maxLen; omega) (by omega) (by rw [size_alloc]; omega) ?_; intro A8 c8 w8 ho8 hg8; have k8 := HC6.out.alloc (.cells #[.slice A5 K.length c5, .slice A6 lv.length c6] 40); have kB8 : Blk w8 Bl 34 #[.slice Ao out.length co] := (hg8.block Bl k8.lt (fun e => (by obtain ⟨cur, hcu⟩ := own_blk (own_alloc HR6.out (.cells #[.slice A5 K.length c5, .slice A6 lv.length c6] 40)) Bl e.symm; exact Blk.ne k8 hcu (by decide) rfl))).trans k8; have kc8 : w8.cell? ⟨Bl, 0, none⟩ = some (.slice Ao out.length co) := kB8.cell 0; have kf8 : w8.frozen? ⟨Bl, 0, none⟩ = false := kB8.frozen 0; have HKB8 := Lib.hid kB8; have HK8 := Lib.hid k8; have HO8 := Lib.hid ho8; have HG8 := Lib.hid hg8; clear ho8 hg8 k8 kB8)
                | (go_simp; go_at_call 54; refine (clone_calls Av cv w5.heap.size lv w5.drew (by omega) (Nat.le_refl _) (HV5.out.below HBd5.out).seq).mono ?_; rintro e6 w6 ⟨A6, c6, rfl, ho6, hb6⟩; have hb6' := HBd5.out.trans hb6; have hz6 := hb6'.size; have kb := (hb6'.cell (p := ⟨Bl, 0, none⟩) hBlt).trans b0c; have kg := (hb6'.cell (p := ⟨g, 17, none⟩) hglt).trans g17; have HO6 := Lib.hid ho6; have HR6 := Lib.hid (own_below' HR5.out hb6'); have hc6' := HC5.out.below hb6' hBlt; have kba : (w6.alloc (.cells #[.slice A5 K.length c5, .slice A6 lv.length c6] 40)).cell? ⟨Bl, 0, none⟩ = some (.slice Ao out.length co) := (hc6'.alloc _).cell 0; have HC6 := Lib.hid hc6'; clear hc6'; have HB6 := Lib.hid hb6'; clear ho6 hb6 hb6'))
              all_goals
                go_wp2_with fail
                go_meet
                case rel =>
                  have hkv : OwnP w5 w1.heap.size (A5, c5, K) := HO.out
                  have hb6a := HB6.out.alloc HB6.out.size (.cells #[.slice A5 K.length c5, .slice A6 lv.length c6] 40)
                  have hkeep : ∀ (b' : Nat) (p : Piece), OwnP w6 b' p → OwnP (w8.setCell ⟨Bl, 0, none⟩ (.slice A8 (out.length + 1) c8)) b' p := fun b' p hp => by
                    have h1 : OwnP w8 b' p := OwnP.grown (OwnP.alloc hp _) (own_alloc HR6.out (.cells #[.slice A5 K.length c5, .slice A6 lv.length c6] 40)) (by decide) HG8.out
                    exact (PKept.set (base := base) HKB8.out hbase).own h1
                  refine ⟨[((A5, c5, K), (A6, c6, lv))], ?_, by simp, ?_, ?_⟩
                  · rw [if_neg HV0.out, HK2.out]
                    rfl
                  · refine ⟨⟨A8, c8, ?_, ?_⟩, ?_, fun p hp => ?_, hbase, ?_⟩
                    · have := HKB8.out.set_ 0 (.slice A8 (out.length + 1) c8)
                      rw [List.length_append]
                      exact this
                    · have h1 : w8.ownsRow base 40 2 (.slice A8 (out.length + 1) c8) (out.length + 1) (flatP (out ++ [((A5, c5, K), (A6, c6, lv))])) := by
                        rw [flatP_append]
                        exact HO8.out
                      unfold RowP
                      rw [List.length_append]
                      exact own_only h1 (Only.setCell _ _ _) (fun e => by
                        obtain ⟨cur, hcu⟩ := own_blk h1 Bl e
                        exact Blk.ne HKB8.out hcu (by decide) rfl)
                    · have f6 := (HA5.out.fn.below HB6.out HA5.out.fn.lt).alloc (.cells #[.slice A5 K.length c5, .slice A6 lv.length c6] 40)
                      have f8 : Blk w8 Bf 93 _ := (HG8.out.block Bf f6.lt (fun e => by
                        obtain ⟨cur, hcu⟩ := own_blk (own_alloc HR6.out (.cells #[.slice A5 K.length c5, .slice A6 lv.length c6] 40)) Bf e.symm
                        exact Blk.ne f6 hcu (by decide) rfl)).trans f6
                      exact (PKept.set (base := base) HKB8.out hbase).blk f8 (by decide) (by decide)
                    · rw [pieces_app] at hp
                      rcases List.mem_append.1 hp with h | h
                      · exact hkeep base p (OwnP.below (HA5.out.own p h) HB6.out)
                      · have h2 : p = (A5, c5, K) ∨ p = (A6, c6, lv) := by simpa [piecesL] using h
                        rcases h2 with rfl | rfl
                        · exact own_mono (hkeep w1.heap.size _ (OwnP.below hkv HB6.out)) (by have := HAw1.out.floor; obtain ⟨_, _, hc, _⟩ := HAw1.out.cell; have := hc.lt; omega)
                        · exact own_mono (hkeep w5.drew.heap.size _ HO6.out) (by show base ≤ w5.heap.size; omega)
                    · rw [pieces_app, List.pairwise_append]
                      refine ⟨HA5.out.apart, ?_, fun a ha b hb => ?_⟩
                      · show [(A5, c5, K), (A6, c6, lv)].Pairwise _
                        rw [List.pairwise_cons]
                        exact ⟨fun b hb => by rw [List.mem_singleton] at hb; subst hb; exact apart_old hkv (p' := (A6, c6, lv)) HO6.out (Nat.le_refl _), List.pairwise_singleton _ _⟩
                      · have h2 : b = (A5, c5, K) ∨ b = (A6, c6, lv) := by simpa [piecesL] using hb
                        rcases h2 with rfl | rfl
                        · exact apart_old (HAw1.out.own a ha) hkv (Nat.le_refl _)
                        · exact apart_old (HA5.out.own a ha) (p' := (A6, c6, lv)) HO6.out (Nat.le_refl _)
                  · refine ((PKept.of_below (((HBl.out.trans (HB6.out.mono hsz))).alloc (by have := HB6.out.size; omega) (.cells #[.slice A5 K.length c5, .slice A6 lv.length c6] 40)) base).trans (PKept.grown HG8.out fun q hq => ?_)).trans (PKept.set HKB8.out hbase)
                    have hro := own_alloc HR6.out (.cells #[.slice A5 K.length c5, .slice A6 lv.length c6] 40)
                    exact ⟨(hro.lt q hq).1, own_blk hro q hq⟩
      case rest =>
        obtain ⟨nw0, hnw0, hnl0, hA0, hpk0⟩ := hcut
        rename World => w2
        have HNw := Lib.hid hnw0
        have HA0 := Lib.hid hA0
        have HPk := Lib.hid hpk0
        have HB2 := Lib.hid (hpk0.blk (HB.out.below HB1.out HB.out.lt) (by decide) (by decide))
        clear hnw0 hA0 hpk0
        go_upto_region 10 with (refine wpL_load rfl 97 (.tmp 61) rfl (n := 16) 1 rfl _ HB2.out (by omega) Tryd.underlying97 rfl (by kernel_rfl) ?_; rw [load_kids])
        go_loopw [8, 9, 63] (fun _ _ i wr => ∃ (j : Nat) (nw : List PairL), j ≤ 16 ∧ i = .int .i64 j ∧ nw.map saidP = (if lv = [] then [] else [(pairUp L, lv)]) ++ ((List.range j).map fun i => (pathsT (ks i) (L ++ [UInt8.ofNat i])).map pkP).flatten ∧ AllAt wr base Bl Bf (out ++ nw) ∧ PKept base w1 wr) (fun _ _ i _ => 16 - (intOf i).toNat)
        case atStart => exact ⟨0, nw0, by omega, rfl, by rw [HNw.out]; simp, HA0.out, HPk.out⟩
        case round =>
          obtain ⟨j, nw, hj, rfl, hnw, hAj, hpkj⟩ := hrel
          rename World => w3
          have HNj := Lib.hid hnw
          have HAj := Lib.hid hAj
          have HPj := Lib.hid hpkj
          clear hnw hAj hpkj
          by_cases hlt : j < 16
          · have dj : decide ((j : Int) < 16) = true := by simp; omega
            have hix : ∀ W : World, (Instr.index 97 (.agg (tab 16 kv)) (.int .i64 (j : Int))).run Tryd.prog W = .ok (kv j) W :=
              fun W => run_index_tab _ 80 _ Tryd.underlying97 Tryd.underlying80 rfl (by kernel_rfl) _ j hlt W
            have hfn := HAj.out.fn
            have kf : w3.cell? ⟨Bf, 0, none⟩ = some (.func (.func 55) #[] #[.pointer (some ⟨Bl, 0, none⟩), .pointer (some ⟨Bf, 0, none⟩)]) := hfn.cell 0
            have hflt := hfn.lt
            have ew := wrap_nat8 j (by omega)
            have hLc : (L.length : Int) ≤ (c1 : Int) := by have := own_cap HO1.out; omega
            have hL0 : (0 : Int) ≤ (L.length : Int) := by omega
            have HSL3 := Lib.hid (HPj.out.seqB (SeqB.of_own HO1.out))
            have hz3 := HPj.out.size
            generalize hx : UInt8.ofNat j = x at *
            have HX := Lib.hid hx
            clear hx hfn
            have hcount : (out ++ nw).length + cntT (ks j) ≤ 1000000 := by
              have h1 := congrArg List.length HNj.out
              have h2 := flat_cnt ks L 16 j hlt
              have h3 := HCnt.out
              have h4 := HOut.out
              have h5 : (if lv = [] then ([] : List KV) else [(pairUp L, lv)]).length ≤ 1 := by split <;> simp
              rw [List.length_map, List.length_append] at h1
              rw [List.length_append]
              omega
            have hlx : (L ++ [x]).length = L.length + 1 := by simp
            have hev : ∀ q, gT (ks j) q ≠ [] → ((L ++ [x]).length + q.length) % 2 = 0 := fun q hq => by rw [← HX.out]; exact HEk.out j hlt q hq
            have htr := HPj.out.tree ((HK.out j hlt).below HB1.out)
            have hcall := fun (W : World) (A7 : Option Addr) (c7 : Nat) (hb : Below w3.heap.size w3 W) (hs : SeqB W A7 (L ++ [x])) (hc : (L ++ [x]).length ≤ c7) (hcm : c7 ≤ maxLen) =>
              HIh.out j (kv j) (Fk j) (D - lp.length - 1) A7 c7 (L ++ [x]) (out ++ nw) W (htr.below hb) (HKt.out j) (by rw [hlx]; exact HLd.out j) (HBk.out j) hev hcount hs hc hcm (HAj.out.below hb)
            rw [hlx] at hcall
            have HCall := Lib.hid hcall
            have HLx := Lib.hid hlx
            clear hcount hlx hev htr hcall
            go_upto_region 12 with fail
            go_region_law (first
              | (go_loud (refine step_append_full rfl (.tmp 74) (.tmp 77) 24 rfl elByte rfl (by rw [bytes_length, Nat.mul_one]) ((HSL3.out.seq.alloc (Nat.le_refl _) _).drewN 1) rfl rfl (Seq.of_blk (xs := bytes [x]) (Blk.new' _ _ _ rfl) (Nat.lt_succ_self _)) (by omega) (by unfold maxLen; omega) (by omega) ?_; intro c7 w7 ho7 hb7; have HF7 := Lib.hid (full_own (w3 := w3) (o := .cells #[.int .u8 (by8 x)] 5) (L := L) (x := x) ho7); have hb37 : Below w3.heap.size w3 w7 := (((Below.refl w3.heap.size w3).alloc (Nat.le_refl _) (.cells #[.int .u8 (by8 x)] 5)) |> (below_drewN · 1)).trans (hb7.mono (by show _ ≤ (World.alloc _ _).heap.size; rw [size_alloc]; omega)); have kf7 := (hb37.cell (p := ⟨Bf, 0, none⟩) hflt).trans kf; have HB37 := Lib.hid hb37; clear ho7 hb7 hb37))
              | (go_simp; go_at_call 55; go_loud (refine (HCall.out w7 (some ⟨w3.heap.size + 1, 0, none⟩) c7 HB37.out HF7.out.1 HF7.out.2.1 HF7.out.2.2).mono ?_; rintro e8 w8 ⟨rfl, nw8, hn8, hA8, hpk8⟩; have HN8 := Lib.hid hn8; have HA8 := Lib.hid hA8; have HP8 := Lib.hid hpk8; clear hn8 hA8 hpk8)))
            all_goals
              go_wp2_with fail
              refine ⟨⟨j + 1, nw ++ nw8, by omega, by go_num, ?_, by rw [← List.append_assoc]; exact HA8.out, (HPj.out.trans (PKept.of_below HB37.out base)).trans HP8.out⟩, by simp [intOf]; omega⟩
              rw [List.map_append, HNj.out, HN8.out, ← HX.out, flat_succ, List.append_assoc]
          · have dj : decide ((j : Int) < 16) = false := by simp; omega
            obtain rfl : j = 16 := by omega
            go_wp2_with fail
            go_end0
            exact ⟨rfl, nw, by rw [HNj.out, HPa.out], HAj.out, (PKept.of_below HB1.out base).trans HPj.out⟩
end Go.Proofs.YtfhindffmghlaaaDoor
