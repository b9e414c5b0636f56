/- TrieHangs: each node hangs on one ahead by its hash; a proof is some of the nodes, each hanging on the one ahead. -/
import Derived.Test.YtfhindffmghlaaaDoorMTLawA
import Derived.Test.YtfhindffmghlaaaDoorMTHangP
import Derived.Test.YtfhindffmghlaaaDoorMTHolds
import Derived.Deep.RegionHeld3
import Derived.BigQuiet
import Derived.Test.YtfhindffmghlaaaDoorMTTables
import Derived.Test.YtfhindffmghlaaaDoorCards
import Derived.Deep.CutRange
import Derived.Deep.CutBlock
set_option linter.unusedVariables false
set_option linter.unusedSimpArgs false
namespace Go.Proofs.YtfhindffmghlaaaDoor
open Go.RowKit Go.ChangeShapes Go.WideShapes
attribute [local irreducible] Calls in
set_option maxHeartbeats 4000000 in
set_option maxRecDepth 20000 in
theorem hangs_walk (A : Option Addr) (c : Nat) (l : List PairL) (A2 : Option Addr) (c2 : Nat) (key : List UInt8) (w : World) (hT : Tables w) (hE : Errs w) (hLw : Lows w.heap.size)
    (hl : l.length ≤ 140737488355328) (hp : PairsIn w w.heap.size A l) (hk : key.length ≤ 140737488355328) (hs : Seq w w.heap.size A2 (bytes key)) :
    Calls Tryd.prog 9 #[.slice A l.length c, .slice A2 key.length c2] w fun e w' => e = .returned (.bool true) ∧ Below w.heap.size w w' := by
  have HT := Lib.hid hT
  have HE := Lib.hid hE
  have HLw := Lib.hid hLw
  have HP := Lib.hid hp
  have HS := Lib.hid hs
  clear hT hE hLw hp hs
  go_enter Tryd.func9, Tryd.ntmps9
  go_upto_region 3 with (go_at_call 15; refine (able_calls w HT.out HE.out HLw.out).mono ?_; rintro e1 w1 ⟨rfl, hb1⟩; have hz1 := hb1.size; have HB1 := Lib.hid hb1; clear hb1)
  go_upto_if 23 with (go_at_call 16; go_loud (refine (weight_calls A c l none 0 [] w1 hl (HP.out.now HB1.out) (by simp) Seq.none_ (by simp)).mono ?_; rintro e2 w2 ⟨n, rfl, hn, hn2, hb2⟩; have hz2 := hb2.size; have HN := Lib.hid hn; have HB2 := Lib.hid (HB1.out.trans (hb2.mono hz1)); clear hn hb2))
  · rename_i hle
    have hle' : n ≤ 131072 := by omega
    obtain ⟨hl1, hpl, _⟩ := HN.out hle'
    have d0 : decide ((131072 : Int) < (n : Int)) = false := decide_eq_false (by omega)
    by_cases h60 : l.length ≤ 60
    · have d1 : decide ((60 : Int) < (l.length : Int)) = false := decide_eq_false (by omega)
      obtain ⟨s, hsq⟩ : ∃ s, laidS (firsts l) = s := ⟨_, rfl⟩
      have hlaid := laid_calls A c l w2 (by omega) (HT.out.now HB2.out) (HP.out.now HB2.out) hpl
      rw [hsq] at hlaid
      have HLaid := Lib.hid hlaid
      have hz02 := HB2.out.size
      clear HN hlaid hpl hsq
      go_upto_region 10 with (first
        | (go_at_call 21; go_loud (refine HLaid.out.mono ?_; rintro e3 w3 ⟨rfl, ht3, hb3⟩; have hz3 := hb3.size; have HTr3 := Lib.hid ht3; have HB3 := Lib.hid (HB2.out.trans (hb3.mono hz02)); clear ht3 hb3))
        | (go_at_call 30; obtain ⟨F3, hp3⟩ := HTr3.out.pre; go_loud (refine (nodes_calls w2.heap.size 131072 600 w2.heap.size s.1 s.2 F3 w3 hp3).mono ?_; clear hp3; rintro e5 w5 ⟨A5, c5, ns, rfl, hns, hrow, hown, hap, hb5⟩; have hz5 := hb5.size; have HNs := Lib.hid hns; have HTn := Lib.hid (⟨hrow, hown, hap⟩ : TextsAt w5 w3.heap.size A5 c5 ns); have HTr5 := Lib.hid (HTr3.out.below hb5); have HB5 := Lib.hid (HB3.out.trans (hb5.mono (by omega))); clear hns hrow hown hap hb5))
        | (go_at_call 19; go_loud (refine (ownL_calls A2 c2 w.heap.size key w5 hk (HS.out.below HB5.out (Nat.le_refl _))).mono ?_; rintro e4 w4 ⟨A4, c4, rfl, ho4, hb4⟩; have hz4 := hb4.size; have HTr4 := Lib.hid (HTr5.out.below hb4); have HTn4 := Lib.hid (HTn.out.below hb4); have HSo := Lib.hid (Seq.of_own ho4); have HB4 := Lib.hid (HB5.out.trans (hb4.mono (by omega))); clear ho4 hb4))
        | (go_at_call 25; obtain ⟨F4, hp4⟩ := HTr4.out.pre; go_loud (refine (prove_calls w2.heap.size 131072 600 w2.heap.size s.1 s.2 F4 A4 c4 key w4 hk hp4 HSo.out).mono ?_; clear hp4; rintro e6 w6 ⟨A6, c6, ps, rfl, hps, hrow, hown, hap, hb6⟩; have hz6 := hb6.size; have HPs := Lib.hid hps; have HTp := Lib.hid (⟨hrow, hown, hap⟩ : TextsAt w6 w4.heap.size A6 c6 ps); have HTn6 := Lib.hid (HTn4.out.below hb6); have HTr6 := Lib.hid (HTr4.out.below hb6); have HB6 := Lib.hid (HB4.out.trans (hb6.mono (by omega))); clear hps hrow hown hap hb6)))
      obtain ⟨F6, hp6⟩ := HTr6.out.pre
      have hbd := hp6.bnd
      have hmany := hp6.many
      have hnl1 := congrArg List.length HNs.out
      have hpl1 := congrArg List.length HPs.out
      rw [List.length_map, List.length_cons] at hnl1
      rw [List.length_map] at hpl1
      unfold proofT at hpl1
      rw [List.length_cons] at hpl1
      have hul1 := underT_length hashL s.1 true false []
      have hul2 := underT_length hashL s.1 false true (nib key)
      have hnb : ns.length ≤ 1300 := by omega
      have hpb : ps.length ≤ 1300 := by omega
      have hnp : 0 < ns.length := by omega
      have hpp : 0 < ps.length := by omega
      have hnlen : ∀ p ∈ ns, p.2.2.length ≤ 262944 := fun p hp => by
        have h1 : txt p ∈ encT hashL s.1 :: underT hashL s.1 true false [] := HNs.out ▸ List.mem_map.2 ⟨p, hp, rfl⟩
        rcases List.mem_cons.1 h1 with h | h
        · have := encT_le hashL hashL_length s.1 131072 (by omega) hbd
          rw [show p.2.2 = encT hashL s.1 from h]
          omega
        · have := (underT_len hashL_length (M := 131072) (by omega) s.1 true false [] hbd _ h).2
          exact this
      have hplen : ∀ p ∈ ps, p.2.2.length ≤ 262944 := fun p hp => (proofs_len hbd HPs.out p hp).2
      have hroot := root_calls _ _ _ _ _ _ _ _ hp6
      obtain ⟨E, hE⟩ : ∃ E, hashS (encT hashL s.1) = E := ⟨_, rfl⟩
      have hrc := fun (W : World) (hb : Below w6.heap.size w6 W) => root_calls _ _ _ _ _ _ _ W (hp6.below hb)
      rw [hE] at hrc
      have HRc := Lib.hid hrc
      obtain ⟨gn, rfl, hgn, hgnb, _, _⟩ := own_form HTn6.out.row hnp
      obtain ⟨gp, rfl, hgp, hgpb, _, _⟩ := own_form HTp.out.row hpp
      have hqn := HTn6.out.seq
      have hqp := HTp.out.seq
      obtain ⟨ad0, had0, _, q0⟩ := hqn.piece 0 hnp
      injection had0 with had0
      subst had0
      obtain ⟨ad0, had0, _, r0⟩ := hqp.piece 0 hpp
      injection had0 with had0
      subst had0
      rw [addr_add] at q0 r0
      have htn0 : txt ns[0] = encT hashL s.1 := by
        have h1 : (ns.map txt)[0]? = some (encT hashL s.1) := by rw [HNs.out]; rfl
        rw [List.getElem?_map, List.getElem?_eq_getElem hnp] at h1
        simpa using h1
      have htp0 : txt ps[0] = encT hashL s.1 := by
        have h1 : (ps.map txt)[0]? = some (encT hashL s.1) := by rw [HPs.out]; rfl
        rw [List.getElem?_map, List.getElem?_eq_getElem hpp] at h1
        simpa using h1
      have hsn0 := HTn6.out.own _ (List.getElem_mem hnp)
      have hsp0 := HTp.out.own _ (List.getElem_mem hpp)
      have hln0 := hnlen _ (List.getElem_mem hnp)
      obtain ⟨n0, hn0⟩ : ∃ p, ns[0] = p := ⟨_, rfl⟩
      obtain ⟨p0, hp0⟩ : ∃ p, ps[0] = p := ⟨_, rfl⟩
      rw [hn0] at q0 htn0 hsn0 hln0
      rw [hp0] at r0 htp0 hsp0
      obtain ⟨An, cn, ln⟩ := n0
      obtain ⟨Ap, cp, lp⟩ := p0
      have htn0 : ln = encT hashL s.1 := htn0
      have htp0 : lp = encT hashL s.1 := htp0
      have hpn : (lp == ln) = true := by rw [htn0, htp0]; simp
      have heE : hashS ln = E := by rw [htn0]; exact hE
      simp only at q0 r0 hln0
      have e0 : ((ns.length : Int) == 0) = false := by rw [beq_eq_false_iff_ne]; omega
      have e1 : ((ps.length : Int) == 0) = false := by rw [beq_eq_false_iff_ne]; omega
      have ln0 : (0 : Int) < (ns.length : Int) := by omega
      have lp0 : (0 : Int) < (ps.length : Int) := by omega
      have heq := eql_hash E E
      rw [show sameH E E = true from (sameH_iff E E).2 fun _ _ => rfl] at heq
      have hgd := guard_hash
      have HSn0 := Lib.hid hsn0
      have HSp0 := Lib.hid hsp0
      have HNl := Lib.hid hnlen
      have HPl := Lib.hid hplen
      have HQn := Lib.hid hqn
      have HQp := Lib.hid hqp
      have HBd := Lib.hid hbd
      have HBd6 := Lib.hid (below_drewN (Below.refl w6.heap.size w6) 1)
      have HT6 := Lib.hid hp6.tables
      have HSm := Lib.hid (show ∀ W : World, Below w6.heap.size w6 W → Calls Tryd.prog 27 #[.slice Ap lp.length cp, .slice An ln.length cn] W (fun e w' => e = .returned (.bool true) ∧ w' = W) from fun W hb => by
        refine (sameLE_calls Ap cp w6.heap.size lp An cn ln W (hsp0.seq.below hb (Nat.le_refl _)) (hsn0.seq.below hb (Nat.le_refl _))).mono ?_
        rintro e w' ⟨rfl, rfl⟩
        exact ⟨by rw [hpn], rfl⟩)
      have HSum := Lib.hid (show ∀ (W : World) (A' : Option Addr) (c' : Nat), Tables W → Seq W W.heap.size A' (bytes ln) → Calls Tryd.prog 18 #[.slice (some ⟨W.heap.size, 0, none⟩) 1 1] (W.alloc (.cells #[.slice A' ln.length c'] 24)) (fun e w' => e = .returned (.agg (tab 32 (hashV E))) ∧ Below W.heap.size W w') from fun W A' c' h1 h2 => by
        rw [← heE]
        exact sum1_calls A' c' ln W h1 h2 (by omega))
      clear hnl1 hpl1 hul1 hul2 hnlen hplen hroot hrc hqn hqp htn0 htp0 hsn0 hsp0 hn0 hp0 hp6 hbd hmany hE heE hpn
      go_region_held3 (fun w' => w'.cell? ⟨gn, 0, none⟩ = some (.slice An ln.length cn) ∧ w'.cell? ⟨gp, 0, none⟩ = some (.slice Ap lp.length cp)) (first | exact ⟨k3a, k3b⟩ | exact ⟨k2a, k2b⟩ | exact ⟨k1a, k1b⟩ | exact ⟨q0, r0⟩ | go_keep)
        (first
          | (go_at_call 27; (refine (HSm.out w9 HB9.out).mono ?_; rintro e10 w10 ⟨rfl, rfl⟩))
          | (go_at_call 23; (refine (HRc.out w8 HB8.out).mono ?_; rintro e9 w9 ⟨rfl, hb9⟩; have hb9' := HB8.out.trans (hb9.mono HB8.out.size); have k3a := (hb9'.cell (p := ⟨gn, 0, none⟩) hgnb).trans q0; have k3b := (hb9'.cell (p := ⟨gp, 0, none⟩) hgpb).trans r0; have HB9 := Lib.hid hb9'; clear hb9 hb9'))
          | (go_at_call 18; (refine HS7.out.mono ?_; rintro e8 w8 ⟨rfl, hb8⟩; have hb8' := HB7.out.trans (hb8.mono HB7.out.size); have k2a := (hb8'.cell (p := ⟨gn, 0, none⟩) hgnb).trans q0; have k2b := (hb8'.cell (p := ⟨gp, 0, none⟩) hgpb).trans r0; have HB8 := Lib.hid hb8'; clear hb8 hb8'))
          | (go_at_call 19; (refine (ownL_calls An cn w6.heap.size ln w6.drew (by omega) (HSn0.out.seq.below HBd6.out (Nat.le_refl _))).mono ?_; rintro e7 w7 ⟨A7, c7, rfl, ho7, hb7⟩; have hb7' := HBd6.out.trans hb7; have k1a := (hb7'.cell (p := ⟨gn, 0, none⟩) hgnb).trans q0; have k1b := (hb7'.cell (p := ⟨gp, 0, none⟩) hgpb).trans r0; have HS7 := Lib.hid (HSum.out w7 A7 c7 (HT6.out.now hb7') (Seq.of_own ho7)); have HB7 := Lib.hid hb7'; clear ho7 hb7 hb7')))
      have hchain := proof_chain hashL_length s.1 (nib key) (nib_nibs key)
      have hsub := proof_sub (hash := hashL) s.1 true (nib key)
      have hhang := under_hangs hashL_length s.1
      have hul := underT_len hashL_length (M := 131072) (by omega) s.1 true false [] HBd.out
      have hns := HNs.out
      have hps := HPs.out
      unfold proofT at hps
      obtain ⟨R, hR⟩ : ∃ R, encT hashL s.1 = R := ⟨_, rfl⟩
      obtain ⟨U, hU⟩ : ∃ U, underT hashL s.1 true false [] = U := ⟨_, rfl⟩
      obtain ⟨V, hV⟩ : ∃ V, underT hashL s.1 false true (nib key) = V := ⟨_, rfl⟩
      rw [hR, hV] at hchain
      rw [hR, hU] at hhang hns
      rw [hR, hV] at hps
      rw [hV, hU] at hsub
      rw [hU] at hul
      have hj0 : ∀ k (hk : k < ns.length), 1 ≤ k → 32 ≤ ns[k].2.2.length ∧ ∃ j, ∃ hj : j < ns.length, j < k ∧ hashL ns[k].2.2 <:+: ns[j].2.2 := fun k hk h1 => by
        have e : ∀ j (hj : j < ns.length), (R :: U)[j]? = some ns[j].2.2 := fun j hj => by
          rw [← hns, List.getElem?_map, List.getElem?_eq_getElem hj]
          rfl
        have e1 := e k hk
        obtain ⟨k', rfl⟩ : ∃ k', k = k' + 1 := ⟨k - 1, by omega⟩
        rw [List.getElem?_cons_succ] at e1
        refine ⟨(hul _ (List.mem_of_getElem? e1)).1, ?_⟩
        rcases hhang k' _ e1 with h | ⟨j, y, hj, hy, h⟩
        · have e0 := e 0 (by omega)
          rw [List.getElem?_cons_zero] at e0
          refine ⟨0, by omega, by omega, ?_⟩
          rw [← Option.some.inj e0]
          exact h
        · have e2 := e (j + 1) (by omega)
          rw [List.getElem?_cons_succ, hy] at e2
          refine ⟨j + 1, by omega, by omega, ?_⟩
          rw [← Option.some.inj e2]
          exact h
      have hchn : ∀ m (hm : m + 1 < ps.length), hashL ps[m + 1].2.2 <:+: (ps[m]'(by omega)).2.2 := fun m hm => by
        have e : ∀ j (hj : j < ps.length), (R :: V)[j]? = some ps[j].2.2 := fun j hj => by
          rw [← hps, List.getElem?_map, List.getElem?_eq_getElem hj]
          rfl
        exact hchain.at_ m _ _ (e m (by omega)) (e (m + 1) hm)
      have hst : ((ps.map txt).drop 1).Sublist ((ns.map txt).drop 1) := by
        rw [hps, hns]
        exact hsub
      have HJ := Lib.hid hj0
      have HCh := Lib.hid hchn
      have HSt := Lib.hid hst
      have HB6w := HB6.out.size
      clear hchain hsub hhang hul hns hps hR hU hV hj0 hchn hst HNs HPs
      go_wp2_with fail
      go_loopw [8, 9, 10, 11] (fun i _ _ _ wr => ∃ k : Nat, 1 ≤ k ∧ k ≤ ns.length ∧ i = .int .i64 k ∧ Below w6.heap.size w6 wr) (fun i _ _ _ _ => ns.length - (intOf i).toNat)
      case atStart => exact ⟨1, by omega, hnp, rfl, HB9.out⟩
      case round =>
        obtain ⟨k, hk1, hkn, rfl, hbl⟩ := hrel
        rename World => w11
        have hz11 := hbl.size
        have HBl := Lib.hid hbl
        clear hbl
        by_cases hlt : k < ns.length
        · have dk : decide ((k : Int) < (ns.length : Int)) = true := by simp; omega
          have lk : (k : Int) < (ns.length : Int) := by omega
          obtain ⟨h32, j0, hj0, hjk, hinf⟩ := HJ.out k hlt hk1
          obtain ⟨ad1, had1, _, q1⟩ := HQn.out.piece k hlt
          injection had1 with had1
          subst had1
          rw [addr_add, Nat.zero_add] at q1
          have hnk := HTn6.out.own _ (List.getElem_mem hlt)
          have hlk := HNl.out _ (List.getElem_mem hlt)
          have HInf := Lib.hid (show ∀ f, hashS ns[k].2.2 = f → listOf f 32 <:+: ns[j0].2.2 from fun f hf => by rw [← hf]; exact hinf)
          clear hinf
          obtain ⟨nk, hnke⟩ : ∃ p, ns[k] = p := ⟨_, rfl⟩
          rw [hnke] at h32 q1 hnk hlk HInf
          clear hnke
          obtain ⟨Ak, ck, lk'⟩ := nk
          simp only at h32 q1 hlk HInf
          obtain ⟨Hk, hHk⟩ : ∃ f, hashS lk' = f := ⟨_, rfl⟩
          have hin := HInf.out Hk hHk
          have HIn := Lib.hid hin
          have HSk := Lib.hid (show ∀ (W : World) (A' : Option Addr) (c' : Nat), Tables W → Seq W W.heap.size A' (bytes lk') → Calls Tryd.prog 18 #[.slice (some ⟨W.heap.size, 0, none⟩) 1 1] (W.alloc (.cells #[.slice A' lk'.length c'] 24)) (fun e w' => e = .returned (.agg (tab 32 (hashV Hk))) ∧ Below W.heap.size W w') from fun W A' c' h1 h2 => by
            rw [← hHk]
            exact sum1_calls A' c' lk' W h1 h2 (by omega))
          have qk : ∀ W, Below w6.heap.size w6 W → W.cell? ⟨gn, k, none⟩ = some (.slice Ak lk'.length ck) := fun W hb => (hb.cell (p := ⟨gn, k, none⟩) hgnb).trans q1
          have q2 := qk w11 HBl.out
          have HQk := Lib.hid qk
          have HNk := Lib.hid hnk
          clear hin HInf hHk hnk q1 qk
          go_upto_region 16 with (first
            | (go_at_call 19; go_loud (refine (ownL_calls Ak ck w6.heap.size lk' w11 (by omega) (HNk.out.seq.below HBl.out (Nat.le_refl _))).mono ?_; rintro e7 w12 ⟨A7, c7, rfl, ho7, hb7⟩; have hb7' := HBl.out.trans (hb7.mono hz11); have HS7 := Lib.hid (HSk.out w12 A7 c7 (HT6.out.now hb7') (Seq.of_own ho7)); have HB12 := Lib.hid hb7'; clear ho7 hb7 hb7'))
            | (go_at_call 18; go_loud (refine HS7.out.mono ?_; rintro e8 w13 ⟨rfl, hb8⟩; have HB13 := Lib.hid (HB12.out.trans (hb8.mono HB12.out.size)); clear hb8))
            | (refine wpL_alloc rfl 23 rfl (tab 32 fun _ => .int .u8 0) (by kernel_rfl) ?_)
            | (refine wpL_storeA rfl 23 (.tmp 9) (.tmp 75) rfl 0 rfl rfl (Blk.new w13 _ _) (by omega) (by kernel_rfl) (fun _ => rfl) ?_; intro w14 ho hk; have hb := ho.below ((Below.refl w13.heap.size w13).alloc (Nat.le_refl _) _) (Nat.le_refl _); have HB14 := Lib.hid (HB13.out.trans (hb.mono HB13.out.size)); have HK14 := Lib.hid (hk.same (over_whole _ _ _)); clear ho hk hb))
          go_wp2_with fail
          go_loopw [10, 11] (fun f j wr => ∃ (m : Nat) (b : Bool), m ≤ k ∧ j = .int .i64 m ∧ f = .bool b ∧ (j0 < m → b = true) ∧ Blk wr w13.heap.size 23 (tab 32 (hashV Hk)) ∧ Below w6.heap.size w6 wr) (fun _ j _ => k - (intOf j).toNat)
          case atStart => exact ⟨0, false, by omega, rfl, rfl, fun h => absurd h (by omega), HK14.out, HB14.out⟩
          case round =>
            obtain ⟨m, b, hm, rfl, rfl, hjb, hx, hbl⟩ := hrel
            rename World => w15
            have HJb := Lib.hid hjb
            have HX := Lib.hid hx
            have HBl5 := Lib.hid hbl
            clear hjb hx hbl HK14 HB14
            by_cases hmk : m < k
            · have dm : decide ((m : Int) < (k : Int)) = true := decide_eq_true (by omega)
              have dm2 : decide (m < k) = true := decide_eq_true hmk
              have hmn : m < ns.length := by omega
              have lmn : (m : Int) < (ns.length : Int) := by omega
              cases b with
              | true =>
                go_upto_region 20 with fail
                go_quiet (fail)
                go_wp2_with fail
                have hbd := below_drewN (Below.refl w15.heap.size w15) nq
                exact ⟨⟨m + 1, true, by omega, by go_num, rfl, fun _ => rfl, HX.out.below hbd HX.out.lt, HBl5.out.trans (hbd.mono HBl5.out.size)⟩, by simp [intOf]; omega⟩
              | false =>
                obtain ⟨ad2, had2, _, q3⟩ := HQn.out.piece m hmn
                injection had2 with had2
                subst had2
                rw [addr_add, Nat.zero_add] at q3
                have q4 := (HBl5.out.cell (p := ⟨gn, m, none⟩) hgnb).trans q3
                have hnm := (HTn6.out.own _ (List.getElem_mem hmn)).below HBl5.out
                have hlm := HNl.out _ (List.getElem_mem hmn)
                have hin := HIn.out
                have HIm := Lib.hid (show j0 = m → listOf Hk 32 <:+: ns[m].2.2 from fun e => by subst e; exact hin)
                clear q3 hin
                obtain ⟨nm, hnme⟩ : ∃ p, ns[m] = p := ⟨_, rfl⟩
                rw [hnme] at q4 hnm hlm HIm
                clear hnme
                obtain ⟨Am, cm, lm⟩ := nm
                simp only at q4 hlm HIm
                have HNm := Lib.hid hnm
                have hu42 := Tryd.underlying23
                have hi42 : (Tryd.prog.info? 23).map (·.size) = some (tab 32 (hashV Hk)).toList.length := by
                  rw [show (tab 32 (hashV Hk)).toList.length = 32 by simp [tab]]
                  kernel_rfl
                have hbd := below_drewN (Below.refl w15.heap.size w15) 1
                have HBd5 := Lib.hid hbd
                clear hnm hbd
                go_upto_region 20 with fail
                go_region_held3 (fun w' => w'.cell? ⟨gn, m, none⟩ = some (.slice Am lm.length cm) ∧ w'.rangeAt w13.heap.size 0 (tab 32 (hashV Hk)).toList) (first | exact ⟨k1a, rangeAt_blk k1b⟩ | exact ⟨q4, rangeAt_blk HX.out⟩ | go_keep)
                  (first
                    | (go_at_call 31; (refine (holds_calls Hk Am cm lm w15.drew (by omega) (HNm.out.seq.now HBd5.out)).mono ?_; rintro e16 w16 ⟨r, rfl, hr, hb16⟩; have hb16' := HBd5.out.trans hb16; have k1a := (hb16'.cell (p := ⟨gn, m, none⟩) (Nat.lt_of_lt_of_le hgnb HBl5.out.size)).trans q4; have k1b := HX.out.below hb16' HX.out.lt; have HR := Lib.hid hr; have HB16 := Lib.hid hb16'; have HX16 := Lib.hid k1b; clear hr hb16 hb16')))
                go_wp2_with fail
                refine ⟨⟨m + 1, r, by omega, by go_num, rfl, fun h => ?_, HX16.out, HBl5.out.trans (HB16.out.mono HBl5.out.size)⟩, by simp [intOf]; omega⟩
                rcases Nat.lt_or_ge j0 m with h1 | h1
                · exact absurd (HJb.out h1) (by simp)
                · exact HR.out (HIm.out (by omega))
            · have dm2 : decide (m < k) = false := decide_eq_false hmk
              obtain rfl : b = true := HJb.out (by omega)
              have q5 := HQk.out w15 HBl5.out
              have d32 : decide ((lk'.length : Int) < 32) = false := decide_eq_false (by omega)
              go_wp2_with fail
              exact ⟨⟨k + 1, by omega, by omega, by go_num, HBl5.out⟩, by simp [intOf]; omega⟩
        · have dk : decide ((k : Int) < (ns.length : Int)) = false := by simp; omega
          go_wp2_with fail
          go_loopw [12, 13] (fun a i wr => ∃ (t m : Nat), t < ns.length ∧ m < ps.length ∧ a = .int .i64 t ∧ i = .int .i64 ((m + 1 : Nat) : Int) ∧ ((ps.map txt).drop (m + 1)).Sublist ((ns.map txt).drop (t + 1)) ∧ Below w6.heap.size w6 wr) (fun _ i _ => ps.length + 1 - (intOf i).toNat)
          case atStart => exact ⟨0, 0, hnp, hpp, rfl, rfl, HSt.out, HBl.out⟩
          case round =>
            obtain ⟨t, m, htn, hmp, rfl, rfl, hsu, hbl⟩ := hrel
            rename World => w12
            have HSu := Lib.hid hsu
            have HBl2 := Lib.hid hbl
            clear hsu hbl
            obtain ⟨m1, hm1⟩ : ∃ x, m + 1 = x := ⟨_, rfl⟩
            by_cases hlt2 : m + 1 < ps.length
            · have dm : decide (((m + 1 : Nat) : Int) < (ps.length : Int)) = true := decide_eq_true (by omega)
              have hch := HCh.out m hlt2
              have hdp : (ps.map txt).drop (m + 1) = txt ps[m + 1] :: (ps.map txt).drop (m + 1 + 1) := by
                rw [List.drop_eq_getElem_cons (by simpa using hlt2), List.getElem_map]
              have hsu := HSu.out
              rw [hdp] at hsu
              have hpm := HTp.out.own _ (List.getElem_mem hmp)
              have hpm1 := HTp.out.own _ (List.getElem_mem hlt2)
              have hlm := HPl.out _ (List.getElem_mem hmp)
              have hlm1 := HPl.out _ (List.getElem_mem hlt2)
              obtain ⟨ad1, had1, _, q1⟩ := HQp.out.piece m hmp
              injection had1 with had1
              subst had1
              obtain ⟨ad1, had1, _, r1⟩ := HQp.out.piece (m + 1) hlt2
              injection had1 with had1
              subst had1
              rw [addr_add, Nat.zero_add] at q1 r1
              obtain ⟨pm, hpe⟩ : ∃ p, ps[m] = p := ⟨_, rfl⟩
              obtain ⟨pm1, hpe1⟩ : ∃ p, ps[m + 1] = p := ⟨_, rfl⟩
              rw [hpe] at q1 hpm hlm hch
              rw [hpe1] at r1 hpm1 hlm1 hch hsu
              obtain ⟨Aa, ca, la⟩ := pm
              obtain ⟨Ab, cb, lb⟩ := pm1
              simp only at q1 r1 hlm hlm1 hch
              obtain ⟨Hb, hHb⟩ : ∃ f, hashS lb = f := ⟨_, rfl⟩
              have hin : listOf Hb 32 <:+: la := by rw [← hHb]; exact hch
              have HIn := Lib.hid hin
              have HSb := Lib.hid (show ∀ (W : World) (A' : Option Addr) (c' : Nat), Tables W → Seq W W.heap.size A' (bytes lb) → Calls Tryd.prog 18 #[.slice (some ⟨W.heap.size, 0, none⟩) 1 1] (W.alloc (.cells #[.slice A' lb.length c'] 24)) (fun e w' => e = .returned (.agg (tab 32 (hashV Hb))) ∧ Below W.heap.size W w') from fun W A' c' h1 h2 => by
                rw [← hHb]
                exact sum1_calls A' c' lb W h1 h2 (by omega))
              have hpa : ∀ W, Below w6.heap.size w6 W → W.cell? ⟨gp, m, none⟩ = some (.slice Aa la.length ca) := fun W hb => (hb.cell (p := ⟨gp, m, none⟩) hgpb).trans q1
              rw [hm1] at r1 dm
              have hpb' : ∀ W, Below w6.heap.size w6 W → W.cell? ⟨gp, m1, none⟩ = some (.slice Ab lb.length cb) := fun W hb => (hb.cell (p := ⟨gp, m1, none⟩) hgpb).trans r1
              have q2 := hpa w12 HBl2.out
              have r2 := hpb' w12 HBl2.out
              have HPa := Lib.hid hpa
              have HPb := Lib.hid hpb'
              have HOa := Lib.hid hpm
              have HOb := Lib.hid hpm1
              have HSu1 := Lib.hid hsu
              have HDp := Lib.hid hdp
              have HM1 := Lib.hid hm1
              have dm2 : decide (m1 < ps.length) = true := decide_eq_true (by omega)
              have lm : (m : Int) < (ps.length : Int) := by omega
              have lm1 : (m1 : Int) < (ps.length : Int) := by omega
              have em : IntKind.i64.wrap ((m1 : Int) - 1) = (m : Int) := by rw [IntWalk.i64_in _ (by omega)]; omega
              have hmm := Nat.le_of_eq hm1
              have hmm2 := Nat.le_of_eq hm1.symm
              rw [hm1]
              have HBd := Lib.hid (below_drewN (Below.refl w12.heap.size w12) 1)
              have hz12 := HBl2.out.size
              clear hin hHb hch hsu hdp hpm hpm1 q1 r1 hpa hpb' hpe hpe1 hm1 HSu
              go_upto_region 27 with fail
              go_region_held3 (fun w' => w'.cell? ⟨gp, m, none⟩ = some (.slice Aa la.length ca) ∧ w'.cell? ⟨gp, m1, none⟩ = some (.slice Ab lb.length cb)) (first | exact ⟨k3a, k3b⟩ | exact ⟨k2a, k2b⟩ | exact ⟨k1a, k1b⟩ | exact ⟨q2, r2⟩ | go_keep)
                (first
                  | (go_at_call 31; (refine (holds_calls Hb Aa ca la w14 (by omega) ((HOa.out.below HB14.out).seq)).mono ?_; rintro e15 w15 ⟨r, rfl, hr, hb15⟩; obtain rfl : r = true := hr HIn.out; have hb15' := HB14.out.trans (hb15.mono HB14.out.size); have k3a := HPa.out w15 hb15'; have k3b := HPb.out w15 hb15'; have HB15 := Lib.hid hb15'; clear hr hb15 hb15'))
                  | (go_at_call 18; (refine HS13.out.mono ?_; rintro e14 w14 ⟨rfl, hb14⟩; have hb14' := HB13.out.trans (hb14.mono HB13.out.size); have k2a := HPa.out w14 hb14'; have k2b := HPb.out w14 hb14'; have HB14 := Lib.hid hb14'; clear hb14 hb14'))
                  | (go_at_call 19; (refine (ownL_calls Ab cb w6.heap.size lb w12.drew (by omega) (HOb.out.seq.below (HBl2.out.trans (HBd.out.mono hz12)) (Nat.le_refl _))).mono ?_; rintro e13 w13 ⟨A7, c7, rfl, ho7, hb7⟩; have hb7' := (HBl2.out.trans (HBd.out.mono hz12)).trans (hb7.mono (show w6.heap.size ≤ w12.drew.heap.size from hz12)); have k1a := HPa.out w13 hb7'; have k1b := HPb.out w13 hb7'; have HS13 := Lib.hid (HSb.out w13 A7 c7 (HT6.out.now hb7') (Seq.of_own ho7)); have HB13 := Lib.hid hb7'; clear ho7 hb7 hb7')))
              go_wp2_with fail
              go_loopw [12] (fun a wr => ∃ u : Nat, u ≤ ns.length ∧ a = .int .i64 u ∧ (lb :: (ps.map txt).drop (m + 1 + 1)).Sublist ((ns.map txt).drop u) ∧ Below w6.heap.size w6 wr) (fun a _ => ns.length - (intOf a).toNat)
              case atStart => exact ⟨t + 1, by omega, by go_num, HSu1.out, HB15.out⟩
              case round =>
                obtain ⟨u, hu, rfl, hsu, hbl⟩ := hrel
                rename World => w16
                have hlu : u < ns.length := by
                  rcases Nat.lt_or_ge u ns.length with h | h
                  · exact h
                  · have hnil : (ns.map txt).drop u = [] := List.drop_eq_nil_of_le (by rw [List.length_map]; exact h)
                    rw [hnil] at hsu
                    cases hsu
                have hdn : (ns.map txt).drop u = txt ns[u] :: (ns.map txt).drop (u + 1) := by
                  rw [List.drop_eq_getElem_cons (by simpa using hlu), List.getElem_map]
                rw [hdn] at hsu
                have du : decide ((u : Int) < (ns.length : Int)) = true := decide_eq_true (by omega)
                have du2 : decide (u < ns.length) = true := decide_eq_true hlu
                have lu : (u : Int) < (ns.length : Int) := by omega
                have dge : decide ((u : Int) ≥ (ns.length : Int)) = false := decide_eq_false (by omega)
                have dge2 : decide (ns.length ≤ u) = false := decide_eq_false (by omega)
                obtain ⟨ad1, had1, _, q1⟩ := HQn.out.piece u hlu
                injection had1 with had1
                subst had1
                rw [addr_add, Nat.zero_add] at q1
                have hnu := (HTn6.out.own _ (List.getElem_mem hlu)).below hbl
                obtain ⟨nu, hnue⟩ : ∃ p, ns[u] = p := ⟨_, rfl⟩
                rw [hnue] at q1 hnu hsu
                obtain ⟨Au, cu, lu'⟩ := nu
                simp only at q1
                have q3 := (hbl.cell (p := ⟨gn, u, none⟩) hgnb).trans q1
                have r3 := HPb.out w16 hbl
                have HBl6 := Lib.hid hbl
                have HNu := Lib.hid hnu
                have HSu2 := Lib.hid hsu
                have HBd6' := Lib.hid (below_drewN (Below.refl w16.heap.size w16) 1)
                have hz16 := hbl.size
                clear hsu hdn hnue q1 hnu hbl
                obtain ⟨sb, hsb⟩ : ∃ sb, (lu' == lb) = sb := ⟨_, rfl⟩
                have HSmU := Lib.hid (show ∀ W : World, Below w16.heap.size w16 W → Calls Tryd.prog 27 #[.slice Au lu'.length cu, .slice Ab lb.length cb] W (fun e w' => e = .returned (.bool sb) ∧ w' = W) from fun W hb => by
                  refine (sameLE_calls Au cu W.heap.size lu' Ab cb lb W ((HNu.out.below hb).seq) (((HOb.out.below HBl6.out).below hb).seq)).mono ?_
                  rintro e w' ⟨rfl, rfl⟩
                  exact ⟨by rw [hsb], rfl⟩)
                have HSbE := Lib.hid hsb
                clear hsb
                go_upto_region 30 with fail
                go_region_held3 (fun w' => w'.cell? ⟨gn, u, none⟩ = some (.slice Au lu'.length cu) ∧ w'.cell? ⟨gp, m1, none⟩ = some (.slice Ab lb.length cb)) (first | exact ⟨q3, r3⟩ | go_keep)
                  (first
                    | (go_at_call 27; (refine (HSmU.out w16.drew HBd6'.out).mono ?_; rintro e17 w17 ⟨rfl, rfl⟩)))
                have hb17 : Below w6.heap.size w6 w16.drew := HBl6.out.trans (HBd6'.out.mono hz16)
                have HB17 := Lib.hid hb17
                clear hb17
                cases sb with
                | true =>
                  have he : lu' = lb := by simpa using HSbE.out
                  have HE := Lib.hid he
                  clear he
                  go_wp2_with fail
                  refine ⟨⟨u, m + 1, hlu, hlt2, rfl, by have := HM1.out; go_num, ?_, HB17.out⟩, by simp [intOf]; omega⟩
                  have h := HSu2.out
                  rw [show txt (Au, cu, lu') = lb from HE.out] at h
                  exact sub_take h
                | false =>
                  have he : lu' ≠ lb := by simpa using HSbE.out
                  have HE := Lib.hid he
                  clear he
                  go_wp2_with fail
                  exact ⟨⟨u + 1, by omega, by go_num, sub_skip HSu2.out HE.out, HB17.out⟩, by simp [intOf]; omega⟩
            · have dm : decide (((m + 1 : Nat) : Int) < (ps.length : Int)) = false := decide_eq_false (by omega)
              rw [hm1] at dm ⊢
              have dm2 : decide (m1 < ps.length) = false := decide_eq_false (by omega)
              go_wp2_with fail
              go_ret
              exact ⟨rfl, HB6.out.trans (HBl2.out.mono HB6w)⟩
    · have d1 : decide ((60 : Int) < (l.length : Int)) = true := decide_eq_true (by omega)
      go_wp2_with fail
      go_ret
      exact ⟨rfl, HB2.out⟩
  · rename_i hgt
    have d0 : decide ((131072 : Int) < (n : Int)) = true := decide_eq_true (by omega)
    go_wp2_with fail
    go_ret
    exact ⟨rfl, HB2.out⟩
-- CARD
set_option maxRecDepth 100000 in
theorem trieHangs_lifted (os : Os) (started : os.Started) (H : Type) (enc : TypeId × Value → H) :
    ReturnsInHanded {} Tryd.checked os 9 .any (fun w args => (Rows.trieHangsSpec.pre enc Tryd.prog Tryd.f9 [] false w args ∧ laidMetH Tryd.prog seatLaid w) ∧ sizedMet enc Tryd.prog Tryd.f9 (OpenSpec.ofChange Rows.trieHangsSpec) false w args)
      (Rows.trieHangsSpec.post enc Tryd.prog Tryd.f9 false true false false) := by
  refine returnsInHanded_of_change_and (C := Tryd.checked) (X := fun w _ => laidMetH Tryd.prog seatLaid w) (fun _ _ _ hh h => h.of_heap hh) own started (by kernel_rfl) Tryd.func9
    (ChangeSpec.witness_shaped (enc := enc) (C := Tryd.checked) (os := os) (X := fun w _ => laidMetH Tryd.prog seatLaid w) false (World.laidAll Tryd.prog os seatLaid) #[.slice none 0 0, .slice none 0 0] 8 (World.laidAll_os _ _ _)
      (World.shaped_of_ZipB (by kernel_rfl) (by kernel_rfl)) (by kernel_rfl) (by kernel_rfl) (by kernel_rfl)
      (by rw [MakeChecks.laidMetH_plain _ _ _ (by kernel_rfl)]; exact laidMet_laidAll _ (by kernel_rfl) (by kernel_rfl))) ?_
  intro W base args ds gs before hval0 hW _ hsz hL0 _
  rw [MakeChecks.laidMetH_plain _ _ _ (by kernel_rfl)] at hL0
  have hT := tables_of_laid hL0
  have hval : ∀ (j : Nat) t v, Tryd.f9.params[j]? = some t → args[j]? = some v → Value.okWide Tryd.prog W .any base t v := hval0
  have hW' := hW
  obtain ⟨p, q, hA0, hV, rfl, hfz, hnd⟩ := hW
  have hA : DataW.TrodAll enc Tryd.prog W 0 (fun _ => true) true Tryd.f9.params.toList args.toList ds p := hA0
  rw [Tryd.params9] at hA hval
  obtain ⟨v0, vs0, d0, ds0, p0, q0, hargs, rfl, rfl, h0, r0⟩ := trodAll_cons hA
  obtain ⟨v1, vs1, d1, ds1, p1, q1, rfl, rfl, rfl, h1, r1⟩ := trodAll_cons r0
  obtain ⟨rfl, rfl, rfl⟩ := trodAll_nil r1
  obtain rfl : args = #[v0, v1] := by cases args; simp_all
  obtain ⟨rfl, rfl⟩ := trodVars_none hV
  have k0 := h0
  have lt0 : ∀ x ∈ p0, x.block < W.heap.size := by obtain ⟨m, hm⟩ := k0; exact DataW.trod_lt m _ _ _ hm
  have k1 := h1
  have lt1 : ∀ x ∈ p1, x.block < W.heap.size := by obtain ⟨m, hm⟩ := k1; exact DataW.trod_lt m _ _ _ hm
  have wt0 : ∀ n ∈ d0.weights Tryd.prog 34, n ≤ reachBytes := fun n hn => by have := List.all_eq_true.1 hsz n (DataW.weights_mem_each (j := 0) (t := 34) (d := d0) (by rw [Tryd.params9]; rfl) rfl n hn); simpa using this
  obtain ⟨A0, C0, L0, rfl, hc0, hm0, hr0, hq0⟩ := open_pairs Tryd.underlying34 Tryd.underlying40 rfl rfl rfl rfl Tryd.underlying24 Tryd.underlying5 (by kernel_rfl) (by kernel_rfl) (by kernel_rfl) (by kernel_rfl) (by kernel_rfl) (hval 0 _ v0 rfl rfl) h0 wt0
  have wt1 : ∀ n ∈ d1.weights Tryd.prog 24, n ≤ reachBytes := fun n hn => by have := List.all_eq_true.1 hsz n (DataW.weights_mem_each (j := 1) (t := 24) (d := d1) (by rw [Tryd.params9]; rfl) rfl n hn); simpa using this
  obtain ⟨A1, C1, L1, rfl, hc1, hm1, hr1, hq1⟩ := open_bytes Tryd.underlying24 Tryd.underlying5 (by kernel_rfl) (by kernel_rfl) (hval 1 _ v1 rfl rfl) h1 wt1
  clear hA0 hval0
  refine (hangs_walk A0 C0 L0 A1 C1 L1 W hT.tables hT.errs hT.low (Nat.le_trans hr0 (by decide)) hq0 (Nat.le_trans hr1 (by decide)) hq1).mono fun e W' ⟨he, bel⟩ => ?_
  subst he
  exact ⟨_, rfl, _, _, _, [], _, [], hW', trodAll_mk1 (shut_bool Tryd.underlying4 _), (trodAll_cons_mk (Below.trod laidOut (by kernel_rfl) (of_decide_eq_true (by kernel_rfl)) k0 bel lt0) (trodAll_cons_mk (Below.trod laidOut (by kernel_rfl) (of_decide_eq_true (by kernel_rfl)) k1 bel lt1) trodAll_mk0)), rfl, bel.frame _, fun h => by cases h⟩
theorem trieHangs_holds : Rows.TrieHangsSaid :=
  OpenClaim.holds_of_wide 9 Tryd.f9 rfl rfl rfl rfl rfl rfl rfl ⟨rfl, rfl, rfl, rfl, rfl⟩ rfl rfl rfl rfl rfl (by kernel_rfl) Tryd.func9 (by kernel_rfl)
    (of_decide_eq_true (by kernel_rfl)) (by unfold Func.isWrapper; first | (rw [if_pos (by decide +kernel)]; kernel_rfl) | (rw [if_neg (by decide +kernel)]; exact ⟨rfl, rfl⟩))
    (fun os started H enc _ => trieHangs_lifted os started H enc)
theorem trieHangs_card : Rows.TrieHangsCardSaid :=
  Claim7.holds_tied_plain_at .later [] [.data, .data, .sentinel, .sentinel, .sentinel] true (true, "ec30def8b2b8a437d7ef0fa14b81e6223ecfebe468af8085b9789efc9ac0fbf0") false trieHangs_holds (fun _ h => by cases h) (by kernel_rfl) (fun _ h => by cases h) trieHangs_row_tie rfl ⟨rfl, rfl⟩ (by kernel_rfl) rfl
    (fun f fn hf hfn => by
      obtain rfl : f = 9 := Option.some.inj ((show Tryd.prog.funcNamed "vouch/vouchlaw26.TrieHangs" = some 9 by kernel_rfl).symm.trans hf) |>.symm
      obtain rfl : fn = Tryd.f9 := (Option.some.inj (Tryd.func9.symm.trans hfn)).symm
      exact ⟨by kernel_rfl, fun j t ht => by
        rw [Tryd.params9] at ht
        have hm : t ∈ ([34, 24] : List TypeId) := by simpa using Array.mem_of_getElem? ht
        have hall : (([34, 24] : List TypeId).all fun u => !Tryd.prog.wantsStandIn u) = true := by kernel_rfl
        exact (show Tryd.prog.wantsStandIn t = false by simpa using List.all_eq_true.1 hall t hm)⟩)
    (by kernel_rfl)
end Go.Proofs.YtfhindffmghlaaaDoor
