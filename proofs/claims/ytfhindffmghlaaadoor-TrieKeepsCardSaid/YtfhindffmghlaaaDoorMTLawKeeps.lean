/- TrieKeeps: a trie holds what a plain list would. -/
import Derived.Test.YtfhindffmghlaaaDoorMTKeepsW
import Derived.Test.YtfhindffmghlaaaDoorMTPairsC
import Derived.Deep.RegionHeld3
import Derived.Test.YtfhindffmghlaaaDoorMTTables
import Derived.Test.YtfhindffmghlaaaDoorCards
import Derived.Deep.CutRange
import Derived.Deep.CutBlock
set_option linter.unusedVariables false
set_option linter.unusedSimpArgs false
namespace Go.Proofs.YtfhindffmghlaaaDoor
open Go.RowKit Go.ChangeShapes Go.WideShapes
attribute [local irreducible] Calls in
set_option maxHeartbeats 4000000 in
set_option maxRecDepth 20000 in
theorem keeps_walk (A : Option Addr) (c : Nat) (l : List PairL) (A3 : Option Addr) (c3 : Nat) (ps : List Piece) (A2 : Option Addr) (c2 : Nat) (key : List UInt8) (w : World) (hT : Tables w) (hE : Errs w) (hLw : Lows w.heap.size)
    (hl : l.length ≤ 140737488355328) (hp : PairsIn w w.heap.size A l) (hpl : ps.length ≤ 140737488355328) (hs3 : Seq w w.heap.size A3 (pcs ps)) (hp3 : ∀ q ∈ ps, q.2.2.length ≤ q.2.1 ∧ q.2.1 ≤ maxLen ∧ q.2.2.length ≤ reachBytes ∧ Seq w w.heap.size q.1 (bytes q.2.2)) (hk : key.length ≤ 140737488355328) (hs : Seq w w.heap.size A2 (bytes key)) :
    Calls Tryd.prog 10 #[.slice A l.length c, .slice A3 ps.length c3, .slice A2 key.length c2] w fun e w' => e = .returned (.bool true) ∧ Below w.heap.size w w' := by
  have HS3 := Lib.hid hs3
  have HP3 := Lib.hid hp3
  have hp3l : ∀ p ∈ ps, p.2.2.length ≤ 140737488355328 := fun p hp => Nat.le_trans (hp3 p hp).2.2.1 (by decide)
  have HP3l := Lib.hid hp3l
  clear hs3 hp3 hp3l
  have HT := Lib.hid hT
  have HE := Lib.hid hE
  have HLw := Lib.hid hLw
  have HP := Lib.hid hp
  have HS := Lib.hid hs
  clear hT hE hLw hp hs
  go_enter Tryd.func10, Tryd.ntmps10
  go_upto_region 3 with (go_at_call 15; refine (able_calls w HT.out HE.out HLw.out).mono ?_; rintro e1 w1 ⟨rfl, hb1⟩; have hz1 := hb1.size; have HB1 := Lib.hid hb1; clear hb1)
  go_upto_if 25 with (go_at_call 16; go_loud (refine (weight_calls A c l A3 c3 ps w1 hl (HP.out.now HB1.out) hpl (HS3.out.now HB1.out) HP3l.out).mono ?_; rintro e2 w2 ⟨n, rfl, hn, hn2, hb2⟩; have hz2 := hb2.size; have HN := Lib.hid hn; have HB2 := Lib.hid (HB1.out.trans (hb2.mono hz1)); clear hn hb2))
  by_cases hle' : n ≤ 131072
  · have hle2 : (n : Int) ≤ 131072 := by omega
    obtain ⟨hl1, hplen, hps1⟩ := HN.out hle'
    have HPs1 := Lib.hid hps1
    clear hps1
    have d0 : decide ((131072 : Int) < (n : Int)) = false := decide_eq_false (by omega)
    obtain ⟨s, hsq⟩ : ∃ s, laidS (firsts l) = s := ⟨_, rfl⟩
    have hlaid := laid_calls A c l w2 (by omega) (HT.out.now HB2.out) (HP.out.now HB2.out) hplen
    rw [hsq] at hlaid
    have HLaid := Lib.hid hlaid
    have hz02 := HB2.out.size
    have halike := alike_laid (firsts l)
    have heven := laid_even (firsts l)
    rw [hsq] at halike heven
    have HAl := Lib.hid halike
    have HEv := Lib.hid heven
    have HPlen := Lib.hid hplen
    clear HN hlaid hplen hsq halike heven
    go_upto_region 7 with (first
      | (go_at_call 21; go_loud (refine HLaid.out.mono ?_; rintro e3 w3 ⟨rfl, ht3, hb3⟩; have hz3 := hb3.size; have HTr3 := Lib.hid ht3; have HB3 := Lib.hid (HB2.out.trans (hb3.mono hz02)); clear ht3 hb3))
      | (go_at_call 22; go_loud (refine (plain_calls A c l w3 (by omega) (HP.out.now HB3.out) (fun x hx => by have := HPlen.out x hx; omega)).mono ?_; rintro e4 w4 ⟨Ao, co, out, rfl, hro, hmo, hxo, hb4⟩; have hz4 := hb4.size; have HRo := Lib.hid hro; have HMo := Lib.hid hmo; have HXo := Lib.hid hxo; have HTr4 := Lib.hid (HTr3.out.below hb4); have HB4 := Lib.hid (HB3.out.trans (hb4.mono (by omega))); clear hro hmo hxo hb4)))
    have hol : out.length ≤ 300 := by
      have h1 := congrArg List.length HMo.out
      have h2 := plain_len (firsts l)
      have h3 : (firsts l).length ≤ 300 := by simp [firsts]; omega
      rw [List.length_map] at h1
      omega
    have hz03 := HB3.out.size
    have hkt : KeepT w4 w2.heap.size w2.heap.size (out.map saidP) s := ⟨HTr4.out, by rw [HMo.out]; exact HAl.out, HEv.out⟩
    have hkr : KeepR w w4 l Ao co out := ⟨own_mono HRo.out hz03, HXo.out, hol, HB4.out⟩
    have HKt := Lib.hid hkt
    have HKr := Lib.hid hkr
    clear hkt hkr HRo HMo HXo HTr4 HTr3 HAl HEv HLaid
    have hlen := keep_len HKt.out
    rw [List.length_map] at hlen
    have HLen := Lib.hid hlen
    have HPrs := Lib.hid (keep_pairs HKt.out)
    clear hlen
    go_upto_region 9 with (first
      | (go_at_call 29; go_loud (refine (pairs_calls Ap cp op Ao co out w5 (by omega) (by omega) HOp.out ((HKr.out.below' HB5.out).pairs HP.out)).mono ?_; unfold SamePost; rw [decide_eq_true HMp.out]; rintro e6 w6 ⟨rfl, hb6⟩; have HB6 := Lib.hid (HB5.out.trans (hb6.mono HB5.out.size)); clear hb6))
      | (go_at_call 32; go_loud (refine HLen.out.mono ?_; rintro e5 w5 ⟨rfl, rfl⟩))
      | (go_at_call 33; go_loud (refine HPrs.out.mono ?_; rintro e5 w5 ⟨Ap, cp, op, rfl, hmp, hop, hb5⟩; have hpn := congrArg List.length hmp; rw [List.length_map, List.length_map] at hpn; have hpn2 := Nat.le_of_eq hpn; clear hpn; have HMp := Lib.hid hmp; have HOp := Lib.hid hop; have HB5 := Lib.hid hb5; clear hmp hop hb5)))
    have hz4b := HB6.out.size
    have hsc : w.heap.size ≤ w4.heap.size := Nat.le_trans hz03 hz4
    have hk6 : KeepT w6 w2.heap.size w2.heap.size (out.map saidP) s := HKt.out.below HB6.out
    have hr6 : KeepR w w6 l Ao co out := HKr.out.below' HB6.out
    have HK6 := Lib.hid hk6
    have HR6 := Lib.hid hr6
    have hle22 : w2.heap.size ≤ w6.heap.size := by omega
    clear hk6 hr6 HKt HKr HLen HPrs HMp HOp HB5 HB6 HB4 HB3 hpn2 hol
    go_wp2_with fail
    go_loopw [8, 9, 10, 11, 12, 13, 14, 15] (fun a i _ _ _ _ _ _ wr => ∃ (k : Nat) (L : List PairL) (Al : Option Addr) (cl : Nat) (s' : Tr × Nat), k ≤ ps.length ∧ i = .int .i64 k ∧ a = .slice Al L.length cl ∧ KeepT wr w2.heap.size w2.heap.size (L.map saidP) s' ∧ KeepR w wr l Al cl L ∧ w2.heap.size ≤ wr.heap.size) (fun _ i _ _ _ _ _ _ _ => ps.length - (intOf i).toNat)
    case atStart => exact ⟨0, out, Ao, co, s, by omega, rfl, rfl, HK6.out, HR6.out, hle22⟩
    case round =>
      obtain ⟨k, L, Al, cl, s', hkp, rfl, rfl, hkt, hkr, hzr⟩ := hrel
      rename World => w7
      have hLl := hkr.len
      have hBw := hkr.below
      have HKt := Lib.hid hkt
      have HKr := Lib.hid hkr
      have HBw := Lib.hid hBw
      clear hkt hkr hBw HK6 HR6
      by_cases hlt : k < ps.length ∧ k < 300
      · obtain ⟨hlt, hlt3⟩ := hlt
        have dk : decide ((k : Int) < (ps.length : Int)) = true := decide_eq_true (by omega)
        have dk2 : decide (k < ps.length) = true := decide_eq_true hlt
        have dk3 : decide ((k : Int) < 300) = true := decide_eq_true (by omega)
        have lk : (k : Int) < (ps.length : Int) := by omega
        obtain ⟨ad, hA3, had, hc0⟩ := HS3.out.piece k hlt
        have hadk : (ad.add k).block < w.heap.size := by rw [block_add]; exact had
        have q7 := (HBw.out.cell (p := ad.add k) hadk).trans hc0
        have hgl := HPs1.out _ (List.getElem_mem hlt)
        have hsg := (HP3.out _ (List.getElem_mem hlt)).2.2.2
        obtain ⟨p, hpe⟩ : ∃ p, ps[k] = p := ⟨_, rfl⟩
        rw [hpe] at q7 hgl hsg hc0
        clear hpe
        obtain ⟨Ag, cg, g⟩ := p
        simp only at q7 hgl hsg hc0
        subst hA3
        have HC0 := Lib.hid hc0
        clear hc0
        have HSg := Lib.hid hsg
        obtain ⟨V, hV⟩ : ∃ V, getL g (L.map saidP) = V := ⟨_, rfl⟩
        have hhV : hasL g (L.map saidP) = !V.isEmpty := by rw [has_get (fun x hx => (HKt.out.alike.full x hx).1), hV]
        obtain ⟨bV, hbV⟩ : ∃ b, (!V.isEmpty) = b := ⟨_, rfl⟩
        have hin := in_calls Al cl L Ag cg g w7 (by omega) (HKr.out.pairs HP.out) (HSg.out.now HBw.out)
        unfold InPost at hin
        rw [hV, hhV, hbV] at hin
        have HIn := Lib.hid hin
        have hdel := fun (W : World) (hb : Below w7.heap.size w7 W) (Ak : Option Addr) (ck : Nat) (hs : SeqK W Ak g) => keep_del (HKt.out.below hb) Ak ck g (by omega) hs
        unfold KeepDel at hdel
        rw [hV, hbV] at hdel
        have HDel := Lib.hid hdel
        have hbb : (bV != bV) = false := by simp
        clear hV hhV hbV hin hdel hsg
        go_upto_region 15 with (first
          | (go_at_call 26; go_loud (refine HIn.out.mono ?_; rintro e8 w8 ⟨A8, c8, rfl, _, hb8⟩; have q8 := ((HBw.out.trans (hb8.mono HBw.out.size)).cell (p := ad.add k) hadk).trans ((HBw.out.cell (p := ad.add k) hadk).symm.trans q7); have HB8 := Lib.hid hb8; clear hb8))
          | (go_at_call 19; go_loud (refine (ownL_calls Ag cg w8.heap.size g w8 (by omega) (HSg.out.now (HBw.out.trans (HB8.out.mono HBw.out.size)))).mono ?_; rintro e9 w9 ⟨A9, c9, rfl, ho9, hb9⟩; have HO9 := Lib.hid (SeqB.of_own ho9).k; have HB9 := Lib.hid (HB8.out.trans (hb9.mono HB8.out.size)); clear ho9 hb9))
          | (go_at_call 34; go_loud (refine (HDel.out w9 HB9.out A9 c9 HO9.out).mono ?_; rintro e10 w10 ⟨rfl, ht10, hu10⟩; have HKt10 := Lib.hid ht10; have HTu := Lib.hid hu10; clear ht10 hu10)))
        have hu := HTu.out
        have hz9 := HB9.out.size
        have hz10 := hu.size
        have hr10 : KeepR w w10 l Al cl L := (HKr.out.below' HB9.out).turned hu (by omega) (by omega)
        have hzz : w2.heap.size ≤ w10.heap.size := by omega
        have hwz : w.heap.size ≤ w10.heap.size := by omega
        have HKr10 := Lib.hid hr10
        have HBw10 := Lib.hid hr10.below
        clear hu hr10 HTu HIn HDel HB8 HB9 HO9 q8 q7 hbb
        go_wp2_with fail
        go_loopw [12, 13] (fun v j wr => ∃ (m : Nat) (R : List PairL) (Ae : Option Addr) (ce : Nat), m ≤ L.length ∧ R = goneR g (L.take m) ∧ R.length ≤ m ∧ j = .int .i64 m ∧ v = .slice Ae R.length ce ∧ RowP wr w10.heap.size Ae ce R ∧ Below w10.heap.size w10 wr) (fun _ j _ => L.length - (intOf j).toNat)
        case atStart => exact ⟨0, [], none, 0, by omega, rfl, by simp, rfl, rfl, World.ownsRow_nil _ _ _ _, Below.refl _ _⟩
        case round =>
          obtain ⟨m, R, Ae, ce, hm, hR, hRm, rfl, rfl, hro, hbl⟩ := hrel
          rename World => w11
          have hz11 := hbl.size
          have HRo := Lib.hid hro
          have HBl := Lib.hid hbl
          have HRe := Lib.hid hR
          have q11 : w11.cell? (ad.add k) = some (.slice Ag g.length cg) := ((HBw10.out.trans (hbl.mono hwz)).cell (p := ad.add k) hadk).trans HC0.out
          clear hro hbl hR
          by_cases hml : m < L.length
          · have dm : decide ((m : Int) < (L.length : Int)) = true := decide_eq_true (by omega)
            have dm2 : decide (m < L.length) = true := decide_eq_true hml
            have lm : (m : Int) < (L.length : Int) := by omega
            have hpi := ((HKr10.out.below' HBl.out).pairs HP.out)
            obtain ⟨ad2, hAl, _, r0, r1⟩ := hpi.1.get m hml
            have hx := hpi.2 _ (List.getElem_mem hml)
            have hxm : L[m] ∈ l := HKr10.out.mem _ (List.getElem_mem hml)
            have htk := goneR_take (g := g) hml
            rw [← HRe.out] at htk
            obtain ⟨x, hxe⟩ : ∃ x, L[m] = x := ⟨_, rfl⟩
            rw [hxe] at r0 r1 hx hxm htk
            clear hpi hxe
            obtain ⟨⟨Ak, ck, lk'⟩, ⟨Av, cv, lv⟩⟩ := x
            simp only [pcV] at r0 r1
            simp only at hx htk
            subst hAl
            have hsm := fun nq => sameLE_calls Ak ck w11.heap.size lk' Ag cg g (w11.drewN nq) (hx.1.drewN nq) ((HSg.out.now (HBw10.out.trans (HBl.out.mono hwz))).drewN nq)
            have HTk := Lib.hid htk
            have HX := Lib.hid hx
            have HXm := Lib.hid hxm
            clear hx htk hxm
            by_cases he : lk' = g
            · have hb : (lk' == g) = true := by simpa using he
              rw [hb] at hsm
              have HSm := Lib.hid hsm
              rw [if_pos he] at HTk
              clear hsm he hb
              go_wp2_with fail
              go_quiet ((go_at_call 27; exact Calls.quiet_of_same (HSm.out _)))
              have hbd := below_drewN (Below.refl w11.heap.size w11) nq
              go_wp2_with fail
              exact ⟨⟨m + 1, R, Ae, ce, by omega, HTk.out.symm, by omega, by go_num, rfl, own_drewN HRo.out nq, HBl.out.trans (hbd.mono hz11)⟩, by simp [intOf]; omega⟩
            · have hb : (lk' == g) = false := by simpa using he
              rw [hb] at hsm
              have HSm := Lib.hid hsm
              rw [if_neg he] at HTk
              clear hsm he hb
              go_wp2_with fail
              go_quiet ((go_at_call 27; exact Calls.quiet_of_same (HSm.out _)))
              have hbd := below_drewN (Below.refl w11.heap.size w11) nq
              have p0 : (w11.drewN nq).cell? (ad2.add (m * 2)) = some (.slice Ak lk'.length ck) := r0
              have p1 : (w11.drewN nq).cell? ⟨(ad2.add (m * 2)).block, (ad2.add (m * 2)).off + 1, none⟩ = some (.slice Av lv.length cv) := r1
              have hro12 : RowP (w11.drewN nq) w10.heap.size Ae ce R := own_drewN HRo.out nq
              have hb12 : Below w10.heap.size w10 (w11.drewN nq) := HBl.out.trans (hbd.mono hz11)
              have HRo12 := Lib.hid hro12
              have HB12 := Lib.hid hb12
              clear hro12 hb12 hbd r0 r1
              generalize w11.drewN nq = w12 at *
              have hz12 := HB12.out.size
              go_upto_region 18 with (at_builtin; go_loud (refine wpL_append rfl (.tmp 91) (.tmp 96) 34 rfl elPair rfl (own_alloc HRo12.out _) rfl rfl (Seq.of_blk (xs := [.slice Ak lk'.length ck, .slice Av lv.length cv]) (Blk.new' _ _ _ rfl) (Nat.lt_succ_self _)) (by simp [Value.oneCell']) (by unfold maxLen; omega) (by omega) (by rw [size_alloc]; omega) ?_; intro A14 c14 w14 ho14 hg14 _; have HO14 := Lib.hid ho14; have HG14 := Lib.hid hg14; clear ho14 hg14))
              have hb14 : Below w10.heap.size w10 w14 := (HB12.out.alloc hz12 (.cells #[.slice Ak lk'.length ck, .slice Av lv.length cv] 40)).grown HG14.out (by rw [size_alloc]; omega) (fun g hg => (HRo12.out.lt g hg).1)
              have hr14 : RowP w14 w10.heap.size A14 c14 (R ++ [((Ak, ck, lk'), (Av, cv, lv))]) := by
                unfold RowP
                rw [List.length_append, List.length_singleton, flatP_append]
                exact HO14.out
              have HB14 := Lib.hid hb14
              have HR14 := Lib.hid hr14
              clear hb14 hr14 HO14 HG14
              go_wp2_with fail
              exact ⟨⟨m + 1, R ++ [((Ak, ck, lk'), (Av, cv, lv))], A14, c14, by omega, HTk.out.symm, by simp; omega, by go_num, by rw [List.length_append, List.length_singleton], HR14.out, HB14.out⟩, by simp [intOf]; omega⟩
          · have dm : decide ((m : Int) < (L.length : Int)) = false := decide_eq_false (by omega)
            have dm2 : decide (m < L.length) = false := decide_eq_false hml
            have hRL : R = goneR g L := by rw [HRe.out, List.take_of_length_le (by omega)]
            have hmap : R.map saidP = goneL g (L.map saidP) := by rw [hRL, goneR_said]
            have hkt12 : KeepT w11 w2.heap.size w2.heap.size (R.map saidP) (delP s'.1 g, delN s'.1 s'.2 g) := by
              rw [hmap]
              exact HKt10.out.below HBl.out
            have hkr12 : KeepR w w11 l Ae ce R := ⟨own_mono HRo.out hwz, fun x hx => HKr10.out.mem x (by rw [hRL] at hx; exact (List.mem_filter.1 hx).1), by omega, HBw10.out.trans (HBl.out.mono hwz)⟩
            have hget0 : getL g (R.map saidP) = [] := by rw [hmap, gone_get_self]
            have hget : ∀ (W : World) (hb : Below w11.heap.size w11 W) (Ak : Option Addr) (ck : Nat) (hs : Seq W W.heap.size Ak (bytes g)), Calls Tryd.prog 35 #[.pointer (some ⟨w2.heap.size, 0, none⟩), .slice Ak g.length ck] W (fun e w' => ∃ (A : Option Addr) (c : Nat), e = .returned (.tuple #[.slice A 0 c, .bool false]) ∧ Below W.heap.size W w') := fun W hb Ak ck hs => by
              have h1 := keep_get (hkt12.below hb) Ak ck g (by omega) hs
              rw [hget0] at h1
              refine h1.mono ?_
              rintro e w' ⟨A, c, rfl, _, hb⟩
              exact ⟨A, c, rfl, hb⟩
            have hlen := fun (W : World) (hb : Below w11.heap.size w11 W) => by
              have h1 := keep_len (hkt12.below hb)
              rw [List.length_map] at h1
              exact h1
            have HGet := Lib.hid hget
            have HLen := Lib.hid hlen
            have HKt12 := Lib.hid hkt12
            have HKr12 := Lib.hid hkr12
            have hz211 : w2.heap.size ≤ w11.heap.size := by omega
            clear hRL hmap hkt12 hkr12 hget0 hget hlen HRe HRo HKt10 HKr10 HKt HKr
            go_wp2_with (first
              | (go_at_call 19; go_loud (refine (ownL_calls Ag cg w11.heap.size g w11 (by omega) (HSg.out.now (HBw10.out.trans (HBl.out.mono hwz)))).mono ?_; rintro e12 w12 ⟨A12, c12, rfl, ho12, hb12⟩; have HO12 := Lib.hid (Seq.of_own ho12); have HB12 := Lib.hid hb12; clear ho12 hb12))
              | (go_at_call 35; go_loud (refine (HGet.out w12 HB12.out A12 c12 HO12.out).mono ?_; rintro e13 w13 ⟨A13, c13, rfl, hb13⟩; have HB13 := Lib.hid (HB12.out.trans (hb13.mono HB12.out.size)); clear hb13))
              | (go_at_call 32; go_loud (refine (HLen.out w13 HB13.out).mono ?_; rintro e14 w14 ⟨rfl, rfl⟩)))
            exact ⟨⟨k + 1, R, Ae, ce, _, by omega, by go_num, rfl, HKt12.out.below HB13.out, HKr12.out.below' HB13.out, Nat.le_trans hz211 HB13.out.size⟩, by simp [intOf]; omega⟩
      · have hex : (decide ((k : Int) < (ps.length : Int)) = false ∧ decide (k < ps.length) = false) ∨ (decide ((k : Int) < (ps.length : Int)) = true ∧ decide (k < ps.length) = true ∧ decide ((k : Int) < 300) = false) := by
          by_cases h1 : k < ps.length
          · exact Or.inr ⟨decide_eq_true (by omega), decide_eq_true h1, decide_eq_false (by omega)⟩
          · exact Or.inl ⟨decide_eq_false (by omega), decide_eq_false h1⟩
        clear hlt
        obtain ⟨V, hV⟩ : ∃ V, getL key (L.map saidP) = V := ⟨_, rfl⟩
        have hhV : hasL key (L.map saidP) = !V.isEmpty := by rw [has_get (fun x hx => (HKt.out.alike.full x hx).1), hV]
        have hget := fun (W : World) (hb : Below w7.heap.size w7 W) (Ak : Option Addr) (ck : Nat) (hs : Seq W W.heap.size Ak (bytes key)) => by
          have h1 := keep_get (HKt.out.below hb) Ak ck key hk hs
          rw [hV] at h1
          exact h1
        have hin := fun (W : World) (hb : Below w7.heap.size w7 W) => by
          have h1 := in_calls Al cl L A2 c2 key W (by omega) ((HKr.out.below' hb).pairs HP.out) (HS.out.now ((HKr.out.below' hb).below))
          unfold InPost at h1
          rw [hV, hhV] at h1
          exact h1
        have hsm := fun (W : World) (Aa Ab : Option Addr) (ca cb : Nat) (h1 : Seq W W.heap.size Aa (bytes V)) (h2 : Seq W W.heap.size Ab (bytes V)) => sameLE_calls Aa ca W.heap.size V Ab cb V W h1 h2
        rw [show (V == V) = true by simp] at hsm
        have HGet := Lib.hid hget
        have HIn := Lib.hid hin
        have HSm := Lib.hid hsm
        have HPr := Lib.hid (fun (W : World) (hb : Below w7.heap.size w7 W) => keep_pairs (HKt.out.below hb))
        obtain ⟨bV, hbV⟩ : ∃ b, (!V.isEmpty) = b := ⟨_, rfl⟩
        have HbV := Lib.hid hbV
        clear hV hhV hget hin hsm hbV
        rcases hex with ⟨dk, dk2⟩ | ⟨dk, dk2, dk3⟩
        all_goals
          go_upto_region 27 with (first
            | (go_at_call 19; go_loud (refine (ownL_calls A2 c2 w7.heap.size key w7 hk (HS.out.now HBw.out)).mono ?_; rintro e8 w8 ⟨A8, c8, rfl, ho8, hb8⟩; have HO8 := Lib.hid (Seq.of_own ho8); have HB8 := Lib.hid hb8; clear ho8 hb8))
            | (go_at_call 35; go_loud (refine (HGet.out w8 HB8.out A8 c8 HO8.out).mono ?_; unfold GetPost; rintro e9 w9 ⟨A9, c9, rfl, ho9, hb9⟩; rw [HbV.out]; have HO9 := Lib.hid (Seq.of_own ho9); have HB9 := Lib.hid (HB8.out.trans (hb9.mono HB8.out.size)); clear ho9 hb9))
            | (go_at_call 26; go_loud (refine (HIn.out w9 HB9.out).mono ?_; rintro e10 w10 ⟨A10, c10, rfl, hs10, hb10⟩; rw [HbV.out]; have HS10 := Lib.hid hs10; have HS9 := Lib.hid (HO9.out.now hb10); have HB10 := Lib.hid (HB9.out.trans (hb10.mono HB9.out.size)); clear hs10 hb10)))
          go_wp2_with (first
            | (go_at_call 27; go_loud (refine (HSm.out w10 A9 A10 c9 c10 HS9.out HS10.out).mono ?_; rintro e11 w11 ⟨rfl, rfl⟩))
            | (go_at_call 29; go_loud (refine (pairs_calls Ap cp op Al cl L w12 (by omega) (by omega) HOp.out ((HKr.out.below' HB12.out).pairs HP.out)).mono ?_; unfold SamePost; rw [decide_eq_true HMp.out]; rintro e13 w13 ⟨rfl, hb13⟩; have HB13 := Lib.hid (HB12.out.trans (hb13.mono HB12.out.size)); clear hb13))
            | (go_at_call 33; go_loud (refine (HPr.out w11 HB10.out).mono ?_; rintro e12 w12 ⟨Ap, cp, op, rfl, hmp, hop, hb12⟩; have hpn := congrArg List.length hmp; rw [List.length_map, List.length_map] at hpn; have hpn2 := Nat.le_of_eq hpn; clear hpn; have HMp := Lib.hid hmp; have HOp := Lib.hid hop; have HB12 := Lib.hid (HB10.out.trans (hb12.mono HB10.out.size)); clear hmp hop hb12)))
          go_ret
          exact ⟨rfl, (HKr.out.below' HB13.out).below⟩
  · have hgt2 : (131072 : Int) < (n : Int) := by omega
    have d0 : decide ((131072 : Int) < (n : Int)) = true := decide_eq_true (by omega)
    go_wp2_with fail
    go_ret
    exact ⟨rfl, HB2.out⟩
-- CARD
set_option maxRecDepth 100000 in
theorem trieKeeps_lifted (os : Os) (started : os.Started) (H : Type) (enc : TypeId × Value → H) :
    ReturnsInHanded {} Tryd.checked os 10 .any (fun w args => (Rows.trieKeepsSpec.pre enc Tryd.prog Tryd.f10 [] false w args ∧ laidMetH Tryd.prog seatLaid w) ∧ sizedMet enc Tryd.prog Tryd.f10 (OpenSpec.ofChange Rows.trieKeepsSpec) false w args)
      (Rows.trieKeepsSpec.post enc Tryd.prog Tryd.f10 false true false false) := by
  refine returnsInHanded_of_change_and (C := Tryd.checked) (X := fun w _ => laidMetH Tryd.prog seatLaid w) (fun _ _ _ hh h => h.of_heap hh) own started (by kernel_rfl) Tryd.func10
    (ChangeSpec.witness_shaped (enc := enc) (C := Tryd.checked) (os := os) (X := fun w _ => laidMetH Tryd.prog seatLaid w) false (World.laidAll Tryd.prog os seatLaid) #[.slice none 0 0, .slice none 0 0, .slice none 0 0] 8 (World.laidAll_os _ _ _)
      (World.shaped_of_ZipB (by kernel_rfl) (by kernel_rfl)) (by kernel_rfl) (by kernel_rfl) (by kernel_rfl)
      (by rw [MakeChecks.laidMetH_plain _ _ _ (by kernel_rfl)]; exact laidMet_laidAll _ (by kernel_rfl) (by kernel_rfl))) ?_
  intro W base args ds gs before hval0 hW _ hsz hL0 _
  rw [MakeChecks.laidMetH_plain _ _ _ (by kernel_rfl)] at hL0
  have hT := tables_of_laid hL0
  have hval : ∀ (j : Nat) t v, Tryd.f10.params[j]? = some t → args[j]? = some v → Value.okWide Tryd.prog W .any base t v := hval0
  have hW' := hW
  obtain ⟨p, q, hA0, hV, rfl, hfz, hnd⟩ := hW
  have hA : DataW.TrodAll enc Tryd.prog W 0 (fun _ => true) true Tryd.f10.params.toList args.toList ds p := hA0
  rw [Tryd.params10] at hA hval
  obtain ⟨v0, vs0, d0, ds0, p0, q0, hargs, rfl, rfl, h0, r0⟩ := trodAll_cons hA
  obtain ⟨v1, vs1, d1, ds1, p1, q1, rfl, rfl, rfl, h1, r1⟩ := trodAll_cons r0
  obtain ⟨v2, vs2, d2, ds2, p2, q2, rfl, rfl, rfl, h2, r2⟩ := trodAll_cons r1
  obtain ⟨rfl, rfl, rfl⟩ := trodAll_nil r2
  obtain rfl : args = #[v0, v1, v2] := by cases args; simp_all
  obtain ⟨rfl, rfl⟩ := trodVars_none hV
  have k0 := h0
  have lt0 : ∀ x ∈ p0, x.block < W.heap.size := by obtain ⟨m, hm⟩ := k0; exact DataW.trod_lt m _ _ _ hm
  have k1 := h1
  have lt1 : ∀ x ∈ p1, x.block < W.heap.size := by obtain ⟨m, hm⟩ := k1; exact DataW.trod_lt m _ _ _ hm
  have k2 := h2
  have lt2 : ∀ x ∈ p2, x.block < W.heap.size := by obtain ⟨m, hm⟩ := k2; exact DataW.trod_lt m _ _ _ hm
  have wt0 : ∀ n ∈ d0.weights Tryd.prog 34, n ≤ reachBytes := fun n hn => by have := List.all_eq_true.1 hsz n (DataW.weights_mem_each (j := 0) (t := 34) (d := d0) (by rw [Tryd.params10]; rfl) rfl n hn); simpa using this
  obtain ⟨A0, C0, L0, rfl, hc0, hm0, hr0, hq0⟩ := open_pairs Tryd.underlying34 Tryd.underlying40 rfl rfl rfl rfl Tryd.underlying24 Tryd.underlying5 (by kernel_rfl) (by kernel_rfl) (by kernel_rfl) (by kernel_rfl) (by kernel_rfl) (hval 0 _ v0 rfl rfl) h0 wt0
  have wt1 : ∀ n ∈ d1.weights Tryd.prog 25, n ≤ reachBytes := fun n hn => by have := List.all_eq_true.1 hsz n (DataW.weights_mem_each (j := 1) (t := 25) (d := d1) (by rw [Tryd.params10]; rfl) rfl n hn); simpa using this
  obtain ⟨A1, C1, L1, rfl, hc1, hm1, hr1, hq1, hp1⟩ := open_pieces Tryd.underlying25 Tryd.underlying24 Tryd.underlying5 (by kernel_rfl) (by kernel_rfl) (by kernel_rfl) (by kernel_rfl) (hval 1 _ v1 rfl rfl) h1 wt1
  have wt2 : ∀ n ∈ d2.weights Tryd.prog 24, n ≤ reachBytes := fun n hn => by have := List.all_eq_true.1 hsz n (DataW.weights_mem_each (j := 2) (t := 24) (d := d2) (by rw [Tryd.params10]; rfl) rfl n hn); simpa using this
  obtain ⟨A2, C2, L2, rfl, hc2, hm2, hr2, hq2⟩ := open_bytes Tryd.underlying24 Tryd.underlying5 (by kernel_rfl) (by kernel_rfl) (hval 2 _ v2 rfl rfl) h2 wt2
  clear hA0 hval0
  refine (keeps_walk A0 C0 L0 A1 C1 L1 A2 C2 L2 W hT.tables hT.errs hT.low (Nat.le_trans hr0 (by decide)) hq0 (Nat.le_trans hr1 (by decide)) hq1 hp1 (Nat.le_trans hr2 (by decide)) hq2).mono fun e W' ⟨he, bel⟩ => ?_
  subst he
  exact ⟨_, rfl, _, _, _, [], _, [], hW', trodAll_mk1 (shut_bool Tryd.underlying4 _), (trodAll_cons_mk (Below.trod laidOut (by kernel_rfl) (of_decide_eq_true (by kernel_rfl)) k0 bel lt0) (trodAll_cons_mk (Below.trod laidOut (by kernel_rfl) (of_decide_eq_true (by kernel_rfl)) k1 bel lt1) (trodAll_cons_mk (Below.trod laidOut (by kernel_rfl) (of_decide_eq_true (by kernel_rfl)) k2 bel lt2) trodAll_mk0))), rfl, bel.frame _, fun h => by cases h⟩
theorem trieKeeps_holds : Rows.TrieKeepsSaid :=
  OpenClaim.holds_of_wide 10 Tryd.f10 rfl rfl rfl rfl rfl rfl rfl ⟨rfl, rfl, rfl, rfl, rfl⟩ rfl rfl rfl rfl rfl (by kernel_rfl) Tryd.func10 (by kernel_rfl)
    (of_decide_eq_true (by kernel_rfl)) (by unfold Func.isWrapper; first | (rw [if_pos (by decide +kernel)]; kernel_rfl) | (rw [if_neg (by decide +kernel)]; exact ⟨rfl, rfl⟩))
    (fun os started H enc _ => trieKeeps_lifted os started H enc)
theorem trieKeeps_card : Rows.TrieKeepsCardSaid :=
  Claim7.holds_tied_plain_at .later [] [.data, .data, .sentinel, .sentinel, .sentinel] true (true, "ec30def8b2b8a437d7ef0fa14b81e6223ecfebe468af8085b9789efc9ac0fbf0") false trieKeeps_holds (fun _ h => by cases h) (by kernel_rfl) (fun _ h => by cases h) trieKeeps_row_tie rfl ⟨rfl, rfl⟩ (by kernel_rfl) rfl
    (fun f fn hf hfn => by
      obtain rfl : f = 10 := Option.some.inj ((show Tryd.prog.funcNamed "vouch/vouchlaw26.TrieKeeps" = some 10 by kernel_rfl).symm.trans hf) |>.symm
      obtain rfl : fn = Tryd.f10 := (Option.some.inj (Tryd.func10.symm.trans hfn)).symm
      exact ⟨by kernel_rfl, fun j t ht => by
        rw [Tryd.params10] at ht
        have hm : t ∈ ([34, 25, 24] : List TypeId) := by simpa using Array.mem_of_getElem? ht
        have hall : (([34, 25, 24] : List TypeId).all fun u => !Tryd.prog.wantsStandIn u) = true := by kernel_rfl
        exact (show Tryd.prog.wantsStandIn t = false by simpa using List.all_eq_true.1 hall t hm)⟩)
    (by kernel_rfl)
end Go.Proofs.YtfhindffmghlaaaDoor
