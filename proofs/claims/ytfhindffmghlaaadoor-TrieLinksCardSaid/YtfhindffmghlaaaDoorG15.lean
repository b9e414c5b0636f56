/- written. -/
import Derived.Test.YtfhindffmghlaaaDoorG14
import Derived.StillTailTactics
import Derived.Deep.RegionLaw
set_option linter.unusedVariables false
set_option linter.unusedSimpArgs false
namespace Go.Proofs.YtfhindffmghlaaaDoor
open Go.RowKit
theorem pairUp_snoc : ∀ (l : List UInt8) (k : Nat) (h : 2 * k + 1 < l.length), pairUp (l.take (2 * (k + 1))) = pairUp (l.take (2 * k)) ++ [l[2 * k] <<< 4 ||| l[2 * k + 1]]
  | [], _, h => absurd h (by simp)
  | [_], _, h => absurd h (by simp)
  | a :: b :: r, 0, _ => by simp [pairUp]
  | a :: b :: r, k + 1, h => by
    have ih := pairUp_snoc r k (by simp at h; omega)
    have e1 : (a :: b :: r).take (2 * (k + 1 + 1)) = a :: b :: r.take (2 * (k + 1)) := rfl
    have e2 : (a :: b :: r).take (2 * (k + 1)) = a :: b :: r.take (2 * k) := rfl
    rw [e1, e2, pairUp, pairUp, ih]
    rfl
theorem pairUp_length : ∀ l : List UInt8, (pairUp l).length ≤ l.length
  | [] => by simp [pairUp]
  | [_] => by simp [pairUp]
  | a :: b :: r => by have := pairUp_length r; simp [pairUp]; omega
theorem wrap_mul32 (x : UInt8) : IntKind.u8.wrap (32 * by8 x) = by8 (32 * x) := by
  rw [IntKind.wrap_u8']
  unfold by8
  rw [UInt8.toNat_mul]
  simp
theorem wrap_shl4 (x : UInt8) : IntKind.u8.wrap (by8 x * 16) = by8 (x <<< 4) := by
  rw [IntKind.wrap_u8']
  unfold by8
  rw [UInt8.toNat_shiftLeft]
  have : x.toNat <<< ((4 : UInt8).toNat % 8) = x.toNat * 16 := by rw [Nat.shiftLeft_eq]; rfl
  rw [this]
  omega
theorem u8_or (x y : UInt8) : bits .or .u8 (by8 x) (by8 y) = by8 (x ||| y) := by
  have hx := x.toNat_lt
  have hy := y.toNat_lt
  have ex : (BitVec.ofInt 8 (by8 x)).toNat = x.toNat := by rw [BitVec.toNat_ofInt]; unfold by8; omega
  have ey : (BitVec.ofInt 8 (by8 y)).toNat = y.toNat := by rw [BitVec.toNat_ofInt]; unfold by8; omega
  show IntKind.u8.wrap ((BitVec.ofInt 8 (by8 x) ||| BitVec.ofInt 8 (by8 y)).toNat : Nat) = by8 (x ||| y)
  rw [BitVec.toNat_or, ex, ey, IntKind.wrap_u8']
  unfold by8
  rw [UInt8.toNat_or]
  have : x.toNat ||| y.toNat < 2 ^ 8 := Nat.or_lt_two_pow hx hy
  omega
theorem step_append_seq {P : Program} {w : World} {ops : Array Oper} {o : Oper} {a : Act} {K : Act → World → Prop} {Q : Exit → Act → World → Prop} {E : Prop} (hg : o.guard = none) (s x : Operand) (t : TypeId)
    (ho : o.op = .call { callee := .builtin .append, args := #[s, x], argTypes := #[t, t] }) {e : TypeId} {size bytes : Nat} (el : Elem P t e size bytes)
    {base : Nat} {A : Option Addr} {n c : Nat} {xs : List Value} (hs : a.eval s = .slice A n c) (hown : w.ownsRow base e size (.slice A n c) n xs)
    {B : Nat} {A2 : Option Addr} {m c2 : Nat} {news : List Value} (hx : a.eval x = .slice A2 m c2) (hl : news.length = m * size) (hr : Seq w B A2 news) (h1 : ∀ u ∈ news, u.oneCell' = true)
    (h63 : n + m ≤ maxLen) (hbytes : (n + m) * bytes ≤ 140737488355328) (hbase : base ≤ w.heap.size)
    (h : ∀ A' c' w', w'.ownsRow base e size (.slice A' (n + m) c') (n + m) (xs ++ news) → w.grownBy w' (Value.slice A n c).ownBlock → K (a.put o.dst (.slice A' (n + m) c')) w') :
    if Region.wanted o (yielded ops a.tmps) = true then Oper.wp P o a w K Q else E := by
  have hw : Region.wanted o (yielded ops a.tmps) = true := by simp [Region.wanted, hg]
  rw [if_pos hw]
  exact wp_append_seq s x t ho el hs hown hx hl hr h1 h63 hbytes hbase fun A' c' w' h2 h3 _ => h A' c' w' h2 h3
theorem own_row1 {w : World} {g base : Nat} {x : UInt8} (h : Blk w g 5 #[.int .u8 (by8 x)]) (hg : base ≤ g) : w.ownsRow base 5 1 (.slice (some ⟨g, 0, none⟩) 1 1) 1 (bytes [x]) :=
  ⟨rfl, .inr ⟨g, 1, #[.int .u8 (by8 x)], rfl, hg, h, Nat.le_refl _, by simp [maxLen], rfl, rfl⟩⟩
set_option maxHeartbeats 2000000 in
set_option maxRecDepth 20000 in
theorem written_calls (A : Option Addr) (c B : Nat) (path : List UInt8) (m : UInt8) (w : World) (hl : path.length ≤ 1099511627776) (hc : path.length ≤ c) (hB : B ≤ w.heap.size) (hs : Seq w B A (bytes path)) :
    Calls Tryd.prog 81 #[.slice A path.length c, .int .u8 (by8 m)] w (Fresh w (written path m)) := by
  have HS := Lib.hid hs
  have hw : written path m = if path.length % 2 = 1 then (32 * m + (16 + path.headD 0)) :: pairUp path.tail else (32 * m) :: pairUp path := rfl
  have HW := Lib.hid hw
  have em := wrap_mul32 m
  generalize 32 * m = f at *
  clear hs hw
  by_cases hp : path.length % 2 = 1
  · have hn := HW.out
    rw [if_pos hp] at hn
    cases path with
    | nil => exact absurd hp (by simp)
    | cons x l =>
    have dp : (((x :: l).length : Int) % 2 == 1) = true := by rw [beq_iff_eq]; omega
    have hn : written (x :: l) m = (f + (16 + x)) :: pairUp l := hn
    have hev : l.length % 2 = 0 := by simp at hp; omega
    have ea : IntKind.u8.wrap (16 + by8 x) = by8 (16 + x) := wrap_add8 16 x
    have eb := wrap_add8 f (16 + x)
    generalize hf2 : f + (16 + x) = f2 at *
    have HF := Lib.hid hn
    obtain ⟨a1, rfl, ha1, hx0⟩ := HS.out.byte 0 (by simp)
    have hx0 : w.cell? (a1.add 0) = some (.int .u8 (by8 x)) := hx0
    have hadd : a1.add 0 = a1 := by unfold Addr.add; simp
    rw [hadd] at hx0
    have hB0 := (Below.refl w.heap.size w).alloc (Nat.le_refl _) (.cells #[.int .u8 (by8 f)] 5)
    have hb1 : Blk (w.alloc (.cells #[.int .u8 (by8 f)] 5)) w.heap.size 5 #[.int .u8 (by8 f)] := Blk.new _ _ _
    have hx1 : (w.alloc (.cells #[.int .u8 (by8 f)] 5)).cell? a1 = some (.int .u8 (by8 x)) := (hB0.cell (by omega)).trans hx0
    have f1 := hb1.frozen 0
    have q1 : (w.alloc (.cells #[.int .u8 (by8 f)] 5)).cell? ⟨w.heap.size, 0, none⟩ = some (.int .u8 (by8 f)) := hb1.cell 0
    have hO2 := own_row1 (base := w.heap.size) ((hb1.set_ 0 (.int .u8 (by8 f2))).drew) (Nat.le_refl _)
    have hB2 : Below w.heap.size w ((w.alloc (.cells #[.int .u8 (by8 f)] 5)).setCell ⟨w.heap.size, 0, none⟩ (.int .u8 (by8 f2))).drew := below_drewN (hB0.setCell (Nat.le_refl _) _) 1
    have HO2 := Lib.hid hO2
    have HB2 := Lib.hid hB2
    clear hO2 hB2 hb1 hB0
    obtain ⟨pl, hpl⟩ : ∃ pl, (x :: l).length = pl := ⟨_, rfl⟩
    have hpl2 : pl - 1 = l.length := by rw [← hpl]; simp
    have lp0 : (0 : Int) < (pl : Int) := by rw [← hpl]; simp
    have lp1 : (1 : Int) ≤ (pl : Int) := by omega
    have lp2 : 0 < pl := by omega
    have lp3 : 1 ≤ pl := by omega
    have lp4 : (pl : Int) ≤ (c : Int) := by omega
    rw [hpl] at dp hl hc ⊢
    have hlm : l.length ≤ 1099511627776 := by omega
    have HS1 := Lib.hid (HS.out.drop 1)
    have HPl := Lib.hid hpl2
    clear hn HW hpl hpl2 hx0 hp hf2
    by_cases hc1 : c = 1
    · subst hc1
      have hl0 : l = [] := by
        have := HPl.out
        exact List.eq_nil_of_length_eq_zero (by omega)
      have HS := Lib.hid (show Seq w B (some a1) (bytes l) from fun h => absurd h (by rw [hl0]; simp [bytes]))
      clear hl0 HS1 hc
      go_enter Tryd.func81, Tryd.ntmps81
      go_upto_region 3 with fail
      generalize w.alloc (.cells #[.int .u8 (by8 f)] 5) = w1 at *
      go_region
      generalize (w1.setCell ⟨w.heap.size, 0, none⟩ (.int .u8 (by8 f2))).drew = w2 at *
      clear hx1 f1 q1 ea eb dp em
      go_wp2_with fail
      rw [HPl.out]
      generalize some (a1) = A0 at *
      go_loopw [5, 6] (fun v i wr => ∃ (k : Nat) (A1 : Option Addr) (c1 : Nat), 2 * k ≤ l.length ∧ i = .int .i64 (2 * k : Nat) ∧ v = .slice A1 (f2 :: pairUp (l.take (2 * k))).length c1 ∧ wr.ownsRow w.heap.size 5 1 (.slice A1 (f2 :: pairUp (l.take (2 * k))).length c1) (f2 :: pairUp (l.take (2 * k))).length (bytes (f2 :: pairUp (l.take (2 * k)))) ∧ Below w.heap.size w wr) (fun _ i _ => l.length - (intOf i).toNat)
      case atStart => exact ⟨0, _, 1, by omega, rfl, rfl, HO2.out, HB2.out⟩
      case round =>
        clear HO2 HB2
        obtain ⟨k, A1, c1, hk, rfl, rfl, hown, hBl⟩ := hrel
        have hsz := hBl.size
        by_cases hlt : 2 * k < l.length
        · have hlt2 : 2 * k + 1 < l.length := by omega
          have dk : decide (((2 * k : Nat) : Int) < (l.length : Int)) = true := decide_eq_true (by omega)
          obtain ⟨ad, rfl, _, hc0⟩ := (HS.out.below hBl hB).byte (2 * k) (by omega)
          obtain ⟨ad2, ha2, _, hc1⟩ := (HS.out.below hBl hB).byte (2 * k + 1) hlt2
          injection ha2 with ha2
          subst ha2
          have htk := pairUp_snoc l k hlt2
          have hpl := pairUp_length (l.take (2 * k))
          rw [List.length_take] at hpl
          generalize l[2 * k] = x at *
          generalize l[2 * k + 1] = y at *
          have HTk := Lib.hid htk
          have HO := Lib.hid hown
          have HB := Lib.hid hBl
          clear htk hown hBl
          generalize pairUp (l.take (2 * k)) = L at *
          have hL : L.length ≤ 1099511627776 := by omega
          obtain ⟨n, hn⟩ : ∃ n, 2 * k = n := ⟨_, rfl⟩
          rw [hn] at hc0 hc1 hlt hlt2 dk ⊢
          have HNk := Lib.hid hn
          clear hn hk hpl
          have ln : (n : Int) < (l.length : Int) := by omega
          have ln1 : (n : Int) + 1 < (l.length : Int) := by omega
          have hwn : IntKind.i64.wrap ((n : Int) + 1) = ((n + 1 : Nat) : Int) := by rw [IntWalk.i64_in _ (by omega)]; omega
          have ln2 : ((n + 1 : Nat) : Int) < (l.length : Int) := by omega
          have hc1' : wr.cell? ⟨ad.block, ad.off + (n + 1), none⟩ = some (.int .u8 (by8 y)) := hc1
          have l0 : (0 : Int) ≤ (n : Int) + 1 := by omega
          have e4 := wrap_shl4 x
          have e5 := u8_or (x <<< 4) y
          generalize hz : x <<< 4 ||| y = z at *
          generalize hx4 : x <<< 4 = x4 at *
          go_upto_region 8 with fail
          go_region_law (first | (refine step_append_seq rfl (.tmp 31) (.tmp 43) 24 rfl elByte rfl (own_drewN (own_alloc HO.out _) 1) rfl rfl (Seq.of_blk (xs := bytes [z]) (Blk.new' _ _ _ rfl) (Nat.lt_succ_self _)) (bytes_one _) (by unfold maxLen; omega) (by omega) (by show _ ≤ (World.alloc _ _).heap.size; rw [size_alloc]; omega) ?_; intro A7 c7 w7 ho7 hg7; have HO7 := Lib.hid ho7; have HG7 := Lib.hid hg7; clear ho7 hg7))
          all_goals
            have HB7 := Lib.hid ((HB.out.alloc hsz (.cells #[.int .u8 (by8 z)] 5))|> (below_drewN · 1) |>.grown HG7.out (by show _ ≤ (World.alloc _ _).heap.size; rw [size_alloc]; omega) (fun g hg => (HO.out.lt g hg).1))
            clear hz hx4
            go_wp2_with fail
            exact ⟨⟨k + 1, A7, c7, by have := HNk.out; omega, by have := HNk.out; go_num, by rw [HTk.out]; simp, by have h7 := HO7.out; rw [← bytes_append, List.cons_append] at h7; rw [HTk.out]; simpa using h7, HB7.out⟩, by simp [intOf]; omega⟩
        · have dk : decide (((2 * k : Nat) : Int) < (l.length : Int)) = false := decide_eq_false (by omega)
          have hfin : l.take (2 * k) = l := List.take_of_length_le (by omega)
          rw [hfin] at hown ⊢
          rw [← HF.out] at hown ⊢
          have HO := Lib.hid hown
          have HB := Lib.hid hBl
          clear hown hBl hfin
          obtain ⟨n, hn⟩ : ∃ n, 2 * k = n := ⟨_, rfl⟩
          rw [hn] at dk hlt ⊢
          clear hn hk
          go_wp2_with fail
          go_ret
          exact ⟨A1, c1, rfl, HO.out, HB.out⟩
    · have HS := Lib.hid (show Seq w B (some ⟨a1.block, a1.off + 1, none⟩) (bytes l) from HS1.out)
      clear HS1
      go_enter Tryd.func81, Tryd.ntmps81
      go_upto_region 3 with fail
      generalize w.alloc (.cells #[.int .u8 (by8 f)] 5) = w1 at *
      go_region
      generalize (w1.setCell ⟨w.heap.size, 0, none⟩ (.int .u8 (by8 f2))).drew = w2 at *
      clear hx1 f1 q1 ea eb dp em
      go_wp2_with fail
      rw [HPl.out]
      generalize some (⟨a1.block, a1.off + 1, none⟩ : Addr) = A0 at *
      go_loopw [5, 6] (fun v i wr => ∃ (k : Nat) (A1 : Option Addr) (c1 : Nat), 2 * k ≤ l.length ∧ i = .int .i64 (2 * k : Nat) ∧ v = .slice A1 (f2 :: pairUp (l.take (2 * k))).length c1 ∧ wr.ownsRow w.heap.size 5 1 (.slice A1 (f2 :: pairUp (l.take (2 * k))).length c1) (f2 :: pairUp (l.take (2 * k))).length (bytes (f2 :: pairUp (l.take (2 * k)))) ∧ Below w.heap.size w wr) (fun _ i _ => l.length - (intOf i).toNat)
      case atStart => exact ⟨0, _, 1, by omega, rfl, rfl, HO2.out, HB2.out⟩
      case round =>
        clear HO2 HB2
        obtain ⟨k, A1, c1, hk, rfl, rfl, hown, hBl⟩ := hrel
        have hsz := hBl.size
        by_cases hlt : 2 * k < l.length
        · have hlt2 : 2 * k + 1 < l.length := by omega
          have dk : decide (((2 * k : Nat) : Int) < (l.length : Int)) = true := decide_eq_true (by omega)
          obtain ⟨ad, rfl, _, hc0⟩ := (HS.out.below hBl hB).byte (2 * k) (by omega)
          obtain ⟨ad2, ha2, _, hc1⟩ := (HS.out.below hBl hB).byte (2 * k + 1) hlt2
          injection ha2 with ha2
          subst ha2
          have htk := pairUp_snoc l k hlt2
          have hpl := pairUp_length (l.take (2 * k))
          rw [List.length_take] at hpl
          generalize l[2 * k] = x at *
          generalize l[2 * k + 1] = y at *
          have HTk := Lib.hid htk
          have HO := Lib.hid hown
          have HB := Lib.hid hBl
          clear htk hown hBl
          generalize pairUp (l.take (2 * k)) = L at *
          have hL : L.length ≤ 1099511627776 := by omega
          obtain ⟨n, hn⟩ : ∃ n, 2 * k = n := ⟨_, rfl⟩
          rw [hn] at hc0 hc1 hlt hlt2 dk ⊢
          have HNk := Lib.hid hn
          clear hn hk hpl
          have ln : (n : Int) < (l.length : Int) := by omega
          have ln1 : (n : Int) + 1 < (l.length : Int) := by omega
          have hwn : IntKind.i64.wrap ((n : Int) + 1) = ((n + 1 : Nat) : Int) := by rw [IntWalk.i64_in _ (by omega)]; omega
          have ln2 : ((n + 1 : Nat) : Int) < (l.length : Int) := by omega
          have hc1' : wr.cell? ⟨ad.block, ad.off + (n + 1), none⟩ = some (.int .u8 (by8 y)) := hc1
          have l0 : (0 : Int) ≤ (n : Int) + 1 := by omega
          have e4 := wrap_shl4 x
          have e5 := u8_or (x <<< 4) y
          generalize hz : x <<< 4 ||| y = z at *
          generalize hx4 : x <<< 4 = x4 at *
          go_upto_region 8 with fail
          go_region_law (first | (refine step_append_seq rfl (.tmp 31) (.tmp 43) 24 rfl elByte rfl (own_drewN (own_alloc HO.out _) 1) rfl rfl (Seq.of_blk (xs := bytes [z]) (Blk.new' _ _ _ rfl) (Nat.lt_succ_self _)) (bytes_one _) (by unfold maxLen; omega) (by omega) (by show _ ≤ (World.alloc _ _).heap.size; rw [size_alloc]; omega) ?_; intro A7 c7 w7 ho7 hg7; have HO7 := Lib.hid ho7; have HG7 := Lib.hid hg7; clear ho7 hg7))
          all_goals
            have HB7 := Lib.hid ((HB.out.alloc hsz (.cells #[.int .u8 (by8 z)] 5))|> (below_drewN · 1) |>.grown HG7.out (by show _ ≤ (World.alloc _ _).heap.size; rw [size_alloc]; omega) (fun g hg => (HO.out.lt g hg).1))
            clear hz hx4
            go_wp2_with fail
            exact ⟨⟨k + 1, A7, c7, by have := HNk.out; omega, by have := HNk.out; go_num, by rw [HTk.out]; simp, by have h7 := HO7.out; rw [← bytes_append, List.cons_append] at h7; rw [HTk.out]; simpa using h7, HB7.out⟩, by simp [intOf]; omega⟩
        · have dk : decide (((2 * k : Nat) : Int) < (l.length : Int)) = false := decide_eq_false (by omega)
          have hfin : l.take (2 * k) = l := List.take_of_length_le (by omega)
          rw [hfin] at hown ⊢
          rw [← HF.out] at hown ⊢
          have HO := Lib.hid hown
          have HB := Lib.hid hBl
          clear hown hBl hfin
          obtain ⟨n, hn⟩ : ∃ n, 2 * k = n := ⟨_, rfl⟩
          rw [hn] at dk hlt ⊢
          clear hn hk
          go_wp2_with fail
          go_ret
          exact ⟨A1, c1, rfl, HO.out, HB.out⟩
  · have hn := HW.out
    rw [if_neg hp] at hn
    have dp : ((path.length : Int) % 2 == 1) = false := by rw [beq_eq_false_iff_ne]; omega
    have HF := Lib.hid hn
    have HB := Lib.hid ((Below.refl w.heap.size w).alloc (Nat.le_refl _) (.cells #[.int .u8 (by8 f)] 5))
    have HO := Lib.hid (own_one w f)
    clear hn HW
    go_enter Tryd.func81, Tryd.ntmps81
    go_wp2_with fail
    clear em dp
    generalize w.alloc (.cells #[.int .u8 (by8 f)] 5) = w1 at *
    go_loopw [5, 6] (fun v i wr => ∃ (k : Nat) (A1 : Option Addr) (c1 : Nat), 2 * k ≤ path.length ∧ i = .int .i64 (2 * k : Nat) ∧ v = .slice A1 (f :: pairUp (path.take (2 * k))).length c1 ∧ wr.ownsRow w.heap.size 5 1 (.slice A1 (f :: pairUp (path.take (2 * k))).length c1) (f :: pairUp (path.take (2 * k))).length (bytes (f :: pairUp (path.take (2 * k)))) ∧ Below w.heap.size w wr) (fun _ i _ => path.length - (intOf i).toNat)
    case atStart => exact ⟨0, _, 1, by omega, rfl, rfl, HO.out, HB.out⟩
    case round =>
      clear HO HB
      obtain ⟨k, A1, c1, hk, rfl, rfl, hown, hBl⟩ := hrel
      have hsz := hBl.size
      by_cases hlt : 2 * k < path.length
      · have hlt2 : 2 * k + 1 < path.length := by omega
        have dk : decide (((2 * k : Nat) : Int) < (path.length : Int)) = true := decide_eq_true (by omega)
        obtain ⟨ad, rfl, _, hc0⟩ := (HS.out.below hBl hB).byte (2 * k) (by omega)
        obtain ⟨ad2, ha2, _, hc1⟩ := (HS.out.below hBl hB).byte (2 * k + 1) hlt2
        injection ha2 with ha2
        subst ha2
        have htk := pairUp_snoc path k hlt2
        have hpl := pairUp_length (path.take (2 * k))
        rw [List.length_take] at hpl
        generalize path[2 * k] = x at *
        generalize path[2 * k + 1] = y at *
        have HTk := Lib.hid htk
        have HO := Lib.hid hown
        have HB := Lib.hid hBl
        clear htk hown hBl
        generalize pairUp (path.take (2 * k)) = L at *
        have hL : L.length ≤ 1099511627776 := by omega
        obtain ⟨n, hn⟩ : ∃ n, 2 * k = n := ⟨_, rfl⟩
        rw [hn] at hc0 hc1 hlt hlt2 dk ⊢
        have HNk := Lib.hid hn
        clear hn hk hpl
        have ln : (n : Int) < (path.length : Int) := by omega
        have ln1 : (n : Int) + 1 < (path.length : Int) := by omega
        have hwn : IntKind.i64.wrap ((n : Int) + 1) = ((n + 1 : Nat) : Int) := by rw [IntWalk.i64_in _ (by omega)]; omega
        have ln2 : ((n + 1 : Nat) : Int) < (path.length : Int) := by omega
        have hc1' : wr.cell? ⟨ad.block, ad.off + (n + 1), none⟩ = some (.int .u8 (by8 y)) := hc1
        have l0 : (0 : Int) ≤ (n : Int) + 1 := by omega
        have e4 := wrap_shl4 x
        have e5 := u8_or (x <<< 4) y
        generalize hz : x <<< 4 ||| y = z at *
        generalize hx4 : x <<< 4 = x4 at *
        go_upto_region 8 with fail
        go_region_law (first | (refine step_append_seq rfl (.tmp 31) (.tmp 43) 24 rfl elByte rfl (own_drewN (own_alloc HO.out _) 1) rfl rfl (Seq.of_blk (xs := bytes [z]) (Blk.new' _ _ _ rfl) (Nat.lt_succ_self _)) (bytes_one _) (by unfold maxLen; omega) (by omega) (by show _ ≤ (World.alloc _ _).heap.size; rw [size_alloc]; omega) ?_; intro A7 c7 w7 ho7 hg7; have HO7 := Lib.hid ho7; have HG7 := Lib.hid hg7; clear ho7 hg7))
        all_goals
          have HB7 := Lib.hid ((HB.out.alloc hsz (.cells #[.int .u8 (by8 z)] 5))|> (below_drewN · 1) |>.grown HG7.out (by show _ ≤ (World.alloc _ _).heap.size; rw [size_alloc]; omega) (fun g hg => (HO.out.lt g hg).1))
          clear hz hx4
          go_wp2_with fail
          exact ⟨⟨k + 1, A7, c7, by have := HNk.out; omega, by have := HNk.out; go_num, by rw [HTk.out]; simp, by have h7 := HO7.out; rw [← bytes_append, List.cons_append] at h7; rw [HTk.out]; simpa using h7, HB7.out⟩, by simp [intOf]; omega⟩
      · have dk : decide (((2 * k : Nat) : Int) < (path.length : Int)) = false := decide_eq_false (by omega)
        have hfin : path.take (2 * k) = path := List.take_of_length_le (by omega)
        rw [hfin] at hown ⊢
        rw [← HF.out] at hown ⊢
        have HO := Lib.hid hown
        have HB := Lib.hid hBl
        clear hown hBl hfin
        obtain ⟨n, hn⟩ : ∃ n, 2 * k = n := ⟨_, rfl⟩
        rw [hn] at dk hlt ⊢
        clear hn hk
        go_wp2_with fail
        go_ret
        exact ⟨A1, c1, rfl, HO.out, HB.out⟩
end Go.Proofs.YtfhindffmghlaaaDoor
/- A trie's texts: how long, how many. No walk. -/
namespace Go.Proofs.YtfhindffmghlaaaDoor
/-- A kid's texts, below a node. -/
def kidU (hash : List UInt8 → List UInt8) (ks : Nat → Tr) (all on : Bool) (rest : List UInt8) (x : Nat) : List (List UInt8) :=
  let go := on && decide (0 < rest.length) && decide ((rest.headD 0).toNat = x)
  (if 32 ≤ (encT hash (ks x)).length ∧ (all || go) then [encT hash (ks x)] else []) ++ underT hash (ks x) all go (if go then rest.tail else [])
theorem underT_node (hash : List UInt8 → List UInt8) (p : List UInt8) (ks : Nat → Tr) (v : List UInt8) (all on : Bool) (path : List UInt8) : underT hash (.node p ks v) all on path =
    if leafK ks then [] else
      (if p ≠ [] ∧ 32 ≤ (branchT hash ks v).length ∧ (all || (on && decide (p <+: path))) then [branchT hash ks v] else []) ++
        ((List.range 16).map (kidU hash ks all (on && decide (p <+: path)) (path.drop p.length))).flatten := by
  rw [underT]
  rfl
theorem flat_succ {α : Type} (f : Nat → List α) (k : Nat) : ((List.range (k + 1)).map f).flatten = ((List.range k).map f).flatten ++ f k := by
  rw [List.range_succ, List.map_append, List.flatten_append]
  simp
theorem encT_node (hash : List UInt8 → List UInt8) (p : List UInt8) (ks : Nat → Tr) (v : List UInt8) : encT hash (.node p ks v) =
    if leafK ks then withM 192 (bytesM (written p 1) ++ bytesM v) else wrapT hash p (branchT hash ks v) := by
  rw [encT]
  rfl
/-- How many nodes. -/
def cntT : Tr → Nat
  | .nil => 0
  | .node _ ks _ => ((List.range 16).map fun i => cntT (ks i)).sum + 1
theorem sum_le_sum (f g : Nat → Nat) (h : ∀ i, f i ≤ g i) : ∀ l : List Nat, (l.map f).sum ≤ (l.map g).sum
  | [] => Nat.le_refl _
  | x :: l => by simp only [List.map_cons, List.sum_cons]; have := sum_le_sum f g h l; have := h x; omega
theorem sum_mul2 (f : Nat → Nat) : ∀ l : List Nat, (l.map fun i => 2 * f i).sum = 2 * (l.map f).sum
  | [] => rfl
  | x :: l => by simp only [List.map_cons, List.sum_cons, sum_mul2 f l]; omega
theorem underT_length (hash : List UInt8 → List UInt8) : ∀ (t : Tr) (all on : Bool) (path : List UInt8), (underT hash t all on path).length + (if t.isNil then 0 else 1) ≤ 2 * cntT t
  | .nil, _, _, _ => by simp [underT, Tr.isNil, cntT]
  | .node p ks v, all, on, path => by
    rw [underT_node]
    have hk : ∀ x, (kidU hash ks all (on && decide (p <+: path)) (path.drop p.length) x).length ≤ 2 * cntT (ks x) := fun x => by
      unfold kidU
      simp only
      have h := underT_length hash (ks x) all ((on && decide (p <+: path)) && decide (0 < (path.drop p.length).length) && decide (((path.drop p.length).headD 0).toNat = x)) (if ((on && decide (p <+: path)) && decide (0 < (path.drop p.length).length) && decide (((path.drop p.length).headD 0).toNat = x)) = true then (path.drop p.length).tail else [])
      rw [List.length_append]
      cases hx : ks x with
      | nil =>
        have e1 : encT hash .nil = bytesM [] := by rw [encT]
        have e2 : (bytesM []).length = 1 := by decide
        rw [if_neg (by rw [e1, e2]; omega)]
        simp [underT]
      | node p2 k2 v2 =>
        rw [hx] at h
        simp only [Tr.isNil, Bool.false_eq_true, if_false] at h
        split
        · simp only [List.length_singleton]; omega
        · simp only [List.length_nil]; omega
    have hs : (((List.range 16).map (kidU hash ks all (on && decide (p <+: path)) (path.drop p.length))).flatten).length ≤ 2 * ((List.range 16).map fun i => cntT (ks i)).sum := by
      rw [List.length_flatten, List.map_map, ← sum_mul2]
      exact sum_le_sum _ _ hk _
    have hc : cntT (.node p ks v) = ((List.range 16).map fun i => cntT (ks i)).sum + 1 := by rw [cntT]
    rw [hc]
    simp only [Tr.isNil, Bool.false_eq_true, if_false]
    split
    · simp only [List.length_nil]; omega
    · rw [List.length_append]
      split
      · simp only [List.length_singleton]; omega
      · simp only [List.length_nil]; omega
theorem bytesM_le (l : List UInt8) (h : l.length ≤ 281474976710656) : (bytesM l).length ≤ l.length + 9 := by
  have := headL_length 128 l.length
  have := wholeN_le l.length h
  unfold bytesM
  rw [List.length_append]
  split
  · simp
  · omega
theorem withM_le (kd : Nat) (l : List UInt8) (h : l.length ≤ 281474976710656) : (withM kd l).length ≤ l.length + 9 := by
  rw [withM_length]
  exact wholeN_le _ h
theorem written_le (p : List UInt8) (m : UInt8) : (written p m).length ≤ p.length + 1 := by
  unfold written
  split
  · have := pairUp_length p.tail
    simp at this ⊢
    omega
  · have := pairUp_length p
    simp
    omega
theorem stands_le (hash : List UInt8 → List UInt8) (hh : ∀ l, (hash l).length = 32) (b : List UInt8) : (stands hash b).length ≤ 41 := by
  unfold stands
  split
  · omega
  · have := bytesM_le (hash b) (by rw [hh]; omega)
    rw [hh] at this
    omega
theorem flatK_le {α : Type} (f : Nat → List α) (m : Nat) (h : ∀ i, (f i).length ≤ m) : ∀ k, (((List.range k).map f).flatten).length ≤ m * k
  | 0 => by simp
  | k + 1 => by
    rw [flat_succ, List.length_append, Nat.mul_succ]
    have := flatK_le f m h k
    have := h k
    omega
theorem branchT_le (hash : List UInt8 → List UInt8) (hh : ∀ l, (hash l).length = 32) (ks : Nat → Tr) (v : List UInt8) (M : Nat) (hM : M ≤ 1099511627776) (hv : v.length ≤ M) : (branchT hash ks v).length ≤ M + 700 := by
  have h1 := flatK_le (fun i => stands hash (encT hash (ks i))) 41 (fun i => stands_le hash hh _) 16
  have h2 := bytesM_le v (by omega)
  unfold branchT
  have h3 := withM_le 192 (((List.range 16).map fun i => stands hash (encT hash (ks i))).flatten ++ bytesM v) (by rw [List.length_append]; omega)
  rw [List.length_append] at h3
  omega
theorem encT_le (hash : List UInt8 → List UInt8) (hh : ∀ l, (hash l).length = 32) (t : Tr) (M : Nat) (hM : M ≤ 549755813888) (hb : Bnd M t) : (encT hash t).length ≤ 2 * M + 800 := by
  cases t with
  | nil =>
    have e1 : encT hash .nil = bytesM [] := by rw [encT]
    have e2 : (bytesM []).length = 1 := by decide
    rw [e1, e2]; omega
  | node p ks v =>
    have hp := hb.1
    have hv := hb.2.2.1
    rw [encT_node]
    split
    · have h1 := written_le p 1
      have h2 := bytesM_le (written p 1) (by omega)
      have h3 := bytesM_le v (by omega)
      have h4 := withM_le 192 (bytesM (written p 1) ++ bytesM v) (by rw [List.length_append]; omega)
      rw [List.length_append] at h4
      omega
    · have h5 := branchT_le hash hh ks v M (by omega) hv
      unfold wrapT
      split
      · omega
      · have h1 := written_le p 0
        have h2 := bytesM_le (written p 0) (by omega)
        have h3 := stands_le hash hh (branchT hash ks v)
        have h4 := withM_le 192 (bytesM (written p 0) ++ stands hash (branchT hash ks v)) (by rw [List.length_append]; omega)
        rw [List.length_append] at h4
        omega
end Go.Proofs.YtfhindffmghlaaaDoor
/- built: no node, a leaf. -/
namespace Go.Proofs.YtfhindffmghlaaaDoor
open Go.RowKit
/-- rlp.List of two texts, which lie where the region lays them. -/
theorem list2 (b1 b2 : Nat) (A1 A2 : Option Addr) (c1 c2 : Nat) (p q : List UInt8) (w : World) (hp : p.length ≤ 137438953472) (hq : q.length ≤ 137438953472) (h1 : OwnP w b1 (A1, c1, p)) (h2 : OwnP w b2 (A2, c2, q)) :
    Calls Tryd.prog 80 #[.slice (some ⟨w.heap.size, 0, none⟩) 2 2] (w.alloc (.cells #[.slice A1 p.length c1, .slice A2 q.length c2] 24))
      (Fresh (w.alloc (.cells #[.slice A1 p.length c1, .slice A2 q.length c2] 24)) (withM 192 (p ++ q))) := by
  have hj : joinP [(A1, c1, p), (A2, c2, q)] = p ++ q := by simp [joinP]
  have := rlpList_calls (some ⟨w.heap.size, 0, none⟩) 2 (w.alloc (.cells #[.slice A1 p.length c1, .slice A2 q.length c2] 24)).heap.size [(A1, c1, p), (A2, c2, q)] (w.alloc (.cells #[.slice A1 p.length c1, .slice A2 q.length c2] 24)) (by simp) (by rw [hj, List.length_append]; omega) (Nat.le_refl _)
    (Seq.of_blk (xs := [.slice A1 p.length c1, .slice A2 q.length c2]) (Blk.new _ _ _) (by rw [size_alloc]; exact Nat.lt_succ_self _)) (fun r hr => by
      simp only [List.mem_cons, List.not_mem_nil, or_false] at hr
      rcases hr with rfl | rfl
      · exact Seq.of_own (OwnP.alloc h1 _)
      · exact Seq.of_own (OwnP.alloc h2 _))
  rw [hj] at this
  exact this
/-- What built answers. -/
def BuiltPost (w : World) (t : Tr) (all on : Bool) (path : List UInt8) (e : Ending) (w' : World) : Prop :=
  ∃ (q : Piece) (A : Option Addr) (c : Nat) (us : List Piece), e = .returned (.tuple #[pcV q, .slice A us.length c]) ∧ q.2.2 = encT hashL t ∧ us.map txt = underT hashL t all on path ∧ OwnP w' w.heap.size q ∧
    w'.ownsRow w.heap.size 24 1 (.slice A us.length c) us.length (pcs us) ∧ (∀ p ∈ us, OwnP w' w.heap.size p) ∧ (q :: us).Pairwise (fun a b => Apart (pcV a) (pcV b)) ∧ Below w.heap.size w w'
/-- What built is handed. -/
structure BuiltPre (base M K : Nat) (t : Tr) (v : Value) (F : Nat → Prop) (Aw : Option Addr) (cw : Nat) (path : List UInt8) (w : World) : Prop where
  tables : Tables w
  floor : base ≤ w.heap.size
  bound : M ≤ 1073741824
  many : cntT t ≤ K
  manyK : K ≤ 1073741824
  bnd : Bnd M t
  tree : TreeAt w base t v F
  cap : path.length ≤ cw
  capM : cw ≤ maxLen
  path_ : SeqB w Aw path
set_option maxHeartbeats 4000000 in
set_option maxRecDepth 20000 in
theorem builtNil_calls (Aw : Option Addr) (cw : Nat) (path : List UInt8) (all on : Bool) (w : World) :
    Calls Tryd.prog 51 #[.pointer none, .agg #[.slice Aw path.length cw, .bool all, .bool on]] w (BuiltPost w .nil all on path) := by
  go_enter Tryd.func51, Tryd.ntmps51
  go_wp2_with (go_at_call 78; refine (rlpBytes_calls none 0 _ [] _ (by simp) (Nat.le_refl _) Seq.none_).mono ?_; rintro e1 w1 ⟨A1, c1, rfl, ho1, hb1⟩; have HO1 := Lib.hid ho1; have HB1 := Lib.hid hb1; clear ho1 hb1)
  go_ret2
  have e0 : encT hashL .nil = bytesM [] := by rw [encT]
  exact ⟨(A1, c1, bytesM []), none, 0, [], rfl, e0.symm, by rw [underT]; rfl, own_mono HO1.out (by rw [size_alloc]; omega), World.ownsRow_nil _ _ _ _, by simp, by simp, ((Below.refl w.heap.size w).alloc (Nat.le_refl _) _).trans (HB1.out.mono (by rw [size_alloc]; omega))⟩
set_option maxHeartbeats 4000000 in
set_option maxRecDepth 20000 in
theorem builtLeaf_calls (base M K : Nat) (p : List UInt8) (ks : Nat → Tr) (val : List UInt8) (v : Value) (F : Nat → Prop) (Aw : Option Addr) (cw : Nat) (path : List UInt8) (all on : Bool) (w : World) (h : BuiltPre base M K (.node p ks val) v F Aw cw path w) (hlf : leafK ks = true) :
    Calls Tryd.prog 51 #[v, .agg #[.slice Aw path.length cw, .bool all, .bool on]] w (BuiltPost w (.node p ks val) all on path) := by
  obtain ⟨g, ⟨Ap, cp, p'⟩, ⟨An, cn, val'⟩, kv, Fk, rfl, rfl, rfl, hN, hF⟩ := h.tree.parts
  have hM := h.bound
  have hpM : p'.length ≤ M := h.bnd.1
  have hvM : val'.length ≤ M := h.bnd.2.2.1
  have henc : encT hashL (.node p' ks val') = withM 192 (bytesM (written p' 1) ++ bytesM val') := by rw [encT_node, if_pos hlf]
  have hund : underT hashL (.node p' ks val') all on path = [] := by rw [underT_node, if_pos hlf]
  have hba := (Below.refl w.heap.size w).alloc (Nat.le_refl _) (.cells #[.slice Aw path.length cw, .bool all, .bool on] 85)
  have hn1 := hN.below hba
  have hz1 : w.heap.size + 1 = (w.alloc (.cells #[.slice Aw path.length cw, .bool all, .bool on] 85)).heap.size := (size_alloc _ _).symm
  have hlc := leaf_calls base g (Ap, cp, p') (An, cn, val') kv ks Fk _ hn1
  rw [hlf] at hlc
  have HLc := Lib.hid hlc
  have HEnc := Lib.hid henc
  have HUnd := Lib.hid hund
  have HBa := Lib.hid hba
  have HN1 := Lib.hid hn1
  have hcp := own_cap hN.path
  have HCp := Lib.hid hcp
  clear hlc henc hund hba hN hF h hlf hcp hz1
  go_enter Tryd.func51, Tryd.ntmps51
  go_upto_region 4 with (go_at_call 79; refine HLc.out.mono ?_; rintro e1 w1 ⟨rfl, rfl⟩)
  have hz1 := size_alloc w (.cells #[.slice Aw path.length cw, .bool all, .bool on] 85)
  have hz1a := Nat.le_of_eq hz1
  have hz1b := Nat.le_of_eq hz1.symm
  generalize w.alloc (.cells #[.slice Aw path.length cw, .bool all, .bool on] 85) = w1 at *
  have q0 : w1.cell? ⟨g, 0, none⟩ = some (.slice Ap p'.length cp) := HN1.out.blk.at_ 0 (by omega)
  have q17 : w1.cell? ⟨g, 17, none⟩ = some (.slice An val'.length cn) := HN1.out.blk.at_ 17 (by omega)
  have hlt1 := HN1.out.blk.lt
  have hbd1 := below_drewN (Below.refl w1.heap.size w1) 1
  have HBd1 := Lib.hid hbd1
  have hwl := written_le p' 1
  have hw1 : (bytesM (written p' 1)).length ≤ 137438953472 := Nat.le_trans (bytesM_le _ (by omega)) (by omega)
  have hw2 : (bytesM val').length ≤ 137438953472 := Nat.le_trans (bytesM_le _ (by omega)) (by omega)
  have HW1 := Lib.hid hw1
  have HW2 := Lib.hid hw2
  clear hw1 hw2
  clear hz1 hbd1 hn1
  go_region_law (first
    | (go_simp; go_at_call 81; refine (written_calls Ap cp w1.heap.size p' 1 w1.drew (by omega) HCp.out (Nat.le_refl _) (Seq.of_own HN1.out.path).drew).mono ?_; rintro e2 w2 ⟨A2, c2, rfl, ho2, hb2⟩; have hb2' := HBd1.out.trans hb2; have hs2 := hb2'.size; have k0 : w2.cell? ⟨g, 0, none⟩ = some (.slice Ap p'.length cp) := (hb2'.cell (p := ⟨g, 0, none⟩) hlt1).trans q0; have k17 : w2.cell? ⟨g, 17, none⟩ = some (.slice An val'.length cn) := (hb2'.cell (p := ⟨g, 17, none⟩) hlt1).trans q17; have HO2 := Lib.hid ho2; have HB2 := Lib.hid hb2'; clear ho2 hb2 hb2')
    | (go_simp; go_at_call 78; refine (rlpBytes_calls An cn w3.heap.size val' w3 (by omega) (Nat.le_refl _) (Seq.of_own (OwnP.below HN1.out.value HB3.out))).mono ?_; rintro e4 w4 ⟨A4, c4, rfl, ho4, hb4⟩; have hs4 := hb4.size; have HO4 := Lib.hid ho4; have HO34 := Lib.hid (own_below' HO3.out hb4); have HB4 := Lib.hid (HB3.out.trans (hb4.mono (by omega))); clear ho4 hb4)
    | (go_simp; go_at_call 78; refine (rlpBytes_calls A2 c2 w2.heap.size (written p' 1) w2 (by omega) (Nat.le_refl _) (Seq.of_own HO2.out)).mono ?_; rintro e3 w3 ⟨A3, c3, rfl, ho3, hb3⟩; have hs3 := hb3.size; have m17 : w3.cell? ⟨g, 17, none⟩ = some (.slice An val'.length cn) := (hb3.cell (p := ⟨g, 17, none⟩) (by show g < w2.heap.size; omega)).trans k17; have HO3 := Lib.hid ho3; have HB3 := Lib.hid (HB2.out.trans (hb3.mono hs2)); clear ho3 hb3)
    | (go_simp; go_at_call 80; refine (list2 _ _ A3 A4 c3 c4 (bytesM (written p' 1)) (bytesM val') w4 HW1.out HW2.out HO34.out HO4.out).mono ?_; rintro e5 w5 ⟨A5, c5, rfl, ho5, hb5⟩; have hs5 := hb5.size; rw [size_alloc] at hs5; have HO5 := Lib.hid ho5; have HB5 := Lib.hid ((HB4.out.alloc (by omega) _).trans (hb5.mono (by rw [size_alloc]; omega))); clear ho5 hb5))
  all_goals
    go_wp2_with fail
    go_ret2
    exact ⟨(A5, c5, withM 192 (bytesM (written p' 1) ++ bytesM val')), none, 0, [], rfl, HEnc.out.symm, by rw [HUnd.out]; rfl, own_mono HO5.out (by rw [size_alloc]; omega), World.ownsRow_nil _ _ _ _, by simp, by simp, HBa.out.trans (HB5.out.mono (by omega))⟩
end Go.Proofs.YtfhindffmghlaaaDoor
