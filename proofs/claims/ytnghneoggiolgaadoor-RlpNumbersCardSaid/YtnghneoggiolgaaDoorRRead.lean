/- read: the head of an item that is read. -/
import Derived.Test.YtnghneoggiolgaaDoorRHead
namespace Go.Proofs.YtnghneoggiolgaaDoor
open Go.RowKit
def ext (b : UInt8) : BitVec 64 := BitVec.ofNat 64 b.toNat
@[go_sem] theorem wrap_u64_by8 (b : UInt8) : IntKind.u64.wrap (by8 b) = u64 (ext b) := by
  have h := b.toNat_lt
  rw [IntKind.wrap_u64]
  unfold by8 u64 ext
  rw [BitVec.toNat_ofNat]
  omega
theorem results_tmp4 {fn : Func} {t u v x : Tmp} (h : fn.results = #[.tmp t, .tmp u, .tmp v, .tmp x]) (tmps : Array Value) (P : Program) (w : World) :
    (results fn tmps).run P w = .ok (.tuple #[tmps.getD t undef, tmps.getD u undef, tmps.getD v undef, tmps.getD x undef]) w := by
  simp [results, h]
theorem and63 : ∀ c : Fin 256, bits .and .i64 (c.val : Int) 63 = ((c.val % 64 : Nat) : Int) := by decide +kernel
/-- The number that k bytes are. -/
def longV (b : List UInt8) (f : Nat) : Nat → BitVec 64
  | 0 => 0#64
  | k + 1 => longV b f k <<< 8 ||| ext (b.getD (f + k) 0)
abbrev ReadR := Bool × Nat × Nat × Nat
def readM (b : List UInt8) (p en : Nat) : ReadR :=
  if en ≤ p then (false, 0, 0, 50) else
  if (b.getD p 0).toNat < 128 then (false, p, p + 1, 0) else
  if 55 < (b.getD p 0).toNat % 64 then
    if en - (p + 1) < (b.getD p 0).toNat % 64 - 55 then (false, 0, 0, 50) else
    if (b.getD (p + 1) 0).toNat = 0 ∨ (longV b (p + 1) ((b.getD p 0).toNat % 64 - 55)).toNat ≤ 55 then (false, 0, 0, 251) else
    if en - (p + 1 + ((b.getD p 0).toNat % 64 - 55)) < (longV b (p + 1) ((b.getD p 0).toNat % 64 - 55)).toNat then (false, 0, 0, 50) else
      (decide (192 ≤ (b.getD p 0).toNat), p + 1 + ((b.getD p 0).toNat % 64 - 55), p + 1 + ((b.getD p 0).toNat % 64 - 55) + (longV b (p + 1) ((b.getD p 0).toNat % 64 - 55)).toNat, 0)
  else if en - (p + 1) < (b.getD p 0).toNat % 64 then (false, 0, 0, 50) else
  if (b.getD p 0).toNat = 129 ∧ (b.getD (p + 1) 0).toNat < 128 then (false, 0, 0, 251) else
    (decide (192 ≤ (b.getD p 0).toNat), p + 1, p + 1 + (b.getD p 0).toNat % 64, 0)
def readV (r : ReadR) : Value := .tuple #[.bool r.1, .int .i64 r.2.1, .int .i64 r.2.2.1, .int .i64 r.2.2.2]
set_option maxHeartbeats 2000000 in
set_option maxRecDepth 20000 in
theorem read_calls (A : Option Addr) (c B : Nat) (b : List UInt8) (p en : Nat) (hl : b.length ≤ 1099511627776) (hc : b.length ≤ c) (hen : en ≤ b.length) (hp : p ≤ 1099511627776) (w : World) (hs : Seq w B A (bytes b)) (hB : B ≤ w.heap.size) :
    Calls Tryd.prog 25 #[.slice A b.length c, .int .i64 p, .int .i64 en] w fun e w' => e = .returned (readV (readM b p en)) ∧ Below w.heap.size w w' := by
  have HS := Lib.hid hs
  clear hs
  have hB0 : Below w.heap.size w w := Below.refl _ _
  by_cases h1 : en ≤ p
  · have d1 : decide ((p : Int) ≥ (en : Int)) = true := decide_eq_true (by omega)
    have hm : readM b p en = (false, 0, 0, 50) := by unfold readM; rw [if_pos h1]
    rw [hm]
    clear hm
    go_enter Tryd.func25, Tryd.ntmps25
    go_wp2_with fail
    refine bodyPost_ret (results_tmp4 rfl _ _ _) rfl ?_
    exact ⟨rfl, hB0⟩
  have d1 : decide ((p : Int) ≥ (en : Int)) = false := decide_eq_false (by omega)
  obtain ⟨ad, rfl, _, hc0⟩ := HS.out.at_ (k := p) (by rw [bytes_length]; omega)
  have hx : b.getD p 0 = b[p]'(by omega) := by rw [List.getD_eq_getElem?_getD, List.getElem?_eq_getElem (by omega)]; rfl
  rw [bytes_get, ← hx] at hc0
  have hxl := (b.getD p 0).toNat_lt
  have hq0 : w.cell? (ad.add p) = some (.int .u8 ((b.getD p 0).toNat : Int)) := hc0
  have lp : (p : Int) < (b.length : Int) := by omega
  obtain ⟨r, hr⟩ : ∃ r, readM b p en = r := ⟨_, rfl⟩
  have hrm := hr
  unfold readM at hrm
  rw [if_neg h1] at hrm
  rw [hr]
  clear hc0 hx hr
  generalize hX : (b.getD p 0).toNat = x at *
  clear hX
  by_cases h2 : x < 128
  · rw [if_pos h2] at hrm
    have HR := Lib.hid hrm
    clear hrm
    have d2 : decide ((x : Int) < 128) = true := decide_eq_true (by omega)
    go_enter Tryd.func25, Tryd.ntmps25
    go_wp2_with fail
    refine bodyPost_ret (results_tmp4 rfl _ _ _) rfl ?_
    rw [← HR.out]
    exact ⟨rfl, hB0⟩
  rw [if_neg h2] at hrm
  have ha := and63 ⟨x, hxl⟩
  simp only at ha
  have d2 : decide ((x : Int) < 128) = false := decide_eq_false (by omega)
  obtain ⟨n, hn⟩ : ∃ n, x % 64 = n := ⟨_, rfl⟩
  have hn64 : n < 64 := by omega
  have hdeep : decide ((x : Int) ≥ 192) = decide (192 ≤ x) := by
    by_cases h : 192 ≤ x
    · rw [decide_eq_true h, decide_eq_true (by omega)]
    · rw [decide_eq_false h, decide_eq_false (by omega)]
  rw [hn] at ha hrm
  by_cases h3 : 55 < n
  · rw [if_pos h3] at hrm
    have d3 : decide ((n : Int) > 55) = true := decide_eq_true (by omega)
    obtain ⟨k, hk⟩ : ∃ k, n - 55 = k := ⟨_, rfl⟩
    rw [hk] at hrm
    have ek : IntKind.i64.wrap ((n : Int) - 55) = (k : Int) := by rw [IntWalk.i64_in _ (by omega)]; omega
    by_cases h4 : en - (p + 1) < k
    · rw [if_pos h4] at hrm
      have HR := Lib.hid hrm
      have d4 : decide ((k : Int) > (en : Int) - ((p : Int) + 1)) = true := decide_eq_true (by omega)
      clear hrm hn hk
      go_enter Tryd.func25, Tryd.ntmps25
      go_wp2_with fail
      refine bodyPost_ret (results_tmp4 rfl _ _ _) rfl ?_
      rw [← HR.out]
      exact ⟨rfl, hB0⟩
    · rw [if_neg h4] at hrm
      have d4 : decide ((k : Int) > (en : Int) - ((p : Int) + 1)) = false := decide_eq_false (by omega)
      have hk1 : 1 ≤ k := by omega
      have hk8 : k ≤ 8 := by omega
      obtain ⟨ad2, he, _, hc1⟩ := HS.out.at_ (k := p + 1) (by rw [bytes_length]; omega)
      injection he with he
      subst he
      have hx1 : b.getD (p + 1) 0 = b[p + 1]'(by omega) := by rw [List.getD_eq_getElem?_getD, List.getElem?_eq_getElem (by omega)]; rfl
      rw [bytes_get, ← hx1] at hc1
      have hq1 : w.cell? ⟨ad.block, ad.off + (p + 1), none⟩ = some (.int .u8 ((b.getD (p + 1) 0).toNat : Int)) := (by have h := hc1; unfold Addr.add at h; rw [if_neg (by omega)] at h; exact h)
      clear hc1 hx1
      have hyl := (b.getD (p + 1) 0).toNat_lt
      generalize hY : (b.getD (p + 1) 0).toNat = y at *
      clear hY
      have HRm := Lib.hid hrm
      have lp1 : (p : Int) + 1 ≤ (b.length : Int) := by omega
      have lpk : (p : Int) + 1 + (k : Int) ≤ (c : Int) := by omega
      have lp1' : (p : Int) + 1 < (b.length : Int) := by omega
      have tp1 : ((p : Int) + 1).toNat = p + 1 := by omega
      have hc1 : ¬ c = p + 1 := by omega
      clear hrm hn hk
      go_enter Tryd.func25, Tryd.ntmps25
      go_wp2_with fail
      go_loopw [13, 15, 51] (fun v _ i wr => ∃ j : Nat, j ≤ k ∧ i = .int .i64 j ∧ v = .int .u64 (u64 (longV b (p + 1) j)) ∧ Below w.heap.size w wr) (fun _ _ i _ => k - (intOf i).toNat)
      case atStart => exact ⟨0, by omega, rfl, rfl, hB0⟩
      case round =>
        obtain ⟨j, hj, rfl, rfl, hBr⟩ := hrel
        by_cases hlt : j < k
        · have dj : decide ((j : Int) < (k : Int)) = true := decide_eq_true (by omega)
          have lj : (j : Int) < (k : Int) := by omega
          obtain ⟨ad2, he, hadb, hcj⟩ := HS.out.at_ (k := p + 1 + j) (by rw [bytes_length]; omega)
          injection he with he
          subst he
          have hxj : b.getD (p + 1 + j) 0 = b[p + 1 + j]'(by omega) := by rw [List.getD_eq_getElem?_getD, List.getElem?_eq_getElem (by omega)]; rfl
          rw [bytes_get, ← hxj] at hcj
          have hst : longV b (p + 1) (j + 1) = longV b (p + 1) j <<< 8 ||| ext (b.getD (p + 1 + j) 0) := rfl
          generalize b.getD (p + 1 + j) 0 = z at *
          have hcz : wr.cell? (ad.add (p + 1 + j)) = some (.int .u8 (by8 z)) := (hBr.cell (p := ad.add (p + 1 + j)) (by rw [block_add]; omega)).trans hcj
          have HSt := Lib.hid hst
          have hsh := bv_shl (longV b (p + 1) j) 8
          rw [show (2 : Int) ^ 8 = 256 from rfl] at hsh
          have HB := Lib.hid hBr
          have had : ad.add (p + 1 + j) = ⟨ad.block, ad.off + (p + 1) + j, none⟩ := by
            unfold Addr.add
            rw [if_neg (by omega), Nat.add_assoc ad.off (p + 1) j]
          rw [had] at hcz
          clear hcj hxj hst hBr had
          go_wp2_with fail
          exact ⟨⟨j + 1, by omega, by go_num, by rw [HSt.out], HB.out⟩, by simp [intOf]; omega⟩
        · have dj : decide ((j : Int) < (k : Int)) = false := decide_eq_false (by omega)
          obtain hjk : j = k := by omega
          have hq1r : wr.cell? ⟨ad.block, ad.off + (p + 1), none⟩ = some (.int .u8 (y : Int)) := (hBr.cell (p := ⟨ad.block, ad.off + (p + 1), none⟩) (show ad.block < w.heap.size by omega)).trans hq1
          obtain ⟨V, hV⟩ : ∃ V, longV b (p + 1) k = V := ⟨_, rfl⟩
          rw [hjk, hV]
          have hrm := HRm.out
          rw [hV] at hrm
          have hu : u64 V = (V.toNat : Int) := rfl
          rw [hu]
          generalize V.toNat = v at *
          have HB := Lib.hid hBr
          clear hBr hV hu HRm hjk hq1
          have ew : IntKind.u64.wrap ((en : Int) - ((p : Int) + 1 + (k : Int))) = ((en - (p + 1 + k) : Nat) : Int) := by rw [IntKind.wrap_u64]; omega
          by_cases h5 : y = 0 ∨ v ≤ 55
          · rw [if_pos h5] at hrm
            have HR := Lib.hid hrm
            clear hrm
            have hg : (((y : Int) == 0) = true) ∨ (((y : Int) == 0) = false ∧ decide ((v : Int) ≤ 55) = true) := by
              by_cases h6 : y = 0
              · exact Or.inl (by rw [beq_iff_eq]; omega)
              · exact Or.inr ⟨by rw [beq_eq_false_iff_ne]; omega, decide_eq_true (by omega)⟩
            clear h5
            rcases hg with g1 | ⟨g1, g2⟩
            all_goals
              go_wp2_with fail
              refine bodyPost_ret (results_tmp4 rfl _ _ _) rfl ?_
              rw [← HR.out]
              exact ⟨rfl, HB.out⟩
          · rw [if_neg h5] at hrm
            have g1 : ((y : Int) == 0) = false := by rw [beq_eq_false_iff_ne]; omega
            have g2 : decide ((v : Int) ≤ 55) = false := decide_eq_false (by omega)
            clear h5
            by_cases h6 : en - (p + 1 + k) < v
            · rw [if_pos h6] at hrm
              have HR := Lib.hid hrm
              clear hrm
              have g3 : decide ((v : Int) > ((en - (p + 1 + k) : Nat) : Int)) = true := decide_eq_true (by omega)
              go_wp2_with fail
              refine bodyPost_ret (results_tmp4 rfl _ _ _) rfl ?_
              rw [← HR.out]
              exact ⟨rfl, HB.out⟩
            · rw [if_neg h6] at hrm
              have HR := Lib.hid hrm
              clear hrm
              have g3 : decide ((v : Int) > ((en - (p + 1 + k) : Nat) : Int)) = false := decide_eq_false (by omega)
              have hv40 : v ≤ 1099511627776 := by omega
              go_wp2_with fail
              refine bodyPost_ret (results_tmp4 rfl _ _ _) rfl ?_
              rw [← HR.out]
              exact ⟨rfl, HB.out⟩
  · rw [if_neg h3] at hrm
    have d3 : decide ((n : Int) > 55) = false := decide_eq_false (by omega)
    by_cases h4 : en - (p + 1) < n
    · rw [if_pos h4] at hrm
      have HR := Lib.hid hrm
      have d4 : decide ((n : Int) > (en : Int) - ((p : Int) + 1)) = true := decide_eq_true (by omega)
      clear hrm hn
      go_enter Tryd.func25, Tryd.ntmps25
      go_wp2_with fail
      refine bodyPost_ret (results_tmp4 rfl _ _ _) rfl ?_
      rw [← HR.out]
      exact ⟨rfl, hB0⟩
    · rw [if_neg h4] at hrm
      have d4 : decide ((n : Int) > (en : Int) - ((p : Int) + 1)) = false := decide_eq_false (by omega)
      by_cases h5 : x = 129
      · have hn1 : n = 1 := by omega
        obtain ⟨ad2, he, _, hc1⟩ := HS.out.at_ (k := p + 1) (by rw [bytes_length]; omega)
        injection he with he
        subst he
        have hx1 : b.getD (p + 1) 0 = b[p + 1]'(by omega) := by rw [List.getD_eq_getElem?_getD, List.getElem?_eq_getElem (by omega)]; rfl
        rw [bytes_get, ← hx1] at hc1
        have hq1 : w.cell? ⟨ad.block, ad.off + (p + 1), none⟩ = some (.int .u8 ((b.getD (p + 1) 0).toNat : Int)) := (by have h := hc1; unfold Addr.add at h; rw [if_neg (by omega)] at h; exact h)
        clear hc1 hx1
        generalize hY : (b.getD (p + 1) 0).toNat = y at *
        clear hY
        have lp1 : (p : Int) + 1 < (b.length : Int) := by omega
        have tp1 : ((p : Int) + 1).toNat = p + 1 := by omega
        by_cases h6 : y < 128
        · rw [if_pos ⟨h5, h6⟩] at hrm
          have HR := Lib.hid hrm
          have d6 : decide ((y : Int) < 128) = true := decide_eq_true (by omega)
          clear hrm hn
          have d5 : ((x : Int) == 129) = true := by rw [beq_iff_eq]; omega
          clear h5 hn1
          go_enter Tryd.func25, Tryd.ntmps25
          go_wp2_with fail
          refine bodyPost_ret (results_tmp4 rfl _ _ _) rfl ?_
          rw [← HR.out]
          exact ⟨rfl, hB0⟩
        · rw [if_neg (fun h => h6 h.2)] at hrm
          have HR := Lib.hid hrm
          have d6 : decide ((y : Int) < 128) = false := decide_eq_false (by omega)
          clear hrm hn
          have d5 : ((x : Int) == 129) = true := by rw [beq_iff_eq]; omega
          clear h5 hn1
          go_enter Tryd.func25, Tryd.ntmps25
          go_wp2_with fail
          refine bodyPost_ret (results_tmp4 rfl _ _ _) rfl ?_
          rw [← HR.out]
          exact ⟨rfl, hB0⟩
      · rw [if_neg (fun h => h5 h.1)] at hrm
        have HR := Lib.hid hrm
        have d5 : ((x : Int) == 129) = false := by rw [beq_eq_false_iff_ne]; omega
        clear hrm hn
        go_enter Tryd.func25, Tryd.ntmps25
        go_wp2_with fail
        refine bodyPost_ret (results_tmp4 rfl _ _ _) rfl ?_
        rw [← HR.out]
        exact ⟨rfl, hB0⟩
end Go.Proofs.YtnghneoggiolgaaDoor
