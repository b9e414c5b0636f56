/- slices.Grow and slices.Concat of bytes. -/
import Derived.Test.YtfhindffmghlaaaDoorG09
import Derived.Deep.RegionLaw
import Derived.Test.YtfhindffmghlaaaDoorG08
set_option linter.unusedVariables false
set_option linter.unusedSimpArgs false
namespace Go.Proofs.YtfhindffmghlaaaDoor
open Go.RowKit
set_option maxHeartbeats 1000000 in
set_option maxRecDepth 20000 in
theorem grow_calls (n : Nat) (hn : n ≤ 1099511627776) (w : World) : Calls Tryd.prog 88 #[.slice none 0 0, .int .i64 n] w fun e w' => ∃ (A : Option Addr) (c : Nat), e = .returned (.slice A 0 c) ∧ w'.ownsRow w.heap.size 5 1 (.slice A 0 c) 0 [] ∧ Below w.heap.size w w' := by
  by_cases h : n = 0
  · subst h
    go_enter Tryd.func88, Tryd.ntmps88
    go_wp2_with fail
    go_ret
    exact ⟨none, 0, rfl, World.ownsRow_nil _ _ _ _, Below.refl _ _⟩
  · have d1 : decide ((n : Int) < 0) = false := decide_eq_false (by omega)
    have d2 : decide ((n : Int) > 0) = true := decide_eq_true (by omega)
    have hn0 : 0 < n := by omega
    have hb5 : Tryd.t5.bytes = 1 := by kernel_rfl
    have hf1 : ¬ (281474976710656 < Builtin.nextslicecap n 0 * Tryd.t5.bytes) := Nat.not_lt.2 (growslice_fits (by omega) (by rw [hb5]; omega))
    have hf2 : ¬ (281474976710656 < (n : Int) * (Tryd.t5.bytes : Int)) := by rw [hb5]; omega
    have hge := grownCap_ge w n 0 5
    have hle := grownCap_le_maxLen w n 0 5 (by unfold maxLen; omega)
    have HGe := Lib.hid hge
    have HLe := Lib.hid hle
    clear hb5 hge hle
    go_enter Tryd.func88, Tryd.ntmps88
    go_wp2_with fail
    go_ret
    refine ⟨_, grownCap w n 0 5, rfl, ⟨rfl, .inr ⟨w.heap.size, _, _, rfl, Nat.le_refl _, heap_alloc_new w _, Nat.zero_le _, HLe.out, ?_, by simp⟩⟩, ?_⟩
    · have h1 := HGe.out
      simp only [Array.size_append, size_zeroCells, Nat.mul_one]
      show _ = grownCap w n 0 5
      unfold grownCap at *
      simp
      omega
    · exact below_drewN ((Below.refl w.heap.size w).alloc (Nat.le_refl _) _) 1
set_option maxHeartbeats 1000000 in
set_option maxRecDepth 20000 in
theorem concat_calls (A : Option Addr) (c B : Nat) (ps : List Piece) (w : World) (hps : ps.length ≤ 1099511627776) (hj : (joinP ps).length ≤ 1099511627776) (hB : B ≤ w.heap.size) (hs : Seq w B A (pcs ps)) (hp : ∀ q ∈ ps, Seq w B q.1 (bytes q.2.2)) :
    Calls Tryd.prog 56 #[.slice A ps.length c] w (Fresh w (joinP ps)) := by
  have HS := Lib.hid hs
  have HP := Lib.hid hp
  clear hs hp
  go_enter Tryd.func56, Tryd.ntmps56
  go_wp2_with fail
  go_loop [3, 11] (fun s i => ∃ k : Nat, k ≤ ps.length ∧ i = .int .i64 k ∧ s = .int .i64 ((joinP (ps.take k)).length : Int)) (fun _ i => ps.length - (intOf i).toNat)
  case atStart => exact ⟨0, by omega, rfl, rfl⟩
  case round =>
    obtain ⟨k, hk, rfl, rfl⟩ := hrel
    by_cases hlt : k < ps.length
    · have dk : decide ((k : Int) < (ps.length : Int)) = true := by simp; omega
      have lk : (k : Int) < (ps.length : Int) := by omega
      obtain ⟨ad, rfl, _, hc0⟩ := HS.out.piece k hlt
      have htk := joinP_take ps k hlt
      have hle2 := joinP_le ps (k + 1)
      rw [htk, List.length_append] at hle2
      generalize ps[k] = q at *
      obtain ⟨Aq, cq, lq⟩ := q
      simp only at hc0 htk hle2
      have HTk := Lib.hid htk
      clear htk
      generalize joinP (ps.take k) = L at *
      have d0 : decide ((L.length : Int) + (lq.length : Int) < 0) = false := decide_eq_false (by omega)
      go_wp2_with fail
      go_round
      case rel => exact ⟨k + 1, by omega, by go_num, by rw [HTk.out, List.length_append]; rfl⟩
      case measure => simp [intOf]; omega
    · have dk : decide ((k : Int) < (ps.length : Int)) = false := by simp; omega
      obtain hkn : k = ps.length := by omega
      have hjt : joinP (ps.take k) = joinP ps := by rw [hkn, List.take_length]
      rw [hjt]
      clear hjt hkn
      generalize hJ : (joinP ps).length = J at *
      have HJ := Lib.hid hJ
      clear hJ
      go_wp2_with (go_at_call 88; refine (grow_calls J (by omega) w).mono ?_; rintro e1 w1 ⟨A1, c1, rfl, ho1, hb1⟩; have hs1 := hb1.size; have HO1 := Lib.hid ho1; have HB1 := Lib.hid hb1; clear ho1 hb1)
      go_loopw [6, 27] (fun v i wr => ∃ (m : Nat) (A1 : Option Addr) (c1 : Nat), m ≤ ps.length ∧ i = .int .i64 m ∧ v = .slice A1 (joinP (ps.take m)).length c1 ∧ wr.ownsRow w.heap.size 5 1 (.slice A1 (joinP (ps.take m)).length c1) (joinP (ps.take m)).length (bytes (joinP (ps.take m))) ∧ Below w.heap.size w wr) (fun _ i _ => ps.length - (intOf i).toNat)
      case atStart => exact ⟨0, A1, c1, by omega, rfl, rfl, HO1.out, HB1.out⟩
      case round =>
        clear HO1 HB1
        obtain ⟨m, A1, c1, hm, rfl, rfl, hown, hBl⟩ := hrel
        have hsz := hBl.size
        have hle := joinP_le ps m
        rw [HJ.out] at hle
        by_cases hlt : m < ps.length
        · have dm : decide ((m : Int) < (ps.length : Int)) = true := by simp; omega
          have lm : (m : Int) < (ps.length : Int) := by omega
          obtain ⟨ad, rfl, _, hc0⟩ := (HS.out.below hBl hB).piece m hlt
          have hq := (HP.out _ (List.getElem_mem hlt)).below hBl hB
          have htk := joinP_take ps m hlt
          have hle2 := joinP_le ps (m + 1)
          rw [htk, List.length_append, HJ.out] at hle2
          generalize ps[m] = q at *
          obtain ⟨Aq, cq, lq⟩ := q
          simp only at hc0 hq htk hle2
          have HTk := Lib.hid htk
          have HO := Lib.hid hown
          have HB := Lib.hid hBl
          have HQ := Lib.hid hq
          clear hown hBl hq htk
          generalize joinP (ps.take m) = L at *
          go_wp2_with (at_builtin; ((refine wpL_append rfl (.tmp 31) (.tmp 32) 24 rfl elByte rfl HO.out rfl (by rw [bytes_length]; simp) HQ.out (bytes_one _) (by unfold maxLen; omega) (by omega) hsz ?_; intro A4 c4 w4 ho4 hg4 _; rw [← bytes_append] at ho4; have HO4 := Lib.hid ho4; have HB4 := Lib.hid (HB.out.grown hg4 hsz (fun g hg => (HO.out.lt g hg).1)); clear ho4 hg4)))
          exact ⟨⟨m + 1, A4, c4, by omega, by go_num, by rw [HTk.out, List.length_append], by rw [HTk.out, List.length_append]; exact HO4.out, HB4.out⟩, by simp [intOf]; omega⟩
        · have dm : decide ((m : Int) < (ps.length : Int)) = false := by simp; omega
          obtain hmn : m = ps.length := by omega
          have hjt : joinP (ps.take m) = joinP ps := by rw [hmn, List.take_length]
          rw [hjt] at hown ⊢
          have HO := Lib.hid hown
          have HB := Lib.hid hBl
          clear hown hBl hjt hmn
          go_wp2_with fail
          go_ret
          exact ⟨A1, c1, rfl, HO.out, HB.out⟩
end Go.Proofs.YtfhindffmghlaaaDoor
/- fold. -/
namespace Go.Proofs.YtfhindffmghlaaaDoor
open Go.RowKit
def thereTo (ks : Nat → Tr) (k : Nat) : List Nat := (List.range k).filter fun i => !(ks i).isNil
theorem thereTo_succ (ks : Nat → Tr) (k : Nat) : thereTo ks (k + 1) = thereTo ks k ++ (if (ks k).isNil then [] else [k]) := by
  unfold thereTo
  rw [List.range_succ, List.filter_append]
  cases h : (ks k).isNil <;> simp [h]
theorem thereTo_le (ks : Nat → Tr) (k : Nat) : (thereTo ks k).length ≤ k := by
  have := List.length_filter_le (fun i => !(ks i).isNil) (List.range k)
  rw [List.length_range] at this
  exact this
theorem thereTo_mem {ks : Nat → Tr} {k i : Nat} (h : i ∈ thereTo ks k) : i < k ∧ (ks i).isNil = false := by
  unfold thereTo at h
  rw [List.mem_filter, List.mem_range] at h
  exact ⟨h.1, by simpa using h.2⟩
theorem load_kids (pv vv : Value) (kv : Nat → Value) : (tab 16 fun j => nodeV pv kv vv (1 + j)) = tab 16 kv := tab_congr fun j hj => by
  unfold nodeV
  rw [if_neg (by omega), if_pos (by omega), Nat.add_sub_cancel_left]
/-- Concat of a path, a nibble and a path, which lie where the region lays them. -/
theorem join3 (base : Nat) (A1 A2 : Option Addr) (c1 c2 : Nat) (p q : List UInt8) (x : UInt8) (w : World) (hp : p.length ≤ 1073741824) (hq : q.length ≤ 1073741824) (h1 : OwnP w base (A1, c1, p)) (h2 : OwnP w base (A2, c2, q)) :
    Calls Tryd.prog 56 #[.slice (some ⟨w.heap.size + 1, 0, none⟩) 3 3] ((w.alloc (.cells #[.int .u8 (by8 x)] 5)).alloc (.cells #[.slice A1 p.length c1, .slice (some ⟨w.heap.size, 0, none⟩) 1 1, .slice A2 q.length c2] 24))
      (Fresh ((w.alloc (.cells #[.int .u8 (by8 x)] 5)).alloc (.cells #[.slice A1 p.length c1, .slice (some ⟨w.heap.size, 0, none⟩) 1 1, .slice A2 q.length c2] 24)) (p ++ x :: q)) := by
  generalize hW1 : w.alloc (.cells #[.int .u8 (by8 x)] 5) = w1
  have hz1 : w1.heap.size = w.heap.size + 1 := by rw [← hW1]; exact size_alloc _ _
  have ho1 : OwnP w1 w.heap.size (some ⟨w.heap.size, 0, none⟩, 1, [x]) := hW1 ▸ own_one w x
  have hb1 : Below w.heap.size w w1 := hW1 ▸ (Below.refl w.heap.size w).alloc (Nat.le_refl _) _
  have hp1 := h1.below hb1
  have hq1 := h2.below hb1
  have hB : Blk (w1.alloc (.cells #[.slice A1 p.length c1, .slice (some ⟨w.heap.size, 0, none⟩) 1 1, .slice A2 q.length c2] 24)) (w.heap.size + 1) 24 _ := Blk.new' _ _ _ hz1.symm
  have hz2 : (w1.alloc (.cells #[.slice A1 p.length c1, .slice (some ⟨w.heap.size, 0, none⟩) 1 1, .slice A2 q.length c2] 24)).heap.size = w.heap.size + 2 := by rw [size_alloc, hz1]
  have hsp := (Seq.of_own (OwnP.alloc hp1 (.cells #[.slice A1 p.length c1, .slice (some ⟨w.heap.size, 0, none⟩) 1 1, .slice A2 q.length c2] 24)))
  have hsx := (Seq.of_own (OwnP.alloc ho1 (.cells #[.slice A1 p.length c1, .slice (some ⟨w.heap.size, 0, none⟩) 1 1, .slice A2 q.length c2] 24)))
  have hsq := (Seq.of_own (OwnP.alloc hq1 (.cells #[.slice A1 p.length c1, .slice (some ⟨w.heap.size, 0, none⟩) 1 1, .slice A2 q.length c2] 24)))
  generalize w1.alloc (.cells #[.slice A1 p.length c1, .slice (some ⟨w.heap.size, 0, none⟩) 1 1, .slice A2 q.length c2] 24) = w2 at *
  have hj : joinP [(A1, c1, p), (some ⟨w.heap.size, 0, none⟩, 1, [x]), (A2, c2, q)] = p ++ x :: q := by simp [joinP]
  have := concat_calls (some ⟨w.heap.size + 1, 0, none⟩) 3 w2.heap.size [(A1, c1, p), (some ⟨w.heap.size, 0, none⟩, 1, [x]), (A2, c2, q)] w2 (by simp) (by rw [hj]; simp; omega) (Nat.le_refl _) (Seq.of_blk (xs := [.slice A1 p.length c1, .slice (some ⟨w.heap.size, 0, none⟩) 1 1, .slice A2 q.length c2]) hB (by omega)) (fun r hr => by
    simp only [List.mem_cons, List.not_mem_nil, or_false] at hr
    rcases hr with rfl | rfl | rfl
    · exact hsp
    · exact hsx
    · exact hsq)
  rw [hj] at this
  exact this
set_option maxHeartbeats 4000000 in
set_option maxRecDepth 20000 in
theorem fold_calls (base g : Nat) (pp vp : Piece) (kv : Nat → Value) (ks : Nat → Tr) (Fk : Nat → Nat → Prop) (w : World) (h : NodeAt w base g pp vp kv ks Fk) (hb : base ≤ w.heap.size) (M : Nat) (hM : M ≤ 1073741824) (hp : pp.2.2.length ≤ M) (hkb : ∀ i, Bnd M (ks i)) :
    Calls Tryd.prog 89 #[.pointer (some ⟨g, 0, none⟩)] w (TreePost w base (footN g Fk) (foldT pp.2.2 ks vp.2.2)) := by
  obtain ⟨Ap, cp, p⟩ := pp
  obtain ⟨Av, cv, val⟩ := vp
  have H := Lib.hid h
  have q17 : w.cell? ⟨g, 17, none⟩ = some (.slice Av val.length cv) := h.blk.at_ 17 (by omega)
  have q0 : w.cell? ⟨g, 0, none⟩ = some (.slice Ap p.length cp) := h.blk.at_ 0 (by omega)
  have HKb := Lib.hid hkb
  have hsz : (Tryd.prog.info? 97).map (·.size) = some 16 := by kernel_rfl
  have Hsz := Lib.hid hsz
  clear h hkb hsz
  go_enter Tryd.func89, Tryd.ntmps89
  go_wp2_with (refine wpL_load rfl 97 (.tmp 10) rfl (n := 16) 1 rfl _ H.out.blk (by omega) Tryd.underlying97 rfl Hsz.out ?_; rw [load_kids])
  go_loop [3, 4, 12] (fun m l i => ∃ k : Nat, k ≤ 16 ∧ i = .int .i64 k ∧ m = .int .i64 (((thereTo ks k).length : Nat) : Int) ∧ l = .int .i64 (((thereTo ks k).getLastD 0 : Nat) : Int)) (fun _ _ i => 16 - (intOf i).toNat)
  case atStart => exact ⟨0, by omega, rfl, rfl, rfl⟩
  case round =>
    obtain ⟨k, hk, rfl, rfl, rfl⟩ := hrel
    have hle := thereTo_le ks k
    by_cases hlt : k < 16
    · have dk : decide ((k : Int) < 16) = true := by simp; omega
      have hix : ∀ W : World, (Instr.index 97 (.agg (tab 16 kv)) (.int .i64 (k : Int))).run Tryd.prog W = .ok (kv k) W :=
        fun W => run_index_tab _ 80 _ Tryd.underlying97 Tryd.underlying80 rfl (by kernel_rfl) _ k hlt W
      have hsu := thereTo_succ ks k
      have hkid := H.out.kids k hlt
      cases hks : ks k with
      | nil =>
        rw [hks] at hkid hsu
        have hkv : kv k = .pointer none := hkid.1
        have e : thereTo ks (k + 1) = thereTo ks k := by rw [hsu]; exact List.append_nil _
        rw [hkv] at hix
        have HE := Lib.hid e
        clear hsu hkid hkv hks e
        generalize thereTo ks k = L at *
        go_wp2_with fail
        go_round
        case rel => exact ⟨k + 1, by omega, by go_num, by rw [HE.out], by rw [HE.out]⟩
        case measure => simp [intOf]; omega
      | node kp kk kvv =>
        rw [hks] at hkid hsu
        obtain ⟨gk, _, _, _, _, hkv, _⟩ := hkid
        have e : thereTo ks (k + 1) = thereTo ks k ++ [k] := hsu
        rw [hkv] at hix
        have HE := Lib.hid e
        clear hsu hkv hks e
        generalize thereTo ks k = L at *
        go_wp2_with fail
        go_round
        case rel => exact ⟨k + 1, by omega, by go_num, by rw [HE.out]; simp, by rw [HE.out]; simp⟩
        case measure => simp [intOf]; omega
    · obtain rfl : k = 16 := by omega
      clear hlt hk
      have hth : thereTo ks 16 = there ks := rfl
      have hmem : ∀ i, i ∈ there ks → i < 16 ∧ (ks i).isNil = false := fun i h => thereTo_mem (hth ▸ h)
      have hfold : foldT p ks val = if val ≠ [] ∨ 1 < (there ks).length then .node p ks val else match there ks with | [] => .nil | i :: _ => match ks i with | .nil => .nil | .node kp kk kv => .node (p ++ UInt8.ofNat i :: kp) kk kv := rfl
      rw [hth] at hle ⊢
      clear hth
      have HFold := Lib.hid hfold
      have HMem := Lib.hid hmem
      clear hfold hmem
      by_cases hv : val = []
      · subst hv
        have hn := H.out.none_ rfl
        unfold pcV at hn
        injection hn with h1 _ h3
        simp only at h1 h3
        subst h1 h3
        cases hL : there ks with
        | nil =>
          have hf := HFold.out
          rw [hL, if_neg (by simp)] at hf
          have HF := Lib.hid hf
          clear hf hL HFold HMem hle
          go_wp2_with fail
          go_ret
          show TreePost w base (footN g Fk) (foldT p ks []) _ _
          rw [HF.out]
          exact ⟨_, fun _ => False, rfl, ⟨rfl, fun _ h => h⟩, Kept.refl _ _, fun b hb => hb.elim⟩
        | cons x r =>
          cases r with
          | nil =>
            have hf := HFold.out
            rw [hL, if_neg (by simp)] at hf
            rw [show [x].getLastD 0 = x from rfl, show [x].length = 1 from rfl]
            obtain ⟨hx, hxn⟩ := HMem.out x (by rw [hL]; simp)
            have HF := Lib.hid hf
            clear hf hL HFold HMem hle
            have hkid := H.out.kids x hx
            have hkb := HKb.out x
            have hfx : foldT p ks [] = (match ks x with | .nil => .nil | .node kp kk kv => .node (p ++ UInt8.ofNat x :: kp) kk kv) := HF.out
            cases hks : ks x with
            | nil => rw [hks] at hxn; exact absurd hxn (by decide)
            | node kp kk kvv =>
            rw [hks] at hkid hkb
            rw [hks] at hfx
            obtain ⟨gk, ⟨Ak, ck, kp'⟩, vp', kv', Fk', hkv, rfl, rfl, hnk, hfk⟩ := hkid.parts
            have hkl : kp'.length ≤ M := hkb.1
            have qkid : w.cell? ⟨g, 1 + x, none⟩ = some (.pointer (some ⟨gk, 0, none⟩)) := (H.out.blk.at_ (1 + x) (by omega)).trans (by unfold nodeV; rw [if_neg (by omega), if_pos (by omega), Nat.add_sub_cancel_left, hkv])
            have lx0 : (x : Int) < 16 := by omega
            have ex : IntKind.u8.wrap (x : Int) = by8 (UInt8.ofNat x) := by
              rw [IntKind.wrap_u8']
              unfold by8
              simp
            have HFx := Lib.hid hfx
            have HNk := Lib.hid hnk
            have HFk := Lib.hid hfk
            clear hfx hnk hfk HF hkv hks hxn hkb hkid
            go_upto_region 13 with fail
            have q0k : w.cell? ⟨gk, 0, none⟩ = some (.slice Ak kp'.length ck) := HNk.out.blk.at_ 0 (by omega)
            have hdr := below_drewN (Below.refl w.heap.size w) 1
            have hcc := join3 base Ap Ak cp ck p kp' (UInt8.ofNat x) w.drew (by omega) (by omega) (H.out.path.below hdr) (HNk.out.path.below hdr)
            have HC := Lib.hid hcc
            have hba := (Below.refl w.heap.size w).alloc (Nat.le_refl _) (.cells #[.int .u8 (by8 (UInt8.ofNat x))] 5)
            have qa1 : (w.alloc (.cells #[.int .u8 (by8 (UInt8.ofNat x))] 5)).cell? ⟨gk, 0, none⟩ = some (.slice Ak kp'.length ck) := (HNk.out.below hba).blk.at_ 0 (by omega)
            have qa2 : (w.alloc (.cells #[.int .u8 (by8 (UInt8.ofNat x))] 5)).cell? ⟨g, 0, none⟩ = some (.slice Ap p.length cp) := (H.out.below hba).blk.at_ 0 (by omega)
            clear hcc hdr hba
            go_region_law (first | (go_simp; go_at_call 56; refine HC.out.mono ?_; rintro e1 w1 ⟨A1, c1, rfl, ho1, hb1⟩; have hk1 : Kept w w1 (fun _ => False) := ((((Kept.refl w (fun _ => False)).drewN 1).alloc _).alloc _).then_below hb1; have hn1 := HNk.out.kept hk1 (fun _ hf => hf.elim) (fun _ _ hf => hf); have k1 : w1.cell? ⟨gk, 0, none⟩ = some (.slice Ak kp'.length ck) := hn1.blk.at_ 0 (by omega); have f1 := hn1.blk.frozen 0; have HN1 := Lib.hid hn1; have HK1 := Lib.hid hk1; have HO1 := Lib.hid ho1; have HB1 := Lib.hid hb1; clear ho1 hb1 hn1 hk1))
            all_goals
              go_wp2_with fail
              go_ret
              show TreePost w base (footN g Fk) (foldT p ks []) _ _
              rw [HFx.out]
              have hF0 : footN g Fk gk := Or.inr ⟨x, hx, (HFk.out gk).2 (Or.inl rfl)⟩
              have ho : OwnP w1 base (A1, c1, p ++ UInt8.ofNat x :: kp') := own_mono HO1.out (by have h1 := HK1.out.size; simp; omega)
              have e5 : Value.slice A1 (p.length + (kp'.length + 1)) c1 = pcV (A1, c1, p ++ UInt8.ofNat x :: kp') := by unfold pcV; simp
              rw [e5]
              exact ⟨_, _, rfl, (HN1.out.setPath ho).tree, (HK1.out.mono (fun _ hf => hf.elim)).only (Only.setCell w1 ⟨gk, 0, none⟩ _) (Or.inl hF0), fun b hb => Or.inl (Or.inr ⟨x, hx, (HFk.out b).2 hb⟩)⟩
          | cons y r =>
            have hf := HFold.out
            rw [hL, if_pos (by simp)] at hf
            have HF := Lib.hid hf
            have dl : decide (((x :: y :: r).length : Int) > 1) = true := decide_eq_true (by simp; omega)
            generalize hq : (x :: y :: r).getLastD 0 = q
            generalize hm : (x :: y :: r).length = m at *
            clear hf hL HFold HMem hle hq hm
            go_wp2_with fail
            go_ret
            show TreePost w base (footN g Fk) (foldT p ks []) _ _
            rw [HF.out]
            exact ⟨_, footN g Fk, rfl, H.out.tree, Kept.refl _ _, fun b hb => Or.inl hb⟩
      · obtain ⟨av, rfl⟩ : ∃ av, Av = some av := by
          obtain ⟨ad, e, _⟩ := H.out.value.seqB (List.length_pos_iff.2 hv)
          exact ⟨ad, e⟩
        have hf := HFold.out
        rw [if_pos (Or.inl hv)] at hf
        have HF := Lib.hid hf
        generalize (there ks).getLastD 0 = q
        generalize (there ks).length = m at *
        clear hf HFold HMem hle
        go_wp2_with fail
        go_ret
        show TreePost w base (footN g Fk) (foldT p ks val) _ _
        rw [HF.out]
        exact ⟨_, footN g Fk, rfl, H.out.tree, Kept.refl _ _, fun b hb => Or.inl hb⟩
end Go.Proofs.YtfhindffmghlaaaDoor
/- How deep a trie is, and what bounds it. No walk. -/
namespace Go.Proofs.YtfhindffmghlaaaDoor
/-- No way within is longer. -/
def Dep : Tr → Nat → Prop
  | .nil, _ => True
  | .node p ks _, D => p.length ≤ D ∧ ∀ i, ks i = .nil ∨ (p.length + 1 ≤ D ∧ Dep (ks i) (D - p.length - 1))
theorem Dep.mono : ∀ {t : Tr} {D E : Nat}, Dep t D → D ≤ E → Dep t E
  | .nil, _, _, _, _ => trivial
  | .node p ks v, D, E, h, he => ⟨Nat.le_trans h.1 he, fun i => (h.2 i).imp id (fun hi => ⟨Nat.le_trans hi.1 he, hi.2.mono (by omega)⟩)⟩
theorem Dep.kid {p : List UInt8} {ks : Nat → Tr} {v : List UInt8} {D : Nat} (h : Dep (.node p ks v) D) (i : Nat) : Dep (ks i) (D - p.length - 1) := by
  rcases h.2 i with e | e
  · rw [e]; trivial
  · exact e.2
theorem foldT_dep {p : List UInt8} {ks : Nat → Tr} {v : List UInt8} {D : Nat} (h : Dep (.node p ks v) D) : Dep (foldT p ks v) D := by
  unfold foldT
  split
  · exact h
  · split
    · trivial
    · rename_i i r hi
      have h2 := h.2 i
      split
      · trivial
      · rename_i kp kk kv hk
        rw [hk] at h2
        rcases h2 with h2 | ⟨h2, h3, h4⟩
        · exact absurd h2 (by simp)
        · refine ⟨by simp; omega, fun j => ?_⟩
          rcases h4 j with h5 | ⟨h5, h6⟩
          · exact Or.inl h5
          · refine Or.inr ⟨by simp; omega, ?_⟩
            have e : D - p.length - 1 - kp.length - 1 = D - (p ++ UInt8.ofNat i :: kp).length - 1 := by simp; omega
            rw [← e]
            exact h6
theorem dropT_node (p : List UInt8) (ks : Nat → Tr) (val l : List UInt8) : dropT (.node p ks val) l =
    match l.drop p.length with
    | [] => foldT p ks []
    | x :: r => foldT p (upd ks x.toNat (dropT (ks x.toNat) r)) val := by rw [dropT]; rfl
theorem dropT_dep : ∀ {t : Tr} {D : Nat} (l : List UInt8), Dep t D → Dep (dropT t l) D
  | .nil, _, _, _ => by rw [dropT]; trivial
  | .node p ks v, D, l, h => by
    rw [dropT_node]
    split
    · exact foldT_dep ⟨h.1, h.2⟩
    · rename_i x r _
      refine foldT_dep ⟨h.1, fun i => ?_⟩
      unfold upd
      by_cases e : i = x.toNat
      · simp only [if_pos e]
        rcases h.2 x.toNat with h2 | h2
        · left; rw [h2]; rfl
        · exact Or.inr ⟨h2.1, dropT_dep r h2.2⟩
      · simp only [if_neg e]
        exact h.2 i
theorem foldT_bnd {p : List UInt8} {ks : Nat → Tr} {v : List UInt8} {D M : Nat} (hd : Dep (.node p ks v) D) (hM : D ≤ M) (h : Bnd M (.node p ks v)) : Bnd M (foldT p ks v) := by
  have hd2 := foldT_dep hd
  unfold foldT at *
  split
  · exact h
  · split
    · trivial
    · rename_i hc _ i r hi
      rw [if_neg hc, hi] at hd2
      simp only at hd2
      have hi16 : i < 16 := by
        have : i ∈ there ks := by rw [hi]; simp
        unfold there at this
        rw [List.mem_filter, List.mem_range] at this
        exact this.1
      have h2 := h.2.2.2 i
      split
      · trivial
      · rename_i kp kk kv hk
        rw [hk] at h2 hd2
        simp only at hd2
        refine ⟨Nat.le_trans hd2.1 hM, ?_, h2.2.2.1, h2.2.2.2⟩
        intro y hy
        rw [List.mem_append, List.mem_cons] at hy
        rcases hy with hy | rfl | hy
        · exact h.2.1 y hy
        · simp; omega
        · exact h2.2.1 y hy
theorem dropT_bnd {M : Nat} : ∀ {t : Tr} {D : Nat} (l : List UInt8), Dep t D → D ≤ M → Bnd M t → Bnd M (dropT t l)
  | .nil, _, _, _, _, _ => by rw [dropT]; trivial
  | .node p ks v, D, l, hd, hM, h => by
    rw [dropT_node]
    split
    · exact foldT_bnd (D := D) ⟨hd.1, hd.2⟩ hM ⟨h.1, h.2.1, by simp, h.2.2.2⟩
    · rename_i x r _
      have hx := dropT_bnd (t := ks x.toNat) r (hd.kid x.toNat) (by omega) (h.2.2.2 _)
      refine foldT_bnd (D := D) ⟨hd.1, fun i => ?_⟩ hM ⟨h.1, h.2.1, h.2.2.1, fun i => ?_⟩
      · unfold upd
        by_cases e : i = x.toNat
        · simp only [if_pos e]
          rcases hd.2 x.toNat with h2 | h2
          · left; rw [h2]; rfl
          · exact Or.inr ⟨h2.1, dropT_dep r h2.2⟩
        · simp only [if_neg e]
          exact hd.2 i
      · unfold upd
        by_cases e : i = x.toNat
        · simp only [if_pos e]; exact hx
        · simp only [if_neg e]; exact h.2.2.2 i
theorem putT_dep : ∀ {t : Tr} {D : Nat} (l v : List UInt8), Dep t D → l.length ≤ D → Dep (putT t l v) D
  | .nil, D, l, v, _, hl => ⟨hl, fun _ => Or.inl rfl⟩
  | .node p ks val, D, l, v, h, hl => by
    have hc := common_le p l
    rw [putT_node]
    split
    · rename_i hlt
      have hk1 : ∀ i, upd noKids (p.getD (common p l) 0).toNat (.node (p.drop (common p l + 1)) ks val) i = .nil ∨ (common p l + 1 ≤ D ∧ Dep (upd noKids (p.getD (common p l) 0).toNat (.node (p.drop (common p l + 1)) ks val) i) (D - common p l - 1)) := fun i => by
        unfold upd
        split
        · right
          refine ⟨by have := h.1; omega, by rw [List.length_drop]; have := h.1; omega, fun j => ?_⟩
          rcases h.2 j with h5 | ⟨h5, h6⟩
          · exact Or.inl h5
          · exact Or.inr ⟨by rw [List.length_drop]; omega, h6.mono (by rw [List.length_drop]; omega)⟩
        · exact Or.inl rfl
      have htl : (p.take (common p l)).length = common p l := by rw [List.length_take]; omega
      split
      · exact ⟨by rw [htl]; omega, by rw [htl]; exact hk1⟩
      · rename_i x r hr
        have hrl : l.length - common p l = r.length + 1 := by
          have := congrArg List.length hr
          rw [List.length_drop] at this
          simpa using this
        refine ⟨by rw [htl]; omega, ?_⟩
        rw [htl]
        intro i
        show upd (upd _ _ _) _ _ i = _ ∨ (_ ∧ Dep (upd (upd _ _ _) _ _ i) _)
        by_cases e : i = x.toNat
        · right
          subst e
          refine ⟨by omega, ?_⟩
          have e2 : upd (upd noKids (p.getD (common p l) 0).toNat (.node (p.drop (common p l + 1)) ks val)) x.toNat (.node r noKids v) x.toNat = .node r noKids v := if_pos rfl
          rw [e2]
          exact ⟨by omega, fun _ => Or.inl rfl⟩
        · have e2 : upd (upd noKids (p.getD (common p l) 0).toNat (.node (p.drop (common p l + 1)) ks val)) x.toNat (.node r noKids v) i = upd noKids (p.getD (common p l) 0).toNat (.node (p.drop (common p l + 1)) ks val) i := if_neg e
          rw [e2]
          exact hk1 i
    · rename_i hlt
      split
      · exact ⟨h.1, h.2⟩
      · rename_i x r hr
        have hrl : l.length - common p l = r.length + 1 := by
          have := congrArg List.length hr
          rw [List.length_drop] at this
          simpa using this
        refine ⟨h.1, fun i => ?_⟩
        unfold upd
        by_cases e : i = x.toNat
        · simp only [if_pos e]
          exact Or.inr ⟨by omega, putT_dep r v (h.kid _) (by omega)⟩
        · simp only [if_neg e]
          exact h.2 i
theorem Nibs.sub {l m : List UInt8} (h : Nibs l) (hm : ∀ x ∈ m, x ∈ l) : Nibs m := fun x hx => h x (hm x hx)
theorem putT_bnd {M : Nat} : ∀ {t : Tr} (l v : List UInt8), Bnd M t → l.length ≤ M → Nibs l → v.length ≤ M → Bnd M (putT t l v)
  | .nil, l, v, _, hl, hn, hv => ⟨hl, hn, hv, fun _ => trivial⟩
  | .node p ks val, l, v, h, hl, hn, hv => by
    have hc := common_le p l
    rw [putT_node]
    have hk1 : ∀ i, Bnd M (upd noKids (p.getD (common p l) 0).toNat (.node (p.drop (common p l + 1)) ks val) i) := fun i => by
      unfold upd
      split
      · exact ⟨by rw [List.length_drop]; have := h.1; omega, h.2.1.sub (fun x hx => List.mem_of_mem_drop hx), h.2.2.1, h.2.2.2⟩
      · trivial
    have htk : (p.take (common p l)).length ≤ M ∧ Nibs (p.take (common p l)) := ⟨by rw [List.length_take]; have := h.1; omega, h.2.1.sub (fun x hx => List.mem_of_mem_take hx)⟩
    split
    · split
      · exact ⟨htk.1, htk.2, hv, hk1⟩
      · rename_i x r hr
        have hrl : l.length - common p l = r.length + 1 := by
          have := congrArg List.length hr
          rw [List.length_drop] at this
          simpa using this
        refine ⟨htk.1, htk.2, by simp, fun i => ?_⟩
        show Bnd M (upd (upd _ _ _) _ _ i)
        by_cases e : i = x.toNat
        · subst e
          have e2 : upd (upd noKids (p.getD (common p l) 0).toNat (.node (p.drop (common p l + 1)) ks val)) x.toNat (.node r noKids v) x.toNat = .node r noKids v := if_pos rfl
          rw [e2]
          exact ⟨by omega, hn.sub (fun y hy => List.mem_of_mem_drop (by rw [hr]; exact List.mem_cons_of_mem _ hy)), hv, fun _ => trivial⟩
        · have e2 : upd (upd noKids (p.getD (common p l) 0).toNat (.node (p.drop (common p l + 1)) ks val)) x.toNat (.node r noKids v) i = upd noKids (p.getD (common p l) 0).toNat (.node (p.drop (common p l + 1)) ks val) i := if_neg e
          rw [e2]
          exact hk1 i
    · split
      · exact ⟨h.1, h.2.1, hv, h.2.2.2⟩
      · rename_i x r hr
        have hrl : l.length - common p l = r.length + 1 := by
          have := congrArg List.length hr
          rw [List.length_drop] at this
          simpa using this
        refine ⟨h.1, h.2.1, h.2.2.1, fun i => ?_⟩
        unfold upd
        by_cases e : i = x.toNat
        · simp only [if_pos e]
          exact putT_bnd r v (h.2.2.2 _) (by omega) (hn.sub (fun y hy => List.mem_of_mem_drop (by rw [hr]; exact List.mem_cons_of_mem _ hy))) hv
        · simp only [if_neg e]
          exact h.2.2.2 i
end Go.Proofs.YtfhindffmghlaaaDoor
