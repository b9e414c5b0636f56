/- sponge.Permute: what it answers: the lanes behind all rounds. -/
import Derived.Test.YtfidjeoeaeghhaaDoorSpBent
namespace Go.Proofs.YtfidjeoeaeghhaaDoor
open Go.RowKit
def marksN : Nat → BitVec 64 := fun i => BitVec.ofNat 64 ([0x0000000000000001, 0x0000000000008082, 0x800000000000808a, 0x8000000080008000,
  0x000000000000808b, 0x0000000080000001, 0x8000000080008081, 0x8000000000008009,
  0x000000000000008a, 0x0000000000000088, 0x0000000080008009, 0x000000008000000a,
  0x000000008000808b, 0x800000000000008b, 0x8000000000008089, 0x8000000000008003,
  0x8000000000008002, 0x8000000000000080, 0x000000000000800a, 0x800000008000000a,
  0x8000000080008081, 0x8000000000008080, 0x0000000080000001, 0x8000000080008008].getD i 0)
def thirdS (A : Nat → BitVec 64) : Nat → BitVec 64 := bentS (movedS (spreadS A))
def roundS (k : Nat) (A : Nat → BitVec 64) : Nat → BitVec 64 := upd (thirdS A) 0 (thirdS A 0 ^^^ marksN k)
def roundsS : Nat → (Nat → BitVec 64) → (Nat → BitVec 64)
  | 0, A => A
  | k + 1, A => roundS k (roundsS k A)
def permS (A : Nat → BitVec 64) : Nat → BitVec 64 := roundsS 24 A
/-- The two tables of package sponge, as they are laid. -/
structure Tables (w : World) : Prop where
  turns : Holds w 1 25 turnsV
  marks : Holds w 0 24 (lanes marksN)
  size : 2 ≤ w.heap.size
theorem Tables.below {B : Nat} {w w' : World} (h : Tables w) (hb : Below B w w') (hB : 2 ≤ B) : Tables w' :=
  ⟨h.turns.below hb (by omega), h.marks.below hb (by omega), Nat.le_trans h.size hb.size⟩
theorem Tables.drew {w : World} (h : Tables w) : Tables w.drew := ⟨h.turns, h.marks, h.size⟩
set_option maxHeartbeats 1000000 in
theorem permute_calls (A : Nat → BitVec 64) (w : World) (hT : Tables w) :
    Calls Tryd.prog 11 #[.agg (tab 25 (lanes A))] w fun e w' => e = .returned (.agg (tab 25 (lanes (permS A)))) ∧ Below w.heap.size w w' := by
  have HT := Lib.hid hT
  clear hT
  go_enter Tryd.func11, Tryd.ntmps11
  go_wp2_with fail
  go_loopw [4] (fun i wr => ∃ k : Nat, k ≤ 24 ∧ i = .int .i64 k ∧ Blk wr w.heap.size 23 (tab 25 (lanes (roundsS k A))) ∧ Below w.heap.size w wr ∧ ∃ V, Blk wr (w.heap.size + 1) 23 (tab 25 V)) (fun i _ => 24 - (intOf i).toNat)
  case atStart =>
    refine ⟨0, by omega, rfl, ?_, ?_, ⟨fun _ => .int .u64 0, ?_⟩⟩
    · exact ((Blk.new w _ _).alloc _)
    · exact (((Below.refl _ _).alloc (Nat.le_refl _) _).alloc (by simp) _)
    · exact (Blk.new' _ _ _ (by simp))
  case round =>
    obtain ⟨k, hk, rfl, hA, hB, V, hV⟩ := hrel
    have hT := HT.out.below hB HT.out.size
    have hs := hB.size
    by_cases hlt : k < 24
    · have HA := Lib.hid hA
      have HV := Lib.hid hV
      have HB := Lib.hid hB
      have HTr := Lib.hid hT
      clear hA hV hB hT
      have hgd : 1 < wr.heap.size := by have := HTr.out.size; omega
      have h2 : 2 ≤ wr.heap.size := HTr.out.size
      have HL := HA.out.lt
      go_wp2_with (first
        | (refine wpL_load rfl 23 (.tmp 1) rfl (n := 25) 0 rfl _ HA.out (by omega) Tryd.underlying23 rfl (by kernel_rfl) ?_))
      refine (spread_calls _ _).mono ?_
      rintro e w1 ⟨rfl, hb1⟩
      have Hb1 := Lib.hid hb1
      clear hb1
      go_wp2_with fail
      have hs1 := Hb1.out.size
      refine (moved_calls _ _ (HTr.out.below Hb1.out h2).turns (by omega)).mono ?_
      rintro e w2 ⟨rfl, hb2⟩
      have Hb2 := Lib.hid hb2
      clear hb2
      have hs2 := Hb2.out.size
      go_wp2_with fail
      refine (bent_calls _ _).mono ?_
      rintro e w3 ⟨rfl, hb3⟩
      have hb2 := Hb1.out.trans (Hb2.out.mono hs1)
      have hb4 := hb2.trans (hb3.mono (by omega))
      have HA3 := Lib.hid (HA.out.below hb4 (by omega))
      have HV3 := Lib.hid (HV.out.below hb4 HV.out.lt)
      have HB3 := Lib.hid (HB.out.trans (hb4.mono hs))
      have hs3 := hb3.size
      have HT3 := Lib.hid (HTr.out.below hb4 h2)
      clear hb2 hb3 hb4
      go_wp2_with (first
        | (refine wpL_storeA rfl 23 (.tmp 1) (.tmp 10) rfl 0 rfl rfl HA3.out (by omega) (by kernel_rfl) (fun _ => rfl) ?_; intro w4 hO hA4))
      have HO := Lib.hid hO
      replace hA4 : Blk w4 w.heap.size 23 (tab 25 (lanes (thirdS (roundsS k A)))) := hA4.same (over_whole _ _ _)
      have HA4 := Lib.hid hA4
      have hl := hA4.lane 0 (by omega)
      have hf := hA4.frozen 0
      have hm : w4.cell? ⟨0, k, none⟩ = some (.int .u64 (u64 (marksN k))) :=
        (hO.cell (by have := HT.out.size; simp; omega)).trans (HT3.out.marks k hlt)
      clear hA4 hO
      have b0 : (k : Int) < 24 := by omega
      go_wp2_with fail
      go_still_tail 7, (by kernel_rfl)
      change wpList _ _ _ _ _ w4.drew
      go_wp2_with fail
      go_roundw
      case rel =>
        exact ⟨k + 1, by omega, by go_num, (HA4.out.putLane 0 _).drew, ((HO.out.below HB3.out (by omega)).setCell (by simp) _).drew, V, ((HO.out.blk HV3.out (by omega)).far (by simp) _).drew⟩
      case measure => simp [intOf]; omega
    · have HA := Lib.hid (hA.same (tab_congr (T := lanes (permS A)) fun i hi => by simp [lanes, permS, show k = 24 by omega]))
      have HV := Lib.hid hV
      clear hA hV
      go_wp2_with (first
        | (refine wpL_load rfl 23 (.tmp 1) rfl (n := 25) 0 rfl _ HA.out (by omega) Tryd.underlying23 rfl (by kernel_rfl) ?_)
        | (refine wpL_store rfl 23 (.tmp 2) (.tmp 19) rfl 0 rfl rfl HV.out (by omega) (by kernel_rfl) (fun _ => rfl) ?_))
      refine ret_cell rfl rfl _ (HV.out.setRow.same ?_) Tryd.underlying23 rfl (by kernel_rfl) rfl ⟨rfl, below_setRow hB (by omega) _⟩
      rw [over_whole]
      exact tab_congr fun i _ => by simp
end Go.Proofs.YtfidjeoeaeghhaaDoor
