/- The document's own sponge, its two small functions: the place of a bit; by how much a lane is turned. -/
import Derived.Test.YtfidjeoeaeghhaaDoorSpMoved
namespace Go.Proofs.YtfidjeoeaeghhaaDoor
open Go.RowKit
def atN (x y z : Int) : Nat := (64 * ((x + 5) % 5 + 5 * ((y + 5) % 5)) + (z + 64) % 64).toNat
theorem atN_int (x y z : Int) : ((atN x y z : Nat) : Int) = 64 * ((x + 5) % 5 + 5 * ((y + 5) % 5)) + (z + 64) % 64 := by unfold atN; omega
theorem atN_lt (x y z : Int) : (atN x y z : Int) < 1600 := by rw [atN_int]; omega
theorem at_calls (x y z : Int) (hx : -5 ≤ x ∧ x ≤ 100) (hy : -5 ≤ y ∧ y ≤ 100) (hz : -64 ≤ z ∧ z ≤ 100) (w : World) :
    Calls Tryd.prog 43 #[.int .i64 x, .int .i64 y, .int .i64 z] w fun e w' => e = .returned (.int .i64 (atN x y z : Int)) ∧ w' = w := by
  obtain ⟨hx1, hx2⟩ := hx
  obtain ⟨hy1, hy2⟩ := hy
  obtain ⟨hz1, hz2⟩ := hz
  go_enter Tryd.func43, Tryd.ntmps43
  go_wp2_with fail
  go_ret
  exact ⟨ret_int (by rw [atN_int]; omega), rfl⟩
/-- The place behind so many moves from (1, 0). -/
def walkN : Nat → Nat × Nat
  | 0 => (1, 0)
  | t + 1 => ((walkN t).2, (2 * (walkN t).1 + 3 * (walkN t).2) % 5)
theorem walkN_lt (t : Nat) (h : t < 25) : (walkN t).1 < 5 ∧ (walkN t).2 < 5 := by
  have : ∀ t : Fin 25, (walkN t.val).1 < 5 ∧ (walkN t.val).2 < 5 := by decide
  exact this ⟨t, h⟩
theorem walk_turn (t : Nat) (h : t < 24) : turnsN ((walkN t).1 + 5 * (walkN t).2) = (t + 1) * (t + 2) / 2 % 64 := by
  have : ∀ t : Fin 24, turnsN ((walkN t.val).1 + 5 * (walkN t.val).2) = (t.val + 1) * (t.val + 2) / 2 % 64 := by decide
  exact this ⟨t, h⟩
theorem walk_all (x y : Nat) (hx : x < 5) (hy : y < 5) (h : ∀ t, t < 24 → ¬ ((walkN t).1 = x ∧ (walkN t).2 = y)) : turnsN (x + 5 * y) = 0 := by
  have : ∀ (x y : Fin 5), (∀ t : Fin 24, ¬ ((walkN t.val).1 = x.val ∧ (walkN t.val).2 = y.val)) → turnsN (x.val + 5 * y.val) = 0 := by decide
  exact this ⟨x, hx⟩ ⟨y, hy⟩ (fun t => h t.val t.isLt)
theorem offs_num (k : Nat) (h : k < 24) : (wrap64 ((wrap64 (((k : Int) + 1) * ((k : Int) + 2))).tdiv 2)).tmod 64 = (((k + 1) * (k + 2) / 2 % 64 : Nat) : Int) := by
  have : ∀ k : Fin 24, (wrap64 ((wrap64 (((k.val : Int) + 1) * ((k.val : Int) + 2))).tdiv 2)).tmod 64 = (((k.val + 1) * (k.val + 2) / 2 % 64 : Nat) : Int) := by decide +kernel
  exact this ⟨k, h⟩
set_option maxHeartbeats 1000000 in
theorem offset_calls (x y : Nat) (hx : x < 5) (hy : y < 5) (w : World) :
    Calls Tryd.prog 44 #[.int .i64 (x : Int), .int .i64 (y : Int)] w fun e w' => e = .returned (.int .i64 (turnsN (x + 5 * y) : Int)) ∧ w' = w := by
  go_enter Tryd.func44, Tryd.ntmps44
  go_wp2_with fail
  go_loop [5, 6, 7] (fun p q t => ∃ k : Nat, k ≤ 24 ∧ t = .int .i64 k ∧ p = .int .i64 ((walkN k).1 : Int) ∧ q = .int .i64 ((walkN k).2 : Int) ∧ ∀ j, j < k → ¬ ((walkN j).1 = x ∧ (walkN j).2 = y)) (fun _ _ t => 24 - (intOf t).toNat)
  case atStart => exact ⟨0, by omega, rfl, rfl, rfl, fun j hj => by omega⟩
  case round =>
    obtain ⟨k, hk, rfl, rfl, rfl, hall⟩ := hrel
    have Hall := Lib.hid hall
    clear hall
    by_cases hlt : k < 24
    · obtain ⟨h1, h2⟩ := walkN_lt k (by omega)
      have hp := Lib.hid (walk_turn k hlt)
      have hq := Lib.hid (show walkN (k + 1) = ((walkN k).2, (2 * (walkN k).1 + 3 * (walkN k).2) % 5) from rfl)
      generalize hw1 : (walkN k).1 = p at *
      generalize hw2 : (walkN k).2 = q at *
      have Hw1 := Lib.hid hw1
      have Hw2 := Lib.hid hw2
      clear hw1 hw2
      have hne : ∀ (_ : ¬ (p = x ∧ q = y)), ∀ j, j < k + 1 → ¬ ((walkN j).1 = x ∧ (walkN j).2 = y) := fun h j hj => by
        rcases Nat.lt_or_ge j k with hjk | hjk
        · exact Hall.out j hjk
        · obtain rfl : j = k := by omega
          rw [Hw1.out, Hw2.out]; exact h
      have Hne := Lib.hid hne
      have Hn := Lib.hid (offs_num k hlt)
      clear hne
      by_cases hpx : p = x
      · by_cases hqy : q = y
        · have e1 : ((p : Int) == (x : Int)) = true := by simp [hpx]
          have e2 : ((q : Int) == (y : Int)) = true := by simp [hqy]
          have Hp := Lib.hid hpx
          have Hq := Lib.hid hqy
          clear hpx hqy
          go_wp2_with fail
          go_ret
          exact ⟨ret_int (by rw [← Hp.out, ← Hq.out, hp.out]; exact Hn.out), rfl⟩
        · have e1 : ((p : Int) == (x : Int)) = true := by simp [hpx]
          have e2 : ((q : Int) == (y : Int)) = false := by simp; omega
          have Hp := Lib.hid (Hne.out (by omega))
          clear hpx hqy
          go_wp2_with fail
          go_round
          case rel => exact ⟨k + 1, by omega, by go_num, by rw [hq.out], by rw [hq.out]; go_num, Hp.out⟩
          case measure => simp [intOf]; omega
      · have e1 : ((p : Int) == (x : Int)) = false := by simp; omega
        have Hp := Lib.hid (Hne.out (by omega))
        clear hpx
        go_wp2_with fail
        go_round
        case rel => exact ⟨k + 1, by omega, by go_num, by rw [hq.out], by rw [hq.out]; go_num, Hp.out⟩
        case measure => simp [intOf]; omega
    · have hz := Lib.hid (walk_all x y hx hy (fun t ht => Hall.out t (by omega)))
      go_wp2_with fail
      go_ret
      exact ⟨ret_int (by rw [hz.out]; rfl), rfl⟩
end Go.Proofs.YtfidjeoeaeghhaaDoor
