/- bits.RotateLeft64: what it answers. -/
import Derived.Test.YtfidjeoeaeghhaaDoorChecked
import Derived.Test.YtfidjeoeaeghhaaDoorWords
namespace Go.Proofs.YtfidjeoeaeghhaaDoor
open Go.RowKit
set_option maxHeartbeats 400000 in
theorem rot_calls (x : BitVec 64) (k : Nat) (hk : k < 64) (w : World) :
    Calls Tryd.prog 37 #[.int .u64 (u64 x), .int .i64 k] w fun e w' => e = .returned (.int .u64 (u64 (x.rotateLeft k))) ∧ w' = w := by
  have h1 := u64_and63 k hk
  have hx0 := u64_nonneg x
  have hx1 := u64_lt x
  have hk0 : (0 : Int) ≤ k := by omega
  go_enter Tryd.func37, Tryd.ntmps37
  go_wp2
  go_ret
  refine ⟨ret_int ?_, rfl⟩
  rw [← rotv x k hk]

end Go.Proofs.YtfidjeoeaeghhaaDoor
