/- What the laws with a plain list begin with. No walk. -/
import Derived.Test.YtfhindffmghlaaaDoorMTLawA
import Derived.Test.YtfhindffmghlaaaDoorMTInL
import Derived.Test.YtfhindffmghlaaaDoorMTPlain
set_option linter.unusedVariables false
set_option linter.unusedSimpArgs false
namespace Go.Proofs.YtfhindffmghlaaaDoor
open Go.RowKit
theorem PairsIn.plain {w w4 W : World} {A Ao : Option Addr} {co b : Nat} {l out : List PairL} (hp : PairsIn w w.heap.size A l) (hb4 : Below w.heap.size w w4) (hr : RowP w4 b Ao co out) (hx : ∀ x ∈ out, x ∈ l) (hb : Below w4.heap.size w4 W) : PairsIn W W.heap.size Ao out := by
  have h1 : PairsIn w4 w4.heap.size Ao out := ⟨hr.at_, fun x hm => by
    have := (hp.now hb4).2 x (hx x hm)
    exact this⟩
  exact h1.now hb
theorem ins_le (p : KV) : ∀ l : List KV, (insL p l).length ≤ l.length + 1
  | [] => by simp [insL]
  | q :: r => by
    unfold insL
    split
    · have := ins_le p r
      simp only [List.length_cons]
      omega
    · split <;> simp
theorem plain_len (l : List KV) : (plainL l).length ≤ l.length := by
  unfold plainL
  have : ∀ (l : List KV) (out : List KV), (l.foldl stepL out).length ≤ out.length + l.length := by
    intro l
    induction l with
    | nil => intro out; simp
    | cons p l ih =>
      intro out
      rw [List.foldl_cons, List.length_cons]
      have h1 := ih (stepL out p)
      have h2 : (stepL out p).length ≤ out.length + 1 := by
        unfold stepL
        split
        · omega
        · exact ins_le p out
      omega
  have := this l []
  simpa using this
end Go.Proofs.YtfhindffmghlaaaDoor
