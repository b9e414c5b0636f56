/- What the laws with a plain list begin with. No walk. -/
import Derived.Test.YtfhindffmghlaaaDoorMTLawA
import Derived.Test.YtfhindffmghlaaaDoorMTInL
import Derived.Test.YtfhindffmghlaaaDoorMTPlain
set_option linter.unusedVariables false
set_option linter.unusedSimpArgs false
namespace Go.Proofs.YtfhindffmghlaaaDoor
open Go.RowKit
theorem PairsIn.plain {w w4 W : World} {A Ao : Option Addr} {co b : Nat} {l out : List PairL} (hp : PairsIn w w.heap.size A l) (hb4 : Below w.heap.size w w4) (hr : RowP w4 b Ao co out) (hx : ∀ x ∈ out, x ∈ l) (hb : Below w4.heap.size w4 W) : PairsIn W W.heap.size Ao out := by
  have h1 : PairsIn w4 w4.heap.size Ao out := ⟨hr.at_, fun x hm => by
    have := (hp.now hb4).2 x (hx x hm)
    exact this⟩
  exact h1.now hb
/-- A front of a row of texts, its row behind it open. -/
theorem own_take {w : World} {base n c size : Nat} {e : TypeId} {A : Option Addr} {xs : List Value} (h : w.ownsRow base e size (.slice A n c) n xs) {m : Nat} (hm : m ≤ n) : w.ownsRow base e size (.slice A m c) m (xs.take (m * size)) := by
  have h1 := h.1
  have hle : m * size ≤ n * size := Nat.mul_le_mul_right _ hm
  refine ⟨by rw [List.length_take, h1]; omega, ?_⟩
  rcases h.2 with ⟨hv, h0⟩ | ⟨g, cap, cur, hv, hg, hh, hc, hcm, hcs, ht⟩
  · simp only [Value.slice.injEq] at hv
    obtain ⟨rfl, _, rfl⟩ := hv
    have hm0 : m = 0 := by omega
    subst hm0
    exact .inl ⟨rfl, rfl⟩
  · simp only [Value.slice.injEq] at hv
    obtain ⟨rfl, _, rfl⟩ := hv
    refine .inr ⟨g, c, cur, rfl, hg, hh, by omega, hcm, hcs, ?_⟩
    rw [← ht, List.take_take, Nat.min_eq_left hle]
theorem TextsAt.take {w : World} {base c : Nat} {A : Option Addr} {us : List Piece} (h : TextsAt w base A c us) (m : Nat) (hm : m ≤ us.length) : w.ownsRow base 24 1 (.slice A m c) m (pcs (us.take m)) := by
  have := own_take h.row hm
  rw [Nat.mul_one, pcs_take] at this
  exact this
theorem TextsAt.front {w : World} {base c : Nat} {A : Option Addr} {us : List Piece} (h : TextsAt w base A c us) (m : Nat) (hm : m ≤ us.length) : TextsAt w base A c (us.take m) :=
  ⟨by have := h.take m hm; (have e : (us.take m).length = m := by rw [List.length_take]; omega); rw [e]; exact this, fun p hp => h.own p (List.mem_of_mem_take hp), h.apart.sublist (List.take_sublist m us)⟩
theorem ins_le (p : KV) : ∀ l : List KV, (insL p l).length ≤ l.length + 1
  | [] => by simp [insL]
  | q :: r => by
    unfold insL
    split
    · have := ins_le p r
      simp only [List.length_cons]
      omega
    · split <;> simp
theorem plain_len (l : List KV) : (plainL l).length ≤ l.length := by
  unfold plainL
  have : ∀ (l : List KV) (out : List KV), (l.foldl stepL out).length ≤ out.length + l.length := by
    intro l
    induction l with
    | nil => intro out; simp
    | cons p l ih =>
      intro out
      rw [List.foldl_cons, List.length_cons]
      have h1 := ih (stepL out p)
      have h2 : (stepL out p).length ≤ out.length + 1 := by
        unfold stepL
        split
        · omega
        · exact ins_le p out
      omega
  have := this l []
  simpa using this
end Go.Proofs.YtfhindffmghlaaaDoor
