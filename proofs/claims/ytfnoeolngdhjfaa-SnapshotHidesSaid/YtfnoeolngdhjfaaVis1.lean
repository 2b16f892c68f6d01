/-
  Package visibility: contains.
-/
import Derived.Test.YtfnoeolngdhjfaaSet1
namespace Go.Proofs.Ytfnoeolngdhjfaa
set_option linter.unusedVariables false
set_option linter.unusedSimpArgs false
set_option maxRecDepth 4000
open Go.RowKit

def inBox (x0 y0 x1 y1 x y : Int) : Bool := decide (x0 ≤ x ∧ x ≤ x1 ∧ y0 ≤ y ∧ y ≤ y1)
set_option maxHeartbeats 1000000 in
theorem contains_any (x0 y0 x1 y1 x y : Int) (w : World) :
    Calls Try.prog 78 #[.agg #[.int .i64 x0, .int .i64 y0, .int .i64 x1, .int .i64 y1], .agg #[.int .i64 x, .int .i64 y]] w fun e w' => e = .returned (.bool (inBox x0 y0 x1 y1 x y)) ∧ Below w.heap.size w w' := by
  go_enter Try.func78, Try.ntmps78
  go_wp2
  all_goals
    go_ret
    exact ⟨ret_bool (by unfold inBox; by_cases q1 : x0 ≤ x <;> by_cases q2 : x ≤ x1 <;> by_cases q3 : y0 ≤ y <;> by_cases q4 : y ≤ y1 <;> simp [q1, q2, q3, q4] <;> omega), ((Below.refl _ _).alloc (Nat.le_refl _) _).alloc (by simp) _⟩
end Go.Proofs.Ytfnoeolngdhjfaa
