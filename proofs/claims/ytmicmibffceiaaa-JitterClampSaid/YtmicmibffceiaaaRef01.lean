/-
  The helpers of package arenanetref01, each called: what it returns.
-/
import Derived.Test.YtmicmibffceiaaaMem
import Derived.Test.YtmicmibffceiaaaProg
namespace Go.Proofs.Ytmicmibffceiaaa
open Go.RowKit

/-- arenanetref01.Around. -/
def around (n m : Int) : Int := if n < 0 then (-(n + 1)) % m else n % m
theorem around_lo {n m : Int} (hm : 1 ≤ m) : 0 ≤ around n m := by
  unfold around; split <;> exact Int.emod_nonneg _ (by omega)
theorem around_hi {n m : Int} (hm : 1 ≤ m) : around n m < m := by
  unfold around; split <;> exact Int.emod_lt_of_pos _ (by omega)

set_option maxHeartbeats 400000 in
theorem around_any (n m : Int) (w : World) (h1 : -9223372036854775808 ≤ n) (h2 : n ≤ 9223372036854775807) (h3 : 1 ≤ m) (h4 : m ≤ 9223372036854775807) :
    Calls Try.prog 15 #[.int .i64 n, .int .i64 m] w fun e w' => e = .returned (.int .i64 (around n m)) ∧ w = w' := by
  unfold around
  by_cases hlt : n < 0
  · rw [if_pos hlt]
    go_enter Try.func15, Try.ntmps15
    go_wp2
    go_ret
    exact ⟨ret_int (by rw [← Int.neg_tmod]; exact Int.tmod_eq_emod_of_nonneg (by omega)), rfl⟩
  · rw [if_neg hlt]
    go_enter Try.func15, Try.ntmps15
    go_wp2
    go_ret
    first | exact ⟨rfl, rfl⟩ | exact ⟨ret_int (Int.tmod_eq_emod_of_nonneg (by omega)), rfl⟩
end Go.Proofs.Ytmicmibffceiaaa
