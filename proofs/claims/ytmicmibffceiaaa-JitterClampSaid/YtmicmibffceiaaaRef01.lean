/-
  The helpers of package arenanetref01, each called: what it returns.
-/
import Derived.Test.YtmicmibffceiaaaMem
import Derived.Test.YtmicmibffceiaaaProg
namespace Go.Proofs.Ytmicmibffceiaaa
set_option linter.unusedVariables false
set_option linter.unusedSimpArgs false
open Go.RowKit

/-- arenanetref01.Around. -/
def around (n m : Int) : Int := if n < 0 then (-(n + 1)) % m else n % m
theorem around_lo {n m : Int} (hm : 1 ≤ m) : 0 ≤ around n m := by
  unfold around; split <;> exact Int.emod_nonneg _ (by omega)
theorem around_hi {n m : Int} (hm : 1 ≤ m) : around n m < m := by
  unfold around; split <;> exact Int.emod_lt_of_pos _ (by omega)

set_option maxHeartbeats 400000 in
theorem around_any (n m : Int) (w : World) (h1 : -9223372036854775808 ≤ n) (h2 : n ≤ 9223372036854775807) (h3 : 1 ≤ m) (h4 : m ≤ 9223372036854775807) :
    Calls Try.prog 15 #[.int .i64 n, .int .i64 m] w fun e w' => e = .returned (.int .i64 (around n m)) ∧ w = w' := by
  unfold around
  by_cases hlt : n < 0
  · rw [if_pos hlt]
    go_enter Try.func15, Try.ntmps15
    go_wp2
    go_ret
    exact ⟨ret_int (by rw [← Int.neg_tmod]; exact Int.tmod_eq_emod_of_nonneg (by omega)), rfl⟩
  · rw [if_neg hlt]
    go_enter Try.func15, Try.ntmps15
    go_wp2
    go_ret
    first | exact ⟨rfl, rfl⟩ | exact ⟨ret_int (Int.tmod_eq_emod_of_nonneg (by omega)), rfl⟩
theorem int_info3 : (Try.prog.info? 3).map (fun i => (i.zero, i.size, i.bytes)) = some (some (.int .i64 0), 1, 8) := by kernel_rfl
theorem int_one (z : Int) (w : World) : (w.alloc (.cells #[.int .i64 z] 3)).cell? ⟨w.heap.size, 0, none⟩ = some (.int .i64 z) := by
  rw [World.cell?_alloc_at _ _ _ _ rfl]; rfl

set_option maxHeartbeats 400000 in
theorem ints_any (A : Option Addr) (n c most m : Nat) (xs : List Int) (B : Nat) (w : World) (hl : xs.length = n) (hc : n ≤ c) (hcm : c ≤ maxLen) (hm : m = min n most) (hn : n ≤ 1000000000) (hmo : most ≤ 1000000000) (hr : Rd w B A xs) (hnc : A = none → c = 0) :
    Calls Try.prog 24 #[.slice A n c, .int .i64 (most : Int)] w fun e w' => ∃ A' c', e = .returned (.slice A' m c') ∧ Own 3 w' w.heap.size (.slice A' m c') (xs.take m) ∧ Below w.heap.size w w' := by
  unfold maxLen at hcm
  have hmi : min (n : Int) (most : Int) = (m : Int) := by omega
  have h1 : Hid (([] : List Int).length + m = m) := by show _ = _; simp
  have h2 : Hid (([] : List Int).length + m < 1000000000000) := by show _ < _; simp; omega
  have htl : Hid ((xs.take m).length = m) := by show _ = _; rw [List.length_take]; omega
  have htk := hr.take m
  have hmn : m ≤ n := by omega
  have HNC := Lib.hid hnc
  clear hm hl hnc
  go_enter Try.func24, Try.ntmps24
  go_wp2_with (at_builtin; refine wpl_appends rfl (.tmp 6) (.tmp 12) 22 rfl 3 Try.underlying22 int_info3 w.heap.size _ [] (xs.take m) rfl (Own.nil _ _ _) _ m _ _ m h1.out rfl htl.out htk HNC.out h2.out (Nat.le_refl _) ?_; intro A1 c1 w1 hown1 hb1)
  go_ret
  exact ⟨A1, c1, rfl, hown1.out, hb1⟩
end Go.Proofs.Ytmicmibffceiaaa
