/-
  The square root, rounded down: fixed.Isqrt (Newton).
-/
import Derived.Test.YtfnoeolngdhjfaaIsq
import Derived.WalkMore
namespace Go.Proofs.Ytfnoeolngdhjfaa
set_option linter.unusedVariables false
set_option linter.unusedSimpArgs false
set_option maxRecDepth 4000
open Go.RowKit

set_option maxHeartbeats 1000000 in
theorem newton_any (n : Nat) (w : World) (hn : n < 4611686018427387904) :
    Calls Try.prog 79 #[.int .i64 (n : Int)] w fun e w' => ∃ r : Nat, IsRoot n r ∧ r < 2147483649 ∧ e = .returned (.int .i64 (r : Int)) ∧ w = w' := by
  have HN := Lib.hid hn
  by_cases h0 : n = 0
  · subst h0
    go_enter Try.func79, Try.ntmps79
    go_wp2
    go_step3
    go_wp2
    rw [Exit.noGoto_ret]
    show bodyPost _ _ _ _ _ _
    go_ret
    exact ⟨0, ⟨by omega, by omega⟩, by omega, rfl, rfl⟩
  · have h0' : decide ((n : Int) ≤ 0) = false := decide_eq_false (by omega)
    go_enter Try.func79, Try.ntmps79
    go_wp2
    go_step3
    go_wp2
    go_step3
    go_wp2
    go_loop [3] (fun r_ => ∃ r : Nat, 1 ≤ r ∧ r ≤ 2147483648 ∧ r_ = .int .i64 (r : Int) ∧ Hid (n < (r + 1) * (r + 1))) (fun r_ => (intOf r_).toNat)
    case atStart => exact ⟨2147483648, by omega, by omega, rfl, by show n < _; have := HN.out; omega⟩
    case round =>
      obtain ⟨r, hr1, hr2, rfl, H⟩ := hrel
      have hst := newton_step n r hr1
      have hen := newton_end n r
      obtain ⟨q, hq⟩ : ∃ q, q = n / r := ⟨_, rfl⟩
      have hqn : q ≤ n := by rw [hq]; exact Nat.div_le_self n r
      have hd1 : (n : Int).tdiv (r : Int) = (q : Int) := by rw [hq, Int.tdiv_eq_ediv_of_nonneg (by omega)]; simp
      have hd2 : (n : Int) / (r : Int) = (q : Int) := by rw [hq]; simp
      have hr0 : ((r : Int) == 0) = false := by simp; omega
      rw [← hq] at hst hen
      have HST := Lib.hid hst
      have HEN := Lib.hid hen
      have HQ := Lib.hid hq
      clear hst hen hq
      go_wp2
      · rename_i h3 _
        go_ret
        exact ⟨r, ⟨HEN.out (by omega), H.out⟩, by omega, rfl, rfl⟩
      · rename_i h3
        refine ⟨⟨(r + q) / 2, ?_, by omega, by congr 1, HST.out⟩, ?_⟩
        · have h4 := HST.out
          rcases Nat.eq_zero_or_pos ((r + q) / 2) with e | e
          · rw [e] at h4; omega
          · exact e
        · simp only [intOf]; omega
end Go.Proofs.Ytfnoeolngdhjfaa
