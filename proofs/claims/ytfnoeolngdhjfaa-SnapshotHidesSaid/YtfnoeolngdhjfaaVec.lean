/-
  Package vec and its reference: Sub, Len.
-/
import Derived.Test.YtfnoeolngdhjfaaIsn
import Derived.Test.YtfnoeolngdhjfaaSet1
namespace Go.Proofs.Ytfnoeolngdhjfaa
set_option linter.unusedVariables false
set_option linter.unusedSimpArgs false
set_option maxRecDepth 4000
open Go.RowKit

theorem int_sq (x : Int) : 0 ≤ x * x := by
  rcases Int.le_total 0 x with h | h
  · exact Int.mul_nonneg h h
  · exact Int.mul_nonneg_of_nonpos_of_nonpos h h
set_option maxHeartbeats 1000000 in
theorem sub_any (a b c d : Int) (w : World) (h1 : -1000000000 ≤ a ∧ a ≤ 1000000000) (h2 : -1000000000 ≤ b ∧ b ≤ 1000000000) (h3 : -1000000000 ≤ c ∧ c ≤ 1000000000) (h4 : -1000000000 ≤ d ∧ d ≤ 1000000000) :
    Calls Try.prog 69 #[.agg #[.int .i64 a, .int .i64 b], .agg #[.int .i64 c, .int .i64 d]] w fun e w' => e = .returned (.agg #[.int .i64 (a - c), .int .i64 (b - d)]) ∧ Below w.heap.size w w' := by
  have e1 : wrap64 (a - c) = a - c := wr64 (by omega) (by omega)
  have e2 : wrap64 (b - d) = b - d := wr64 (by omega) (by omega)
  clear h1 h2 h3 h4
  go_enter Try.func69, Try.ntmps69
  go_wp2
  refine bodyPost_ret (v := .agg #[.int .i64 (a - c), .int .i64 (b - d)]) (by simp [results, Try.results69, go_sem]) rfl ⟨rfl, (((Below.refl _ _).alloc (Nat.le_refl _) _).alloc (by simp) _).alloc (by simp; omega) _⟩
set_option maxHeartbeats 1000000 in
theorem rsub_any (a b c d : Int) (w : World) (h1 : -1000000000 ≤ a ∧ a ≤ 1000000000) (h2 : -1000000000 ≤ b ∧ b ≤ 1000000000) (h3 : -1000000000 ≤ c ∧ c ≤ 1000000000) (h4 : -1000000000 ≤ d ∧ d ≤ 1000000000) :
    Calls Try.prog 76 #[.agg #[.int .i64 a, .int .i64 b], .agg #[.int .i64 c, .int .i64 d]] w fun e w' => e = .returned (.agg #[.int .i64 (a - c), .int .i64 (b - d)]) ∧ Below w.heap.size w w' := by
  have e1 : wrap64 (a - c) = a - c := wr64 (by omega) (by omega)
  have e2 : wrap64 (b - d) = b - d := wr64 (by omega) (by omega)
  clear h1 h2 h3 h4
  go_enter Try.func76, Try.ntmps76
  go_wp2
  refine bodyPost_ret (v := .agg #[.int .i64 (a - c), .int .i64 (b - d)]) (by simp [results, Try.results76, go_sem]) rfl ⟨rfl, (((Below.refl _ _).alloc (Nat.le_refl _) _).alloc (by simp) _).alloc (by simp; omega) _⟩
set_option maxHeartbeats 1000000 in
theorem len_any (x y : Int) (n : Nat) (w : World) (hn : (n : Int) = x * x + y * y) (hn2 : n < 4611686018427387904) :
    Calls Try.prog 68 #[.agg #[.int .i64 x, .int .i64 y]] w fun e w' => ∃ r : Nat, IsRoot n r ∧ r < 2147483649 ∧ e = .returned (.int .i64 (r : Int)) ∧ Below w.heap.size w w' := by
  have hx : 0 ≤ x * x := int_sq x
  have hy : 0 ≤ y * y := int_sq y
  obtain ⟨xx, hxx⟩ : ∃ xx, xx = x * x := ⟨_, rfl⟩
  obtain ⟨yy, hyy⟩ : ∃ yy, yy = y * y := ⟨_, rfl⟩
  rw [← hxx] at hn hx
  rw [← hyy] at hn hy
  have e1 : wrap64 (x * x) = xx := by rw [← hxx]; exact wr64 (by omega) (by omega)
  have e2 : wrap64 (y * y) = yy := by rw [← hyy]; exact wr64 (by omega) (by omega)
  have e3 : wrap64 (xx + yy) = (n : Int) := by rw [hn]; exact wr64 (by omega) (by omega)
  have HN := Lib.hid hn2
  clear hn hx hy hxx hyy hn2
  go_enter Try.func68, Try.ntmps68
  go_wp2_with fail
  refine (newton_any n _ HN.out).mono ?_
  rintro e w' ⟨r, hr, hr2, rfl, rfl⟩
  have HR := Lib.hid hr
  clear hr
  go_wp2_with fail
  go_ret
  exact ⟨r, HR.out, hr2, rfl, (Below.refl _ _).alloc (Nat.le_refl _) _⟩
set_option maxHeartbeats 1000000 in
theorem rlen_any (x y : Int) (n : Nat) (w : World) (hn : (n : Int) = x * x + y * y) (hn2 : n < 4611686018427387904) :
    Calls Try.prog 75 #[.agg #[.int .i64 x, .int .i64 y]] w fun e w' => ∃ r : Nat, IsRoot n r ∧ r < 2147483649 ∧ e = .returned (.int .i64 (r : Int)) ∧ Below w.heap.size w w' := by
  have hx : 0 ≤ x * x := int_sq x
  have hy : 0 ≤ y * y := int_sq y
  obtain ⟨xx, hxx⟩ : ∃ xx, xx = x * x := ⟨_, rfl⟩
  obtain ⟨yy, hyy⟩ : ∃ yy, yy = y * y := ⟨_, rfl⟩
  rw [← hxx] at hn hx
  rw [← hyy] at hn hy
  have e1 : wrap64 (x * x) = xx := by rw [← hxx]; exact wr64 (by omega) (by omega)
  have e2 : wrap64 (y * y) = yy := by rw [← hyy]; exact wr64 (by omega) (by omega)
  have e3 : wrap64 (xx + yy) = (n : Int) := by rw [hn]; exact wr64 (by omega) (by omega)
  have HN := Lib.hid hn2
  clear hn hx hy hxx hyy hn2
  go_enter Try.func75, Try.ntmps75
  go_wp2_with fail
  refine (halve_any n _ HN.out).mono ?_
  rintro e w' ⟨r, hr, hr2, rfl, rfl⟩
  have HR := Lib.hid hr
  clear hr
  go_wp2_with fail
  go_ret
  exact ⟨r, HR.out, hr2, rfl, (Below.refl _ _).alloc (Nat.le_refl _) _⟩
end Go.Proofs.Ytfnoeolngdhjfaa
