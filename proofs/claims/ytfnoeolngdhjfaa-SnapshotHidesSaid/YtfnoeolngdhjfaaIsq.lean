/-
  The square root, rounded down, two ways: fixed.Isqrt (Newton), arenanetref01.Isqrt (halving).
-/
import Derived.Test.YtfnoeolngdhjfaaRef01
namespace Go.Proofs.Ytfnoeolngdhjfaa
set_option linter.unusedVariables false
set_option linter.unusedSimpArgs false
set_option maxRecDepth 4000
open Go.RowKit

/-- r is the root of n, rounded down. -/
def IsRoot (n r : Nat) : Prop := r * r ≤ n ∧ n < (r + 1) * (r + 1)
theorem IsRoot.uniq {n r s : Nat} (h : IsRoot n r) (h' : IsRoot n s) : r = s := by
  rcases Nat.lt_trichotomy r s with hl | hl | hl
  · have := Nat.mul_le_mul (show r + 1 ≤ s from hl) (show r + 1 ≤ s from hl)
    have := h.2; have := h'.1; omega
  · exact hl
  · have := Nat.mul_le_mul (show s + 1 ≤ r from hl) (show s + 1 ≤ r from hl)
    have := h'.2; have := h.1; omega
theorem sq4 (a b : Nat) : 4 * (a * b) ≤ (a + b) * (a + b) := by
  rcases Nat.le_total a b with h | h
  · obtain ⟨d, rfl⟩ := Nat.le.dest h
    simp only [Nat.add_mul, Nat.mul_add]
    have := Nat.mul_comm a d
    have := Nat.zero_le (d * d)
    omega
  · obtain ⟨d, rfl⟩ := Nat.le.dest h
    simp only [Nat.add_mul, Nat.mul_add]
    have := Nat.mul_comm b d
    have := Nat.zero_le (d * d)
    omega
theorem newton_step (n r : Nat) (hr : 1 ≤ r) : n < ((r + n / r) / 2 + 1) * ((r + n / r) / 2 + 1) := by
  obtain ⟨q, hq⟩ : ∃ q, q = n / r := ⟨_, rfl⟩
  have h1 : n < r * (q + 1) := by rw [hq]; exact Nat.lt_mul_div_succ n hr
  rw [← hq]
  obtain ⟨x, hx⟩ : ∃ x, x = (r + q) / 2 + 1 := ⟨_, rfl⟩
  rw [← hx]
  have h2 : r + (q + 1) ≤ 2 * x := by omega
  have h3 := Nat.mul_le_mul h2 h2
  have h4 := sq4 r (q + 1)
  have h5 : 2 * x * (2 * x) = 4 * (x * x) := by rw [Nat.mul_mul_mul_comm]
  omega
theorem newton_end (n r : Nat) (h : r ≤ (r + n / r) / 2) : r * r ≤ n := by
  have h1 : r ≤ n / r := by omega
  exact Nat.le_trans (Nat.mul_le_mul_left r h1) (Nat.mul_div_le n r)

set_option maxHeartbeats 1000000 in
theorem halve_any (n : Nat) (w : World) (hn : n < 4611686018427387904) :
    Calls Try.prog 91 #[.int .i64 (n : Int)] w fun e w' => ∃ r : Nat, IsRoot n r ∧ r < 2147483649 ∧ e = .returned (.int .i64 (r : Int)) ∧ w = w' := by
  have HN := Lib.hid hn
  go_enter Try.func91, Try.ntmps91
  go_wp2
  go_loop [3, 4] (fun lo hi => ∃ a b : Nat, a < b ∧ b ≤ 2147483649 ∧ lo = .int .i64 (a : Int) ∧ hi = .int .i64 (b : Int) ∧ Hid (a * a ≤ n ∧ n < b * b)) (fun lo hi => (intOf hi).toNat - (intOf lo).toNat)
  case atStart => exact ⟨0, 2147483649, by omega, by omega, rfl, rfl, by show 0 * 0 ≤ n ∧ n < _; have := HN.out; omega⟩
  case round =>
    obtain ⟨a, b, hab, hb, rfl, rfl, H⟩ := hrel
    by_cases h1 : 1 < b - a
    · obtain ⟨m, hm0⟩ : ∃ m : Nat, m = a + (b - a) / 2 := ⟨_, rfl⟩
      have hm : (a : Int) + ((b : Int) - (a : Int)) / 2 = (m : Int) := by omega
      have ham : a < m := by omega
      have hmb : m < b := by omega
      have hsq1 : m * m ≤ 2147483648 * 2147483648 := Nat.mul_le_mul (by omega) (by omega)
      have hsq : wrap64 ((m : Int) * (m : Int)) = ((m * m : Nat) : Int) := by
        have e : (m : Int) * (m : Int) = ((m * m : Nat) : Int) := by simp
        rw [e]; simp only [wrap64]; omega
      have HM := Lib.hid hm
      have HS := Lib.hid hsq
      clear hm0 hsq1 hm hsq
      go_wp2
      · rename_i h3
        rw [HM.out, HS.out] at h3
        refine ⟨⟨m, b, hmb, hb, by rw [HM.out], rfl, ?_⟩, ?_⟩
        · exact ⟨Int.ofNat_le.1 h3, H.out.2⟩
        · rw [HM.out]; simp only [intOf]; omega
      · rename_i h3
        rw [HM.out, HS.out] at h3
        refine ⟨⟨a, m, ham, by omega, rfl, by rw [HM.out], ?_⟩, ?_⟩
        · exact ⟨H.out.1, Int.ofNat_lt.1 h3⟩
        · rw [HM.out]; simp only [intOf]; omega
    · have hba : b = a + 1 := by omega
      subst hba
      go_wp2
      go_ret
      exact ⟨a, H.out, by omega, rfl, rfl⟩

end Go.Proofs.Ytfnoeolngdhjfaa
