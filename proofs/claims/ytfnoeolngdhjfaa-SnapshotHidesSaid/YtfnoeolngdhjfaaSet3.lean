/-
  Package arenanetref12: Size, Body, Player; package layout: Body, Player.
-/
import Derived.Test.YtfnoeolngdhjfaaSet1
namespace Go.Proofs.Ytfnoeolngdhjfaa
set_option linter.unusedVariables false
set_option linter.unusedSimpArgs false
set_option maxRecDepth 4000
open Go.RowKit

set_option maxHeartbeats 1000000 in
theorem size_any (cs : Array Value) (s : Su) (m : SuM) (w : World) (hcs : cs = suVals s m) (hp8 : s.players ≤ 100) (hn : m.nb ≤ 100) :
    Calls Try.prog 62 #[.agg cs] w fun e w' => e = .returned (.int .i64 ((48 + 4 * s.players + 8 * m.nb : Nat) : Int)) ∧ Below w.heap.size w w' := by
  have c0 := su_c0 hcs
  have c1 := su_c1 hcs
  clear hcs
  go_enter Try.func62, Try.ntmps62
  go_wp2
  go_ret
  exact ⟨ret_int (by first | rfl | omega | (simp only [wrap64]; done) | (simp only [wrap64]; omega)), (Below.refl _ _).alloc (Nat.le_refl _) _⟩

set_option maxHeartbeats 1000000 in
theorem rbody_any (cs : Array Value) (s : Su) (m : SuM) (i : Nat) (w : World) (hcs : cs = suVals s m) (hp8 : s.players ≤ 100) (hn : m.nb ≤ 100) (hi : i < m.nb) :
    Calls Try.prog 48 #[.agg cs, .int .i64 (i : Int)] w fun e w' => e = .returned (.int .i64 ((48 + 4 * s.players + 8 * i : Nat) : Int)) ∧ Below w.heap.size w w' := by
  have c0 := su_c0 hcs
  have c1 := su_c1 hcs
  clear hcs
  have h0 : ¬ (i : Int) < 0 := by omega
  go_enter Try.func48, Try.ntmps48
  go_wp2
  go_ret
  exact ⟨ret_int (by first | rfl | omega | (simp only [wrap64]; done) | (simp only [wrap64]; omega)), (Below.refl _ _).alloc (Nat.le_refl _) _⟩

set_option maxHeartbeats 1000000 in
theorem rplayer_any (cs : Array Value) (s : Su) (m : SuM) (i : Nat) (w : World) (hcs : cs = suVals s m) (hp8 : s.players ≤ 100) (hi : i < s.players) :
    Calls Try.prog 51 #[.agg cs, .int .i64 (i : Int)] w fun e w' => e = .returned (.int .i64 ((48 + 4 * i : Nat) : Int)) ∧ Below w.heap.size w w' := by
  have c0 := su_c0 hcs
  have c1 := su_c1 hcs
  clear hcs
  go_enter Try.func51, Try.ntmps51
  go_wp2
  go_ret
  exact ⟨ret_int (by first | rfl | omega | (simp only [wrap64]; done) | (simp only [wrap64]; omega)), (Below.refl _ _).alloc (Nat.le_refl _) _⟩
theorem within_any (n lo hi : Int) (w : World) : Calls Try.prog 57 #[.int .i64 n, .int .i64 lo, .int .i64 hi] w fun e w' => e = .returned (.bool (decide (lo ≤ n) && decide (n ≤ hi))) ∧ w = w' := by
  by_cases h1 : lo ≤ n
  · by_cases h2 : n ≤ hi
    · go_enter Try.func57, Try.ntmps57
      go_wp2
      go_ret
      exact ⟨ret_bool (by simp [h1, h2]), rfl⟩
    · go_enter Try.func57, Try.ntmps57
      go_wp2
      go_ret
      exact ⟨ret_bool (by simp [h1, h2]), rfl⟩
  · go_enter Try.func57, Try.ntmps57
    go_wp2
    go_ret
    exact ⟨ret_bool (by simp; omega), rfl⟩
theorem within_yes (n lo hi : Int) (w : World) (h1 : lo ≤ n) (h2 : n ≤ hi) : Calls Try.prog 57 #[.int .i64 n, .int .i64 lo, .int .i64 hi] w fun e w' => e = .returned (.bool true) ∧ w = w' := by
  refine (within_any n lo hi w).mono ?_
  rintro e w' ⟨rfl, hw⟩
  exact ⟨by simp [h1, h2], hw⟩
set_option maxHeartbeats 1000000 in
theorem lplayer_any (cs : Array Value) (s : Su) (m : SuM) (i : Nat) (w : World) (hcs : cs = suVals s m) (hp8 : s.players ≤ 100) (hi : i < s.players) :
    Calls Try.prog 26 #[.agg cs, .int .i64 (i : Int)] w fun e w' => e = .returned (.int .i64 ((48 + 4 * i : Nat) : Int)) ∧ Below w.heap.size w w' := by
  have c0 := su_c0 hcs
  have c1 := su_c1 hcs
  clear hcs
  go_enter Try.func26, Try.ntmps26
  go_wp2_with fail
  refine (within_yes _ _ _ _ (by omega) (by omega)).mono ?_
  rintro e1 w1 ⟨rfl, rfl⟩
  go_wp2_with fail
  go_ret
  exact ⟨ret_int (by first | rfl | omega | (simp only [wrap64]; done) | (simp only [wrap64]; omega)), (Below.refl _ _).alloc (Nat.le_refl _) _⟩
set_option maxHeartbeats 1000000 in
theorem lbody_any (cs : Array Value) (s : Su) (m : SuM) (i : Nat) (w : World) (hcs : cs = suVals s m) (hp8 : s.players ≤ 100) (hn : m.nb ≤ 100) (hi : i < m.nb) :
    Calls Try.prog 27 #[.agg cs, .int .i64 (i : Int)] w fun e w' => e = .returned (.int .i64 ((48 + 4 * s.players + 8 * i : Nat) : Int)) ∧ Below w.heap.size w w' := by
  have c0 := su_c0 hcs
  have c1 := su_c1 hcs
  clear hcs
  go_enter Try.func27, Try.ntmps27
  go_wp2_with fail
  refine (within_yes _ _ _ _ (by omega) (by omega)).mono ?_
  rintro e1 w1 ⟨rfl, rfl⟩
  go_wp2_with fail
  go_ret
  exact ⟨ret_int (by first | rfl | omega | (simp only [wrap64]; done) | (simp only [wrap64]; omega)), (Below.refl _ _).alloc (Nat.le_refl _) _⟩
/-- arenanetref01.Bound. -/
def bound (n m : Int) : Int := around n (2 * m + 1) - m
theorem bound_bd (n m : Int) (hm : 0 ≤ m) : -m ≤ bound n m ∧ bound n m ≤ m := by
  have h1 := around_lo (n := n) (m := 2 * m + 1) (by omega)
  have h2 := around_hi (n := n) (m := 2 * m + 1) (by omega)
  unfold bound; omega
theorem bound_any (n m : Int) (w : World) (h1 : -9223372036854775808 ≤ n) (h2 : n ≤ 9223372036854775807) (h3 : 0 ≤ m) (h4 : m ≤ 4000000000) :
    Calls Try.prog 56 #[.int .i64 n, .int .i64 m] w fun e w' => e = .returned (.int .i64 (bound n m)) ∧ w = w' := by
  have hlo := around_lo (n := n) (m := 2 * m + 1) (by omega)
  have hhi := around_hi (n := n) (m := 2 * m + 1) (by omega)
  go_enter Try.func56, Try.ntmps56
  go_wp2_with fail
  refine (around_any n (2 * m + 1) _ h1 h2 (by omega) (by omega)).mono ?_
  rintro e1 w1 ⟨rfl, rfl⟩
  go_wp2_with fail
  go_ret
  exact ⟨ret_int (by unfold bound; first | rfl | (simp only [wrap64]; omega)), rfl⟩
end Go.Proofs.Ytfnoeolngdhjfaa
