/-
  Package jitter in plain Lean: the estimator's state, what each method computes, and the reference model. No program in sight.
-/
import Derived.Test.YtmicmibffceiaaaRef01
namespace Go.Proofs.Ytmicmibffceiaaa
set_option linter.unusedVariables false
set_option linter.unusedSimpArgs false

/-- A delay as it is kept. -/
def clampd (x : Int) : Int := if 60 < (if x < 0 then 0 else x) then 60 else if x < 0 then 0 else x
theorem clampd_eq (x : Int) : clampd x = min 60 (max 0 x) := by unfold clampd; split <;> split at * <;> omega
theorem clampd_bd (x : Int) : 0 ≤ clampd x ∧ clampd x ≤ 60 := by rw [clampd_eq]; omega

/-- An estimator: the ring of 16 samples and how many were added. -/
structure Est where
  ring : List Int
  count : Nat
def Est.new : Est := ⟨List.replicate 16 0, 0⟩
def Est.add (s : Est) (x : Int) : Est := ⟨s.ring.set (s.count % 16) (clampd x), s.count + 1⟩
def Est.run (l : List Int) : Est := l.foldl Est.add Est.new
/-- What holds of every estimator: 16 cells of samples, not too many added. -/
def Est.ok (s : Est) : Prop := s.ring.length = 16 ∧ (∀ x ∈ s.ring, 0 ≤ x ∧ x ≤ 60)
theorem Est.new_ok : Est.new.ok := ⟨by simp [Est.new], by intro x hx; simp [Est.new] at hx; omega⟩
theorem Est.add_ok {s : Est} (h : s.ok) (x : Int) : (s.add x).ok :=
  ⟨by simp [Est.add, h.1], by
    intro y hy
    rcases List.mem_or_eq_of_mem_set hy with h1 | h1
    · exact h.2 y h1
    · subst h1; exact clampd_bd x⟩
theorem foldl_ok {s : Est} (h : s.ok) (l : List Int) : (l.foldl Est.add s).ok := by
  induction l generalizing s with
  | nil => exact h
  | cons x l ih => exact ih (Est.add_ok h x)
theorem Est.run_ok (l : List Int) : (Est.run l).ok := foldl_ok Est.new_ok l
theorem foldl_count (s : Est) (l : List Int) : (l.foldl Est.add s).count = s.count + l.length := by
  induction l generalizing s with
  | nil => rfl
  | cons x l ih => simp only [List.foldl_cons, ih, Est.add, List.length_cons]; omega
theorem Est.run_count (l : List Int) : (Est.run l).count = l.length := by unfold Est.run; rw [foldl_count]; simp [Est.new]
theorem Est.run_snoc (l : List Int) (x : Int) : Est.run (l ++ [x]) = (Est.run l).add x := by simp [Est.run, List.foldl_append]

/-- The samples in increasing order. -/
def Est.sorted (s : Est) : List Int := (s.ring.take (min s.count 16)).mergeSort fun x y => decide (x ≤ y)
theorem Est.sorted_length {s : Est} (h : s.ok) : s.sorted.length = min s.count 16 := by
  unfold Est.sorted; rw [List.length_mergeSort, List.length_take, h.1]; omega
/-- Which of n samples in increasing order is the quantile. -/
def rankOf (p : Int) (n : Nat) : Nat := (max (((min (max p 0) 1000) * n + 999) / 1000 - 1) 0).toNat
def Est.quantile (s : Est) (p : Int) : Int := if s.sorted.length = 0 then 0 else ix s.sorted (rankOf p s.sorted.length)
def Est.delay (s : Est) : Int := min 8 (s.quantile 900)
def Est.window (s : Est) : Int := min 12 (max 1 (s.quantile 1000 + min (s.count : Int) 1))

theorem rankOf_lt (p : Int) {n : Nat} (hn : 0 < n) : rankOf p n < n := by
  unfold rankOf
  have h1 : min (max p 0) 1000 * (n : Int) ≤ 1000 * (n : Int) := Int.mul_le_mul_of_nonneg_right (by omega) (by omega)
  omega
theorem Est.sorted_bd {s : Est} (h : s.ok) : ∀ x ∈ s.sorted, 0 ≤ x ∧ x ≤ 60 := by
  intro x hx
  unfold Est.sorted at hx
  rw [List.mem_mergeSort] at hx
  exact h.2 x (List.mem_of_mem_take hx)
theorem Est.quantile_bd {s : Est} (h : s.ok) (p : Int) : 0 ≤ s.quantile p ∧ s.quantile p ≤ 60 := by
  unfold Est.quantile
  split
  · omega
  · exact Est.sorted_bd h _ (ix_mem (rankOf_lt p (by omega)))

/-- arenanetref23.Delays. -/
def delays (l : List Int) : List Int := (l.take 40).map fun n => around n 80 - 5
theorem delays_length (l : List Int) : (delays l).length ≤ 40 := by simp [delays]; omega
theorem delays_bd (l : List Int) : ∀ x ∈ delays l, -5 ≤ x ∧ x ≤ 74 := by
  intro x hx
  simp only [delays, List.mem_map] at hx
  obtain ⟨n, _, rfl⟩ := hx
  have h1 := around_lo (n := n) (m := 80) (by omega)
  have h2 := around_hi (n := n) (m := 80) (by omega)
  omega
theorem delays_take {l : List Int} {k : Nat} (h : k < l.length) : (l.take (k + 1)).map (fun n => around n 80 - 5) = (l.take k).map (fun n => around n 80 - 5) ++ [around (ix l k) 80 - 5] := by
  rw [take_snoc_ix h, List.map_append]; rfl

/-- arenanetref23.Kept. -/
def kept (l : List Int) : List Int := (l.drop (l.length - 16)).map clampd
/-- arenanetref23.AtMost. -/
def atMost (l : List Int) (v : Int) : Nat := (l.filter fun x => decide (x ≤ v)).length
/-- arenanetref23.Quantile: the loop over the first elements. -/
def refStep (l : List Int) (p : Int) (best x : Int) : Int := if p * l.length ≤ 1000 * (atMost l x : Int) ∧ (best < 0 ∨ x < best) then x else best
def refBest (l : List Int) (p : Int) (xs : List Int) : Int := xs.foldl (refStep l p) (-1)
def refQuantile (l : List Int) (p : Int) : Int := max (refBest l (min 1000 (max 0 p)) l) 0
/-- arenanetref23.Largest. -/
def largest (l : List Int) : Int := l.foldl max (-1)
theorem kept_snoc {l : List Int} {j k : Nat} (hj : j ≤ k) (h : k < l.length) : ((l.take (k + 1)).drop j).map clampd = ((l.take k).drop j).map clampd ++ [clampd (ix l k)] := by
  rw [take_snoc_ix h, List.drop_append_of_le_length (by simp; omega), List.map_append]; rfl
theorem atMost_snoc {l : List Int} {k : Nat} (v : Int) (h : k < l.length) : atMost (l.take (k + 1)) v = atMost (l.take k) v + if ix l k ≤ v then 1 else 0 := by
  unfold atMost
  rw [take_snoc_ix h, List.filter_append, List.length_append]
  by_cases hv : ix l k ≤ v <;> simp [hv]
theorem atMost_le (l : List Int) (v : Int) : atMost l v ≤ l.length := List.length_filter_le _ _
theorem largest_snoc {l : List Int} {k : Nat} (h : k < l.length) : largest (l.take (k + 1)) = max (largest (l.take k)) (ix l k) := by
  unfold largest; rw [take_snoc_ix h, List.foldl_append]; rfl
theorem refBest_snoc (l0 : List Int) (p : Int) {l : List Int} {k : Nat} (h : k < l.length) : refBest l0 p (l.take (k + 1)) = refStep l0 p (refBest l0 p (l.take k)) (ix l k) := by
  unfold refBest; rw [take_snoc_ix h, List.foldl_append]; rfl
theorem kept_length (l : List Int) : (kept l).length = min l.length 16 := by simp [kept]; omega
theorem kept_bd (l : List Int) : ∀ x ∈ kept l, 0 ≤ x ∧ x ≤ 60 := by
  intro x hx
  simp only [kept, List.mem_map] at hx
  obtain ⟨y, _, rfl⟩ := hx
  exact clampd_bd y
end Go.Proofs.Ytmicmibffceiaaa
