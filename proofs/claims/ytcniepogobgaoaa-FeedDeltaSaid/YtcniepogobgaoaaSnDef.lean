/-
  Package snapshot in plain Lean: views, numbers of variable length, differences. No program in sight.
-/
import Derived.Test.YtcniepogobgaoaaPair
namespace Go.Proofs.Ytcniepogobgaoaa
set_option linter.unusedVariables false
set_option linter.unusedSimpArgs false

abbrev Vw := List (Int × Int)
/-- A view: indices strictly increasing, from 0 to 2^31-1; values of 64 bits. -/
structure IsV (l : Vw) : Prop where
  up : l.Pairwise fun p q => p.1 < q.1
  bd : ∀ p ∈ l, 0 ≤ p.1 ∧ p.1 ≤ 2147483647 ∧ -9223372036854775808 ≤ p.2 ∧ p.2 ≤ 9223372036854775807
theorem IsV.nil : IsV [] := ⟨List.Pairwise.nil, by simp⟩

/-- The value at an index. -/
def findD : Vw → Int → Option Int
  | [], _ => none
  | p :: t, i => if p.1 = i then some p.2 else findD t i

/-- One round of 'put': what has come out, and whether the cell has been laid. -/
def putStep (c : Int × Int) (s : Vw × Bool) (x : Int × Int) : Vw × Bool :=
  let s1 := if s.2 = false ∧ c.1 ≤ x.1 then (s.1 ++ [c], true) else s
  (if x.1 = c.1 then s1.1 else s1.1 ++ [x], s1.2)
def putRun (c : Int × Int) (l : Vw) : Vw × Bool := l.foldl (putStep c) ([], false)
theorem putRun_snoc (c : Int × Int) (l : Vw) (x : Int × Int) : putRun c (l ++ [x]) = putStep c (putRun c l) x := by simp [putRun, List.foldl_append]
def putD (l : Vw) (c : Int × Int) : Vw := if (putRun c l).2 then (putRun c l).1 else (putRun c l).1 ++ [c]

theorem putRun_len (c : Int × Int) (l : Vw) : (putRun c l).1.length ≤ l.length + 1 ∧ ((putRun c l).2 = false → (putRun c l).1.length ≤ l.length) := by
  induction l using snoc_ind with
  | h0 => simp [putRun]
  | h1 l x ih =>
    rw [putRun_snoc]
    obtain ⟨h1, h2⟩ := ih
    generalize putRun c l = s at *
    obtain ⟨o, d⟩ := s
    unfold putStep
    simp only [] at *
    cases d
    · have := h2 rfl
      by_cases hc : c.1 ≤ x.1 <;> by_cases he : x.1 = c.1 <;> simp [hc, he] <;> omega
    · by_cases he : x.1 = c.1 <;> simp [he] <;> omega
theorem putD_len (l : Vw) (c : Int × Int) : (putD l c).length ≤ l.length + 1 := by
  obtain ⟨h1, h2⟩ := putRun_len c l
  unfold putD
  cases h : (putRun c l).2
  · have := h2 h; simp; omega
  · simp; omega

/-- The run of 'put' over a sorted view: the smaller cells, then (once a cell at or beyond the index has come) the cell itself, then the greater ones. -/
theorem putRun_sorted (c : Int × Int) (l : Vw) (h : l.Pairwise fun p q => p.1 < q.1) :
    putRun c l = if (l.any fun p => decide (c.1 ≤ p.1)) then ((l.filter fun p => decide (p.1 < c.1)) ++ [c] ++ l.filter fun p => decide (c.1 < p.1), true) else (l.filter fun p => decide (p.1 < c.1), false) := by
  induction l using snoc_ind with
  | h0 => simp [putRun]
  | h1 l x ih =>
    rw [List.pairwise_append] at h
    obtain ⟨h1, _, h2⟩ := h
    have h2 : ∀ p ∈ l, p.1 < x.1 := fun p hp => h2 p hp x (by simp)
    rw [putRun_snoc, ih h1]
    by_cases ha : (l.any fun p => decide (c.1 ≤ p.1)) = true
    · obtain ⟨p, hp, hc⟩ := List.any_eq_true.1 ha
      have hcx : c.1 < x.1 := by have := h2 p hp; have := of_decide_eq_true hc; omega
      have h3 : ¬ x.1 < c.1 := by omega
      have h4 : ¬ x.1 = c.1 := by omega
      rw [if_pos ha, if_pos (by rw [List.any_append, ha]; rfl)]
      simp [putStep, List.filter_append, hcx, h3, h4]
    · rw [if_neg ha]
      have hno : ∀ p ∈ l, p.1 < c.1 := fun p hp => by
        rcases Int.lt_or_le p.1 c.1 with h | h
        · exact h
        · exact absurd (List.any_eq_true.2 ⟨p, hp, decide_eq_true h⟩) ha
      have hf : (l.filter fun p => decide (c.1 < p.1)) = [] := List.filter_eq_nil_iff.2 fun p hp => by have := hno p hp; simp; omega
      by_cases hcx : c.1 ≤ x.1
      · rw [if_pos (by rw [List.any_append]; simp [hcx])]
        by_cases he : x.1 = c.1
        · have h5 : ¬ x.1 < c.1 := by omega
          have h6 : ¬ c.1 < x.1 := by omega
          simp [putStep, List.filter_append, hcx, he, hf]
        · have h5 : ¬ x.1 < c.1 := by omega
          have h6 : c.1 < x.1 := by omega
          simp [putStep, List.filter_append, hcx, he, h5, h6, hf]
      · rw [if_neg (by rw [List.any_append, Bool.or_eq_true, not_or]; exact ⟨ha, by simp [hcx]⟩)]
        have h5 : x.1 < c.1 := by omega
        have h6 : ¬ x.1 = c.1 := by omega
        simp [putStep, List.filter_append, hcx, h5, h6]
theorem putD_sorted (c : Int × Int) (l : Vw) (h : l.Pairwise fun p q => p.1 < q.1) : putD l c = (l.filter fun p => decide (p.1 < c.1)) ++ [c] ++ l.filter fun p => decide (c.1 < p.1) := by
  unfold putD
  rw [putRun_sorted c l h]
  by_cases ha : (l.any fun p => decide (c.1 ≤ p.1)) = true
  · rw [if_pos ha]; simp
  · rw [if_neg ha]
    have hf : (l.filter fun p => decide (c.1 < p.1)) = [] := List.filter_eq_nil_iff.2 fun p hp => by
      rcases Int.lt_or_le p.1 c.1 with h | h
      · simp; omega
      · exact absurd (List.any_eq_true.2 ⟨p, hp, decide_eq_true h⟩) ha
    rw [hf]; simp
theorem IsV.put {l : Vw} (h : IsV l) {c : Int × Int} (hc : 0 ≤ c.1 ∧ c.1 ≤ 2147483647 ∧ -9223372036854775808 ≤ c.2 ∧ c.2 ≤ 9223372036854775807) : IsV (putD l c) := by
  rw [putD_sorted c l h.up]
  refine ⟨?_, fun p hp => ?_⟩
  · rw [List.pairwise_append, List.pairwise_append]
    refine ⟨⟨h.up.filter _, by simp, fun a ha b hb => ?_⟩, h.up.filter _, fun a ha b hb => ?_⟩
    · rw [List.mem_singleton] at hb; subst hb
      exact of_decide_eq_true (List.mem_filter.1 ha).2
    · have hb := of_decide_eq_true (List.mem_filter.1 hb).2
      rcases List.mem_append.1 ha with ha | ha
      · have := of_decide_eq_true (List.mem_filter.1 ha).2; omega
      · rw [List.mem_singleton] at ha; subst ha; exact hb
  · rcases List.mem_append.1 hp with hp | hp
    · rcases List.mem_append.1 hp with hp | hp
      · exact h.bd p (List.mem_filter.1 hp).1
      · rw [List.mem_singleton] at hp; subst hp; exact hc
    · exact h.bd p (List.mem_filter.1 hp).1

/-- arenanetref28.Cells: one cell, and all. -/
def idxOf (n : Int) : Int := if n % 11 = 3 then ix [127, 128, 300, 70000, 2147483646, 2147483647] (n / 11 % 6).toNat else n % 20
def cellOf (a b : Int) : Int × Int := (idxOf (around a 100000), if around a 100000 % 3 > 0 then around b 9 - 4 else b)
def mkV (l : List Int) : Nat → Vw
  | 0 => []
  | k + 1 => putD (mkV l k) (cellOf (ix l (2 * k)) (ix l (2 * k + 1)))
def mkCells (l : List Int) : Vw := mkV l (min (l.length / 2) 12)
theorem idxOf_bd (a : Int) : 0 ≤ idxOf (around a 100000) ∧ idxOf (around a 100000) ≤ 2147483647 := by
  have h1 := around_lo (n := a) (m := 100000) (by omega)
  have h2 := around_hi (n := a) (m := 100000) (by omega)
  unfold idxOf
  split
  · generalize (around a 100000 / 11 % 6).toNat = k
    match k with
    | 0 => decide
    | 1 => decide
    | 2 => decide
    | 3 => decide
    | 4 => decide
    | 5 => decide
    | k + 6 => show 0 ≤ (0 : Int) ∧ (0 : Int) ≤ 2147483647; omega
  · omega
theorem cellOf_bd {a b : Int} (hb : -9223372036854775808 ≤ b ∧ b ≤ 9223372036854775807) : 0 ≤ (cellOf a b).1 ∧ (cellOf a b).1 ≤ 2147483647 ∧ -9223372036854775808 ≤ (cellOf a b).2 ∧ (cellOf a b).2 ≤ 9223372036854775807 := by
  have h1 := idxOf_bd a
  have h2 := around_lo (n := b) (m := 9) (by omega)
  have h3 := around_hi (n := b) (m := 9) (by omega)
  unfold cellOf
  simp only []
  refine ⟨h1.1, h1.2, ?_⟩
  split <;> omega
theorem mkV_len (l : List Int) : ∀ k, (mkV l k).length ≤ k
  | 0 => Nat.le_refl _
  | k + 1 => by have := mkV_len l k; have := putD_len (mkV l k) (cellOf (ix l (2 * k)) (ix l (2 * k + 1))); simp only [mkV]; omega
theorem mkV_isV {l : List Int} (hl : ∀ x ∈ l, -9223372036854775808 ≤ x ∧ x ≤ 9223372036854775807) : ∀ k, 2 * k ≤ l.length → IsV (mkV l k)
  | 0, _ => IsV.nil
  | k + 1, h => (mkV_isV hl k (by omega)).put (cellOf_bd (hl _ (ix_mem (by omega))))
theorem mkCells_isV {l : List Int} (hl : ∀ x ∈ l, -9223372036854775808 ≤ x ∧ x ≤ 9223372036854775807) : IsV (mkCells l) := mkV_isV hl _ (by omega)
theorem mkCells_len (l : List Int) : (mkCells l).length ≤ 12 := Nat.le_trans (mkV_len l _) (by omega)

/-- Numbers of variable length. -/
def enc (n : Nat) : List Int := if h : n < 128 then [(n : Int)] else ((n % 128 + 128 : Nat) : Int) :: enc (n / 128)
termination_by n
decreasing_by omega
theorem enc_small {n : Nat} (h : n < 128) : enc n = [(n : Int)] := by rw [enc, dif_pos h]
theorem enc_big {n : Nat} (h : ¬ n < 128) : enc n = ((n % 128 + 128 : Nat) : Int) :: enc (n / 128) := by rw [enc, dif_neg h]
/-- zigzag, of a number of 64 bits. -/
def zig (d : Int) : Nat := if 0 ≤ d then (2 * d).toNat else (-2 * d - 1).toNat
theorem zig_lt {d : Int} (h1 : -9223372036854775808 ≤ d) (h2 : d ≤ 9223372036854775807) : zig d < 18446744073709551616 := by
  unfold zig; split <;> omega
end Go.Proofs.Ytcniepogobgaoaa
