/-
  The reference of package unionfind in plain Lean: labels of the elements, and that they tell the sets the forest tells. No program in sight.
-/
import Derived.Test.YtglfmchddbaceaaUfMap
namespace Go.Proofs.Ytglfmchddbaceaa
set_option linter.unusedVariables false
set_option linter.unusedSimpArgs false

def labs (lab : Nat → Nat) (n : Nat) : List Int := (List.range n).map fun i : Nat => (lab i : Int)
theorem labs_len (lab : Nat → Nat) (n : Nat) : (labs lab n).length = n := by simp [labs]
theorem labs_ix (lab : Nat → Nat) {n i : Nat} (h : i < n) : ix (labs lab n) i = (lab i : Int) := by
  rw [ix_get (by rw [labs_len]; exact h)]; simp [labs]
theorem labs_snoc (lab : Nat → Nat) (n : Nat) : labs lab (n + 1) = labs lab n ++ [(lab n : Int)] := by simp [labs, List.range_succ]
theorem labs_ext {a b : Nat → Nat} {n : Nat} (h : ∀ i, i < n → a i = b i) : labs a n = labs b n := by
  unfold labs
  apply List.map_congr_left
  intro i hi
  rw [h i (List.mem_range.1 hi)]

def refE (n : Nat) (lab : Nat → Nat) (e : Int × Int) : Nat → Nat := if 0 ≤ e.1 ∧ e.1 < n ∧ 0 ≤ e.2 ∧ e.2 < n then fun i => if lab i = lab e.2.toNat then lab e.1.toNat else lab i else lab
def refR (n : Nat) (es : List (Int × Int)) : Nat → Nat := es.foldl (refE n) id
theorem refR_snoc (n : Nat) (es : List (Int × Int)) (e : Int × Int) : refR n (es ++ [e]) = refE n (refR n es) e := by simp [refR, List.foldl_append]

/-- The two functions tell the same elements apart. -/
def Ker (n : Nat) (a b : Nat → Nat) : Prop := ∀ i j, i < n → j < n → (a i = a j ↔ b i = b j)
theorem Ker.refl (n : Nat) (a : Nat → Nat) : Ker n a a := fun _ _ _ _ => Iff.rfl
theorem Ker.step {n : Nat} {lab r : Nat → Nat} (h : Ker n lab r) (e : Int × Int) : Ker n (refE n lab e) (uniE n r e) := by
  unfold refE uniE
  split
  · rename_i ho
    obtain ⟨a, ha⟩ : ∃ a : Nat, a = e.1.toNat := ⟨_, rfl⟩
    obtain ⟨b, hb⟩ : ∃ b : Nat, b = e.2.toNat := ⟨_, rfl⟩
    rw [← ha, ← hb]
    have han : a < n := by omega
    have hbn : b < n := by omega
    intro i j hi hj
    have h1 := h i j hi hj
    have h2 := h i b hi hbn
    have h3 := h j b hj hbn
    have h4 := h i a hi han
    have h5 := h j a hj han
    have h6 := h a b han hbn
    unfold joinR
    simp only []
    by_cases c1 : r i = r b <;> by_cases c2 : r j = r b <;> by_cases c3 : r i = r a <;> by_cases c4 : r j = r a <;> simp only [c1, c2, c3, c4, iff_true, iff_false, true_iff, false_iff] at h1 h2 h3 h4 h5 h6 <;> rcases Nat.le_total (r a) (r b) with c5 | c5 <;> simp only [Nat.max_eq_left, Nat.max_eq_right, Nat.min_eq_left, Nat.min_eq_right, c5] <;> (repeat' split) <;> constructor <;> intro <;> omega
  · exact h
theorem Ker.run (n : Nat) (es : List (Int × Int)) : Ker n (refR n es) (runE n es) := by
  induction es using snoc_ind with
  | h0 => exact Ker.refl _ _
  | h1 l e ih => rw [refR_snoc, runE_snoc]; exact ih.step e
theorem Ker.sames {n : Nat} {lab r : Nat → Nat} (h : Ker n lab r) (a b : Int) : sames n lab a b = sames n r a b := by
  unfold Go.Proofs.Ytglfmchddbaceaa.sames
  by_cases ho : 0 ≤ a ∧ a < n ∧ 0 ≤ b ∧ b < n
  · rw [decide_eq_true ho]
    congr 1
    exact decide_eq_decide.2 (h _ _ (by omega) (by omega))
  · rw [decide_eq_false ho]; rfl
theorem Ker.joins {n : Nat} {lab r : Nat → Nat} (h : Ker n lab r) (e : Int × Int) : joins n lab e = joins n r e := by
  unfold Go.Proofs.Ytglfmchddbaceaa.joins
  by_cases ho : 0 ≤ e.1 ∧ e.1 < n ∧ 0 ≤ e.2 ∧ e.2 < n
  · rw [decide_eq_true ho]
    congr 1
    exact decide_eq_decide.2 (not_congr (h _ _ (by omega) (by omega)))
  · rw [decide_eq_false ho]; rfl

/-- The first elements of their sets, in rising order, and the reference's groups. -/
def firsts (lab : Nat → Nat) (k : Nat) : List Nat := (List.range k).filter fun i => decide (∀ j, j < i → lab j ≠ lab i)
def rgK (lab : Nat → Nat) (n k : Nat) : List (List Int) := (firsts lab k).map fun i => grp lab (lab i) n
def dones (lab : Nat → Nat) (k : Nat) : List Int := (firsts lab k).map fun i => (lab i : Int)
theorem firsts_snoc (lab : Nat → Nat) (k : Nat) : firsts lab (k + 1) = firsts lab k ++ if (∀ j, j < k → lab j ≠ lab k) then [k] else [] := by
  unfold firsts
  rw [List.range_succ, List.filter_append]
  congr 1
  by_cases h : ∀ j, j < k → lab j ≠ lab k
  · rw [if_pos h]; simp; exact h
  · rw [if_neg h]
    rw [List.filter_eq_nil_iff]
    intro x hx
    rw [List.mem_singleton] at hx
    subst hx
    simpa using h
theorem firsts_len (lab : Nat → Nat) (k : Nat) : (firsts lab k).length ≤ k := by
  unfold firsts; have := List.length_filter_le (fun i => decide (∀ j, j < i → lab j ≠ lab i)) (List.range k); simpa using this
theorem dones_mem (lab : Nat → Nat) (k x : Nat) : (x : Int) ∈ dones lab k ↔ ∃ j, j < k ∧ lab j = x := by
  induction k with
  | zero => simp [dones, firsts]
  | succ k ih =>
    unfold dones at *
    rw [firsts_snoc, List.map_append, List.mem_append, ih]
    constructor
    · rintro (⟨j, h1, h2⟩ | h)
      · exact ⟨j, by omega, h2⟩
      · split at h
        · simp at h; exact ⟨k, Nat.lt_succ_self k, by omega⟩
        · simp at h
    · rintro ⟨j, h1, h2⟩
      by_cases hj : j < k
      · exact .inl ⟨j, hj, h2⟩
      · obtain rfl : j = k := by omega
        by_cases hd : ∀ i, i < j → lab i ≠ lab j
        · right; rw [if_pos hd]; simp [h2]
        · left
          simp only [Classical.not_forall, Classical.not_not, ne_eq] at hd
          obtain ⟨i, hi, he⟩ := hd
          exact ⟨i, hi, he.trans h2⟩
theorem dones_has {lab : Nat → Nat} {k : Nat} : (lab k : Int) ∈ dones lab k ↔ ¬ ∀ j, j < k → lab j ≠ lab k := by
  rw [dones_mem]
  constructor
  · rintro ⟨j, h1, h2⟩ h; exact h j h1 h2
  · intro h
    simp only [Classical.not_forall, Classical.not_not, ne_eq] at h
    obtain ⟨i, hi, he⟩ := h
    exact ⟨i, hi, he⟩
theorem grp_ker {n : Nat} {lab r : Nat → Nat} (h : Ker n lab r) {i : Nat} (hi : i < n) : grp lab (lab i) n = grp r (r i) n := by
  unfold grp
  congr 1
  apply List.filter_congr
  intro j hj
  exact decide_eq_decide.2 (h j i (List.mem_range.1 hj) hi)
theorem rgK_groups {n : Nat} {lab r : Nat → Nat} (h : Ker n lab r) (hr : ∀ i, i < n → r i ≤ i ∧ r (r i) = r i) : rgK lab n n = groups r n := by
  unfold rgK groups roots
  rw [List.map_map]
  have e : firsts lab n = (List.range n).filter fun i => decide (r i = i) := by
    unfold firsts
    apply List.filter_congr
    intro i hi
    have hi := List.mem_range.1 hi
    apply decide_eq_decide.2
    constructor
    · intro hf
      by_cases hlt : r i < i
      · exact absurd ((h (r i) i (by omega) hi).2 (hr i hi).2) (hf _ hlt)
      · have := (hr i hi).1; omega
    · intro he j hj hc
      have h1 := (h j i (by omega) hi).1 hc
      have h2 := (hr j (by omega)).1
      omega
  rw [e]
  apply List.map_congr_left
  intro i hi
  rw [List.mem_filter] at hi
  have h1 := List.mem_range.1 hi.1
  have h2 : r i = i := of_decide_eq_true hi.2
  simp only [Function.comp, Int.toNat_natCast]
  rw [grp_ker h h1, h2]
end Go.Proofs.Ytglfmchddbaceaa
