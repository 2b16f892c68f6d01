/-
  The map of groups that Groups fills, as data: which keys it has and what lies at each. No program in sight.
-/
import Derived.Test.YtglfmchddbaceaaUfDef
import Derived.Maps.OwnRows
import Derived.Lib.SlKeysI
namespace Go.Proofs.Ytglfmchddbaceaa
set_option linter.unusedVariables false
set_option linter.unusedSimpArgs false
open Go.Maps
open Go.ChangeShapes (lits)

/-- The elements below k whose root is x, in increasing order. -/
def grp (r : Nat → Nat) (x k : Nat) : List Int := ((List.range k).filter fun i => decide (r i = x)).map fun i : Nat => (i : Int)
theorem grp_zero (r : Nat → Nat) (x : Nat) : grp r x 0 = [] := rfl
theorem grp_snoc (r : Nat → Nat) (x k : Nat) : grp r x (k + 1) = grp r x k ++ if r k = x then [(k : Int)] else [] := by
  unfold grp
  rw [List.range_succ, List.filter_append, List.map_append]
  by_cases h : r k = x <;> simp [h]
theorem grp_mem {r : Nat → Nat} {x k : Nat} {z : Int} : z ∈ grp r x k ↔ ∃ i : Nat, i < k ∧ r i = x ∧ z = (i : Int) := by
  unfold grp
  simp only [List.mem_map, List.mem_filter, List.mem_range, decide_eq_true_eq]
  constructor
  · rintro ⟨i, ⟨h1, h2⟩, rfl⟩; exact ⟨i, h1, h2, rfl⟩
  · rintro ⟨i, h1, h2, rfl⟩; exact ⟨i, ⟨h1, h2⟩, rfl⟩
theorem grp_length (r : Nat → Nat) (x k : Nat) : (grp r x k).length ≤ k := by
  unfold grp; rw [List.length_map]; exact Nat.le_trans (List.length_filter_le _ _) (by simp)

/-- The map behind k rounds. -/
def GD {H : Type} (r : Nat → Nat) : Nat → DataW H
  | 0 => .map []
  | k + 1 => (GD r k).put (.int .i64 (r k : Int)) (.slice (lits .i64 (grp r (r k) k ++ [(k : Int)])) [])
/-- A group as data. -/
def gdat {H : Type} (l : List Int) : DataW H := if l = [] then .nil else .slice (lits .i64 l) []

section
variable {H : Type} (r : Nat → Nat)
theorem key_lit (x : Int) : WideAt.IsKeyLit (.int .i64 x) := trivial
theorem GD_tidy : ∀ k, Tidy (GD (H := H) r k)
  | 0 => tidy_empty
  | k + 1 => (GD_tidy k).put (key_lit _) _
theorem insert_keys {x p : Lit × DataW H} : ∀ {l : List (Lit × DataW H)}, p ∈ DataW.insert x l → p = x ∨ p ∈ l
  | [], h => by simp [DataW.insert] at h; exact .inl h
  | y :: t, h => by
    unfold DataW.insert at h
    split at h
    · rcases List.mem_cons.1 h with h | h
      · exact .inl h
      · exact .inr h
    · rcases List.mem_cons.1 h with h | h
      · exact .inr (by rw [h]; exact List.mem_cons_self)
      · rcases insert_keys h with h | h
        · exact .inl h
        · exact .inr (List.mem_cons_of_mem _ h)
theorem GD_keys : ∀ k, ∃ es, GD (H := H) r k = .map es ∧ es.Pairwise (fun p q => p.1 ≠ q.1) ∧ ∀ p ∈ es, ∃ x : Int, p.1 = .int .i64 x
  | 0 => ⟨[], rfl, List.Pairwise.nil, by simp⟩
  | k + 1 => by
    obtain ⟨es, he, _, hk⟩ := GD_keys k
    obtain ⟨es', he', hp'⟩ := GD_tidy (H := H) r (k + 1)
    refine ⟨es', he', hp', fun p hp => ?_⟩
    rw [GD, he] at he'
    simp only [DataW.put] at he'
    injection he' with he'
    rw [← he'] at hp
    rcases insert_keys hp with h | h
    · exact ⟨_, by rw [h]⟩
    · exact hk p ((List.mem_filter.1 h).1)
theorem GD_has (k : Nat) (x : Int) : has (GD (H := H) r k) (.int .i64 x) = true ↔ ∃ i : Nat, i < k ∧ x = (r i : Int) := by
  induction k with
  | zero => simp [GD, has]
  | succ k ih =>
    by_cases hx : x = (r k : Int)
    · subst hx
      have := has_put_same (GD_tidy (H := H) r k).isMap (key_lit (r k : Int)) (.slice (lits .i64 (grp r (r k) k ++ [(k : Int)])) [])
      rw [GD, this]
      simp only [true_iff]
      exact ⟨k, by omega, rfl⟩
    · have hne : (Lit.int .i64 x) ≠ .int .i64 (r k : Int) := by intro e; injection e with _ e; exact hx e
      rw [GD, has_put_other hne, ih]
      constructor
      · rintro ⟨i, h1, h2⟩; exact ⟨i, by omega, h2⟩
      · rintro ⟨i, h1, h2⟩
        rcases Nat.lt_or_ge i k with h3 | h3
        · exact ⟨i, h3, h2⟩
        · obtain rfl : i = k := by omega
          exact absurd h2 hx
theorem GD_at (k x : Nat) : (GD (H := H) r k).atKey (.int .i64 (x : Int)) .nil = gdat (grp r x k) := by
  induction k with
  | zero => rfl
  | succ k ih =>
    by_cases hx : r k = x
    · subst hx
      rw [GD, atKey_put_same (GD_tidy (H := H) r k).isMap (key_lit _), grp_snoc, if_pos rfl]
      unfold gdat
      rw [if_neg (by simp)]
    · have hne : (Lit.int .i64 (x : Int)) ≠ .int .i64 (r k : Int) := by intro e; injection e with _ e; omega
      rw [GD, atKey_put_other hne, ih, grp_snoc, if_neg hx, List.append_nil]
theorem GD_size : ∀ k, Maps.size (GD (H := H) r k) ≤ k
  | 0 => by simp [GD, Maps.size]
  | k + 1 => by
    have := GD_size k
    rw [GD, size_put (GD_tidy (H := H) r k)]
    split <;> omega
/-- The roots below n, in increasing order. -/
def roots (n : Nat) : List Int := ((List.range n).filter fun i => decide (r i = i)).map fun i : Nat => (i : Int)
theorem roots_mem {n : Nat} {z : Int} : z ∈ roots r n ↔ ∃ i : Nat, i < n ∧ r i = i ∧ z = (i : Int) := by
  unfold roots
  simp only [List.mem_map, List.mem_filter, List.mem_range, decide_eq_true_eq]
  constructor
  · rintro ⟨i, ⟨h1, h2⟩, rfl⟩; exact ⟨i, h1, h2, rfl⟩
  · rintro ⟨i, h1, h2, rfl⟩; exact ⟨i, ⟨h1, h2⟩, rfl⟩
theorem roots_sorted (n : Nat) : (roots r n).Pairwise (· < ·) := by
  unfold roots
  refine List.pairwise_map.2 (((List.pairwise_lt_range (n := n)).filter _).imp ?_)
  intro a b h; omega
theorem roots_length (n : Nat) : (roots r n).length ≤ n := by
  unfold roots; rw [List.length_map]; exact Nat.le_trans (List.length_filter_le _ _) (by simp)
theorem keys_roots {n : Nat} (hr : ∀ i, i < n → r i < n ∧ r (r i) = r i) {ss : List Int} (hs : ss.Perm (intKeys (GD (H := H) r n))) : ss.mergeSort leI = roots r n := by
  obtain ⟨es, he, hp, hk⟩ := GD_keys (H := H) r n
  have h1 : (roots r n).Perm (intKeys (GD (H := H) r n)) := by
    rw [he]
    refine perm_intKeys hp hk ((roots_sorted r n).imp (fun h => by omega)) (fun x => ?_)
    rw [← he, GD_has, roots_mem]
    constructor
    · rintro ⟨i, h1, h2, h3⟩; exact ⟨i, h1, by omega⟩
    · rintro ⟨i, h1, h2⟩; exact ⟨r i, (hr i h1).1, (hr i h1).2, h2⟩
  rw [mergeSort_of_perm_i (hs.trans h1.symm)]
  refine List.Perm.eq_of_pairwise (le := (· ≤ ·)) (fun a b _ _ h1 h2 => by omega) ?_ ((roots_sorted r n).imp (fun h => by omega)) (List.mergeSort_perm _ _)
  have := List.pairwise_mergeSort (le := leI) (by intro a b c; simp [leI]; omega) (by intro a b; simp [leI]; omega) (roots r n)
  exact this.imp (by intro a b h; simpa [leI] using h)
/-- The sets: for each root, in increasing order, the elements with that root. -/
def groups (n : Nat) : List (List Int) := (roots r n).map fun z => grp r z.toNat n
theorem groups_length (n : Nat) : (groups r n).length = (roots r n).length := by simp [groups]
theorem groups_snoc {n q : Nat} (h : q < (roots r n).length) : (groups r n).take (q + 1) = (groups r n).take q ++ [grp r (ix (roots r n) q).toNat n] := by
  have h' : q < (groups r n).length := by rw [groups_length]; exact h
  rw [List.take_succ_eq_append_getElem h']
  congr 1
  simp [groups, ix_get h]
end
end Go.Proofs.Ytglfmchddbaceaa
