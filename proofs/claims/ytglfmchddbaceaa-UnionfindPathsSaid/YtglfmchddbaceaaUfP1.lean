/-
  The groups of a forest in plain Lean: a partition, in order. No program in sight.
-/
import Derived.Test.YtglfmchddbaceaaUfL2
namespace Go.Proofs.Ytglfmchddbaceaa
set_option linter.unusedVariables false
set_option linter.unusedSimpArgs false

section
variable {n : Nat} {r : Nat → Nat}
/-- The group at place q is that of the root at place q. -/
theorem gx_groups {q : Nat} (h : q < (groups r n).length) : ∃ x : Nat, x < n ∧ r x = x ∧ ix (roots r n) q = (x : Int) ∧ gx (groups r n) q = grp r x n := by
  have h' : q < (roots r n).length := by rw [← groups_length]; exact h
  obtain ⟨x, h1, h2, h3⟩ := (roots_mem r).1 (ix_mem h')
  refine ⟨x, h1, h2, h3, ?_⟩
  have e : gx (groups r n) q = grp r (ix (roots r n) q).toNat n := by
    rw [ix_get h']; simp [gx, List.getD, groups, List.getElem?_eq_getElem h']
  rw [e, h3, Int.toNat_natCast]
theorem grp_sorted (r : Nat → Nat) (x n : Nat) : (grp r x n).Pairwise (· < ·) := by
  unfold grp
  refine List.pairwise_map.2 (((List.pairwise_lt_range (n := n)).filter _).imp ?_)
  intro a b h; omega
theorem sorted_ix {l : List Int} (h : l.Pairwise (· < ·)) {i j : Nat} (hij : i < j) (hj : j < l.length) : ix l i < ix l j := by
  rw [ix_get hj, ix_get (by omega)]
  exact List.pairwise_iff_getElem.1 h i j (by omega) hj hij
theorem mem_ix {l : List Int} {z : Int} (h : z ∈ l) : ∃ i, i < l.length ∧ ix l i = z := by
  obtain ⟨i, hi, e⟩ := List.mem_iff_getElem.1 h
  exact ⟨i, hi, by rw [ix_get hi, e]⟩
/-- A root's group starts with the root. -/
theorem grp_head (hr : RtOk n r) {x : Nat} (hx : x < n) (hxx : r x = x) : 0 < (grp r x n).length ∧ ix (grp r x n) 0 = (x : Int) := by
  have hm : (x : Int) ∈ grp r x n := grp_mem.2 ⟨x, hx, hxx, rfl⟩
  obtain ⟨i, hi, e⟩ := mem_ix hm
  have hp : 0 < (grp r x n).length := by omega
  refine ⟨hp, ?_⟩
  obtain ⟨y, h1, h2, h3⟩ := grp_mem.1 (ix_mem hp)
  have h4 := (hr y h1).1
  rcases Nat.eq_zero_or_pos i with h0 | h0
  · rw [← h0]; exact e
  · have := sorted_ix (grp_sorted r x n) h0 hi
    rw [e, h3] at this
    omega
theorem part_pos (hr : RtOk n r) {q : Nat} (h : q < (groups r n).length) : 0 < (gx (groups r n) q).length := by
  obtain ⟨x, h1, h2, h3, h4⟩ := gx_groups h
  rw [h4]; exact (grp_head hr h1 h2).1
theorem part_head (hr : RtOk n r) {q : Nat} (h : q + 1 < (groups r n).length) : ix (gx (groups r n) q) 0 < ix (gx (groups r n) (q + 1)) 0 := by
  obtain ⟨x, h1, h2, h3, h4⟩ := gx_groups (show q < (groups r n).length by omega)
  obtain ⟨y, g1, g2, g3, g4⟩ := gx_groups h
  rw [h4, g4, (grp_head hr h1 h2).2, (grp_head hr g1 g2).2, ← h3, ← g3]
  exact sorted_ix (roots_sorted r n) (by omega) (by rw [← groups_length]; exact h)
theorem part_in {q j : Nat} (h : q < (groups r n).length) (hj : j < (gx (groups r n) q).length) : ∃ y : Nat, y < n ∧ ix (gx (groups r n) q) j = (y : Int) ∧ (r y : Int) = ix (roots r n) q := by
  obtain ⟨x, h1, h2, h3, h4⟩ := gx_groups h
  rw [h4] at hj ⊢
  obtain ⟨y, g1, g2, g3⟩ := grp_mem.1 (ix_mem hj)
  exact ⟨y, g1, g3, by rw [h3, g2]⟩
theorem part_up {q j : Nat} (h : q < (groups r n).length) (hj : j + 1 < (gx (groups r n) q).length) : ix (gx (groups r n) q) j < ix (gx (groups r n) q) (j + 1) := by
  obtain ⟨x, h1, h2, h3, h4⟩ := gx_groups h
  rw [h4] at hj ⊢
  exact sorted_ix (grp_sorted r x n) (by omega) hj
theorem part_same (hr : RtOk n r) {q j : Nat} (h : q < (groups r n).length) (hj : j < (gx (groups r n) q).length) : sames n r (ix (gx (groups r n) q) j) (ix (gx (groups r n) q) 0) = true := by
  obtain ⟨y, g1, g2, g3⟩ := part_in h hj
  obtain ⟨z, k1, k2, k3⟩ := part_in h (part_pos hr h)
  rw [g2, k2, sames_in g1 k1]
  exact decide_eq_true (by omega)
/-- What lies ahead in the walk over all groups does not hold the element at hand. -/
theorem part_new {q j : Nat} (h : q < (groups r n).length) (hj : j < (gx (groups r n) q).length) : ix (gx (groups r n) q) j ∉ ((groups r n).take q).flatten ++ (gx (groups r n) q).take j := by
  obtain ⟨y, g1, g2, g3⟩ := part_in h hj
  intro hm
  rcases List.mem_append.1 hm with hm | hm
  · obtain ⟨l, hl, hz⟩ := List.mem_flatten.1 hm
    obtain ⟨p, hp, e⟩ := List.mem_iff_getElem.1 hl
    have hp' : p < q := by rw [List.length_take] at hp; omega
    have e2 : gx (groups r n) p = l := by
      rw [List.getElem_take] at e
      simp [gx, List.getD, List.getElem?_eq_getElem (show p < (groups r n).length by omega), e]
    rw [← e2] at hz
    obtain ⟨i, hi, ei⟩ := mem_ix hz
    obtain ⟨z, k1, k2, k3⟩ := part_in (show p < (groups r n).length by omega) hi
    have := sorted_ix (roots_sorted r n) hp' (by rw [← groups_length]; exact h)
    rw [ei, g2] at k2
    have : y = z := by omega
    subst this
    omega
  · obtain ⟨i, hi, e⟩ := mem_ix hm
    rw [List.length_take] at hi
    rw [ix_take (by omega)] at e
    obtain ⟨x, h1, h2, h3, h4⟩ := gx_groups h
    rw [h4] at e hj hi
    have := sorted_ix (grp_sorted r x n) (show i < j by omega) hj
    omega
theorem sum_one {l : List Int} (h : l.Pairwise (· < ·)) {c : Int} (hc : c ∈ l) : (l.map fun z => if z = c then 1 else 0).sum = 1 := by
  have hz : ∀ l : List Int, c ∉ l → (l.map fun z => if z = c then 1 else 0).sum = 0 := by
    intro l
    induction l with
    | nil => simp
    | cons a t ih =>
      intro hn
      simp only [List.mem_cons, not_or] at hn
      simp only [List.map_cons, List.sum_cons, ih hn.2]
      rw [if_neg (fun e => hn.1 e.symm)]
  induction l with
  | nil => cases hc
  | cons a t ih =>
    obtain ⟨h1, h2⟩ := List.pairwise_cons.1 h
    simp only [List.map_cons, List.sum_cons]
    rcases List.mem_cons.1 hc with e | e
    · subst e
      rw [hz t (fun hm => by have := h1 _ hm; omega)]; simp
    · rw [ih h2 e]
      have := h1 _ e
      rw [if_neg (by omega)]
theorem sum_add {f g : Int → Nat} (l : List Int) : (l.map fun z => f z + g z).sum = (l.map f).sum + (l.map g).sum := by
  induction l with
  | nil => rfl
  | cons a t ih => simp only [List.map_cons, List.sum_cons, ih]; omega
theorem part_count (hr : RtOk n r) : ∀ k, k ≤ n → ((roots r n).map fun z => (grp r z.toNat k).length).sum = k
  | 0, _ => by
    have : ∀ l : List Int, (l.map fun z => (grp r z.toNat 0).length).sum = 0 := by
      intro l; induction l with
      | nil => rfl
      | cons a t ih => simp only [List.map_cons, List.sum_cons, ih]; rfl
    exact this _
  | k + 1, h => by
    have ih := part_count hr k (by omega)
    have hk := hr k (by omega)
    have hc : (r k : Int) ∈ roots r n := (roots_mem r).2 ⟨r k, by omega, hk.2, rfl⟩
    have e : ((roots r n).map fun z => (grp r z.toNat (k + 1)).length) = (roots r n).map fun z => (grp r z.toNat k).length + if z = (r k : Int) then 1 else 0 := by
      apply List.map_congr_left
      intro z hz
      obtain ⟨x, h1, h2, h3⟩ := (roots_mem r).1 hz
      rw [grp_snoc, List.length_append, h3, Int.toNat_natCast]
      by_cases hx : r k = x
      · rw [if_pos hx, if_pos (by omega)]; rfl
      · rw [if_neg hx, if_neg (by omega)]; rfl
    rw [e, sum_add, ih, sum_one (roots_sorted r n) hc]
theorem part_all (hr : RtOk n r) : (groups r n).flatten.length = n := by
  rw [List.length_flatten]
  unfold groups
  rw [List.map_map]
  exact part_count hr n (Nat.le_refl _)
/-- One root less. -/
theorem count_less {p : Nat → Bool} {M : Nat} (hp : p M = true) : ∀ k, ((List.range k).filter fun i => p i && decide (i ≠ M)).length + (if M < k then 1 else 0) = ((List.range k).filter p).length
  | 0 => by simp
  | k + 1 => by
    have ih := count_less hp k
    rw [List.range_succ, List.filter_append, List.filter_append, List.length_append, List.length_append, ← ih]
    by_cases h : k = M
    · subst h; simp [hp]
    · by_cases hk : p k = true
      · by_cases hm : M < k
        · simp [hk, h, hm, Nat.lt_succ_of_lt hm] <;> omega
        · rw [if_neg hm, if_neg (by omega)]; simp [hk, h]
      · by_cases hm : M < k
        · simp [hk, hm, Nat.lt_succ_of_lt hm]
        · rw [if_neg hm, if_neg (by omega)]; simp [hk]
theorem roots_uni (hr : RtOk n r) (e : Int × Int) : (roots (uniE n r e) n).length + (if joins n r e then 1 else 0) = (roots r n).length := by
  by_cases ho : 0 ≤ e.1 ∧ e.1 < n ∧ 0 ≤ e.2 ∧ e.2 < n
  · by_cases hs : r e.1.toNat = r e.2.toNat
    · rw [uni_same (fun _ => hs), joins_same (fun _ => hs)]; simp
    · have hj : joins n r e = true := by unfold joins; rw [decide_eq_true ho]; simp [hs]
      rw [hj, if_pos rfl]
      obtain ⟨a, ha⟩ : ∃ a, a = r e.1.toNat := ⟨_, rfl⟩
      obtain ⟨b, hb⟩ : ∃ b, b = r e.2.toNat := ⟨_, rfl⟩
      have h1 := hr e.1.toNat (by omega)
      have h2 := hr e.2.toNat (by omega)
      have hu : uniE n r e = joinR r a b := by unfold uniE; rw [if_pos ho, ha, hb]
      rw [← ha] at h1 hs
      rw [← hb] at h2 hs
      obtain ⟨M, hM⟩ : ∃ M, M = max a b := ⟨_, rfl⟩
      have hrM : r M = M := by
        rcases Nat.le_total a b with c | c
        · rw [hM, Nat.max_eq_right c]; exact h2.2
        · rw [hM, Nat.max_eq_left c]; exact h1.2
      have hMn : M < n := by omega
      have := count_less (p := fun i => decide (r i = i)) (M := M) (by simpa using hrM) n
      rw [if_pos hMn] at this
      unfold roots
      rw [List.length_map, List.length_map, ← this, hu]
      congr 2
      apply List.filter_congr
      intro i hi
      rw [joinR_at, ← hM]
      by_cases c1 : r i = M
      · rw [if_pos c1]
        have hii := hr i (List.mem_range.1 hi)
        have hmM : min a b < M := by omega
        have l1 : ¬ min a b = i := by omega
        have l2 : ¬ (r i = i ∧ i ≠ M) := by omega
        rw [decide_eq_false l1]
        by_cases c2 : r i = i
        · rw [decide_eq_true c2, decide_eq_false (fun h => l2 ⟨c2, h⟩)]; rfl
        · rw [decide_eq_false c2]; rfl
      · rw [if_neg c1]
        by_cases c2 : r i = i
        · rw [decide_eq_true c2, decide_eq_true (show i ≠ M by omega)]; rfl
        · rw [decide_eq_false c2]; rfl
  · have hu : uniE n r e = r := by unfold uniE; rw [if_neg ho]
    have hj : joins n r e = false := by unfold joins; rw [decide_eq_false ho]; rfl
    rw [hu, hj]; simp
theorem roots_new (n : Nat) : (roots id n).length = n := by
  unfold roots; rw [List.length_map, List.filter_eq_self.2 (by simp), List.length_range]
end
end Go.Proofs.Ytglfmchddbaceaa
