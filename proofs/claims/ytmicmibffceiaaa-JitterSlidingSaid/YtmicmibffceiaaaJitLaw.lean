/-
  The laws of package jitter in plain Lean: what the estimator computes answers as the statements say. No program in sight.
-/
import Derived.Test.YtmicmibffceiaaaJitDef
namespace Go.Proofs.Ytmicmibffceiaaa
set_option linter.unusedVariables false
set_option linter.unusedSimpArgs false

def srt (l : List Int) : List Int := l.mergeSort fun x y => decide (x ≤ y)
theorem srt_perm (l : List Int) : (srt l).Perm l := List.mergeSort_perm _ _
theorem srt_pw (l : List Int) : (srt l).Pairwise (· ≤ ·) := by
  have := List.pairwise_mergeSort (le := fun x y : Int => decide (x ≤ y)) (by intro a b c; simp; omega) (by intro a b; simp; omega) l
  exact this.imp (by intro a b h; simpa using h)
theorem srt_length (l : List Int) : (srt l).length = l.length := List.length_mergeSort _
theorem srt_eq_of_perm {l m : List Int} (h : l.Perm m) : srt l = srt m :=
  List.Perm.eq_of_pairwise (le := (· ≤ ·)) (fun a b _ _ h1 h2 => by omega) (srt_pw l) (srt_pw m) ((srt_perm l).trans (h.trans (srt_perm m).symm))

/-- The quantile of a list of samples. -/
def Q (l : List Int) (p : Int) : Int := if l.length = 0 then 0 else ix (srt l) (rankOf p l.length)

theorem atMost_perm {l m : List Int} (h : l.Perm m) (v : Int) : atMost l v = atMost m v := (h.filter _).length_eq
theorem rank_sorted (s : List Int) (hs : s.Pairwise (· ≤ ·)) (r : Nat) (hr : r < s.length) (v : Int) : ix s r ≤ v ↔ r < atMost s v := by
  induction s generalizing r with
  | nil => simp at hr
  | cons a t ih =>
    have hp := List.pairwise_cons.1 hs
    by_cases ha : a ≤ v
    · have e : atMost (a :: t) v = atMost t v + 1 := by unfold atMost; rw [List.filter_cons_of_pos (by simpa using ha)]; rfl
      rw [e]
      match r with
      | 0 => show a ≤ v ↔ _; omega
      | r + 1 =>
        have := ih hp.2 r (by simpa using hr)
        show ix t r ≤ v ↔ _
        rw [this]; omega
    · have hall : ∀ x ∈ a :: t, ¬ x ≤ v := by
        intro x hx
        rcases List.mem_cons.1 hx with rfl | hx
        · exact ha
        · have := hp.1 x hx; omega
      have e : atMost (a :: t) v = 0 := by
        unfold atMost
        rw [List.filter_eq_nil_iff.2 (fun x hx => by simpa using hall x hx)]; rfl
      rw [e]
      have := hall _ (ix_mem hr)
      omega
theorem rank_iff (l : List Int) (r : Nat) (hr : r < l.length) (v : Int) : ix (srt l) r ≤ v ↔ r < atMost l v := by
  rw [rank_sorted (srt l) (srt_pw l) r (by rw [srt_length]; exact hr) v, atMost_perm (srt_perm l)]

/-- The ring holds the last 16 samples, turned. -/
theorem ring_turned (d : List Int) : (Est.run d).ring.drop (d.length % 16) ++ (Est.run d).ring.take (d.length % 16) = (List.replicate 16 0 ++ d.map clampd).drop d.length := by
  revert d
  refine snoc_ind rfl ?_
  intro d x ih
  obtain ⟨R, hR⟩ : ∃ R, R = (Est.run d).ring := ⟨_, rfl⟩
  have hl : R.length = 16 := by rw [hR]; exact (Est.run_ok d).1
  have hring : (Est.run (d ++ [x])).ring = R.set (d.length % 16) (clampd x) := by rw [Est.run_snoc, hR]; show List.set _ ((Est.run d).count % 16) _ = _; rw [Est.run_count]
  rw [hring]
  rw [← hR] at ih
  have e1 : (List.replicate 16 0 ++ (d ++ [x]).map clampd).drop (d ++ [x]).length = ((List.replicate 16 0 ++ d.map clampd).drop d.length).tail ++ [clampd x] := by
    rw [List.map_append, ← List.append_assoc, List.length_append, List.drop_append_of_le_length (by simp), List.tail_drop]
    rfl
  rw [e1, ← ih, List.length_append]
  have hset : R.set (d.length % 16) (clampd x) = R.take (d.length % 16) ++ clampd x :: R.drop (d.length % 16 + 1) := List.set_eq_take_append_cons_drop.trans (if_pos (by omega))
  rw [hset]
  have htl : (R.drop (d.length % 16) ++ R.take (d.length % 16)).tail = R.drop (d.length % 16 + 1) ++ R.take (d.length % 16) := by
    rw [List.drop_eq_getElem_cons (by omega)]; rfl
  rw [htl]
  have hlt : (R.take (d.length % 16)).length = d.length % 16 := by simp; omega
  by_cases h15 : d.length % 16 = 15
  · have e2 : (d.length + [x].length) % 16 = 0 := by simp; omega
    rw [e2, h15]
    simp [List.drop_eq_nil_of_le, hl]
  · have e2 : (d.length + [x].length) % 16 = d.length % 16 + 1 := by simp; omega
    rw [e2]
    generalize d.length % 16 = r at *
    rw [List.drop_append, List.take_append, hlt, List.drop_eq_nil_of_le (by omega), List.take_of_length_le (by omega)]
    simp

theorem kept_eq (d : List Int) : kept d = ((List.replicate 16 0 ++ d.map clampd).drop d.length).drop (16 - min d.length 16) := by
  unfold kept
  rw [List.drop_drop, List.map_drop]
  have e : (List.replicate 16 (0 : Int)).drop (16 + (d.length - 16)) = [] := List.drop_eq_nil_of_le (by simp)
  rw [show d.length + (16 - min d.length 16) = 16 + (d.length - 16) from by omega, List.drop_append, e]
  simp
theorem ring_perm (d : List Int) : ((Est.run d).ring.take (min (Est.run d).count 16)).Perm (kept d) := by
  rw [Est.run_count, kept_eq, ← ring_turned]
  have hl := (Est.run_ok d).1
  generalize (Est.run d).ring = R at *
  by_cases h : 16 ≤ d.length
  · rw [show min d.length 16 = 16 from by omega, List.take_of_length_le (by omega)]
    simp only [Nat.sub_self, List.drop_zero]
    have := List.perm_append_comm (l₁ := R.take (d.length % 16)) (l₂ := R.drop (d.length % 16))
    rw [List.take_append_drop] at this
    exact this
  · rw [show min d.length 16 = d.length from by omega, show d.length % 16 = d.length from by omega, List.drop_append, List.drop_eq_nil_of_le (by simp; omega)]
    simp only [List.length_drop, hl, Nat.sub_self, List.drop_zero, List.nil_append]
    exact List.Perm.refl _
theorem Est.sorted_eq (d : List Int) : (Est.run d).sorted = srt (kept d) := srt_eq_of_perm (ring_perm d)
theorem Est.quantile_eq (d : List Int) (p : Int) : (Est.run d).quantile p = Q (kept d) p := by
  unfold Est.quantile Q
  rw [Est.sorted_eq, srt_length]
theorem Q_perm {l m : List Int} (h : l.Perm m) (p : Int) : Q l p = Q m p := by
  unfold Q; rw [srt_eq_of_perm h, h.length_eq]
def D (l : List Int) : Int := min 8 (Q l 900)
def W (l : List Int) : Int := min 12 (max 1 (Q l 1000 + min (l.length : Int) 1))
theorem Est.delay_eq (d : List Int) : (Est.run d).delay = D (kept d) := by unfold Est.delay D; rw [Est.quantile_eq]
theorem Est.window_eq (d : List Int) : (Est.run d).window = W (kept d) := by
  unfold Est.window W; rw [Est.quantile_eq, Est.run_count, kept_length]; omega

theorem Q_mem {l : List Int} (h : l.length ≠ 0) (p : Int) : Q l p ∈ l := by
  unfold Q; rw [if_neg h]
  exact (srt_perm l).mem_iff.1 (ix_mem (by rw [srt_length]; exact rankOf_lt p (by omega)))
/-- The quantile is at most v just where more than 'rank' samples are. -/
theorem Q_le {l : List Int} (h : l.length ≠ 0) (p v : Int) : Q l p ≤ v ↔ rankOf p l.length < atMost l v := by
  unfold Q; rw [if_neg h]; exact rank_iff l _ (rankOf_lt p (by omega)) v
theorem Q_bd {l : List Int} (hb : ∀ x ∈ l, 0 ≤ x ∧ x ≤ 60) (p : Int) : 0 ≤ Q l p ∧ Q l p ≤ 60 := by
  by_cases h : l.length = 0
  · unfold Q; rw [if_pos h]; omega
  · exact hb _ (Q_mem h p)

theorem rankOf_mono {p q : Int} (h : p ≤ q) (n : Nat) : rankOf p n ≤ rankOf q n := by
  unfold rankOf
  have : min (max p 0) 1000 * (n : Int) ≤ min (max q 0) 1000 * (n : Int) := Int.mul_le_mul_of_nonneg_right (by omega) (by omega)
  omega
theorem Q_mono_p (l : List Int) {p q : Int} (h : p ≤ q) : Q l p ≤ Q l q := by
  by_cases h0 : l.length = 0
  · unfold Q; rw [if_pos h0, if_pos h0]; omega
  · rw [Q_le h0]
    have := (Q_le h0 q (Q l q)).1 (Int.le_refl _)
    have := rankOf_mono h l.length
    omega
/-- Fewer samples at most v: a larger quantile. -/
theorem Q_mono {l m : List Int} (hl : l.length = m.length) (h : ∀ v, atMost m v ≤ atMost l v) (p : Int) : Q l p ≤ Q m p := by
  by_cases h0 : l.length = 0
  · unfold Q; rw [if_pos h0, if_pos (by omega)]; omega
  · rw [Q_le h0]
    have := (Q_le (by omega : m.length ≠ 0) p (Q m p)).1 (Int.le_refl _)
    rw [hl]
    exact Nat.lt_of_lt_of_le this (h _)

/-! ### Against the reference -/
theorem atMost_pos {l : List Int} {x : Int} (h : x ∈ l) : 0 < atMost l x := by
  unfold atMost
  exact List.length_pos_of_mem (List.mem_filter.2 ⟨h, by simp⟩)
def good (l : List Int) (p x : Int) : Prop := p * l.length ≤ 1000 * (atMost l x : Int)
theorem refBest_is (l : List Int) (p : Int) (xs : List Int) (hx : ∀ x ∈ xs, 0 ≤ x) :
    (refBest l p xs = -1 ∧ ∀ x ∈ xs, ¬ good l p x) ∨ (refBest l p xs ∈ xs ∧ good l p (refBest l p xs) ∧ ∀ x ∈ xs, good l p x → refBest l p xs ≤ x) := by
  revert hx
  revert xs
  refine snoc_ind (fun _ => .inl ⟨rfl, by simp⟩) ?_
  intro xs y ih hx
  have ih := ih (fun x h => hx x (List.mem_append_left _ h))
  have hy := hx y (by simp)
  have e : refBest l p (xs ++ [y]) = refStep l p (refBest l p xs) y := by unfold refBest; rw [List.foldl_append]; rfl
  rw [e]
  unfold refStep
  rcases ih with ⟨h1, h2⟩ | ⟨h1, h2, h3⟩
  · rw [h1]
    by_cases hg : good l p y
    · rw [if_pos ⟨hg, .inl (by omega)⟩]
      refine .inr ⟨by simp, hg, fun x hm hgx => ?_⟩
      rcases List.mem_append.1 hm with hm | hm
      · exact absurd hgx (h2 x hm)
      · simp at hm; omega
    · rw [if_neg (fun h => hg h.1)]
      refine .inl ⟨rfl, fun x hm => ?_⟩
      rcases List.mem_append.1 hm with hm | hm
      · exact h2 x hm
      · simp at hm; subst hm; exact hg
  · have hb := hx _ (List.mem_append_left [y] h1)
    by_cases hg : good l p y ∧ y < refBest l p xs
    · rw [if_pos ⟨hg.1, .inr hg.2⟩]
      refine .inr ⟨by simp, hg.1, fun x hm hgx => ?_⟩
      rcases List.mem_append.1 hm with hm | hm
      · have := h3 x hm hgx; omega
      · simp at hm; omega
    · rw [if_neg (fun h => hg ⟨h.1, by have := h.2; omega⟩)]
      refine .inr ⟨List.mem_append_left _ h1, h2, fun x hm hgx => ?_⟩
      rcases List.mem_append.1 hm with hm | hm
      · exact h3 x hm hgx
      · simp at hm; subst hm
        have : ¬ x < refBest l p xs := fun h => hg ⟨hgx, h⟩
        omega
theorem Q_good {l : List Int} (h0 : l.length ≠ 0) (p : Int) : good l (min 1000 (max 0 p)) (Q l p) := by
  have h := (Q_le h0 p (Q l p)).1 (Int.le_refl _)
  unfold good
  have e : min 1000 (max 0 p) = min (max p 0) 1000 := by omega
  rw [e]
  unfold rankOf at h
  omega
theorem Q_least {l : List Int} (h0 : l.length ≠ 0) (p : Int) {x : Int} (hx : x ∈ l) (hg : good l (min 1000 (max 0 p)) x) : Q l p ≤ x := by
  rw [Q_le h0]
  have hp := atMost_pos hx
  unfold good at hg
  have e : min 1000 (max 0 p) = min (max p 0) 1000 := by omega
  rw [e] at hg
  unfold rankOf
  omega
theorem Q_ref {l : List Int} (h0 : l.length ≠ 0) (hb : ∀ x ∈ l, 0 ≤ x ∧ x ≤ 60) (p : Int) : Q l p = refQuantile l p := by
  have hm := Q_mem h0 p
  have hg := Q_good h0 p
  unfold refQuantile
  rcases refBest_is l (min 1000 (max 0 p)) l (fun x hx => (hb x hx).1) with ⟨_, h2⟩ | ⟨h1, h2, h3⟩
  · exact absurd hg (h2 _ hm)
  · have a := h3 _ hm hg
    have b := Q_least h0 p h1 h2
    have c := (hb _ h1).1
    omega
theorem largest_is (xs : List Int) (hx : ∀ x ∈ xs, 0 ≤ x) : (∀ x ∈ xs, x ≤ largest xs) ∧ (xs ≠ [] → largest xs ∈ xs) ∧ -1 ≤ largest xs := by
  revert hx
  revert xs
  refine snoc_ind (fun _ => ⟨by simp, by simp, by simp [largest]⟩) ?_
  intro xs y ih hx
  have ih := ih (fun x h => hx x (List.mem_append_left _ h))
  have hy := hx y (by simp)
  have e : largest (xs ++ [y]) = max (largest xs) y := by unfold largest; rw [List.foldl_append]; rfl
  rw [e]
  refine ⟨fun x hm => ?_, fun _ => ?_, by omega⟩
  · rcases List.mem_append.1 hm with hm | hm
    · have := ih.1 x hm; omega
    · simp at hm; omega
  · by_cases h : largest xs ≤ y
    · rw [show max (largest xs) y = y from by omega]; simp
    · rw [show max (largest xs) y = largest xs from by omega]
      refine List.mem_append_left _ (ih.2.1 ?_)
      intro hn
      subst hn
      simp [largest] at h
      omega
theorem atMost_all {l : List Int} {v : Int} : l.length ≤ atMost l v ↔ ∀ x ∈ l, x ≤ v := by
  unfold atMost
  constructor
  · intro h x hx
    have := List.length_filter_eq_length_iff.1 (Nat.le_antisymm (List.length_filter_le _ _) h) x hx
    simpa using this
  · intro h
    rw [List.length_filter_eq_length_iff.2 (fun x hx => by simpa using h x hx)]
    exact Nat.le_refl _
theorem Q_top {l : List Int} (h0 : l.length ≠ 0) (v : Int) : Q l 1000 ≤ v ↔ ∀ x ∈ l, x ≤ v := by
  rw [Q_le h0, ← atMost_all]
  have e : min (max (1000 : Int) 0) 1000 = 1000 := by decide
  have : rankOf 1000 l.length = l.length - 1 := by unfold rankOf; rw [e]; omega
  omega
theorem Q_largest {l : List Int} (h0 : l.length ≠ 0) (hb : ∀ x ∈ l, 0 ≤ x ∧ x ≤ 60) : Q l 1000 = largest l := by
  have h := largest_is l (fun x hx => (hb x hx).1)
  have h1 := (Q_top h0 (largest l)).2 h.1
  have h2 := (Q_top h0 (Q l 1000)).1 (Int.le_refl _) _ (h.2.1 (fun e => h0 (by simp [e])))
  omega
theorem W_ref {l : List Int} (h0 : l.length ≠ 0) (hb : ∀ x ∈ l, 0 ≤ x ∧ x ≤ 60) : W l = min 12 (largest l + 1) := by
  have h := Q_bd hb 1000
  unfold W
  rw [Q_largest h0 hb] at h ⊢
  omega

/-! ### The other laws -/
theorem Q_one (c p : Int) : Q [c] p = c := by
  have := Q_mem (l := [c]) (by simp) p
  simpa using this
theorem kept_one (d : Int) : kept [d] = [clampd d] := rfl
theorem W_above {l : List Int} (hb : ∀ x ∈ l, 0 ≤ x ∧ x ≤ 60) {x : Int} (hx : x ∈ l) (h12 : x < 12) : x < W l := by
  have h0 : l.length ≠ 0 := by have := List.length_pos_of_mem hx; omega
  have h := Q_bd hb 1000
  have := (Q_top h0 (Q l 1000)).1 (Int.le_refl _) x hx
  unfold W
  omega
theorem W_bd {l : List Int} : 1 ≤ W l ∧ W l ≤ 12 := by unfold W; omega
theorem D_bd {l : List Int} (hb : ∀ x ∈ l, 0 ≤ x ∧ x ≤ 60) : 0 ≤ D l ∧ D l ≤ 8 := by have := Q_bd hb 900; unfold D; omega
theorem Q_covers {l : List Int} (h0 : l.length ≠ 0) {p : Int} (h1 : 1 ≤ p) (h2 : p ≤ 1000) :
    p * l.length ≤ 1000 * (atMost l (Q l p) : Int) ∧ 1000 * (atMost l (Q l p - 1) : Int) < p * l.length := by
  have a := (Q_le h0 p (Q l p)).1 (Int.le_refl _)
  have b : ¬ rankOf p l.length < atMost l (Q l p - 1) := fun h => by have := (Q_le h0 p (Q l p - 1)).2 h; omega
  have c : 0 < p * (l.length : Int) := Int.mul_pos (by omega) (by omega)
  have e : min (max p 0) 1000 = p := by omega
  unfold rankOf at a b
  rw [e] at a b
  omega
theorem kept_16 {d : List Int} (h : d.length = 16) : kept d = d.map clampd := by unfold kept; rw [h]; rfl
theorem kept_app {d t : List Int} (h : t.length = 16) : kept (d ++ t) = t.map clampd := by
  unfold kept
  rw [List.length_append, h, Nat.add_sub_cancel, List.drop_left]
theorem spike_le {base : List Int} {x v : Int} (hx : 30 ≤ x) (hv : v ≤ 29) : atMost (x :: base) v = atMost base v := by
  unfold atMost; rw [List.filter_cons_of_neg (by simp; omega)]
theorem spike_Q {base : List Int} {x y : Int} (hb : ∀ z ∈ base, z < 30) (hl : base.length = 15) (hx : 30 ≤ x) (hy : 30 ≤ y) : Q (x :: base) 900 = Q (y :: base) 900 := by
  have hr : rankOf 900 16 = 14 := by decide
  have key : ∀ z : Int, 30 ≤ z → Q (z :: base) 900 ≤ 29 ∧ ∀ v, v ≤ 29 → (Q (z :: base) 900 ≤ v ↔ 14 < atMost base v) := by
    intro z hz
    have h : ∀ v, v ≤ 29 → (Q (z :: base) 900 ≤ v ↔ 14 < atMost base v) := by
      intro v hv
      rw [Q_le (by simp), List.length_cons, hl, hr, spike_le hz hv]
    refine ⟨(h 29 (Int.le_refl _)).2 ?_, h⟩
    have : base.length ≤ atMost base 29 := atMost_all.2 (fun w hw => by have := hb w hw; omega)
    omega
  have a := key x hx
  have b := key y hy
  have h1 := (a.2 _ b.1).2 ((b.2 _ b.1).1 (Int.le_refl _))
  have h2 := (b.2 _ a.1).2 ((a.2 _ a.1).1 (Int.le_refl _))
  omega
theorem atMost_le_of : ∀ (l m : List Int), l.length = m.length → (∀ i, i < l.length → ix l i ≤ ix m i) → ∀ v, atMost m v ≤ atMost l v
  | [], [], _, _, _ => Nat.le_refl _
  | a :: l, b :: m, hl, h, v => by
    have ih := atMost_le_of l m (by simpa using hl) (fun i hi => h (i + 1) (by simpa using hi)) v
    have h0 : a ≤ b := h 0 (by simp)
    unfold atMost at *
    by_cases hb : b ≤ v
    · rw [List.filter_cons_of_pos (by simpa using hb), List.filter_cons_of_pos (by simp; omega)]
      simpa using ih
    · rw [List.filter_cons_of_neg (by simpa using hb)]
      by_cases ha : a ≤ v
      · rw [List.filter_cons_of_pos (by simpa using ha)]; simp; omega
      · rw [List.filter_cons_of_neg (by simpa using ha)]; exact ih
theorem clampd_mono {x y : Int} (h : x ≤ y) : clampd x ≤ clampd y := by rw [clampd_eq, clampd_eq]; omega
theorem kept_mono {d u : List Int} (hl : d.length = u.length) (h : ∀ i, i < d.length → ix d i ≤ ix u i) (v : Int) : atMost (kept u) v ≤ atMost (kept d) v := by
  refine atMost_le_of _ _ (by rw [kept_length, kept_length, hl]) (fun i hi => ?_) v
  rw [kept_length] at hi
  unfold kept
  rw [ix_map (by simp; omega), ix_map (by simp; omega), ix_drop, ix_drop, hl]
  exact clampd_mono (h _ (by omega))
theorem Q_raise {d u : List Int} (hl : d.length = u.length) (h : ∀ i, i < d.length → ix d i ≤ ix u i) (p : Int) : Q (kept d) p ≤ Q (kept u) p :=
  Q_mono (by rw [kept_length, kept_length, hl]) (kept_mono hl h) p
theorem D_raise {d u : List Int} (hl : d.length = u.length) (h : ∀ i, i < d.length → ix d i ≤ ix u i) : D (kept d) ≤ D (kept u) := by
  have := Q_raise hl h 900; unfold D; omega
theorem W_raise {d u : List Int} (hl : d.length = u.length) (h : ∀ i, i < d.length → ix d i ≤ ix u i) : W (kept d) ≤ W (kept u) := by
  have := Q_raise hl h 1000; unfold W; rw [kept_length, kept_length, hl]; omega
end Go.Proofs.Ytmicmibffceiaaa
