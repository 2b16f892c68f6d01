/-
  A player's view, in plain Lean: what SnapshotOwn and SnapshotHides say of it.
-/
import Derived.Test.YtfnoeolngdhjfaaSnV1
namespace Go.Proofs.Ytfnoeolngdhjfaa
set_option linter.unusedVariables false
set_option linter.unusedSimpArgs false
open Go.RowKit

theorem mem_cellsFrom {zs : List Int} {first n : Nat} {q : Int × Int} (h : q ∈ cellsFrom zs first n) : ∃ j, j < n ∧ q = (((first + j : Nat) : Int), ix zs (first + j)) := by
  obtain ⟨j, hj, rfl⟩ := List.mem_map.1 h
  exact ⟨j, List.mem_range.1 hj, rfl⟩
theorem cellsFrom_up (zs : List Int) (first n : Nat) : (cellsFrom zs first n).Pairwise fun a b => a.1 < b.1 := by
  unfold cellsFrom
  rw [List.pairwise_map]
  exact (List.pairwise_lt_range (n := n)).imp fun h => by simp only []; omega
theorem mem_bodiesC {p : Nat} {zs : List Int} {l : List Nat} {q : Int × Int} (h : q ∈ bodiesC p zs l) : ∃ i ∈ l, ∃ j, j < 8 ∧ q = (((48 + 4 * p + 8 * i + j : Nat) : Int), ix zs (48 + 4 * p + 8 * i + j)) := by
  obtain ⟨i, hi, hq⟩ := List.mem_flatMap.1 h
  obtain ⟨j, hj, e⟩ := mem_cellsFrom hq
  exact ⟨i, hi, j, hj, e⟩
theorem bodiesC_up {p : Nat} {zs : List Int} {l : List Nat} (h : l.Pairwise (· < ·)) : (bodiesC p zs l).Pairwise fun a b => a.1 < b.1 := by
  induction l with
  | nil => exact List.Pairwise.nil
  | cons a t ih =>
    obtain ⟨h1, h2⟩ := List.pairwise_cons.1 h
    have e : bodiesC p zs (a :: t) = cellsFrom zs (48 + 4 * p + 8 * a) 8 ++ bodiesC p zs t := rfl
    rw [e, List.pairwise_append]
    refine ⟨cellsFrom_up _ _ _, ih h2, fun x hx y hy => ?_⟩
    obtain ⟨j, hj, rfl⟩ := mem_cellsFrom hx
    obtain ⟨i, hi, j', hj', rfl⟩ := mem_bodiesC hy
    have := h1 i hi
    simp only []; omega
/-- Where an entry of a view comes from. -/
theorem mem_viewL {s : Su} {zs : List Int} {pl nb : Nat} {q : Int × Int} (h : q ∈ viewL s zs pl nb) : ∃ k : Nat, q = ((k : Int), ix zs k) ∧ (k = 0 ∨ (48 + 4 * pl ≤ k ∧ k < 48 + 4 * pl + 4) ∨ ∃ i ∈ seenN s zs pl nb, 48 + 4 * s.players + 8 * i ≤ k ∧ k < 48 + 4 * s.players + 8 * i + 8) := by
  unfold viewL at h
  rcases List.mem_append.1 h with h | h
  · rcases List.mem_append.1 h with h | h
    · obtain ⟨j, hj, rfl⟩ := mem_cellsFrom h
      exact ⟨0 + j, rfl, .inl (by omega)⟩
    · obtain ⟨j, hj, rfl⟩ := mem_cellsFrom h
      exact ⟨48 + 4 * pl + j, rfl, .inr (.inl (by omega))⟩
  · obtain ⟨i, hi, j, hj, rfl⟩ := mem_bodiesC h
    exact ⟨48 + 4 * s.players + 8 * i + j, rfl, .inr (.inr ⟨i, hi, by omega⟩)⟩
theorem viewL_up {s : Su} {zs : List Int} {pl nb : Nat} (hpl : pl < s.players) : (viewL s zs pl nb).Pairwise fun a b => a.1 < b.1 := by
  unfold viewL
  rw [List.pairwise_append, List.pairwise_append]
  refine ⟨⟨cellsFrom_up _ _ _, cellsFrom_up _ _ _, fun x hx y hy => ?_⟩, bodiesC_up (seenN_sorted _ _ _ _), fun x hx y hy => ?_⟩
  · obtain ⟨j, hj, rfl⟩ := mem_cellsFrom hx
    obtain ⟨j', hj', rfl⟩ := mem_cellsFrom hy
    simp only []; omega
  · obtain ⟨i, hi, j', hj', rfl⟩ := mem_bodiesC hy
    rcases List.mem_append.1 hx with hx | hx
    · obtain ⟨j, hj, rfl⟩ := mem_cellsFrom hx
      simp only []; omega
    · obtain ⟨j, hj, rfl⟩ := mem_cellsFrom hx
      simp only []; omega
/-- The cells of the player itself. -/
def ownB (f1 b0 : Nat) (q : Int × Int) : Bool := decide (q.1 = 0) || (decide ((f1 : Int) ≤ q.1) && decide (q.1 < (f1 : Int) + 4)) || (decide ((b0 : Int) ≤ q.1) && decide (q.1 < (b0 : Int) + 8))
theorem countP_of_all {α : Type} {q : α → Bool} {l : List α} (h : ∀ x ∈ l, q x = true) : l.countP q = l.length := List.countP_eq_length.2 h
theorem countP_of_none {α : Type} {q : α → Bool} {l : List α} (h : ∀ x ∈ l, q x = false) : l.countP q = 0 := List.countP_eq_zero.2 fun x hx => by rw [h x hx]; simp
theorem count_bodies {p pl f1 : Nat} {zs : List Int} {l : List Nat} (hf : f1 + 4 ≤ 48 + 4 * p) (h : l.Pairwise (· < ·)) : (bodiesC p zs l).countP (ownB f1 (48 + 4 * p + 8 * pl)) = if pl ∈ l then 8 else 0 := by
  induction l with
  | nil => rfl
  | cons a t ih =>
    obtain ⟨h1, h2⟩ := List.pairwise_cons.1 h
    have e : bodiesC p zs (a :: t) = cellsFrom zs (48 + 4 * p + 8 * a) 8 ++ bodiesC p zs t := rfl
    rw [e, List.countP_append, ih h2]
    by_cases hap : a = pl
    · subst hap
      have hnot : a ∉ t := fun hm => by have := h1 a hm; omega
      rw [if_neg hnot, if_pos (List.mem_cons_self ..), countP_of_all, cellsFrom_len]
      intro x hx
      obtain ⟨j, hj, rfl⟩ := mem_cellsFrom hx
      unfold ownB
      simp only []
      rw [decide_eq_true (p := ((48 + 4 * p + 8 * a : Nat) : Int) ≤ _) (by omega), decide_eq_true (p := _ < ((48 + 4 * p + 8 * a : Nat) : Int) + 8) (by omega)]
      simp
    · rw [countP_of_none, Nat.zero_add]
      · have : (pl ∈ a :: t) ↔ pl ∈ t := by
          rw [List.mem_cons]
          exact ⟨fun h => h.resolve_left (fun e => hap e.symm), .inr⟩
        simp only [this]
      · intro x hx
        obtain ⟨j, hj, rfl⟩ := mem_cellsFrom hx
        unfold ownB
        simp only []
        rw [decide_eq_false (p := ((48 + 4 * p + 8 * a + j : Nat) : Int) = 0) (by omega), decide_eq_false (p := ((48 + 4 * p + 8 * a + j : Nat) : Int) < (f1 : Int) + 4) (by omega)]
        rcases (by omega : a < pl ∨ pl < a) with hl | hl
        · rw [decide_eq_false (p := ((48 + 4 * p + 8 * pl : Nat) : Int) ≤ _) (by omega)]; simp
        · rw [decide_eq_false (p := _ < ((48 + 4 * p + 8 * pl : Nat) : Int) + 8) (by omega)]; simp
theorem own_seen {s : Su} {zs : List Int} {pl nb : Nat} (h : pl < nb) : pl ∈ seenN s zs pl nb := List.mem_filter.2 ⟨List.mem_range.2 h, by simp [seesB]⟩
theorem viewL_own {s : Su} {zs : List Int} {pl nb : Nat} (hpl : pl < s.players) (hnb : pl < nb) : (viewL s zs pl nb).countP (ownB (48 + 4 * pl) (48 + 4 * s.players + 8 * pl)) = 13 := by
  unfold viewL
  rw [List.countP_append, List.countP_append, count_bodies (by omega) (seenN_sorted _ _ _ _), if_pos (own_seen hnb), countP_of_all, countP_of_all, cellsFrom_len, cellsFrom_len]
  · intro x hx
    obtain ⟨j, hj, rfl⟩ := mem_cellsFrom hx
    unfold ownB
    simp only []
    rw [decide_eq_true (p := ((48 + 4 * pl : Nat) : Int) ≤ _) (by omega), decide_eq_true (p := _ < ((48 + 4 * pl : Nat) : Int) + 4) (by omega)]
    simp
  · intro x hx
    obtain ⟨j, hj, rfl⟩ := mem_cellsFrom hx
    unfold ownB
    simp only []
    rw [decide_eq_true (p := ((0 + j : Nat) : Int) = 0) (by omega)]
    simp
theorem viewL_length {s : Su} {zs : List Int} {pl nb : Nat} (hnb : pl < nb) : ∃ L, 1 ≤ L ∧ L ≤ nb ∧ (viewL s zs pl nb).length = 5 + 8 * L := by
  refine ⟨(seenN s zs pl nb).length, List.length_pos_of_mem (own_seen hnb), seenN_len _ _ _ _, ?_⟩
  unfold viewL
  rw [List.length_append, List.length_append, cellsFrom_len, cellsFrom_len, bodiesC_len]
/-! ### A cell that the player does not see -/
theorem cellsFrom_set {zs : List Int} {first n k : Nat} {v : Int} (hk : k < zs.length) (h : k < first ∨ first + n ≤ k) : cellsFrom (zs.set k v) first n = cellsFrom zs first n := by
  unfold cellsFrom
  apply List.map_congr_left
  intro j hj
  have := List.mem_range.1 hj
  rw [ix_set hk, if_neg (by omega)]
theorem pos_set {p : Nat} {zs : List Int} {i k : Nat} {v : Int} (hk : k < zs.length) (h : k < 48 + 4 * p + 8 * i ∨ 48 + 4 * p + 8 * i + 8 ≤ k) : posX p (zs.set k v) i = posX p zs i ∧ posY p (zs.set k v) i = posY p zs i := by
  unfold posX posY
  rw [ix_set hk, ix_set hk, if_neg (by omega), if_neg (by omega)]
  exact ⟨rfl, rfl⟩
theorem filter_congr' {p q : Nat → Bool} {l : List Nat} (h : ∀ x ∈ l, p x = q x) : l.filter p = l.filter q := List.filter_congr h
/-- The view does not change where neither the player's own cells nor those of a body that it sees do. -/
theorem viewL_set {s : Su} {zs : List Int} {pl nb k : Nat} {v : Int} (hpl : pl < s.players) (hk : k < zs.length) (h0 : k ≠ 0) (h1 : ¬ (48 + 4 * pl ≤ k ∧ k < 48 + 4 * pl + 4))
    (hb : k < 48 + 4 * s.players ∨ ∃ b, 48 + 4 * s.players + 8 * b ≤ k ∧ k < 48 + 4 * s.players + 8 * b + 8 ∧ seesB s zs pl b = false ∧ seesB s (zs.set k v) pl b = false) : viewL s (zs.set k v) pl nb = viewL s zs pl nb := by
  have hsees : ∀ i, seesB s (zs.set k v) pl i = seesB s zs pl i := by
    intro i
    rcases hb with hb | ⟨b, hb1, hb2, hb3, hb4⟩
    · obtain ⟨e1, e2⟩ := pos_set (v := v) (i := i) (p := s.players) hk (.inl (by omega))
      obtain ⟨e3, e4⟩ := pos_set (v := v) (i := pl) (p := s.players) hk (.inl (by omega))
      unfold seesB
      rw [e1, e2, e3, e4]
    · by_cases hib : i = b
      · rw [hib, hb3, hb4]
      · have hpb : pl ≠ b := by
          intro e
          subst e
          simp [seesB] at hb3
        obtain ⟨e1, e2⟩ := pos_set (v := v) (i := i) (p := s.players) hk (by omega)
        obtain ⟨e3, e4⟩ := pos_set (v := v) (i := pl) (p := s.players) hk (by omega)
        unfold seesB
        rw [e1, e2, e3, e4]
  have hseen : seenN s (zs.set k v) pl nb = seenN s zs pl nb := filter_congr' fun x _ => hsees x
  unfold viewL
  rw [hseen, cellsFrom_set hk (by omega), cellsFrom_set hk (by omega)]
  congr 1
  unfold bodiesC
  have hcells : ∀ i, i ∈ seenN s zs pl nb → cellsFrom (zs.set k v) (48 + 4 * s.players + 8 * i) 8 = cellsFrom zs (48 + 4 * s.players + 8 * i) 8 := by
    intro i hi
    refine cellsFrom_set hk ?_
    rcases hb with hb | ⟨b, hb1, hb2, hb3, hb4⟩
    · omega
    · have : i ≠ b := by
        intro e
        subst e
        have := (List.mem_filter.1 hi).2
        rw [hb3] at this; cases this
      omega
  generalize seenN s zs pl nb = l at hcells
  induction l with
  | nil => rfl
  | cons a t ih =>
    rw [List.flatMap_cons, List.flatMap_cons, hcells a (List.mem_cons_self ..), ih fun i hi => hcells i (List.mem_cons_of_mem _ hi)]
end Go.Proofs.Ytfnoeolngdhjfaa
