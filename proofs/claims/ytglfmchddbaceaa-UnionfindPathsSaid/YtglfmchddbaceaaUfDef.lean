/-
  Package unionfind in plain Lean: a forest of parents whose roots are the smallest elements of their sets. No program in sight.
-/
import Derived.Test.YtglfmchddbaceaaRef01
namespace Go.Proofs.Ytglfmchddbaceaa
set_option linter.unusedVariables false
set_option linter.unusedSimpArgs false

/-- The parents p are a forest over 0 .. n-1 in which r gives each element's root. -/
structure IsUF (n : Nat) (p : List Int) (r : Nat → Nat) : Prop where
  len : p.length = n
  par : ∀ i, i < n → ∃ q : Nat, ix p i = (q : Int) ∧ q ≤ i ∧ r q = r i ∧ (q = i → r i = i)

section
variable {n : Nat} {p : List Int} {r : Nat → Nat}
theorem IsUF.root_le (h : IsUF n p r) : ∀ i, i < n → r i ≤ i ∧ r (r i) = r i := by
  intro i
  induction i using Nat.strongRecOn with
  | _ i ih =>
    intro hi
    obtain ⟨q, _, hle, hr, hs⟩ := h.par i hi
    by_cases he : q = i
    · have := hs he; rw [this]; exact ⟨Nat.le_refl _, this⟩
    · have := ih q (by omega) (by omega)
      rw [hr] at this
      exact ⟨by omega, this.2⟩
theorem IsUF.root_par (h : IsUF n p r) {i : Nat} (hi : i < n) (hr : r i = i) : ix p i = (i : Int) := by
  obtain ⟨q, hq, hle, hrq, _⟩ := h.par i hi
  have := h.root_le q (by omega)
  rw [hrq, hr] at this
  rw [hq]; omega
/-- Path halving keeps the roots. -/
theorem IsUF.halve (h : IsUF n p r) {a up : Nat} (ha : a < n) (hup : ix p a = (up : Int)) (hne : up ≠ a) : IsUF n (p.set a (ix p up)) r := by
  refine ⟨by rw [List.length_set]; exact h.len, fun i hi => ?_⟩
  obtain ⟨q, hq, hle, hr, hs⟩ := h.par a ha
  have hqu : q = up := by rw [hup] at hq; omega
  subst hqu
  by_cases he : a = i
  · subst he
    obtain ⟨q2, hq2, hle2, hr2, hs2⟩ := h.par q (by omega)
    refine ⟨q2, ?_, by omega, hr2.trans hr, fun e => by omega⟩
    rw [ix_set (by rw [h.len]; exact ha), if_pos rfl]
    exact hq2
  · obtain ⟨q2, hq2, hle2, hr2, hs2⟩ := h.par i hi
    refine ⟨q2, ?_, hle2, hr2, hs2⟩
    rw [ix_set (by rw [h.len]; exact ha), if_neg he]
    exact hq2
/-- The roots behind the merging of the sets with roots a and b. -/
def joinR (r : Nat → Nat) (a b : Nat) : Nat → Nat := fun i => if r i = max a b then min a b else r i
theorem IsUF.join (h : IsUF n p r) {a b : Nat} (ha : a < n) (hb : b < n) (hra : r a = a) (hrb : r b = b) : IsUF n (p.set (max a b) ((min a b : Nat) : Int)) (joinR r a b) := by
  have hmx : r (max a b) = max a b := by
    rcases Nat.le_total a b with h1 | h1
    · rw [Nat.max_eq_right h1]; exact hrb
    · rw [Nat.max_eq_left h1]; exact hra
  have hmn : r (min a b) = min a b := by
    rcases Nat.le_total a b with h1 | h1
    · rw [Nat.min_eq_left h1]; exact hra
    · rw [Nat.min_eq_right h1]; exact hrb
  have hlt : max a b < n := by omega
  have hle : min a b ≤ max a b := by omega
  obtain ⟨M, hM⟩ : ∃ M, M = max a b := ⟨_, rfl⟩
  obtain ⟨m, hm⟩ : ∃ m, m = min a b := ⟨_, rfl⟩
  have jr : ∀ j, joinR r a b j = if r j = M then m else r j := by intro j; unfold joinR; rw [hM, hm]
  rw [← hM] at hmx hlt hle ⊢
  rw [← hm] at hmn hle ⊢
  clear hM hm
  refine ⟨by rw [List.length_set]; exact h.len, fun i hi => ?_⟩
  by_cases he : M = i
  · subst he
    refine ⟨m, ?_, hle, ?_, fun e => ?_⟩
    · rw [ix_set (by rw [h.len]; exact hi), if_pos rfl]
    · rw [jr, jr, hmn, hmx, if_pos rfl]; split <;> rfl
    · rw [jr, hmx, if_pos rfl]; exact e
  · obtain ⟨q, hq, hle2, hr2, hs2⟩ := h.par i hi
    refine ⟨q, ?_, hle2, by rw [jr, jr, hr2], fun e => ?_⟩
    · rw [ix_set (by rw [h.len]; exact hlt), if_neg he]
      exact hq
    · have := hs2 e
      rw [jr, this, if_neg (by omega)]
end
/-- The roots of n singletons. -/
theorem IsUF.new (n : Nat) : IsUF n ((List.range n).map fun i : Nat => (i : Int)) id := by
  refine ⟨by simp, fun i hi => ⟨i, ?_, Nat.le_refl _, rfl, fun _ => rfl⟩⟩
  rw [ix_get (by simpa using hi)]; simp
/-- One edge taken in; all edges from singletons on. -/
def uniE (n : Nat) (r : Nat → Nat) (e : Int × Int) : Nat → Nat := if 0 ≤ e.1 ∧ e.1 < n ∧ 0 ≤ e.2 ∧ e.2 < n then joinR r (r e.1.toNat) (r e.2.toNat) else r
def runE (n : Nat) (es : List (Int × Int)) : Nat → Nat := es.foldl (uniE n) id
theorem runE_snoc (n : Nat) (es : List (Int × Int)) (e : Int × Int) : runE n (es ++ [e]) = uniE n (runE n es) e := by simp [runE, List.foldl_append]
/-- Does the edge join two sets? -/
def joins (n : Nat) (r : Nat → Nat) (e : Int × Int) : Bool := decide (0 ≤ e.1 ∧ e.1 < n ∧ 0 ≤ e.2 ∧ e.2 < n) && decide (r e.1.toNat ≠ r e.2.toNat)
def sames (n : Nat) (r : Nat → Nat) (a b : Int) : Bool := decide (0 ≤ a ∧ a < n ∧ 0 ≤ b ∧ b < n) && decide (r a.toNat = r b.toNat)
end Go.Proofs.Ytglfmchddbaceaa
