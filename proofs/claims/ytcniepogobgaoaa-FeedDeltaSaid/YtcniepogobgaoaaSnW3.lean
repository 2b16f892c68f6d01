/-
  Package snapshot's reference: Diff, called.
-/
import Derived.Test.YtcniepogobgaoaaSnW2
import Derived.Test.YtcniepogobgaoaaSnDif
namespace Go.Proofs.Ytcniepogobgaoaa
set_option linter.unusedVariables false
set_option linter.unusedSimpArgs false
set_option maxRecDepth 4000
open Go.RowKit

theorem goneD_snoc (l new : Vw) (p : Int × Int) : goneD (l ++ [p]) new = goneD l new ++ if (findD new p.1).isNone then [p.1] else [] := by
  unfold goneD
  rw [List.filter_append, List.map_append]
  congr 1
  by_cases h : (findD new p.1).isNone = true <;> simp [h]
theorem setD_snoc (old l : Vw) (p : Int × Int) : setD old (l ++ [p]) = setD old l ++ if findD old p.1 ≠ some p.2 then [p] else [] := by
  unfold setD
  rw [List.filter_append]
  congr 1
  by_cases h : findD old p.1 = some p.2 <;> simp [h]
theorem goneD_len (l new : Vw) : (goneD l new).length ≤ l.length := by
  unfold goneD; rw [List.length_map]; exact List.length_filter_le _ _
theorem setD_len (old l : Vw) : (setD old l).length ≤ l.length := List.length_filter_le _ _
theorem find_split (l : Vw) (i : Int) : ∃ v is, findD l i = (if is = true then some v else none) ∧ (is = false → v = 0) ∧ v = (findD l i).getD 0 := by
  cases h : findD l i with
  | none => exact ⟨0, false, by simp, fun _ => rfl, rfl⟩
  | some v => exact ⟨v, true, by simp, fun h => by simp at h, rfl⟩

theorem lastI_take (d : Int) (l : List Int) (q : Nat) (h : q ≤ l.length) : lastI d (l.take q) = if q = 0 then d else ix l (q - 1) := by
  match q, h with
  | 0, _ => rfl
  | q + 1, h => rw [take_snoc_ix (by omega), lastI_snoc]; simp
theorem last_lt {l : List Int} (hs : l.Pairwise (· < ·)) (h0 : ∀ x ∈ l, 0 ≤ x) {q : Nat} (hq : q < l.length) : lastI (-1) (l.take q) < ix l q ∧ -1 ≤ lastI (-1) (l.take q) := by
  rw [lastI_take _ _ _ (by omega)]
  split
  · have := h0 _ (ix_mem hq); omega
  · have h1 := h0 _ (ix_mem (show q - 1 < l.length by omega))
    have : ix l (q - 1) < ix l q := by
      rw [ix_get (show q - 1 < l.length by omega), ix_get hq]
      exact List.pairwise_iff_getElem.1 hs _ _ _ _ (by omega)
    omega
theorem goneD_up {old : Vw} (h : IsV old) (new : Vw) : (goneD old new).Pairwise (· < ·) ∧ ∀ x ∈ goneD old new, 0 ≤ x ∧ x ≤ 2147483647 := by
  unfold goneD
  refine ⟨List.pairwise_map.2 (h.up.filter _), fun x hx => ?_⟩
  obtain ⟨p, hp, rfl⟩ := List.mem_map.1 hx
  have := h.bd p (List.mem_filter.1 hp).1
  omega
end Go.Proofs.Ytcniepogobgaoaa
