/-
  Package arenanetref12: ShapeOf.
-/
import Derived.Test.YtfnoeolngdhjfaaSetB
import Derived.Test.YtfnoeolngdhjfaaRef01
import Derived.Lib.SmallJoins
namespace Go.Proofs.Ytfnoeolngdhjfaa
set_option linter.unusedVariables false
set_option linter.unusedSimpArgs false
set_option maxRecDepth 4000
open Go.RowKit

theorem rdP_new (w : World) (vs : Array Value) (T : TypeId) (es : List (Int × Int)) (h : vs.toList = flat es) : RdP (w.alloc (.cells vs T)) (w.heap.size + 1) (some ⟨w.heap.size, 0, none⟩) es := fun _ => by
  refine ⟨_, _, rfl, by omega, fun i hi => ?_⟩
  have hg := flat_get es i hi
  rw [← h] at hg
  rw [World.cell?_alloc_new, World.cell?_alloc_new]
  simpa using hg
/-- A slice that leads to a block of B0 or later. -/
def PairsF (w : World) (B0 : Nat) (pv : Value) (es : List (Int × Int)) : Prop := ∃ A c, pv = .slice A es.length c ∧ RdP w w.heap.size A es ∧ ∀ a, A = some a → B0 ≤ a.block ∧ a.block < w.heap.size
theorem pairsF_new (w : World) (vs : Array Value) (T : TypeId) (es : List (Int × Int)) (b n B0 : Nat) (h : vs.toList = flat es) (hb : b = w.heap.size) (hn : es.length = n) (hB : B0 ≤ w.heap.size) : PairsF (w.alloc (.cells vs T)) B0 (.slice (some ⟨b, 0, none⟩) n n) es := by
  subst hb
  refine ⟨_, _, by rw [hn], (rdP_new w vs T es h).more (by rw [World.size_alloc]; omega), fun a e => ?_⟩
  injection e with e
  subst e
  exact ⟨hB, by simp⟩
theorem pairsF_nil (w : World) (B0 : Nat) : PairsF w B0 (.slice none 0 0) [] := ⟨none, 0, rfl, fun h => absurd h (by simp), fun a e => by cases e⟩
theorem PairsF.x {w w' : World} {B0 B : Nat} {pv : Value} {es : List (Int × Int)} {ob : Option Nat} (h : PairsF w B0 pv es) (hb : Below w.heap.size w w') (hB : B ≤ B0) (ho : ∀ r, ob = some r → r < B0) : PairsX w' B pv es ob := by
  obtain ⟨A, c, hv, hr, ha⟩ := h
  refine ⟨A, c, hv, (hr.below hb (Nat.le_refl _)).more hb.size, fun a e => ?_⟩
  obtain ⟨h1, h2⟩ := ha a e
  refine ⟨by omega, Nat.lt_of_lt_of_le h2 hb.size, fun e2 => ?_⟩
  have := ho _ e2
  omega
theorem wr64 {x : Int} (h1 : -9223372036854775808 ≤ x) (h2 : x < 9223372036854775808) : wrap64 x = x := by
  simp only [wrap64]; omega

/-- The facts a walk of ShapeOf wants, with the case j. -/
structure ShF (n k r j : Int) : Prop where
  around : around n 1000 = k
  r1 : wrap64 (512 * wrap64 (1 + (wrap64 (k.tdiv 7)).tmod 5)) = r
  hr : r = shapeR n
  neg : wrap64 (-r) = -r
  m2 : wrap64 (-2 * r) = -2 * r
  p2 : wrap64 (2 * r) = 2 * r
  hj : k.tmod 7 = j
  hs : shapeK n = j
theorem shF (n : Int) : ∃ k r j, ShF n k r j ∧ (j = 0 ∨ j = 1 ∨ j = 2 ∨ j = 3 ∨ j = 4 ∨ j = 5 ∨ j = 6) := by
  have hb := shapeR_bd n
  have hk1 := around_lo (n := n) (m := 1000) (by omega)
  have hk2 := around_hi (n := n) (m := 1000) (by omega)
  obtain ⟨k, hk⟩ : ∃ k, k = around n 1000 := ⟨_, rfl⟩
  obtain ⟨r, hr⟩ : ∃ r, r = shapeR n := ⟨_, rfl⟩
  have hs : shapeK n = k % 7 := by unfold shapeK; rw [← hk]
  have hr0 : r = 512 * (1 + k / 7 % 5) := by rw [hr]; unfold shapeR; rw [← hk]
  rw [← hk] at hk1 hk2
  rw [← hr] at hb
  have e1 : wrap64 (k.tdiv 7) = k / 7 := by rw [Int.tdiv_eq_ediv_of_nonneg hk1]; exact wr64 (by omega) (by omega)
  refine ⟨k, r, k.tmod 7, ⟨hk.symm, ?_, hr, wr64 (by omega) (by omega), wr64 (by omega) (by omega), wr64 (by omega) (by omega), rfl, ?_⟩, ?_⟩
  · rw [e1, Int.tmod_eq_emod_of_nonneg (by omega), wr64 (x := 1 + _) (by omega) (by omega), wr64 (by omega) (by omega), hr0]
  · rw [hs, Int.tmod_eq_emod_of_nonneg hk1]
  · rw [Int.tmod_eq_emod_of_nonneg hk1]; omega

set_option maxHeartbeats 1000000 in
theorem shape_any (n : Int) (w : World) (h1 : -9223372036854775808 ≤ n) (h2 : n ≤ 9223372036854775807) :
    Calls Try.prog 46 #[.int .i64 n] w fun e w' => ∃ pv, e = .returned (.agg #[.int .i64 (shapeOf n).1, pv]) ∧ PairsF w' w.heap.size pv (shapeOf n).2 ∧ Below w.heap.size w w' := by
  obtain ⟨k, r, j, hF, hj⟩ := shF n
  have HF := Lib.hid hF
  have e2 := hF.r1
  have e4 := hF.neg
  have e5 := hF.m2
  have e6 := hF.p2
  have HA := Lib.hid h1
  have HB := Lib.hid h2
  rcases hj with rfl | rfl | rfl | rfl | rfl | rfl | rfl
  all_goals
    have e7 := hF.hj
    clear hF
    go_enter Try.func46, Try.ntmps46
    go_wp2_with fail
    refine (around_any n 1000 _ HA.out HB.out (by omega) (by omega)).mono ?_
    rintro e1 w1 ⟨rfl, rfl⟩
    rw [HF.out.around]
    go_wp2_with fail
  iterate 3
    refine bodyPost_ret (v := .agg #[.int .i64 r, .slice none 0 0]) (by simp [results, Try.results46, go_sem]) rfl ⟨.slice none 0 0, ?_, ?_, (Below.refl _ _).alloc (Nat.le_refl _) _⟩
    · simp [shapeOf, HF.out.hs, HF.out.hr]
    · simp only [shapeOf, HF.out.hs]; exact pairsF_nil _ _
  all_goals
    refine bodyPost_ret (v := .agg #[.int .i64 0, .slice (some ⟨w.heap.size + 1, 0, none⟩) (shapeOf n).2.length (shapeOf n).2.length]) (by simp [results, Try.results46, go_sem, shapeOf, HF.out.hs]) rfl ⟨.slice (some ⟨w.heap.size + 1, 0, none⟩) (shapeOf n).2.length (shapeOf n).2.length, ?_, ?_, ((Below.refl _ _).alloc (Nat.le_refl _) _).alloc (by simp) _⟩
    · simp [shapeOf, HF.out.hs]
    · refine pairsF_new _ _ _ _ _ _ _ ?_ (World.size_alloc _ _).symm rfl ?_
      · simp [shapeOf, HF.out.hs, HF.out.hr, flat]
      · simp only [World.size_alloc]; exact Nat.le_add_right _ _
end Go.Proofs.Ytfnoeolngdhjfaa
