/-
  The difference of two views in plain Lean. No program in sight.
-/
import Derived.Test.YtcniepogobgaoaaSnDef
namespace Go.Proofs.Ytcniepogobgaoaa
set_option linter.unusedVariables false
set_option linter.unusedSimpArgs false

/-- The number that 64 bits hold. -/
def w64 (x : Int) : Int := IntKind.i64.wrap x
theorem w64_bd (x : Int) : -9223372036854775808 ≤ w64 x ∧ w64 x ≤ 9223372036854775807 := by
  unfold w64
  simp only [IntKind.wrap, IntKind.bits, IntKind.signed]
  simp
  split <;> omega
/-- The last index of a list, or what was the last ahead of it. -/
def lastI (d : Int) (l : List Int) : Int := l.getLast?.getD d
theorem lastI_snoc (d : Int) (l : List Int) (x : Int) : lastI d (l ++ [x]) = x := by simp [lastI]
theorem lastI_any (d e b : Int) (u : List Int) : (b :: u).getLast?.getD d = (b :: u).getLast?.getD e := by
  rw [List.getLast?_eq_some_getLast (by simp)]; rfl
/-- The bytes of a run of indices. -/
def gapsB (last : Int) : List Int → List Int
  | [] => []
  | i :: t => enc (i - last - 1).toNat ++ gapsB i t
theorem gapsB_snoc (last : Int) (l : List Int) (x : Int) : gapsB last (l ++ [x]) = gapsB last l ++ enc (x - lastI last l - 1).toNat := by
  induction l generalizing last with
  | nil => simp [gapsB, lastI]
  | cons a t ih =>
    simp only [List.cons_append, gapsB, ih, List.append_assoc]
    congr 3
    cases t with
    | nil => simp [lastI]
    | cons b u => simp only [lastI, List.getLast?_cons_cons, lastI_any a last b u]
/-- The bytes of a run of cells that are set. -/
def setB (old : Vw) (last : Int) : Vw → List Int
  | [] => []
  | p :: t => enc (p.1 - last - 1).toNat ++ enc (zig (w64 (p.2 - (findD old p.1).getD 0))) ++ setB old p.1 t
def lastP (d : Int) (l : Vw) : Int := lastI d (l.map (·.1))
theorem lastP_snoc (d : Int) (l : Vw) (x : Int × Int) : lastP d (l ++ [x]) = x.1 := by simp [lastP, lastI_snoc]
theorem setB_snoc (old : Vw) (last : Int) (l : Vw) (x : Int × Int) : setB old last (l ++ [x]) = setB old last l ++ (enc (x.1 - lastP last l - 1).toNat ++ enc (zig (w64 (x.2 - (findD old x.1).getD 0)))) := by
  induction l generalizing last with
  | nil => simp [setB, lastP, lastI]
  | cons a t ih =>
    simp only [List.cons_append, setB, ih, List.append_assoc]
    congr 5
    cases t with
    | nil => simp [lastP, lastI]
    | cons b u => simp only [lastP, lastI, List.map_cons, List.getLast?_cons_cons, lastI_any a.1 last b.1 (u.map (·.1))]
def goneD (old new : Vw) : List Int := (old.filter fun p => (findD new p.1).isNone).map (·.1)
def setD (old new : Vw) : Vw := new.filter fun p => decide (findD old p.1 ≠ some p.2)
def difD (old new : Vw) : List Int := enc (goneD old new).length ++ gapsB (-1) (goneD old new) ++ enc (setD old new).length ++ setB old (-1) (setD old new)
end Go.Proofs.Ytcniepogobgaoaa
