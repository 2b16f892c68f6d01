/-
  Package arenanetref12: Initial.
-/
import Derived.Test.YtfnoeolngdhjfaaSet3
namespace Go.Proofs.Ytfnoeolngdhjfaa
set_option linter.unusedVariables false
set_option linter.unusedSimpArgs false
set_option maxRecDepth 4000
open Go.RowKit

def ints (p : List Int) : Array Value := (p.map (Value.int .i64)).toArray
theorem ints_get {p : List Int} {i : Nat} (h : i < p.length) : (ints p)[i]? = some (.int .i64 (ix p i)) := by
  simp [ints, List.getElem?_eq_getElem h, ix_get h]
theorem ints_set (p : List Int) (i : Nat) (v : Int) : (ints p).setIfInBounds i (.int .i64 v) = ints (p.set i v) := by
  unfold ints; simp [List.map_set]
theorem run_make_ints (n : Nat) (hn : n < 1000000) (W : World) :
    (Instr.makeSlice 22 (.int .i64 (n : Int)) (.int .i64 (n : Int))).run Try.prog W = .ok (.slice (some ⟨W.heap.size, 0, none⟩) n n) (W.alloc (.cells (madeCells #[.int .i64 0] n) 3)) := by
  obtain ⟨i0, hi0, hz0, hz1, hz2⟩ := info_parts int_info3
  have hr := run_make (P := Try.prog) W 22 3 i0 (.int .i64 0) Try.underlying22 hi0 hz0 .i64 .i64 (n : Int) (n : Int) (by omega) (by omega) (by rw [hz2]; omega) (by omega)
  simp only [Int.toNat_natCast, hz1, Nat.mul_one] at hr
  exact hr
theorem made_ints (n : Nat) : madeCells #[.int .i64 0] n = ints (List.replicate n 0) := by
  apply Array.ext'
  simp [madeCells, ints, Nat.mod_one]
  apply List.ext_getElem
  · simp
  · intro i h1 h2; simp
/-- A block of numbers reads as the list. -/
theorem Blk.rdI {w : World} {g : Nat} {zs : List Int} (h : Blk w g 3 (ints zs)) : Rd w w.heap.size (some ⟨g, 0, none⟩) zs := fun _ =>
  ⟨g, 0, rfl, h.lt, fun k hk => by rw [h.cell, Nat.zero_add, ints_get hk]⟩

/-- Cell j of a body's eight, at the beginning of a match. -/
def bdCell (b : Bd) (j : Nat) : Int := match j with
  | 0 => b.px | 1 => b.py | 2 => b.vx | 3 => b.vy | 4 => b.a | 5 => b.b | _ => 0
def bd0 : Bd := ⟨0, [], 0, 0, 0, 0, 0, 0, 0⟩
/-- Cell j of a match at its beginning, of which the first k bodies are laid. -/
def initAt (p : Nat) (bs : List Bd) (k j : Nat) : Int := if 48 + 4 * p ≤ j ∧ j < 48 + 4 * p + 8 * k then bdCell (bs.getD ((j - (48 + 4 * p)) / 8) bd0) ((j - (48 + 4 * p)) % 8) else 0
def szOf (s : Su) : Nat := 48 + 4 * s.players + 8 * s.bodies.length
/-- The cells of a match at its beginning. -/
def initC (s : Su) : List Int := (List.range (szOf s)).map (initAt s.players s.bodies s.bodies.length)
theorem initC_len (s : Su) : (initC s).length = szOf s := by simp [initC]
theorem initC_ix {s : Su} {j : Nat} (h : j < szOf s) : ix (initC s) j = initAt s.players s.bodies s.bodies.length j := by
  rw [ix_get (by rw [initC_len]; exact h)]; simp [initC]
theorem initAt_old {p k j : Nat} {bs : List Bd} (h : ¬ (48 + 4 * p + 8 * k ≤ j ∧ j < 48 + 4 * p + 8 * k + 8)) : initAt p bs (k + 1) j = initAt p bs k j := by
  unfold initAt
  by_cases h1 : 48 + 4 * p ≤ j ∧ j < 48 + 4 * p + 8 * k
  · rw [if_pos h1, if_pos (by omega)]
  · rw [if_neg h1, if_neg (by omega)]
theorem initAt_new {p k j i : Nat} {bs : List Bd} (hj : j = 48 + 4 * p + 8 * k + i) (hi : i < 8) : initAt p bs (k + 1) j = bdCell (bs.getD k bd0) i := by
  subst hj
  unfold initAt
  rw [if_pos (by omega), show (48 + 4 * p + 8 * k + i - (48 + 4 * p)) / 8 = k from by omega, show (48 + 4 * p + 8 * k + i - (48 + 4 * p)) % 8 = i from by omega]
theorem initAt_zero {p k j : Nat} {bs : List Bd} (h : 48 + 4 * p + 8 * k ≤ j) : initAt p bs k j = 0 := by
  unfold initAt; rw [if_neg (by omega)]
/-- Six stores lay a body. -/
theorem init_step {p k at_ N : Nat} {bs : List Bd} {zs : List Int} (hl : zs.length = N) (hz : ∀ j, j < N → ix zs j = initAt p bs k j) (hat : at_ = 48 + 4 * p + 8 * k) (hN : at_ + 8 ≤ N) (b : Bd) (hb : bs.getD k bd0 = b) :
    ∀ j, j < N → ix ((((((zs.set at_ b.px).set (at_ + 1) b.py).set (at_ + 2) b.vx).set (at_ + 3) b.vy).set (at_ + 4) b.a).set (at_ + 5) b.b) j = initAt p bs (k + 1) j := by
  intro j hj
  have hs : ∀ (xs : List Int) (i : Nat) (v : Int), xs.length = N → i < N → ∀ j, ix (xs.set i v) j = if i = j then v else ix xs j := fun xs i v h1 h2 j => ix_set (by omega)
  rw [hs _ _ _ (by simp [hl]) (by omega), hs _ _ _ (by simp [hl]) (by omega), hs _ _ _ (by simp [hl]) (by omega), hs _ _ _ (by simp [hl]) (by omega), hs _ _ _ (by simp [hl]) (by omega), hs _ _ _ hl (by omega), hz j hj]
  by_cases h8 : 48 + 4 * p + 8 * k ≤ j ∧ j < 48 + 4 * p + 8 * k + 8
  · obtain ⟨i, hi⟩ : ∃ i, j = 48 + 4 * p + 8 * k + i := ⟨j - (48 + 4 * p + 8 * k), by omega⟩
    have hi8 : i < 8 := by omega
    rw [initAt_new hi hi8, hb, initAt_zero h8.1, hat, hi]
    have : i = 0 ∨ i = 1 ∨ i = 2 ∨ i = 3 ∨ i = 4 ∨ i = 5 ∨ i = 6 ∨ i = 7 := by omega
    rcases this with rfl | rfl | rfl | rfl | rfl | rfl | rfl | rfl <;> simp [bdCell]
  · rw [initAt_old h8, if_neg (by omega), if_neg (by omega), if_neg (by omega), if_neg (by omega), if_neg (by omega), if_neg (by omega)]

end Go.Proofs.Ytfnoeolngdhjfaa
