/-
  Plain laws of the range coder's bits: prefixes of the bits of some bytes, lengths.
-/
import Derived.Test.YtcniepogobgaoaaRc
import Derived.Test.YtcniepogobgaoaaSnNum
namespace Go.Proofs.Ytcniepogobgaoaa
set_option linter.unusedVariables false
set_option linter.unusedSimpArgs false

theorem rcShift_len (f : Nat) : ∀ lo hi, (rcShift f lo hi).1.length ≤ f := by
  induction f with
  | zero => intro lo hi; simp [rcShift]
  | succ f ih =>
    intro lo hi
    by_cases he : lo / 16777216 = hi / 16777216
    · rw [rcShift_succ he]
      have := ih (lo * 256 % 4294967296) (hi * 256 % 4294967296 + 255)
      simp only [List.length_cons]
      omega
    · rw [rcShift_zero he]; simp
theorem rcOut_len (r : Rc) (c b : Nat) : (rcOut r c b).length ≤ 5 := rcShift_len 5 _ _
theorem rcOuts_len (l : List (Nat × Nat)) : ∀ r, (rcOuts r l).length ≤ 5 * l.length := by
  induction l with
  | nil => intro r; simp [rcOuts]
  | cons q t ih =>
    intro r
    obtain ⟨c, b⟩ := q
    have h1 := ih (rcNext r c b)
    have h2 := rcOut_len r c b
    simp only [rcOuts, List.length_append, List.length_cons]
    omega
theorem rcRun_ok (l : List (Nat × Nat)) : ∀ {r}, RcOk r → RcOk (rcRun r l) := by
  induction l with
  | nil => intro r h; exact h
  | cons q t ih => intro r h; obtain ⟨c, b⟩ := q; exact ih (rcNext_ok h c b)
theorem rcRun_snoc (r : Rc) (l : List (Nat × Nat)) (c b : Nat) : rcRun r (l ++ [(c, b)]) = rcNext (rcRun r l) c b := by rw [rcRun_append]; rfl
theorem rcOuts_snoc (r : Rc) (l : List (Nat × Nat)) (c b : Nat) : rcOuts r (l ++ [(c, b)]) = rcOuts r l ++ rcOut (rcRun r l) c b := by
  rw [rcOuts_append]
  show _ ++ (rcOut _ c b ++ []) = _
  rw [List.append_nil]
theorem bitsOf_len (x : Nat) : (bitsOf x).length = 8 := by simp [bitsOf]
theorem bitsOf_get {x j : Nat} (hj : j < 8) : (bitsOf x)[j]? = some (ctx x j, bitAt x j) := by
  simp [bitsOf, List.getElem?_range hj]
theorem bitsL_len (l : List Nat) : (bitsL l).length = 8 * l.length := by
  induction l with
  | nil => rfl
  | cons x t ih => simp only [bitsL, List.flatMap_cons, List.length_append, bitsOf_len, List.length_cons] at ih ⊢; omega
theorem bitsL_append (l m : List Nat) : bitsL (l ++ m) = bitsL l ++ bitsL m := by simp [bitsL]
/-- The bits of the first k bytes and the first j bits of the next one. -/
def bp (xs : List Nat) (k j : Nat) : List (Nat × Nat) := bitsL (xs.take k) ++ (bitsOf (xs.getD k 0)).take j
theorem bp_zero (xs : List Nat) : bp xs 0 0 = [] := by simp [bp, bitsL]
theorem bp_succ (xs : List Nat) (k : Nat) {j : Nat} (hj : j < 8) : bp xs k (j + 1) = bp xs k j ++ [(ctx (xs.getD k 0) j, bitAt (xs.getD k 0) j)] := by
  unfold bp
  rw [List.append_assoc]
  congr 1
  have hl := bitsOf_len (xs.getD k 0)
  rw [List.take_succ_eq_append_getElem (by rw [hl]; exact hj)]
  have := bitsOf_get (x := xs.getD k 0) hj
  rw [List.getElem?_eq_getElem (by rw [hl]; exact hj)] at this
  injection this with this
  rw [this]
theorem bp_eight {xs : List Nat} {k : Nat} (hk : k < xs.length) : bp xs k 8 = bp xs (k + 1) 0 := by
  unfold bp
  rw [List.take_of_length_le (l := bitsOf (xs.getD k 0)) (by rw [bitsOf_len]; exact Nat.le_refl _), List.take_zero, List.append_nil, List.take_succ_eq_append_getElem hk, bitsL_append]
  congr 1
  rw [List.getD_eq_getElem?_getD, List.getElem?_eq_getElem hk]
  simp [bitsL]
theorem bp_end (xs : List Nat) : bp xs xs.length 0 = bitsL xs := by simp [bp]
theorem bp_len {xs : List Nat} {k j : Nat} (hk : k ≤ xs.length) (hj : j ≤ 8) : (bp xs k j).length = 8 * k + j := by
  unfold bp
  rw [List.length_append, bitsL_len, List.length_take, List.length_take, bitsOf_len]
  omega
theorem bp_rest {xs : List Nat} {k j : Nat} (hk : k < xs.length) (hj : j < 8) : ∃ t, bitsL xs = bp xs k j ++ (ctx (xs.getD k 0) j, bitAt (xs.getD k 0) j) :: t := by
  have h1 : bitsL xs = bp xs (k + 1) 0 ++ bitsL (xs.drop (k + 1)) := by
    unfold bp
    rw [List.take_zero, List.append_nil, ← bitsL_append, List.take_append_drop]
  have h2 : bp xs k 8 = bp xs k (j + 1) ++ ((bitsOf (xs.getD k 0)).drop (j + 1)) := by
    unfold bp
    rw [List.append_assoc, List.take_append_drop, List.take_of_length_le (l := bitsOf (xs.getD k 0)) (by rw [bitsOf_len]; exact Nat.le_refl _)]
  exact ⟨(bitsOf (xs.getD k 0)).drop (j + 1) ++ bitsL (xs.drop (k + 1)), by rw [h1, ← bp_eight hk, h2, bp_succ xs k hj]; simp⟩
/-- The coder, and what it has put out, after the first k bytes and j bits. -/
def rcAt (xs : List Nat) (k j : Nat) : Rc := rcRun rc0 (bp xs k j)
def outAt (xs : List Nat) (k j : Nat) : List Nat := rcOuts rc0 (bp xs k j)
theorem rcAt_zero (xs : List Nat) : rcAt xs 0 0 = rc0 := by rw [rcAt, bp_zero]; rfl
theorem outAt_zero (xs : List Nat) : outAt xs 0 0 = [] := by rw [outAt, bp_zero]; rfl
theorem rcAt_ok (xs : List Nat) (k j : Nat) : RcOk (rcAt xs k j) := rcRun_ok _ rc0_ok
theorem rcAt_succ (xs : List Nat) (k : Nat) {j : Nat} (hj : j < 8) : rcAt xs k (j + 1) = rcNext (rcAt xs k j) (ctx (xs.getD k 0) j) (bitAt (xs.getD k 0) j) := by rw [rcAt, bp_succ xs k hj, rcRun_snoc]; rfl
theorem outAt_succ (xs : List Nat) (k : Nat) {j : Nat} (hj : j < 8) : outAt xs k (j + 1) = outAt xs k j ++ rcOut (rcAt xs k j) (ctx (xs.getD k 0) j) (bitAt (xs.getD k 0) j) := by rw [outAt, bp_succ xs k hj, rcOuts_snoc]; rfl
theorem rcAt_eight {xs : List Nat} {k : Nat} (hk : k < xs.length) : rcAt xs k 8 = rcAt xs (k + 1) 0 := by rw [rcAt, bp_eight hk]; rfl
theorem outAt_eight {xs : List Nat} {k : Nat} (hk : k < xs.length) : outAt xs k 8 = outAt xs (k + 1) 0 := by rw [outAt, bp_eight hk]; rfl
theorem outAt_len {xs : List Nat} {k j : Nat} (hk : k ≤ xs.length) (hj : j ≤ 8) : (outAt xs k j).length ≤ 40 * k + 40 := by
  have h1 := rcOuts_len (bp xs k j) rc0
  have h2 := bp_len hk hj
  unfold outAt
  omega
/-- The bytes behind the length. -/
def rcBody (xs : List Nat) : List Nat := if xs = [] then [] else rcEnc rc0 (bitsL xs)
theorem rcBody_cons {xs : List Nat} (h : xs ≠ []) : rcBody xs = outAt xs xs.length 0 ++ be4 (rcAt xs xs.length 0).lo := by
  rw [rcBody, if_neg h, rcEnc_eq, outAt, rcAt, bp_end]
def natI (l : List Nat) : List Int := l.map fun x : Nat => (x : Int)
theorem natI_append (l m : List Nat) : natI (l ++ m) = natI l ++ natI m := by simp [natI]
theorem natI_len (l : List Nat) : (natI l).length = l.length := by simp [natI]
/-- The packet of some bytes. -/
def rcPack (xs : List Nat) : List Int := enc xs.length ++ natI (rcBody xs)
/-- What the decoder sees: the next bit. -/
theorem rc_see {xs : List Nat} {k j : Nat} (hk : k < xs.length) (hj : j < 8) (hx : ∀ x ∈ xs, x < 256) :
    (v4 ((rcBody xs).drop (outAt xs k j).length) ≤ rcMid (rcAt xs k j) (ctx (xs.getD k 0) j)) ↔ bitAt (xs.getD k 0) j = 1 := by
  obtain ⟨t, ht⟩ := bp_rest hk hj
  have hne : xs ≠ [] := by rintro rfl; simp at hk
  have e : (rcBody xs).drop (outAt xs k j).length = rcEnc (rcAt xs k j) ((ctx (xs.getD k 0) j, bitAt (xs.getD k 0) j) :: t) := by
    rw [rcBody, if_neg hne, rcEnc_eq, rcEnc_eq, ht, rcOuts_append, rcRun_append, List.append_assoc]
    exact List.drop_left
  rw [e]
  exact rc_bit (rcAt_ok xs k j) _ _ (bitAt_01 _ _) t
theorem rcBody_bytes (xs : List Nat) : Bytes (rcBody xs) := by
  unfold rcBody
  split
  · intro x hx; cases hx
  · exact (rcEnc_ok _ _ rc0_ok).2.2
end Go.Proofs.Ytcniepogobgaoaa
