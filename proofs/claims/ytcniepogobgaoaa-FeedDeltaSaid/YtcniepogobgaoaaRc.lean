/-
  The adaptive binary range coder in plain Lean: the decoder undoes the encoder.
-/
namespace Go.Proofs.Ytcniepogobgaoaa
set_option linter.unusedVariables false
set_option linter.unusedSimpArgs false

/-- The coder: the predictions, and the range. -/
structure Rc where
  p : Nat → Nat
  lo : Nat
  hi : Nat
def rc0 : Rc := ⟨fun _ => 2048, 0, 4294967295⟩
def rcUpd (p : Nat → Nat) (c b : Nat) : Nat → Nat := fun i => if i = c then (if b = 1 then p c + (4096 - p c) / 16 else p c - p c / 16) else p i
def rcMid (r : Rc) (c : Nat) : Nat := r.lo + (r.hi - r.lo) / 4096 * r.p c
/-- The settled bytes, and the range without them. -/
def rcShift : Nat → Nat → Nat → List Nat × Nat × Nat
  | 0, lo, hi => ([], lo, hi)
  | f + 1, lo, hi => if lo / 16777216 = hi / 16777216 then ((hi / 16777216) :: (rcShift f (lo * 256 % 4294967296) (hi * 256 % 4294967296 + 255)).1, (rcShift f (lo * 256 % 4294967296) (hi * 256 % 4294967296 + 255)).2) else ([], lo, hi)
def rcLo (r : Rc) (c b : Nat) : Nat := if b = 1 then r.lo else rcMid r c + 1
def rcHi (r : Rc) (c b : Nat) : Nat := if b = 1 then rcMid r c else r.hi
def rcOut (r : Rc) (c b : Nat) : List Nat := (rcShift 5 (rcLo r c b) (rcHi r c b)).1
def rcNext (r : Rc) (c b : Nat) : Rc := ⟨rcUpd r.p c b, (rcShift 5 (rcLo r c b) (rcHi r c b)).2.1, (rcShift 5 (rcLo r c b) (rcHi r c b)).2.2⟩
def be4 (n : Nat) : List Nat := [n / 16777216 % 256, n / 65536 % 256, n / 256 % 256, n % 256]
/-- The bytes for bits with their contexts. -/
def rcEnc : Rc → List (Nat × Nat) → List Nat
  | r, [] => be4 r.lo
  | r, (c, b) :: t => rcOut r c b ++ rcEnc (rcNext r c b) t
def rcRun : Rc → List (Nat × Nat) → Rc
  | r, [] => r
  | r, (c, b) :: t => rcRun (rcNext r c b) t
def rcOuts : Rc → List (Nat × Nat) → List Nat
  | _, [] => []
  | r, (c, b) :: t => rcOut r c b ++ rcOuts (rcNext r c b) t
theorem rcRun_append (r : Rc) (l m : List (Nat × Nat)) : rcRun r (l ++ m) = rcRun (rcRun r l) m := by
  induction l generalizing r with
  | nil => rfl
  | cons q t ih => exact ih _
theorem rcOuts_append (r : Rc) (l m : List (Nat × Nat)) : rcOuts r (l ++ m) = rcOuts r l ++ rcOuts (rcRun r l) m := by
  induction l generalizing r with
  | nil => rfl
  | cons q t ih => obtain ⟨c, b⟩ := q; simp only [List.cons_append, rcOuts, rcRun, ih, List.append_assoc]
theorem rcEnc_eq (r : Rc) (l : List (Nat × Nat)) : rcEnc r l = rcOuts r l ++ be4 (rcRun r l).lo := by
  induction l generalizing r with
  | nil => rfl
  | cons q t ih => obtain ⟨c, b⟩ := q; simp only [rcEnc, rcOuts, rcRun, ih, List.append_assoc]
/-- The first four bytes as a number. -/
def v4 (l : List Nat) : Nat := l.getD 0 0 * 16777216 + l.getD 1 0 * 65536 + l.getD 2 0 * 256 + l.getD 3 0
structure RcOk (r : Rc) : Prop where
  p : ∀ c, r.p c < 4096
  le : r.lo ≤ r.hi
  hi : r.hi < 4294967296
  ne : r.lo / 16777216 ≠ r.hi / 16777216
theorem rc0_ok : RcOk rc0 := ⟨fun _ => by simp [rc0], by simp [rc0], by simp [rc0], by simp [rc0]⟩
theorem rcUpd_lt {p : Nat → Nat} (h : ∀ c, p c < 4096) (c b i : Nat) : rcUpd p c b i < 4096 := by
  have h1 := h c
  have h2 := h i
  unfold rcUpd
  split
  · split <;> omega
  · exact h2
theorem rcMid_bd {r : Rc} (h : RcOk r) (c : Nat) : r.lo ≤ rcMid r c ∧ rcMid r c < r.hi := by
  have h1 := h.p c
  have h2 := h.le
  have h3 := h.ne
  have h4 : (r.hi - r.lo) / 4096 * r.p c ≤ (r.hi - r.lo) / 4096 * 4095 := Nat.mul_le_mul_left _ (by omega)
  unfold rcMid
  omega
theorem rcLo_le {r : Rc} (h : RcOk r) (c b : Nat) : rcLo r c b ≤ rcHi r c b ∧ rcHi r c b < 4294967296 ∧ r.lo ≤ rcLo r c b ∧ rcHi r c b ≤ r.hi := by
  have h1 := rcMid_bd h c
  have h2 := h.hi
  unfold rcLo rcHi
  split <;> omega
theorem rcShift_zero {f lo hi : Nat} (h : lo / 16777216 ≠ hi / 16777216) : rcShift f lo hi = ([], lo, hi) := by
  cases f with
  | zero => rfl
  | succ f => exact if_neg h
theorem rcShift_succ {f lo hi : Nat} (h : lo / 16777216 = hi / 16777216) : rcShift (f + 1) lo hi = ((hi / 16777216) :: (rcShift f (lo * 256 % 4294967296) (hi * 256 % 4294967296 + 255)).1, (rcShift f (lo * 256 % 4294967296) (hi * 256 % 4294967296 + 255)).2) := if_pos h
/-- After k shifts the low k bytes are settled; four are enough. -/
theorem rcShift_ok (f : Nat) : ∀ (k lo hi : Nat), f + k = 5 → lo ≤ hi → hi < 4294967296 → lo % 256 ^ k = 0 → hi % 256 ^ k = 256 ^ k - 1 → (k = 0 ∨ 1 ≤ k) → 
    (rcShift f lo hi).2.1 ≤ (rcShift f lo hi).2.2 ∧ (rcShift f lo hi).2.2 < 4294967296 ∧ ((f = 0 → lo / 16777216 ≠ hi / 16777216) → (rcShift f lo hi).2.1 / 16777216 ≠ (rcShift f lo hi).2.2 / 16777216) := by
  induction f with
  | zero => intro k lo hi hk h1 h2 h3 h4 _; exact ⟨h1, h2, fun h => h rfl⟩
  | succ f ih =>
    intro k lo hi hk h1 h2 h3 h4 _
    by_cases he : lo / 16777216 = hi / 16777216
    · rw [rcShift_succ he]
      have hk4 : k = 0 ∨ k = 1 ∨ k = 2 ∨ k = 3 ∨ k = 4 := by omega
      have hk5 : k ≠ 4 := by
        rintro rfl
        rw [show (256 : Nat) ^ 4 = 4294967296 from rfl] at h3 h4
        omega
      have := ih (k + 1) (lo * 256 % 4294967296) (hi * 256 % 4294967296 + 255) (by omega) (by omega) (by omega) (by rcases hk4 with rfl | rfl | rfl | rfl | rfl <;> simp at h3 ⊢ <;> omega) (by rcases hk4 with rfl | rfl | rfl | rfl | rfl <;> simp at h4 ⊢ <;> omega) (by omega)
      exact ⟨this.1, this.2.1, fun _ => this.2.2 (fun h => by omega)⟩
    · rw [rcShift_zero he]
      exact ⟨h1, h2, fun _ => he⟩
theorem rcNext_ok {r : Rc} (h : RcOk r) (c b : Nat) : RcOk (rcNext r c b) := by
  obtain ⟨h1, h2, h3, h4⟩ := rcLo_le h c b
  have := rcShift_ok 5 0 (rcLo r c b) (rcHi r c b) rfl h1 h2 (Nat.mod_one _) (Nat.mod_one _) (.inl rfl)
  exact ⟨fun i => rcUpd_lt h.p c b i, this.1, this.2.1, this.2.2 (fun h => by omega)⟩
/-! ### What the bytes of a coder say -/
def Bytes (l : List Nat) : Prop := ∀ x ∈ l, x < 256
theorem Bytes.get {l : List Nat} (h : Bytes l) (k : Nat) : l.getD k 0 < 256 := by
  by_cases hk : k < l.length
  · rw [List.getD_eq_getElem?_getD, List.getElem?_eq_getElem hk]; exact h _ (List.getElem_mem hk)
  · rw [List.getD_eq_getElem?_getD, List.getElem?_eq_none (by omega)]; simp
theorem Bytes.append {l m : List Nat} (h : Bytes l) (h' : Bytes m) : Bytes (l ++ m) := fun x hx => (List.mem_append.1 hx).elim (h x) (h' x)
theorem v4_cons {x : Nat} {l : List Nat} (h : Bytes l) : v4 (x :: l) = x * 16777216 + v4 l / 256 := by
  have h0 := h.get 0
  have h1 := h.get 1
  have h2 := h.get 2
  have h3 := h.get 3
  unfold v4
  simp only [List.getD_cons_zero, List.getD_cons_succ]
  omega
theorem v4_lt {l : List Nat} (h : Bytes l) : v4 l < 4294967296 := by
  have h0 := h.get 0
  have h1 := h.get 1
  have h2 := h.get 2
  have h3 := h.get 3
  unfold v4
  omega
/-- The next window. -/
theorem v4_tail {x : Nat} {l : List Nat} (hx : x < 256) (h : Bytes l) : v4 l = v4 (x :: l) * 256 % 4294967296 + (x :: l).getD 4 0 := by
  have h0 := h.get 0
  have h1 := h.get 1
  have h2 := h.get 2
  have h3 := h.get 3
  unfold v4
  rw [show List.getD (x :: l) 0 0 = x from rfl, show List.getD (x :: l) 1 0 = l.getD 0 0 from rfl, show List.getD (x :: l) 2 0 = l.getD 1 0 from rfl, show List.getD (x :: l) 3 0 = l.getD 2 0 from rfl, show List.getD (x :: l) 4 0 = l.getD 3 0 from rfl]
  omega
theorem v4_be4 {n : Nat} (h : n < 4294967296) : v4 (be4 n) = n := by
  unfold v4 be4
  simp
  omega
theorem be4_bytes (n : Nat) : Bytes (be4 n) := by
  intro x hx
  simp [be4] at hx
  rcases hx with rfl | rfl | rfl | rfl <;> omega
theorem rcShift_bytes (f : Nat) : ∀ lo hi : Nat, hi < 4294967296 → Bytes (rcShift f lo hi).1 := by
  induction f with
  | zero => intro lo hi h x hx; cases hx
  | succ f ih =>
    intro lo hi h
    by_cases he : lo / 16777216 = hi / 16777216
    · rw [rcShift_succ he]
      intro x hx
      rcases List.mem_cons.1 hx with rfl | hx
      · omega
      · exact ih _ _ (by omega) x hx
    · rw [rcShift_zero he]; intro x hx; cases hx
theorem rcShift_val (f : Nat) : ∀ (lo hi : Nat) (T : List Nat), lo ≤ hi → hi < 4294967296 → Bytes T → (rcShift f lo hi).2.1 ≤ v4 T → v4 T ≤ (rcShift f lo hi).2.2 → lo ≤ v4 ((rcShift f lo hi).1 ++ T) ∧ v4 ((rcShift f lo hi).1 ++ T) ≤ hi := by
  induction f with
  | zero => intro lo hi T h1 h2 h3 h4 h5; exact ⟨h4, h5⟩
  | succ f ih =>
    intro lo hi T h1 h2 h3 h4 h5
    by_cases he : lo / 16777216 = hi / 16777216
    · rw [rcShift_succ he] at h4 h5 ⊢
      have hb := (rcShift_bytes f (lo * 256 % 4294967296) (hi * 256 % 4294967296 + 255) (by omega)).append h3
      have := ih _ _ T (by omega) (by omega) h3 h4 h5
      simp only [List.cons_append]
      rw [v4_cons hb]
      omega
    · rw [rcShift_zero he] at h4 h5 ⊢; exact ⟨h4, h5⟩
theorem rcEnc_ok (l : List (Nat × Nat)) : ∀ r, RcOk r → (r.lo ≤ v4 (rcEnc r l) ∧ v4 (rcEnc r l) ≤ r.hi) ∧ 4 ≤ (rcEnc r l).length ∧ Bytes (rcEnc r l) := by
  induction l with
  | nil =>
    intro r h
    have := h.le
    have := h.hi
    exact ⟨by rw [show rcEnc r [] = be4 r.lo from rfl, v4_be4 (by omega)]; exact ⟨Nat.le_refl _, h.le⟩, by simp [rcEnc, be4], be4_bytes _⟩
  | cons q t ih =>
    obtain ⟨c, b⟩ := q
    intro r h
    obtain ⟨h1, h2, h3, h4⟩ := rcLo_le h c b
    obtain ⟨⟨i1, i2⟩, i3, i4⟩ := ih _ (rcNext_ok h c b)
    have := rcShift_val 5 (rcLo r c b) (rcHi r c b) _ h1 h2 i4 i1 i2
    rw [show rcEnc r ((c, b) :: t) = rcOut r c b ++ rcEnc (rcNext r c b) t from rfl]
    exact ⟨⟨Nat.le_trans h3 this.1, Nat.le_trans this.2 h4⟩, by rw [List.length_append]; omega, (rcShift_bytes 5 _ _ h2).append i4⟩
/-- The decoder's choice is the bit. -/
theorem rc_bit {r : Rc} (h : RcOk r) (c b : Nat) (hb : b = 0 ∨ b = 1) (t : List (Nat × Nat)) : (v4 (rcEnc r ((c, b) :: t)) ≤ rcMid r c) ↔ b = 1 := by
  obtain ⟨h1, h2, h3, h4⟩ := rcLo_le h c b
  obtain ⟨⟨i1, i2⟩, i3, i4⟩ := rcEnc_ok t _ (rcNext_ok h c b)
  have := rcShift_val 5 (rcLo r c b) (rcHi r c b) _ h1 h2 i4 i1 i2
  rw [show rcEnc r ((c, b) :: t) = (rcShift 5 (rcLo r c b) (rcHi r c b)).1 ++ rcEnc (rcNext r c b) t from rfl]
  rcases hb with rfl | rfl
  · have e : rcLo r c 0 = rcMid r c + 1 := rfl
    rw [e] at this
    exact ⟨fun h => absurd (Nat.lt_of_lt_of_le (Nat.lt_succ_self _) (Nat.le_trans this.1 h)) (Nat.lt_irrefl _), fun h => by cases h⟩
  · have e : rcHi r c 1 = rcMid r c := rfl
    rw [e] at this
    exact ⟨fun _ => rfl, fun _ => this.2⟩
/-! ### Bytes as bits with contexts -/
def ctx (x j : Nat) : Nat := 2 ^ j + x / 2 ^ (8 - j)
def bitAt (x j : Nat) : Nat := x / 2 ^ (7 - j) % 2
def bitsOf (x : Nat) : List (Nat × Nat) := (List.range 8).map fun j => (ctx x j, bitAt x j)
theorem bitAt_01 (x j : Nat) : bitAt x j = 0 ∨ bitAt x j = 1 := by unfold bitAt; omega
theorem ctx_zero {x : Nat} (h : x < 256) : ctx x 0 = 1 := by simp [ctx]; omega
theorem ctx_succ {x j : Nat} (hj : j < 8) : ctx x (j + 1) = 2 * ctx x j + bitAt x j := by
  have : j = 0 ∨ j = 1 ∨ j = 2 ∨ j = 3 ∨ j = 4 ∨ j = 5 ∨ j = 6 ∨ j = 7 := by omega
  unfold ctx bitAt
  rcases this with rfl | rfl | rfl | rfl | rfl | rfl | rfl | rfl <;> simp <;> omega
theorem ctx_eight (x : Nat) : ctx x 8 = 256 + x := by simp [ctx]
theorem ctx_lt {x j : Nat} (h : x < 256) (hj : j < 8) : ctx x j < 256 := by
  have : j = 0 ∨ j = 1 ∨ j = 2 ∨ j = 3 ∨ j = 4 ∨ j = 5 ∨ j = 6 ∨ j = 7 := by omega
  unfold ctx
  rcases this with rfl | rfl | rfl | rfl | rfl | rfl | rfl | rfl <;> simp <;> omega
def bitsL (l : List Nat) : List (Nat × Nat) := l.flatMap bitsOf
end Go.Proofs.Ytcniepogobgaoaa
