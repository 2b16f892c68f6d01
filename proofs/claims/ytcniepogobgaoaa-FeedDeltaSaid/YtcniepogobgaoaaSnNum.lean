/-
  Numbers of variable length read back, in plain Lean. No program in sight.
-/
import Derived.Test.YtcniepogobgaoaaSnDif
namespace Go.Proofs.Ytcniepogobgaoaa
set_option linter.unusedVariables false
set_option linter.unusedSimpArgs false

/-- 'number' from place i on, v having come: the number, the bytes left, the error (0: none, 7: short, 8: form). -/
def numG : Nat → Nat → List Int → Nat × List Int × Int
  | _, _, [] => (0, [], 7)
  | i, v, c :: t =>
    if (i = 9 ∧ 1 < c) ∨ (0 < i ∧ c = 0) then (0, c :: t, 8)
    else if c < 128 then (v + c.toNat * 128 ^ i, t, 0)
    else numG (i + 1) (v + (c % 128).toNat * 128 ^ i) t
def numD (b : List Int) : Nat × List Int × Int := numG 0 0 b
abbrev IsB (b : List Int) : Prop := ∀ c ∈ b, 0 ≤ c ∧ c < 256
theorem enc_ne (n : Nat) : enc n ≠ [] := by
  by_cases h : n < 128
  · rw [enc_small h]; simp
  · rw [enc_big h]; simp
theorem enc_isB (n : Nat) : IsB (enc n) := by
  induction n using Nat.strongRecOn with
  | ind n ih =>
    by_cases h : n < 128
    · rw [enc_small h]; intro c hc; simp at hc; omega
    · rw [enc_big h]
      intro c hc
      rcases List.mem_cons.1 hc with rfl | hc
      · omega
      · exact ih (n / 128) (by omega) c hc
theorem pow128 (i : Nat) : 128 ^ (i + 1) = 128 * 128 ^ i := by rw [Nat.pow_succ, Nat.mul_comm]
theorem pow_le9 {i : Nat} (h : i ≤ 9) : 128 ^ i ≤ 9223372036854775808 := by
  have : 128 ^ i ≤ 128 ^ 9 := Nat.pow_le_pow_right (by omega) h
  simpa using this
/-- A number written and read back, whatever follows. -/
theorem numG_enc : ∀ (k i v x : Nat) (t : List Int), k = 9 - i → i ≤ 9 → x * 128 ^ i < 18446744073709551616 → (0 < i → 0 < x) → numG i v (enc x ++ t) = (v + x * 128 ^ i, t, 0) := by
  intro k
  induction k with
  | zero =>
    intro i v x t hk hi hx h0
    obtain rfl : i = 9 := by omega
    have hx1 : x ≤ 1 := by simp at hx; omega
    have hx0 := h0 (by omega)
    obtain rfl : x = 1 := by omega
    rw [enc_small (by omega)]
    simp [numG]
  | succ k ih =>
    intro i v x t hk hi hx h0
    by_cases h : x < 128
    · rw [enc_small h]
      have h1 : ¬ ((i = 9 ∧ 1 < (x : Int)) ∨ (0 < i ∧ (x : Int) = 0)) := by
        rintro (⟨h1, h2⟩ | ⟨h1, h2⟩)
        · omega
        · have := h0 h1; omega
      have h2 : (x : Int) < 128 := by omega
      simp only [List.singleton_append, numG]
      rw [if_neg h1, if_pos h2]; simp
    · rw [enc_big h]
      have h1 : ¬ ((i = 9 ∧ 1 < ((x % 128 + 128 : Nat) : Int)) ∨ (0 < i ∧ ((x % 128 + 128 : Nat) : Int) = 0)) := by omega
      have h2 : ¬ ((x % 128 + 128 : Nat) : Int) < 128 := by omega
      simp only [List.cons_append, numG]
      rw [if_neg h1, if_neg h2]
      have h3 : (((x % 128 + 128 : Nat) : Int) % 128).toNat = x % 128 := by omega
      have h4 : x / 128 * 128 ^ (i + 1) + x % 128 * 128 ^ i = x * 128 ^ i := by
        rw [pow128, ← Nat.mul_assoc, ← Nat.add_mul, Nat.mul_comm (x / 128)]
        rw [Nat.div_add_mod]
      rw [h3, ih (i + 1) _ (x / 128) t (by omega) (by omega) (by omega) (fun _ => by omega)]
      congr 1
      omega
theorem numD_enc {x : Nat} (t : List Int) (h : x < 18446744073709551616) : numD (enc x ++ t) = (x, t, 0) := by
  unfold numD
  rw [numG_enc 9 0 0 x t rfl (by omega) (by simpa using h) (by omega)]
  simp
theorem key8 (x z K : Nat) (hK : K = 72057594037927936) (h1 : x * 128 * K < 18446744073709551616) (h2 : z * K < 128 * K) : x * 128 * K + z * K < 18446744073709551616 := by
  have h3 : z < 128 := Nat.lt_of_mul_lt_mul_right h2
  have h4 : x * 128 < 256 := Nat.lt_of_mul_lt_mul_right (a := K) (by rw [show 256 * K = 18446744073709551616 from by rw [hK]]; exact h1)
  have h5 : x * 128 + z ≤ 255 := by omega
  rw [← Nat.add_mul]
  exact Nat.lt_of_le_of_lt (Nat.mul_le_mul_right K h5) (by rw [hK]; decide)
/-- What reads without an error was written so. -/
theorem numG_inv : ∀ (b : List Int) (i v y : Nat) (t : List Int), IsB b → i ≤ 9 → numG i v b = (y, t, 0) → ∃ x, b = enc x ++ t ∧ y = v + x * 128 ^ i ∧ x * 128 ^ i < 18446744073709551616 ∧ (0 < i → 0 < x) := by
  intro b
  induction b with
  | nil => intro i v y t _ _ h; simp [numG] at h
  | cons c b ih =>
    intro i v y t hb hi h
    have hc := hb c (List.mem_cons_self ..)
    have hp := pow_le9 hi
    rw [numG] at h
    split at h
    · injection h with _ h; injection h with _ h; cases h
    · rename_i hn
      split at h
      · rename_i hc2
        injection h with h1 h2
        injection h2 with h2 _
        subst h2
        refine ⟨c.toNat, ?_, h1.symm, ?_, fun h => ?_⟩
        · rw [enc_small (by omega)]; simp; omega
        · by_cases h9 : i = 9
          · subst h9
            have : c.toNat ≤ 1 := by have := fun h => hn (.inl ⟨rfl, h⟩); omega
            have := Nat.mul_le_mul_right (128 ^ 9) this
            simp at this ⊢; omega
          · have h8 : 128 ^ i ≤ 128 ^ 8 := Nat.pow_le_pow_right (by omega) (by omega)
            have := Nat.mul_le_mul (show c.toNat ≤ 128 by omega) h8
            simp at this ⊢; omega
        · have := fun h' => hn (.inr ⟨h, h'⟩); omega
      · rename_i hc2
        have h9 : i ≠ 9 := fun h9 => hn (.inl ⟨h9, by omega⟩)
        obtain ⟨x, e1, e2, e3, e4⟩ := ih (i + 1) _ y t (fun z hz => hb z (List.mem_cons_of_mem _ hz)) (by omega) h
        have hx := e4 (by omega)
        have h128 : 128 ≤ x * 128 + (c % 128).toNat := by omega
        refine ⟨x * 128 + (c % 128).toNat, ?_, ?_, ?_, fun _ => by omega⟩
        · rw [enc_big (by omega), e1]
          have : ((x * 128 + (c % 128).toNat) % 128 + 128 : Nat) = c.toNat := by omega
          rw [this, show (x * 128 + (c % 128).toNat) / 128 = x from by omega]
          simp; omega
        · rw [e2, pow128, Nat.add_mul, Nat.mul_assoc]; omega
        · rw [pow128, ← Nat.mul_assoc] at e3
          have h7 : (c % 128).toNat * 128 ^ i < 128 * 128 ^ i := by
            apply Nat.mul_lt_mul_of_pos_right (by omega)
            exact Nat.pow_pos (by omega)
          rw [Nat.add_mul]
          by_cases h8 : i = 8
          · subst h8
            exact key8 _ _ _ rfl e3 h7
          · have key : ∀ j : Nat, j ≤ 7 → ∀ x : Nat, x * 128 * 128 ^ j < 18446744073709551616 → x * 128 * 128 ^ j + 128 * 128 ^ j ≤ 18446744073709551616 := by
              intro j hj x
              match j, hj with
              | 0, _ => simp; omega
              | 1, _ => simp; omega
              | 2, _ => simp; omega
              | 3, _ => simp; omega
              | 4, _ => simp; omega
              | 5, _ => simp; omega
              | 6, _ => simp; omega
              | 7, _ => simp; omega
            have := key i (by omega) x e3
            omega
theorem numD_inv {b : List Int} {y : Nat} {t : List Int} (hb : IsB b) (h : numD b = (y, t, 0)) : b = enc y ++ t ∧ y < 18446744073709551616 := by
  obtain ⟨x, e1, e2, e3, _⟩ := numG_inv b 0 0 y t hb (by omega) h
  simp at e2 e3
  subst e2
  exact ⟨e1, e3⟩
/-- A proper prefix of a number is too short. -/
theorem numG_short : ∀ (k i v x m : Nat), k = 9 - i → i ≤ 9 → x * 128 ^ i < 18446744073709551616 → (0 < i → 0 < x) → m < (enc x).length → numG i v ((enc x).take m) = (0, [], 7) := by
  intro k
  induction k with
  | zero =>
    intro i v x m hk hi hx h0 hm
    obtain rfl : i = 9 := by omega
    have hx1 : x ≤ 1 := by simp at hx; omega
    rw [enc_small (by omega)] at hm ⊢
    simp at hm
    subst hm
    simp [numG]
  | succ k ih =>
    intro i v x m hk hi hx h0 hm
    by_cases h : x < 128
    · rw [enc_small h] at hm ⊢
      simp at hm
      subst hm
      simp [numG]
    · rw [enc_big h] at hm ⊢
      match m, hm with
      | 0, _ => simp [numG]
      | m + 1, hm =>
        have h1 : ¬ ((i = 9 ∧ 1 < ((x % 128 + 128 : Nat) : Int)) ∨ (0 < i ∧ ((x % 128 + 128 : Nat) : Int) = 0)) := by omega
        have h2 : ¬ ((x % 128 + 128 : Nat) : Int) < 128 := by omega
        simp only [List.take_succ_cons, numG]
        rw [if_neg h1, if_neg h2]
        have h4 : x / 128 * 128 ^ (i + 1) ≤ x * 128 ^ i := by
          rw [pow128, ← Nat.mul_assoc]
          exact Nat.mul_le_mul_right _ (by omega)
        exact ih (i + 1) _ (x / 128) m (by omega) (by omega) (by omega) (fun _ => by omega) (by simpa using hm)
theorem numD_short {x m : Nat} (h : x < 18446744073709551616) (hm : m < (enc x).length) : numD ((enc x).take m) = (0, [], 7) :=
  numG_short 9 0 0 x m rfl (by omega) (by simpa using h) (by omega) hm
end Go.Proofs.Ytcniepogobgaoaa
