/-
  Apply in plain Lean: the reader, the two loops. No program in sight.
-/
import Derived.Test.YtcniepogobgaoaaSnNum
namespace Go.Proofs.Ytcniepogobgaoaa
set_option linter.unusedVariables false
set_option linter.unusedSimpArgs false

/-- The reader's 'number': nothing once an error stands. -/
def numR (b : List Int) (e : Int) : Nat × List Int × Int := if e = 0 then numD b else (0, b, e)
/-- The reader's 'fail'. -/
def failR (e : Int) (is : Bool) (c : Int) : Int := if is = true ∧ e = 0 then c else e
/-- The reader's 'index'. -/
def idxR (next : Int) (b : List Int) (e : Int) : Int × List Int × Int :=
  (next + ((numR b e).1 : Int) % 2147483648, (numR b e).2.1, failR (numR b e).2.2 (decide (2147483647 < (numR b e).1) || decide (2147483647 < next + ((numR b e).1 : Int))) 8)
structure St1 where
  b : List Int
  e : Int
  next : Int
  gone : List Int
def step1 (old : Vw) (s : St1) : St1 :=
  let r := idxR s.next s.b s.e
  ⟨r.2.1, failR r.2.2 (findD old r.1).isNone 8, r.1 + 1, s.gone ++ [r.1]⟩
def loop1 (old : Vw) : Nat → St1 → St1
  | 0, s => s
  | n + 1, s => if s.e = 0 then loop1 old n (step1 old s) else s
/-- The number with a zigzag form. -/
def back (z : Nat) : Int := if z % 2 = 1 then -((z / 2 : Nat) : Int) - 1 else ((z / 2 : Nat) : Int)
structure St2 where
  b : List Int
  e : Int
  next : Int
  ch : Vw
def step2 (old : Vw) (gone : List Int) (s : St2) : St2 :=
  let r := idxR s.next s.b s.e
  let e2 := failR r.2.2 (decide (r.1 ∈ gone)) 8
  let q := numR r.2.1 e2
  ⟨q.2.1, failR q.2.2 ((findD old r.1).isSome && q.1 == 0) 8, r.1 + 1, s.ch ++ [(r.1, w64 ((findD old r.1).getD 0 + back q.1))]⟩
def loop2 (old : Vw) (gone : List Int) : Nat → St2 → St2
  | 0, s => s
  | n + 1, s => if s.e = 0 then loop2 old gone n (step2 old gone s) else s
/-- The first loop, the second, the last error. -/
def run1 (old : Vw) (d : List Int) : St1 := loop1 old (numR d 0).1 ⟨(numR d 0).2.1, (numR d 0).2.2, 0, []⟩
def run2 (old : Vw) (d : List Int) : St2 :=
  let s := run1 old d
  let r := numR s.b s.e
  loop2 old s.gone r.1 ⟨r.2.1, r.2.2, 0, []⟩
def errA (old : Vw) (d : List Int) : Int := failR (run2 old d).e (decide ((run2 old d).b ≠ [])) 8
/-- The view that is handed back. -/
structure IsApp (old : Vw) (gone : List Int) (ch x : Vw) : Prop where
  up : x.Pairwise fun p q => p.1 < q.1
  at_ : ∀ i, findD x i = match findD ch i with | some v => some v | none => if i ∈ gone then none else findD old i

theorem numG_len : ∀ (b : List Int) (i v y : Nat) (t : List Int) (e : Int), numG i v b = (y, t, e) → t.length ≤ b.length ∧ (e = 0 → t.length < b.length) ∧ (e = 0 ∨ e = 7 ∨ e = 8) ∧ (e ≠ 0 → y = 0) := by
  intro b
  induction b with
  | nil => intro i v y t e h; simp [numG] at h; obtain ⟨rfl, rfl, rfl⟩ := h; simp
  | cons c b ih =>
    intro i v y t e h
    rw [numG] at h
    split at h
    · simp at h; obtain ⟨rfl, rfl, rfl⟩ := h; simp
    · split at h
      · simp at h; obtain ⟨rfl, rfl, rfl⟩ := h; simp
      · obtain ⟨h1, h2, h3, h4⟩ := ih _ _ _ _ _ h
        refine ⟨by simp; omega, fun h => by have := h2 h; simp; omega, h3, h4⟩
theorem numR_len {b : List Int} {e : Int} (he : e = 0 ∨ e = 7 ∨ e = 8) : (numR b e).2.1.length ≤ b.length ∧ ((numR b e).2.2 = 0 → (numR b e).2.1.length < b.length ∧ e = 0) ∧ ((numR b e).2.2 = 0 ∨ (numR b e).2.2 = 7 ∨ (numR b e).2.2 = 8) ∧ ((numR b e).2.2 ≠ 0 → (numR b e).1 = 0) := by
  unfold numR
  split
  · rename_i h
    obtain ⟨h1, h2, h3, h4⟩ := numG_len b 0 0 (numD b).1 (numD b).2.1 (numD b).2.2 rfl
    exact ⟨h1, fun hh => ⟨h2 hh, h⟩, h3, h4⟩
  · rename_i h
    exact ⟨Nat.le_refl _, fun hh => absurd hh h, he, fun _ => rfl⟩
theorem failR_err {e : Int} {is : Bool} {c : Int} : failR e is c = 0 → c ≠ 0 → e = 0 ∧ is = false := by
  unfold failR
  intro h hc
  split at h
  · exact absurd h hc
  · rename_i hn
    refine ⟨h, ?_⟩
    cases is
    · rfl
    · exact absurd ⟨rfl, h⟩ hn
theorem failR_in {e : Int} {is : Bool} (he : e = 0 ∨ e = 7 ∨ e = 8) : failR e is 8 = 0 ∨ failR e is 8 = 7 ∨ failR e is 8 = 8 := by
  unfold failR; split
  · exact .inr (.inr rfl)
  · exact he
theorem key9 (v c K : Nat) (hK : K + K = 18446744073709551616) (hv : v < K) (hc : c ≤ 1) : v + c * K < 18446744073709551616 := by
  have : c * K ≤ 1 * K := Nat.mul_le_mul_right K hc
  omega
theorem numG_lt : ∀ (b : List Int) (i v y : Nat) (t : List Int) (e : Int), IsB b → i ≤ 9 → v < 128 ^ i → numG i v b = (y, t, e) → y < 18446744073709551616 := by
  intro b
  induction b with
  | nil => intro i v y t e _ _ _ h; simp [numG] at h; omega
  | cons c b ih =>
    intro i v y t e hb hi hv h
    have hc := hb c (List.mem_cons_self ..)
    rw [numG] at h
    split at h
    · simp at h; omega
    · rename_i hn
      have hp : v + (c % 128).toNat * 128 ^ i < 128 ^ (i + 1) := by
        have h1 : (c % 128).toNat ≤ 127 := by omega
        have := Nat.mul_le_mul_right (128 ^ i) h1
        rw [pow128]; omega
      split at h
      · rename_i hc2
        simp at h
        obtain ⟨rfl, _, _⟩ := h
        by_cases h9 : i = 9
        · subst h9
          have h1 : c.toNat ≤ 1 := by have := fun h => hn (.inl ⟨rfl, h⟩); omega
          exact key9 _ _ _ rfl hv h1
        · have h8 : 128 ^ (i + 1) ≤ 128 ^ 9 := Nat.pow_le_pow_right (by omega) (by omega)
          rw [show (128 : Nat) ^ 9 = 9223372036854775808 from rfl] at h8
          have e1 : (c % 128).toNat = c.toNat := by omega
          rw [e1] at hp
          omega
      · have h9 : i ≠ 9 := fun h9 => hn (.inl ⟨h9, by omega⟩)
        exact ih (i + 1) _ y t e (fun z hz => hb z (List.mem_cons_of_mem _ hz)) (by omega) hp h
theorem numR_lt {b : List Int} {e : Int} (hb : IsB b) : (numR b e).1 < 18446744073709551616 := by
  unfold numR
  split
  · exact numG_lt b 0 0 (numD b).1 (numD b).2.1 (numD b).2.2 hb (by omega) (by omega) rfl
  · show 0 < _; omega
theorem numG_suf : ∀ (b : List Int) (i v y : Nat) (t : List Int) (e : Int), numG i v b = (y, t, e) → t <:+ b := by
  intro b
  induction b with
  | nil => intro i v y t e h; simp [numG] at h; rw [h.2.1]; exact List.suffix_refl _
  | cons c b ih =>
    intro i v y t e h
    rw [numG] at h
    split at h
    · simp at h; rw [← h.2.1]; exact List.suffix_refl _
    · split at h
      · simp at h; rw [← h.2.1]; exact List.suffix_cons _ _
      · exact (ih _ _ _ _ _ h).trans (List.suffix_cons _ _)
theorem numR_isB {b : List Int} {e : Int} (hb : IsB b) : IsB (numR b e).2.1 := by
  unfold numR
  split
  · exact fun c hc => hb c ((numG_suf b 0 0 (numD b).1 (numD b).2.1 (numD b).2.2 rfl).subset hc)
  · exact hb

abbrev IsE (e : Int) : Prop := e = 0 ∨ e = 7 ∨ e = 8
theorem idxR_facts {next : Int} {b : List Int} {e : Int} (hb : IsB b) (he : IsE e) (h0 : 0 ≤ next) {i : Int} {b' : List Int} {e' : Int} (h : idxR next b e = (i, b', e')) :
    next ≤ i ∧ i < next + 2147483648 ∧ IsB b' ∧ IsE e' ∧ b'.length ≤ b.length ∧ (e' = 0 → b'.length < b.length ∧ i ≤ 2147483647 ∧ e = 0) := by
  have hl := numR_len (b := b) he
  have hbb := numR_isB (e := e) hb
  unfold idxR at h
  have h1 : next + ((numR b e).1 : Int) % 2147483648 = i := congrArg Prod.fst h
  have h2 : (numR b e).2.1 = b' := congrArg (fun p => p.2.1) h
  have h3 : failR (numR b e).2.2 (decide (2147483647 < (numR b e).1) || decide (2147483647 < next + ((numR b e).1 : Int))) 8 = e' := congrArg (fun p => p.2.2) h
  refine ⟨by omega, by omega, h2 ▸ hbb, h3 ▸ failR_in hl.2.2.1, h2 ▸ hl.1, fun hz => ?_⟩
  rw [← h3] at hz
  obtain ⟨h4, h5⟩ := failR_err hz (by decide)
  obtain ⟨h6, h7⟩ := hl.2.1 h4
  rw [Bool.or_eq_false_iff, decide_eq_false_iff_not, decide_eq_false_iff_not] at h5
  exact ⟨h2 ▸ h6, by omega, h7⟩
structure Inv1 (L : Nat) (s : St1) : Prop where
  isb : IsB s.b
  ise : IsE s.e
  lo : 0 ≤ s.next
  hi : s.next ≤ 4294967296
  hi0 : s.e = 0 → s.next ≤ 2147483648
  len : s.gone.length + s.b.length ≤ L + 1
  len0 : s.e = 0 → s.gone.length + s.b.length ≤ L
theorem Inv1.step {L : Nat} {s : St1} (h : Inv1 L s) (he : s.e = 0) (old : Vw) : Inv1 L (step1 old s) := by
  obtain ⟨f1, f2, f3, f4, f5, f6⟩ := idxR_facts h.isb h.ise h.lo (i := (idxR s.next s.b s.e).1) (b' := (idxR s.next s.b s.e).2.1) (e' := (idxR s.next s.b s.e).2.2) rfl
  have hh := h.hi0 he
  have hl := h.len0 he
  refine ⟨f3, failR_in f4, ?_, ?_, fun hz => ?_, ?_, fun hz => ?_⟩
  · show 0 ≤ (idxR s.next s.b s.e).1 + 1; have := h.lo; omega
  · show (idxR s.next s.b s.e).1 + 1 ≤ _; omega
  · have := (f6 (failR_err hz (by decide)).1).2.1
    show (idxR s.next s.b s.e).1 + 1 ≤ _; omega
  · show (s.gone ++ [_]).length + (idxR s.next s.b s.e).2.1.length ≤ _
    rw [List.length_append, List.length_singleton]; omega
  · have := (f6 (failR_err hz (by decide)).1).1
    show (s.gone ++ [_]).length + (idxR s.next s.b s.e).2.1.length ≤ _
    rw [List.length_append, List.length_singleton]; omega
structure Inv2 (L : Nat) (s : St2) : Prop where
  isb : IsB s.b
  ise : IsE s.e
  lo : 0 ≤ s.next
  hi : s.next ≤ 4294967296
  hi0 : s.e = 0 → s.next ≤ 2147483648
  len : s.ch.length + s.b.length ≤ L + 1
  len0 : s.e = 0 → s.ch.length + s.b.length ≤ L
  keys : ∀ p ∈ s.ch, 0 ≤ p.1 ∧ p.1 < s.next
  vals : ∀ p ∈ s.ch, -9223372036854775808 ≤ p.2 ∧ p.2 ≤ 9223372036854775807
  up : s.ch.Pairwise fun p q => p.1 < q.1
theorem Inv2.step {L : Nat} {s : St2} (h : Inv2 L s) (he : s.e = 0) (old : Vw) (gone : List Int) : Inv2 L (step2 old gone s) := by
  obtain ⟨f1, f2, f3, f4, f5, f6⟩ := idxR_facts h.isb h.ise h.lo (i := (idxR s.next s.b s.e).1) (b' := (idxR s.next s.b s.e).2.1) (e' := (idxR s.next s.b s.e).2.2) rfl
  have hh := h.hi0 he
  have hl := h.len0 he
  have g := numR_len (b := (idxR s.next s.b s.e).2.1) (e := failR (idxR s.next s.b s.e).2.2 (decide ((idxR s.next s.b s.e).1 ∈ gone)) 8) (failR_in f4)
  have gb := numR_isB (b := (idxR s.next s.b s.e).2.1) (e := failR (idxR s.next s.b s.e).2.2 (decide ((idxR s.next s.b s.e).1 ∈ gone)) 8) f3
  refine ⟨gb, failR_in g.2.2.1, ?_, ?_, fun hz => ?_, ?_, fun hz => ?_, fun p hp => ?_, fun p hp => ?_, ?_⟩
  · show 0 ≤ (idxR s.next s.b s.e).1 + 1; have := h.lo; omega
  · show (idxR s.next s.b s.e).1 + 1 ≤ _; omega
  · have h1 := (g.2.1 (failR_err hz (by decide)).1).2
    have := (f6 (failR_err h1 (by decide)).1).2.1
    show (idxR s.next s.b s.e).1 + 1 ≤ _; omega
  · show (s.ch ++ [_]).length + (numR _ _).2.1.length ≤ _
    rw [List.length_append, List.length_singleton]; have := g.1; omega
  · obtain ⟨h0, h1⟩ := g.2.1 (failR_err hz (by decide)).1
    have := (f6 (failR_err h1 (by decide)).1).1
    show (s.ch ++ [_]).length + (numR _ _).2.1.length ≤ _
    rw [List.length_append, List.length_singleton]; omega
  · show _ ∧ p.1 < (idxR s.next s.b s.e).1 + 1
    rcases List.mem_append.1 hp with hp | hp
    · have := h.keys p hp; omega
    · rw [List.mem_singleton] at hp
      subst hp
      have := h.lo
      refine ⟨?_, ?_⟩
      · show 0 ≤ (idxR s.next s.b s.e).1; omega
      · show (idxR s.next s.b s.e).1 < _; omega
  · rcases List.mem_append.1 hp with hp | hp
    · exact h.vals p hp
    · rw [List.mem_singleton] at hp
      subst hp
      exact w64_bd _
  · show (s.ch ++ [_]).Pairwise _
    rw [List.pairwise_append]
    refine ⟨h.up, by simp, fun p hp q hq => ?_⟩
    rw [List.mem_singleton] at hq
    subst hq
    have := (h.keys p hp).2
    show p.1 < (idxR s.next s.b s.e).1
    omega
theorem loop1_stop {old : Vw} {n : Nat} {s : St1} (h : n = 0 ∨ s.e ≠ 0) : loop1 old n s = s := by
  cases n with
  | zero => rfl
  | succ n => rw [loop1, if_neg (by rcases h with h | h; omega; exact h)]
theorem loop2_stop {old : Vw} {g : List Int} {n : Nat} {s : St2} (h : n = 0 ∨ s.e ≠ 0) : loop2 old g n s = s := by
  cases n with
  | zero => rfl
  | succ n => rw [loop2, if_neg (by rcases h with h | h; omega; exact h)]
end Go.Proofs.Ytcniepogobgaoaa
