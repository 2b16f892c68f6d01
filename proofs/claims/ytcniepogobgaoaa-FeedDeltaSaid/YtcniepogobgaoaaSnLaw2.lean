/-
  Differences in plain Lean, on: prefixes are too short; what reads without an error was written so. No program in sight.
-/
import Derived.Test.YtcniepogobgaoaaSnLaw
namespace Go.Proofs.Ytcniepogobgaoaa
set_option linter.unusedVariables false
set_option linter.unusedSimpArgs false

theorem numR_short {x m : Nat} (h : x < 18446744073709551616) (hm : m < (enc x).length) : numR ((enc x).take m) 0 = (0, [], 7) := by
  unfold numR; rw [if_pos rfl]; exact numD_short h hm
theorem take_app {a b : List Int} {m : Nat} : (m < a.length ∧ (a ++ b).take m = a.take m) ∨ (a.length ≤ m ∧ (a ++ b).take m = a ++ b.take (m - a.length)) := by
  rcases Nat.lt_or_ge m a.length with h | h
  · left; exact ⟨h, List.take_append_of_le_length (by omega)⟩
  · right; refine ⟨h, ?_⟩
    rw [List.take_append, List.take_of_length_le h]
theorem idxR_short {next : Int} {b : List Int} (h : numR b 0 = (0, [], 7)) : idxR next b 0 = (next, [], 7) := by
  unfold idxR
  rw [h]
  simp [failR]
theorem loop1_short (old : Vw) : ∀ (G : List Int) (next : Int) (pre : List Int) (m : Nat), 0 ≤ next → G.Pairwise (· < ·) → (∀ g ∈ G, next ≤ g ∧ g ≤ 2147483647 ∧ (findD old g).isSome = true) → m < (gapsB (next - 1) G).length →
    (loop1 old G.length ⟨(gapsB (next - 1) G).take m, 0, next, pre⟩).e = 7 := by
  intro G
  induction G with
  | nil => intro next pre m _ _ _ hm; simp [gapsB] at hm
  | cons g t ih =>
    intro next pre m h0 hp hg hm
    obtain ⟨p1, p2⟩ := List.pairwise_cons.1 hp
    obtain ⟨g1, g2, g3⟩ := hg g (List.mem_cons_self ..)
    have e : gapsB (next - 1) (g :: t) = enc (g - next).toNat ++ gapsB (g + 1 - 1) t := by
      rw [gapsB, show g - (next - 1) - 1 = g - next from by omega, show g + 1 - 1 = g from by omega]
    rw [e] at hm ⊢
    rw [List.length_cons, loop1, if_pos rfl]
    rcases take_app (a := enc (g - next).toNat) (b := gapsB (g + 1 - 1) t) (m := m) with ⟨h1, h2⟩ | ⟨h1, h2⟩
    · rw [h2]
      have hs := idxR_short (next := next) (numR_short (x := (g - next).toNat) (by omega) h1)
      have he : (step1 old ⟨(enc (g - next).toNat).take m, 0, next, pre⟩).e = 7 := by
        unfold step1; simp only [hs]; simp [failR]
      rw [loop1_stop (.inr (by rw [he]; omega)), he]
    · rw [h2]
      have hs : step1 old ⟨enc (g - next).toNat ++ (gapsB (g + 1 - 1) t).take (m - (enc (g - next).toNat).length), 0, next, pre⟩ = ⟨(gapsB (g + 1 - 1) t).take (m - (enc (g - next).toNat).length), 0, g + 1, pre ++ [g]⟩ := by
        unfold step1
        simp only [idxR_enc h0 g1 g2]
        have e2 : failR 0 (findD old g).isNone 8 = 0 := by unfold failR; rw [if_neg]; rintro ⟨h, _⟩; rw [Option.isNone_iff_eq_none] at h; rw [h] at g3; cases g3
        rw [e2]
      rw [hs]
      rw [List.length_append] at hm
      exact ih (g + 1) _ _ (by omega) p2 (fun y hy => ⟨by have := p1 y hy; omega, (hg y (List.mem_cons_of_mem _ hy)).2⟩) (by omega)
theorem loop2_short (old : Vw) (G : List Int) : ∀ (S : Vw) (next : Int) (pre : Vw) (m : Nat), 0 ≤ next → Up S → (∀ p ∈ S, next ≤ p.1 ∧ p.1 ≤ 2147483647 ∧ p.1 ∉ G ∧ findD old p.1 ≠ some p.2 ∧ -9223372036854775808 ≤ p.2 ∧ p.2 ≤ 9223372036854775807) → BdV old → m < (setB old (next - 1) S).length →
    (loop2 old G S.length ⟨(setB old (next - 1) S).take m, 0, next, pre⟩).e = 7 := by
  intro S
  induction S with
  | nil => intro next pre m _ _ _ _ hm; simp [setB] at hm
  | cons p t ih =>
    intro next pre m h0 hp hg hold hm
    obtain ⟨p1, p2⟩ := up_cons hp
    obtain ⟨g1, g2, g3, g4, g5, g6⟩ := hg p (List.mem_cons_self ..)
    obtain ⟨v, hv⟩ : ∃ v, v = (findD old p.1).getD 0 := ⟨_, rfl⟩
    have hd := w64_bd (p.2 - v)
    have hzl := zig_lt hd.1 hd.2
    have e : setB old (next - 1) (p :: t) = enc (p.1 - next).toNat ++ (enc (zig (w64 (p.2 - v))) ++ setB old (p.1 + 1 - 1) t) := by
      rw [setB, ← hv, List.append_assoc, show p.1 - (next - 1) - 1 = p.1 - next from by omega, show p.1 + 1 - 1 = p.1 from by omega]
    have e2 : failR 0 (decide (p.1 ∈ G)) 8 = 0 := by unfold failR; rw [if_neg]; rintro ⟨h, _⟩; exact g3 (of_decide_eq_true h)
    rw [e] at hm ⊢
    rw [List.length_cons, loop2, if_pos rfl]
    rcases take_app (a := enc (p.1 - next).toNat) (b := enc (zig (w64 (p.2 - v))) ++ setB old (p.1 + 1 - 1) t) (m := m) with ⟨h1, h2⟩ | ⟨h1, h2⟩
    · rw [h2]
      have hs := idxR_short (next := next) (numR_short (x := (p.1 - next).toNat) (by omega) h1)
      have he : (step2 old G ⟨(enc (p.1 - next).toNat).take m, 0, next, pre⟩).e = 7 := by
        unfold step2; simp only [hs]; simp [failR, numR]
      rw [loop2_stop (.inr (by rw [he]; omega)), he]
    · rw [h2]
      rcases take_app (a := enc (zig (w64 (p.2 - v)))) (b := setB old (p.1 + 1 - 1) t) (m := m - (enc (p.1 - next).toNat).length) with ⟨h3, h4⟩ | ⟨h3, h4⟩
      · rw [h4]
        have he : (step2 old G ⟨enc (p.1 - next).toNat ++ (enc (zig (w64 (p.2 - v)))).take (m - (enc (p.1 - next).toNat).length), 0, next, pre⟩).e = 7 := by
          unfold step2
          simp only [idxR_enc h0 g1 g2, e2, numR_short hzl h3]
          simp [failR]
        rw [loop2_stop (.inr (by rw [he]; omega)), he]
      · rw [h4]
        -- this entry is whole: the step as in the writing
        obtain ⟨R, hR⟩ : ∃ R, R = (setB old (p.1 + 1 - 1) t).take (m - (enc (p.1 - next).toNat).length - (enc (zig (w64 (p.2 - v)))).length) := ⟨_, rfl⟩
        have hs : step2 old G ⟨enc (p.1 - next).toNat ++ (enc (zig (w64 (p.2 - v))) ++ R), 0, next, pre⟩ = ⟨R, 0, p.1 + 1, pre ++ [p]⟩ := by
          obtain ⟨nx, hnx⟩ := loop2_write old G [p] next pre R h0 (List.pairwise_singleton _ _) (fun q hq => by rw [List.mem_singleton] at hq; subst hq; exact ⟨g1, g2, g3, g4, g5, g6⟩) hold
          have e3 : setB old (next - 1) [p] ++ R = enc (p.1 - next).toNat ++ (enc (zig (w64 (p.2 - v))) ++ R) := by
            rw [setB, setB, ← hv, List.append_nil, List.append_assoc, show p.1 - (next - 1) - 1 = p.1 - next from by omega]
          rw [e3, List.length_singleton, loop2, if_pos rfl] at hnx
          have hn : (step2 old G ⟨enc (p.1 - next).toNat ++ (enc (zig (w64 (p.2 - v))) ++ R), 0, next, pre⟩).next = p.1 + 1 := by
            unfold step2; simp only [idxR_enc h0 g1 g2]
          have h0' : loop2 old G 0 (step2 old G ⟨enc (p.1 - next).toNat ++ (enc (zig (w64 (p.2 - v))) ++ R), 0, next, pre⟩) = step2 old G ⟨enc (p.1 - next).toNat ++ (enc (zig (w64 (p.2 - v))) ++ R), 0, next, pre⟩ := rfl
          rw [h0'] at hnx
          rw [hnx] at hn
          have hn' : nx = p.1 + 1 := hn
          rw [hnx, hn']
        rw [← hR, hs, hR]
        rw [List.length_append, List.length_append] at hm
        exact ih (p.1 + 1) _ _ (by omega) p2 (fun y hy => ⟨by have := p1 y hy; omega, (hg y (List.mem_cons_of_mem _ hy)).2⟩) hold (by omega)
/-- A proper prefix of a difference is too short. -/
theorem dif_short {old new : Vw} (ho : IsV old) (hn : IsV new) (hl : old.length < 1000000) (hl2 : new.length < 1000000) {k : Nat} (hk : k < (difD old new).length) : errA old ((difD old new).take k) = 7 := by
  have hgl : (goneD old new).length < 1000000 := Nat.lt_of_le_of_lt (goneD_len old new) hl
  have hsl : (setD old new).length < 1000000 := Nat.lt_of_le_of_lt (setD_len old new) hl2
  obtain ⟨hg1, hg2⟩ := goneD_up ho new
  have hgg : ∀ g ∈ goneD old new, (0 : Int) ≤ g ∧ g ≤ 2147483647 ∧ (findD old g).isSome = true := fun g hg => ⟨(hg2 g hg).1, (hg2 g hg).2, (goneD_mem.1 hg).1⟩
  have hss : ∀ p ∈ setD old new, (0 : Int) ≤ p.1 ∧ p.1 ≤ 2147483647 ∧ p.1 ∉ goneD old new ∧ findD old p.1 ≠ some p.2 ∧ -9223372036854775808 ≤ p.2 ∧ p.2 ≤ 9223372036854775807 := fun p hp => by
    obtain ⟨h3, h4⟩ := setD_mem.1 hp
    have hb := hn.bd p h3
    refine ⟨hb.1, hb.2.1, fun hg => ?_, h4, hb.2.2⟩
    have := (goneD_mem.1 hg).2
    rw [(findD_mem hn.up).2 h3] at this; cases this
  have e : difD old new = enc (goneD old new).length ++ (gapsB (-1) (goneD old new) ++ (enc (setD old new).length ++ setB old (-1) (setD old new))) := by
    unfold difD; simp only [List.append_assoc]
  have fin : ∀ d, (run2 old d).e = 7 → errA old d = 7 := fun d h => by unfold errA; rw [h]; unfold failR; rw [if_neg (by omega)]
  have fin1 : ∀ d, (run1 old d).e = 7 → errA old d = 7 := fun d h => by
    refine fin d ?_
    unfold run2
    have : numR (run1 old d).b (run1 old d).e = (0, (run1 old d).b, 7) := by rw [h]; unfold numR; rw [if_neg (by omega)]
    simp only [this]
    rfl
  rw [e] at hk ⊢
  rcases take_app (a := enc (goneD old new).length) (b := gapsB (-1) (goneD old new) ++ (enc (setD old new).length ++ setB old (-1) (setD old new))) (m := k) with ⟨h1, h2⟩ | ⟨h1, h2⟩
  · rw [h2]
    refine fin1 _ ?_
    unfold run1
    rw [numR_short (by omega) h1]
    rfl
  · rw [h2]
    rw [List.length_append] at hk
    have hn1 : ∀ R, numR (enc (goneD old new).length ++ R) 0 = ((goneD old new).length, R, 0) := fun R => by unfold numR; rw [if_pos rfl]; exact numD_enc _ (by omega)
    rcases take_app (a := gapsB (-1) (goneD old new)) (b := enc (setD old new).length ++ setB old (-1) (setD old new)) (m := k - (enc (goneD old new).length).length) with ⟨h3, h4⟩ | ⟨h3, h4⟩
    · rw [h4]
      refine fin1 _ ?_
      unfold run1
      rw [hn1]
      exact loop1_short old (goneD old new) 0 [] _ (by omega) hg1 hgg h3
    · rw [h4]
      rw [List.length_append] at hk
      obtain ⟨R, hR⟩ : ∃ R, R = (enc (setD old new).length ++ setB old (-1) (setD old new)).take (k - (enc (goneD old new).length).length - (gapsB (-1) (goneD old new)).length) := ⟨_, rfl⟩
      rw [← hR]
      obtain ⟨nx, hnx⟩ := loop1_write old (goneD old new) 0 [] R (by omega) hg1 hgg
      have hr1 : run1 old (enc (goneD old new).length ++ (gapsB (-1) (goneD old new) ++ R)) = ⟨R, 0, nx, goneD old new⟩ := by
        unfold run1; rw [hn1]; simpa using hnx
      refine fin _ ?_
      unfold run2
      simp only [hr1]
      rcases take_app (a := enc (setD old new).length) (b := setB old (-1) (setD old new)) (m := k - (enc (goneD old new).length).length - (gapsB (-1) (goneD old new)).length) with ⟨h5, h6⟩ | ⟨h5, h6⟩
      · rw [hR, h6, numR_short (by omega) h5]
        rfl
      · have hn2 : ∀ R, numR (enc (setD old new).length ++ R) 0 = ((setD old new).length, R, 0) := fun R => by unfold numR; rw [if_pos rfl]; exact numD_enc _ (by omega)
        rw [hR, h6, hn2]
        rw [List.length_append] at hk
        exact loop2_short old (goneD old new) (setD old new) 0 [] _ (by omega) (hn.up.filter _) hss ho.bd (by show _ < (setB old (-1) (setD old new)).length; omega)

/-! ### What reads without an error was written so -/
theorem idxR_inv {next : Int} {b b' : List Int} {i : Int} (hb : IsB b) (h0 : 0 ≤ next) (h : idxR next b 0 = (i, b', 0)) : b = enc (i - next).toNat ++ b' ∧ next ≤ i ∧ i ≤ 2147483647 := by
  unfold idxR at h
  have h1 : next + ((numR b 0).1 : Int) % 2147483648 = i := congrArg Prod.fst h
  have h2 : (numR b 0).2.1 = b' := congrArg (fun p => p.2.1) h
  have h3 : failR (numR b 0).2.2 (decide (2147483647 < (numR b 0).1) || decide (2147483647 < next + ((numR b 0).1 : Int))) 8 = 0 := congrArg (fun p => p.2.2) h
  obtain ⟨h4, h5⟩ := failR_err h3 (by decide)
  rw [Bool.or_eq_false_iff, decide_eq_false_iff_not, decide_eq_false_iff_not] at h5
  have hn : numD b = ((numR b 0).1, b', 0) := by
    have : numR b 0 = numD b := by unfold numR; rw [if_pos rfl]
    rw [← this]
    exact Prod.ext rfl (Prod.ext h2 h4)
  obtain ⟨e1, e2⟩ := numD_inv hb hn
  have : (numR b 0).1 = (i - next).toNat := by omega
  rw [← this]
  exact ⟨e1, by omega, by omega⟩
theorem loop1_inv (old : Vw) : ∀ (n : Nat) (s s' : St1), IsB s.b → 0 ≤ s.next → loop1 old n s = s' → s'.e = 0 →
    s.e = 0 ∧ ∃ G', G'.length = n ∧ s'.gone = s.gone ++ G' ∧ s.b = gapsB (s.next - 1) G' ++ s'.b ∧ IsB s'.b ∧ G'.Pairwise (· < ·) ∧ ∀ g ∈ G', s.next ≤ g ∧ g ≤ 2147483647 ∧ (findD old g).isSome = true := by
  intro n
  induction n with
  | zero =>
    intro s s' hb h0 h he
    rw [loop1] at h
    subst h
    exact ⟨he, [], rfl, by simp, by simp [gapsB], hb, List.Pairwise.nil, by simp⟩
  | succ n ih =>
    intro s s' hb h0 h he
    rw [loop1] at h
    by_cases hs : s.e = 0
    · rw [if_pos hs] at h
      obtain ⟨f1, f2, f3, f4, f5, f6⟩ := idxR_facts hb (.inl hs) h0 (i := (idxR s.next s.b s.e).1) (b' := (idxR s.next s.b s.e).2.1) (e' := (idxR s.next s.b s.e).2.2) rfl
      have hn0 : 0 ≤ (step1 old s).next := by show 0 ≤ (idxR s.next s.b s.e).1 + 1; omega
      obtain ⟨k1, G', k2, k3, k4, k5, k6, k7⟩ := ih (step1 old s) s' f3 hn0 h he
      obtain ⟨j1, j2⟩ := failR_err k1 (by decide)
      have hx : idxR s.next s.b 0 = ((idxR s.next s.b s.e).1, (idxR s.next s.b s.e).2.1, 0) := by
        rw [show idxR s.next s.b 0 = idxR s.next s.b s.e from by rw [hs]]
        exact Prod.ext rfl (Prod.ext rfl j1)
      obtain ⟨i1, i2, i3⟩ := idxR_inv hb h0 hx
      refine ⟨hs, (idxR s.next s.b s.e).1 :: G', by simp [k2], ?_, ?_, k5, ?_, ?_⟩
      · rw [k3]; show (s.gone ++ [_]) ++ G' = _; simp
      · have k4' : (idxR s.next s.b s.e).2.1 = gapsB ((idxR s.next s.b s.e).1 + 1 - 1) G' ++ s'.b := k4
        rw [gapsB, List.append_assoc]
        rw [show (idxR s.next s.b s.e).1 + 1 - 1 = (idxR s.next s.b s.e).1 from by omega] at k4'
        rw [← k4', show (idxR s.next s.b s.e).1 - (s.next - 1) - 1 = (idxR s.next s.b s.e).1 - s.next from by omega]
        exact i1
      · refine List.pairwise_cons.2 ⟨fun g hg => ?_, k6⟩
        have : (idxR s.next s.b s.e).1 + 1 ≤ g := (k7 g hg).1
        omega
      · intro g hg
        rcases List.mem_cons.1 hg with rfl | hg
        · refine ⟨i2, i3, ?_⟩
          cases hf : findD old (idxR s.next s.b s.e).1 with
          | some v => rfl
          | none => rw [hf] at j2; cases j2
        · have h2 := k7 g hg
          have : (idxR s.next s.b s.e).1 + 1 ≤ g := h2.1
          exact ⟨by omega, h2.2⟩
    · rw [if_neg hs] at h
      subst h
      exact absurd he hs
/-- One entry of the second part, as it is read. -/
def tB (last : Int) : List (Int × Nat) → List Int
  | [] => []
  | t :: ts => enc (t.1 - last - 1).toNat ++ enc t.2 ++ tB t.1 ts
def tCh (old : Vw) (T : List (Int × Nat)) : Vw := T.map fun t => (t.1, w64 ((findD old t.1).getD 0 + back t.2))
theorem tB_set (old : Vw) : ∀ (T : List (Int × Nat)) (last : Int), (∀ t ∈ T, t.2 < 18446744073709551616) → tB last T = setB old last (tCh old T) := by
  intro T
  induction T with
  | nil => intro last _; rfl
  | cons t ts ih =>
    intro last h
    have hz := h t (List.mem_cons_self ..)
    show _ = setB old last ((t.1, _) :: tCh old ts)
    rw [tB, setB, ih t.1 (fun x hx => h x (List.mem_cons_of_mem _ hx))]
    simp only []
    rw [w64_fwd (back_bd hz), zig_back hz]
theorem loop2_inv (old : Vw) (G : List Int) : ∀ (n : Nat) (s s' : St2), IsB s.b → 0 ≤ s.next → loop2 old G n s = s' → s'.e = 0 →
    s.e = 0 ∧ ∃ T : List (Int × Nat), T.length = n ∧ s'.ch = s.ch ++ tCh old T ∧ s.b = tB (s.next - 1) T ++ s'.b ∧ IsB s'.b ∧ T.Pairwise (fun p q => p.1 < q.1) ∧
      ∀ t ∈ T, s.next ≤ t.1 ∧ t.1 ≤ 2147483647 ∧ t.1 ∉ G ∧ t.2 < 18446744073709551616 ∧ ((findD old t.1).isSome = true → t.2 ≠ 0) := by
  intro n
  induction n with
  | zero =>
    intro s s' hb h0 h he
    rw [loop2] at h
    subst h
    exact ⟨he, [], rfl, by simp [tCh], by simp [tB], hb, List.Pairwise.nil, by simp⟩
  | succ n ih =>
    intro s s' hb h0 h he
    rw [loop2] at h
    by_cases hs : s.e = 0
    · rw [if_pos hs] at h
      obtain ⟨f1, f2, f3, f4, f5, f6⟩ := idxR_facts hb (.inl hs) h0 (i := (idxR s.next s.b s.e).1) (b' := (idxR s.next s.b s.e).2.1) (e' := (idxR s.next s.b s.e).2.2) rfl
      obtain ⟨i, hi⟩ : ∃ i, i = (idxR s.next s.b s.e).1 := ⟨_, rfl⟩
      obtain ⟨b1, hb1⟩ : ∃ b, b = (idxR s.next s.b s.e).2.1 := ⟨_, rfl⟩
      obtain ⟨e1, he1⟩ : ∃ e, e = (idxR s.next s.b s.e).2.2 := ⟨_, rfl⟩
      obtain ⟨e2, he2⟩ : ∃ e, e = failR e1 (decide (i ∈ G)) 8 := ⟨_, rfl⟩
      have hst : step2 old G s = ⟨(numR b1 e2).2.1, failR (numR b1 e2).2.2 ((findD old i).isSome && (numR b1 e2).1 == 0) 8, i + 1, s.ch ++ [(i, w64 ((findD old i).getD 0 + back (numR b1 e2).1))]⟩ := by
        unfold step2; simp only [← hi, ← hb1, ← he1, ← he2]
      rw [← hb1] at f3
      have gb := numR_isB (b := b1) (e := e2) f3
      have gl := numR_lt (b := b1) (e := e2) f3
      rw [hst] at h
      obtain ⟨k1, T, k2, k3, k4, k5, k6, k7⟩ := ih _ s' gb (by show 0 ≤ i + 1; omega) h he
      obtain ⟨j1, j2⟩ := failR_err k1 (by decide)
      have j3 := (numR_len (b := b1) (e := e2) (by rw [he2, he1]; exact failR_in f4)).2.1 j1
      have j4 : failR e1 (decide (i ∈ G)) 8 = 0 := by rw [← he2]; exact j3.2
      obtain ⟨j5, j6⟩ := failR_err j4 (by decide)
      have hx : idxR s.next s.b 0 = (i, b1, 0) := by
        rw [show idxR s.next s.b 0 = idxR s.next s.b s.e from by rw [hs]]
        exact Prod.ext hi.symm (Prod.ext hb1.symm (he1.symm.trans j5))
      obtain ⟨i1, i2, i3⟩ := idxR_inv hb h0 hx
      have hn : numD b1 = ((numR b1 e2).1, (numR b1 e2).2.1, 0) := by
        have : numR b1 e2 = numD b1 := by unfold numR; rw [if_pos j3.2]
        rw [this] at j1 ⊢
        exact Prod.ext rfl (Prod.ext rfl j1)
      obtain ⟨n1, n2⟩ := numD_inv f3 hn
      refine ⟨hs, (i, (numR b1 e2).1) :: T, by simp [k2], ?_, ?_, k5, ?_, ?_⟩
      · rw [k3]; simp [tCh]
      · have k4' : (numR b1 e2).2.1 = tB (i + 1 - 1) T ++ s'.b := k4
        rw [show i + 1 - 1 = i from by omega] at k4'
        rw [tB, List.append_assoc, List.append_assoc, ← k4', ← n1, show i - (s.next - 1) - 1 = i - s.next from by omega]
        exact i1
      · refine List.pairwise_cons.2 ⟨fun t ht => ?_, k6⟩
        have : i + 1 ≤ t.1 := (k7 t ht).1
        show i < t.1; omega
      · intro t ht
        rcases List.mem_cons.1 ht with rfl | ht
        · refine ⟨i2, i3, of_decide_eq_false j6, gl, fun h1 h2 => ?_⟩
          have h1' : (findD old i).isSome = true := h1
          have h2' : (numR b1 e2).1 = 0 := h2
          rw [h1', h2'] at j2
          simp at j2
        · have h2 := k7 t ht
          have : i + 1 ≤ t.1 := h2.1
          exact ⟨by omega, h2.2⟩
    · rw [if_neg hs] at h
      subst h
      exact absurd he hs
theorem findD_tCh (old : Vw) {T : List (Int × Nat)} (h : T.Pairwise fun p q => p.1 < q.1) : Up (tCh old T) ∧ ∀ t ∈ T, findD (tCh old T) t.1 = some (w64 ((findD old t.1).getD 0 + back t.2)) := by
  have hu : Up (tCh old T) := List.pairwise_map.2 h
  exact ⟨hu, fun t ht => (findD_mem hu).2 (List.mem_map.2 ⟨t, ht, rfl⟩)⟩
/-- The encoding is canonical; what comes back is a view. -/
theorem dif_canon {old : Vw} (ho : IsV old) {d : List Int} (hd : IsB d) (he : errA old d = 0) {x : Vw} (hx : IsApp old (run1 old d).gone (run2 old d).ch x) : difD old x = d ∧ IsV x := by
  obtain ⟨he2, hbn⟩ := failR_err he (by decide)
  have hb0 : (run2 old d).b = [] := by have := of_decide_eq_false hbn; simpa using this
  -- the second loop
  have hn1 := numR_len (b := d) (e := 0) (.inl rfl)
  have hnb := numR_isB (b := d) (e := 0) hd
  have hI : ∀ s1, run1 old d = s1 → IsB s1.b ∧ IsE s1.e ∧ 0 ≤ s1.next := by
    intro s1 h1
    have key : ∀ n s, Inv1 d.length s → Inv1 d.length (loop1 old n s) := by
      intro n
      induction n with
      | zero => intro s h; exact h
      | succ n ih =>
        intro s h
        rw [loop1]
        by_cases hs : s.e = 0
        · rw [if_pos hs]; exact ih _ (h.step hs old)
        · rw [if_neg hs]; exact h
    have hk := key (numR d 0).1 ⟨(numR d 0).2.1, (numR d 0).2.2, 0, []⟩ ⟨hnb, hn1.2.2.1, Int.le_refl 0, (show (0 : Int) ≤ 4294967296 by omega), fun _ => (show (0 : Int) ≤ 2147483648 by omega), by have := hn1.1; simp; omega, fun hz => by have := (hn1.2.1 hz).1; simp; omega⟩
    have hk' : Inv1 d.length (run1 old d) := hk
    rw [h1] at hk'
    exact ⟨hk'.isb, hk'.ise, hk'.lo⟩
  obtain ⟨⟨b1, e1, x1, G⟩, hr1⟩ : ∃ s, run1 old d = s := ⟨_, rfl⟩
  obtain ⟨hB1, hE1, _⟩ := hI _ hr1
  have hr2 : loop2 old G (numR b1 e1).1 ⟨(numR b1 e1).2.1, (numR b1 e1).2.2, 0, []⟩ = run2 old d := by unfold run2; simp only [hr1]
  have hm := numR_len (b := b1) (e := e1) hE1
  obtain ⟨k1, T, k2, k3, k4, k5, k6, k7⟩ := loop2_inv old G _ _ _ (numR_isB (e := e1) hB1) (Int.le_refl 0) hr2 he2
  have he1 : e1 = 0 := (hm.2.1 k1).2
  subst he1
  have hnum2 : numD b1 = ((numR b1 0).1, (numR b1 0).2.1, 0) := by
    have : numR b1 0 = numD b1 := by unfold numR; rw [if_pos rfl]
    have k1' : (numR b1 0).2.2 = 0 := k1
    rw [this] at k1' ⊢
    exact Prod.ext rfl (Prod.ext rfl k1')
  obtain ⟨m1, m2⟩ := numD_inv hB1 hnum2
  -- the first loop
  have hr1' : loop1 old (numR d 0).1 ⟨(numR d 0).2.1, (numR d 0).2.2, 0, []⟩ = ⟨b1, 0, x1, G⟩ := hr1
  obtain ⟨p1, G', p2, p3, p4, p5, p6, p7⟩ := loop1_inv old _ _ _ hnb (Int.le_refl 0) hr1' rfl
  have hG : G = G' := by have : G = [] ++ G' := p3; simpa using this
  subst hG
  have hnum1 : numD d = ((numR d 0).1, (numR d 0).2.1, 0) := by
    have : numR d 0 = numD d := by unfold numR; rw [if_pos rfl]
    have p1' : (numR d 0).2.2 = 0 := p1
    rw [this] at p1' ⊢
    exact Prod.ext rfl (Prod.ext rfl p1')
  obtain ⟨q1, q2⟩ := numD_inv hd hnum1
  have hch : (run2 old d).ch = tCh old T := by have : (run2 old d).ch = [] ++ tCh old T := k3; simpa using this
  have k4' : (numR b1 0).2.1 = tB (-1) T := by have : (numR b1 0).2.1 = tB (0 - 1) T ++ (run2 old d).b := k4; rw [hb0, List.append_nil] at this; exact this
  have p4' : (numR d 0).2.1 = gapsB (-1) G ++ b1 := p4
  have m1' : b1 = enc (numR b1 0).1 ++ (numR b1 0).2.1 := m1
  have hdd : d = enc G.length ++ gapsB (-1) G ++ enc (tCh old T).length ++ setB old (-1) (tCh old T) := by
    have k2' : T.length = (numR b1 0).1 := k2
    rw [q1, p4', m1', k4', ← p2, ← k2', tB_set old T (-1) (fun t ht => (k7 t ht).2.2.2.1)]
    simp [tCh, List.append_assoc]
  have hgx : (run1 old d).gone = G := by rw [hr1]
  rw [hch, hgx] at hx
  obtain ⟨hTu, hTf⟩ := findD_tCh old k6
  have hapart : ∀ i, i ∈ G → findD (tCh old T) i = none := fun i hi => by
    cases hf : findD (tCh old T) i with
    | none => rfl
    | some v =>
      obtain ⟨t, ht, e⟩ := List.mem_map.1 ((findD_mem hTu).1 hf)
      injection e with e _
      exact absurd (e ▸ hi) (k7 t ht).2.2.1
  -- what has gone, what is set
  have hgone : goneD old x = G := by
    refine inc_ext (goneD_up ho x).1 p6 fun i => ?_
    rw [goneD_mem, hx.at_ i]
    constructor
    · rintro ⟨h1, h2⟩
      cases hf : findD (tCh old T) i with
      | some v => rw [hf] at h2; cases h2
      | none =>
        rw [hf] at h2
        by_cases hg : i ∈ G
        · exact hg
        · have h2' : (if i ∈ G then none else findD old i) = none := h2
          rw [if_neg hg] at h2'
          rw [h2'] at h1; cases h1
    · intro hg
      refine ⟨(p7 i hg).2.2, ?_⟩
      rw [hapart i hg]
      show (if i ∈ G then none else findD old i) = none
      rw [if_pos hg]
  have hset : setD old x = tCh old T := by
    refine vw_ext (hx.up.filter _) hTu fun i => ?_
    rw [findD_setD hx.up, hx.at_ i]
    cases hf : findD (tCh old T) i with
    | some v =>
      obtain ⟨t, ht, e⟩ := List.mem_map.1 ((findD_mem hTu).1 hf)
      injection e with e1 e2
      show (if findD old i = some v then none else some v) = some v
      rw [if_neg]
      intro ho'
      have hz := (k7 t ht).2.2.2.2 (by rw [e1, ho']; rfl)
      have hzl := (k7 t ht).2.2.2.1
      rw [e1, ho'] at e2
      have e2' : w64 (v + back t.2) = v := e2
      obtain ⟨q, hq, _, hqv⟩ := findD_in ho'
      have hvb := (ho.bd q hq).2.2
      rw [hqv] at hvb
      have hfw := w64_fwd (v := v) (back_bd hzl)
      rw [e2', Int.sub_self, w64_id (by omega)] at hfw
      have := zig_back hzl
      rw [← hfw] at this
      exact hz this.symm
    | none =>
      by_cases hg : i ∈ G
      · simp [hg]
      · simp only [hg, if_false]
        cases findD old i with
        | none => rfl
        | some v => simp
  refine ⟨?_, hx.up, fun p hp => ?_⟩
  · unfold difD
    rw [hgone, hset]
    exact hdd.symm
  · have hf := (findD_mem hx.up).2 hp
    rw [hx.at_ p.1] at hf
    cases hf2 : findD (tCh old T) p.1 with
    | some v =>
      rw [hf2] at hf
      injection hf with hf
      obtain ⟨t, ht, e⟩ := List.mem_map.1 ((findD_mem hTu).1 hf2)
      injection e with e1 e2
      have h1 := k7 t ht
      have h2 := w64_bd ((findD old t.1).getD 0 + back t.2)
      have h3 : (0 : Int) ≤ t.1 := h1.1
      rw [e2, hf] at h2
      rw [e1] at h3
      exact ⟨h3, by rw [← e1]; exact h1.2.1, h2⟩
    | none =>
      rw [hf2] at hf
      have hf' : (if p.1 ∈ G then none else findD old p.1) = some p.2 := hf
      split at hf'
      · cases hf'
      · obtain ⟨q, hq, h1, h2⟩ := findD_in hf'
        have := ho.bd q hq
        rw [h1, h2] at this
        exact this
end Go.Proofs.Ytcniepogobgaoaa
