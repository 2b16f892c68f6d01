/-
  Differences and their reading, in plain Lean: the round trip, that the encoding is canonical, prefixes. No program in sight.
-/
import Derived.Test.YtcniepogobgaoaaSnApp
import Derived.Test.YtcniepogobgaoaaSnMrg
import Derived.Test.YtcniepogobgaoaaSnW3
namespace Go.Proofs.Ytcniepogobgaoaa
set_option linter.unusedVariables false
set_option linter.unusedSimpArgs false

theorem w64_mod (x : Int) : ∃ k : Int, w64 x = x + 18446744073709551616 * k := by
  unfold w64
  simp only [IntKind.wrap, IntKind.bits, IntKind.signed]
  simp
  split
  · exact ⟨-(x / 18446744073709551616) - 1, by omega⟩
  · exact ⟨-(x / 18446744073709551616), by omega⟩
theorem w64_id {x : Int} (h : -9223372036854775808 ≤ x ∧ x ≤ 9223372036854775807) : w64 x = x := by
  obtain ⟨k, hk⟩ := w64_mod x
  have := w64_bd x
  omega
theorem w64_back {v u : Int} (hu : -9223372036854775808 ≤ u ∧ u ≤ 9223372036854775807) : w64 (v + w64 (u - v)) = u := by
  obtain ⟨k, hk⟩ := w64_mod (u - v)
  obtain ⟨j, hj⟩ := w64_mod (v + w64 (u - v))
  have := w64_bd (v + w64 (u - v))
  omega
theorem w64_fwd {v d : Int} (hd : -9223372036854775808 ≤ d ∧ d ≤ 9223372036854775807) : w64 (w64 (v + d) - v) = d := by
  obtain ⟨k, hk⟩ := w64_mod (v + d)
  obtain ⟨j, hj⟩ := w64_mod (w64 (v + d) - v)
  have := w64_bd (w64 (v + d) - v)
  omega
theorem back_zig {d : Int} (h : -9223372036854775808 ≤ d ∧ d ≤ 9223372036854775807) : back (zig d) = d := by
  unfold zig back
  split
  · rw [if_neg (by omega)]; omega
  · rw [if_pos (by omega)]; omega
theorem zig_back {z : Nat} (h : z < 18446744073709551616) : zig (back z) = z := by
  unfold back zig
  split
  · rw [if_neg (by omega)]; omega
  · rw [if_pos (by omega)]; omega
theorem back_bd {z : Nat} (h : z < 18446744073709551616) : -9223372036854775808 ≤ back z ∧ back z ≤ 9223372036854775807 := by
  unfold back; split <;> omega

/-! ### Sorted lists are what they hold -/
theorem findD_mem {l : Vw} (h : Up l) {i v : Int} : findD l i = some v ↔ (i, v) ∈ l := by
  induction l with
  | nil => simp [findD]
  | cons a t ih =>
    obtain ⟨h1, h2⟩ := up_cons h
    rw [findD]
    by_cases ha : a.1 = i
    · rw [if_pos ha]
      constructor
      · intro e; injection e with e; rw [← ha, ← e]; exact List.mem_cons_self ..
      · intro hm
        rcases List.mem_cons.1 hm with e | hm
        · rw [← e]
        · have := h1 _ hm; simp at this; omega
    · rw [if_neg ha, ih h2]
      constructor
      · exact fun hm => List.mem_cons_of_mem _ hm
      · intro hm
        rcases List.mem_cons.1 hm with e | hm
        · rw [← e] at ha; exact absurd rfl ha
        · exact hm
theorem findD_in {l : Vw} {i u : Int} (h : findD l i = some u) : ∃ q ∈ l, q.1 = i ∧ q.2 = u := by
  induction l with
  | nil => cases h
  | cons a t ih =>
    rw [findD] at h
    split at h
    · rename_i ha
      injection h with h; exact ⟨a, List.mem_cons_self .., ha, h⟩
    · obtain ⟨q, hq, h1⟩ := ih h; exact ⟨q, List.mem_cons_of_mem _ hq, h1⟩
theorem findD_isSome {l : Vw} {i : Int} : (findD l i).isSome = true ↔ ∃ p ∈ l, p.1 = i := by
  induction l with
  | nil => simp [findD]
  | cons a t ih =>
    rw [findD]
    by_cases ha : a.1 = i
    · rw [if_pos ha]; simp [ha]
    · rw [if_neg ha, ih]; simp [ha]
theorem inc_ext : ∀ {a b : List Int}, a.Pairwise (· < ·) → b.Pairwise (· < ·) → (∀ x, x ∈ a ↔ x ∈ b) → a = b
  | [], [], _, _, _ => rfl
  | [], y :: t, _, _, h => by have := (h y).2 (List.mem_cons_self ..); cases this
  | x :: s, [], _, _, h => by have := (h x).1 (List.mem_cons_self ..); cases this
  | x :: s, y :: t, ha, hb, h => by
    obtain ⟨a1, a2⟩ := List.pairwise_cons.1 ha
    obtain ⟨b1, b2⟩ := List.pairwise_cons.1 hb
    have hxy : x = y := by
      have h1 := (h x).1 (List.mem_cons_self ..)
      have h2 := (h y).2 (List.mem_cons_self ..)
      rcases List.mem_cons.1 h1 with e | h1
      · exact e
      · rcases List.mem_cons.1 h2 with e | h2
        · exact e.symm
        · have := a1 _ h2; have := b1 _ h1; omega
    subst hxy
    rw [inc_ext a2 b2 (fun z => ?_)]
    constructor
    · intro hz
      rcases List.mem_cons.1 ((h z).1 (List.mem_cons_of_mem _ hz)) with e | hz'
      · have := a1 z hz; omega
      · exact hz'
    · intro hz
      rcases List.mem_cons.1 ((h z).2 (List.mem_cons_of_mem _ hz)) with e | hz'
      · have := b1 z hz; omega
      · exact hz'
theorem vw_ext : ∀ {a b : Vw}, Up a → Up b → (∀ i, findD a i = findD b i) → a = b
  | [], [], _, _, _ => rfl
  | [], y :: t, _, _, h => by have := h y.1; simp [findD] at this
  | x :: s, [], _, _, h => by have := h x.1; simp [findD] at this
  | x :: s, y :: t, ha, hb, h => by
    obtain ⟨a1, a2⟩ := up_cons ha
    obtain ⟨b1, b2⟩ := up_cons hb
    have hx := (findD_mem hb).1 ((h x.1).symm.trans (by rw [findD, if_pos rfl]))
    have hy := (findD_mem ha).1 ((h y.1).trans (by rw [findD, if_pos rfl]))
    have hxy : x = y := by
      rcases List.mem_cons.1 hx with e | hx
      · exact e
      · rcases List.mem_cons.1 hy with e | hy
        · exact e.symm
        · have := b1 _ hx; have := a1 _ hy; simp at *; omega
    subst hxy
    rw [vw_ext a2 b2 (fun i => ?_)]
    have hi := h i
    rw [findD, findD] at hi
    by_cases e : x.1 = i
    · rw [find_none (l := s) (fun p hp => by have := a1 p hp; omega), find_none (l := t) (fun p hp => by have := b1 p hp; omega)]
    · rwa [if_neg e, if_neg e] at hi

/-! ### Reading what was written -/
theorem idxR_enc {next g : Int} (h0 : 0 ≤ next) (h1 : next ≤ g) (h2 : g ≤ 2147483647) (R : List Int) : idxR next (enc (g - next).toNat ++ R) 0 = (g, R, 0) := by
  have hn : numR (enc (g - next).toNat ++ R) 0 = ((g - next).toNat, R, 0) := by
    unfold numR; rw [if_pos rfl]; exact numD_enc R (by omega)
  unfold idxR
  rw [hn]
  have e1 : next + (((g - next).toNat : Nat) : Int) % 2147483648 = g := by omega
  have e2 : (decide (2147483647 < (g - next).toNat) || decide (2147483647 < next + (((g - next).toNat : Nat) : Int))) = false := by
    rw [Bool.or_eq_false_iff, decide_eq_false_iff_not, decide_eq_false_iff_not]; omega
  simp only [e1, e2]
  rfl
theorem loop1_write (old : Vw) : ∀ (G : List Int) (next : Int) (pre R : List Int), 0 ≤ next → G.Pairwise (· < ·) → (∀ g ∈ G, next ≤ g ∧ g ≤ 2147483647 ∧ (findD old g).isSome = true) →
    ∃ nx, loop1 old G.length ⟨gapsB (next - 1) G ++ R, 0, next, pre⟩ = ⟨R, 0, nx, pre ++ G⟩ := by
  intro G
  induction G with
  | nil => intro next pre R _ _ _; exact ⟨next, by simp [loop1, gapsB]⟩
  | cons g t ih =>
    intro next pre R h0 hp hg
    obtain ⟨p1, p2⟩ := List.pairwise_cons.1 hp
    obtain ⟨g1, g2, g3⟩ := hg g (List.mem_cons_self ..)
    obtain ⟨nx, hnx⟩ := ih (g + 1) (pre ++ [g]) R (by omega) p2 (fun y hy => ⟨by have := p1 y hy; omega, (hg y (List.mem_cons_of_mem _ hy)).2⟩)
    refine ⟨nx, ?_⟩
    rw [List.length_cons, loop1, if_pos rfl]
    have hs : step1 old ⟨gapsB (next - 1) (g :: t) ++ R, 0, next, pre⟩ = ⟨gapsB (g + 1 - 1) t ++ R, 0, g + 1, pre ++ [g]⟩ := by
      unfold step1
      have e : gapsB (next - 1) (g :: t) ++ R = enc (g - next).toNat ++ (gapsB (g + 1 - 1) t ++ R) := by
        rw [gapsB, List.append_assoc, show g - (next - 1) - 1 = g - next from by omega, show g + 1 - 1 = g from by omega]
      simp only [e, idxR_enc h0 g1 g2]
      have e2 : failR 0 (findD old g).isNone 8 = 0 := by unfold failR; rw [if_neg]; rintro ⟨h, _⟩; rw [Option.isNone_iff_eq_none] at h; rw [h] at g3; cases g3
      rw [e2]
    rw [hs, hnx]
    simp
theorem loop2_write (old : Vw) (G : List Int) : ∀ (S : Vw) (next : Int) (pre : Vw) (R : List Int), 0 ≤ next → Up S → (∀ p ∈ S, next ≤ p.1 ∧ p.1 ≤ 2147483647 ∧ p.1 ∉ G ∧ findD old p.1 ≠ some p.2 ∧ -9223372036854775808 ≤ p.2 ∧ p.2 ≤ 9223372036854775807) → BdV old →
    ∃ nx, loop2 old G S.length ⟨setB old (next - 1) S ++ R, 0, next, pre⟩ = ⟨R, 0, nx, pre ++ S⟩ := by
  intro S
  induction S with
  | nil => intro next pre R _ _ _ _; exact ⟨next, by simp [loop2, setB]⟩
  | cons p t ih =>
    intro next pre R h0 hp hg hold
    obtain ⟨p1, p2⟩ := up_cons hp
    obtain ⟨g1, g2, g3, g4, g5, g6⟩ := hg p (List.mem_cons_self ..)
    obtain ⟨nx, hnx⟩ := ih (p.1 + 1) (pre ++ [p]) R (by omega) p2 (fun y hy => ⟨by have := p1 y hy; omega, (hg y (List.mem_cons_of_mem _ hy)).2⟩) hold
    refine ⟨nx, ?_⟩
    rw [List.length_cons, loop2, if_pos rfl]
    obtain ⟨v, hv⟩ : ∃ v, v = (findD old p.1).getD 0 := ⟨_, rfl⟩
    have hd := w64_bd (p.2 - v)
    have hs : step2 old G ⟨setB old (next - 1) (p :: t) ++ R, 0, next, pre⟩ = ⟨setB old (p.1 + 1 - 1) t ++ R, 0, p.1 + 1, pre ++ [p]⟩ := by
      unfold step2
      have e : setB old (next - 1) (p :: t) ++ R = enc (p.1 - next).toNat ++ (enc (zig (w64 (p.2 - v))) ++ (setB old (p.1 + 1 - 1) t ++ R)) := by
        rw [setB, ← hv, List.append_assoc, List.append_assoc, show p.1 - (next - 1) - 1 = p.1 - next from by omega, show p.1 + 1 - 1 = p.1 from by omega]
      simp only [e, idxR_enc h0 g1 g2]
      have e2 : failR 0 (decide (p.1 ∈ G)) 8 = 0 := by unfold failR; rw [if_neg]; rintro ⟨h, _⟩; exact g3 (of_decide_eq_true h)
      have e3 : numR (enc (zig (w64 (p.2 - v))) ++ (setB old (p.1 + 1 - 1) t ++ R)) 0 = (zig (w64 (p.2 - v)), setB old (p.1 + 1 - 1) t ++ R, 0) := by
        unfold numR; rw [if_pos rfl]; exact numD_enc _ (zig_lt hd.1 hd.2)
      have e4 : failR 0 ((findD old p.1).isSome && zig (w64 (p.2 - v)) == 0) 8 = 0 := by
        unfold failR
        rw [if_neg]
        rintro ⟨h, _⟩
        rw [Bool.and_eq_true] at h
        obtain ⟨h1, h2⟩ := h
        have hz : zig (w64 (p.2 - v)) = 0 := by simpa using h2
        have hb := back_zig hd
        rw [hz] at hb
        have hb' : (0 : Int) = w64 (p.2 - v) := hb
        have hu := w64_back (v := v) (u := p.2) ⟨g5, g6⟩
        rw [← hb'] at hu
        obtain ⟨u, hu'⟩ := Option.isSome_iff_exists.1 h1
        rw [hu'] at hv
        have hvu : v = u := hv
        have hub : -9223372036854775808 ≤ u ∧ u ≤ 9223372036854775807 := by
          have hm := findD_in hu'
          obtain ⟨q, hq, _, rfl⟩ := hm
          exact (hold q hq).2.2
        rw [Int.add_zero, w64_id (by omega)] at hu
        exact g4 (by rw [hu', ← hvu, hu])
      rw [e2, e3]
      simp only [e4]
      rw [← hv, back_zig hd, w64_back ⟨g5, g6⟩]
    rw [hs, hnx]
    simp

theorem goneD_mem {old new : Vw} {i : Int} : i ∈ goneD old new ↔ (findD old i).isSome = true ∧ findD new i = none := by
  unfold goneD
  rw [List.mem_map]
  constructor
  · rintro ⟨p, hp, rfl⟩
    obtain ⟨h1, h2⟩ := List.mem_filter.1 hp
    exact ⟨findD_isSome.2 ⟨p, h1, rfl⟩, Option.isNone_iff_eq_none.1 h2⟩
  · rintro ⟨h1, h2⟩
    obtain ⟨p, hp, rfl⟩ := findD_isSome.1 h1
    exact ⟨p, List.mem_filter.2 ⟨hp, by rw [h2]; rfl⟩, rfl⟩
theorem setD_mem {old new : Vw} {p : Int × Int} : p ∈ setD old new ↔ p ∈ new ∧ findD old p.1 ≠ some p.2 := by
  unfold setD
  rw [List.mem_filter, decide_eq_true_eq]
theorem findD_setD {old new : Vw} (h : Up new) (i : Int) : findD (setD old new) i = match findD new i with | some v => if findD old i = some v then none else some v | none => none := by
  have hu : Up (setD old new) := h.filter _
  cases hn : findD new i with
  | none =>
    show _ = none
    cases hs : findD (setD old new) i with
    | none => rfl
    | some v =>
      have := (setD_mem.1 ((findD_mem hu).1 hs)).1
      rw [(findD_mem h).2 this] at hn; cases hn
  | some v =>
    show _ = if findD old i = some v then none else some v
    by_cases ho : findD old i = some v
    · rw [if_pos ho]
      cases hs : findD (setD old new) i with
      | none => rfl
      | some u =>
        obtain ⟨h1, h2⟩ := setD_mem.1 ((findD_mem hu).1 hs)
        have := (findD_mem h).2 h1
        rw [hn] at this
        injection this with this
        subst this
        exact absurd ho h2
    · rw [if_neg ho]
      exact (findD_mem hu).2 (setD_mem.2 ⟨(findD_mem h).1 hn, ho⟩)
/-- The view handed back is the new one. -/
theorem isApp_new {old new x : Vw} (hn : IsV new) (h : IsApp old (goneD old new) (setD old new) x) : x = new := by
  refine vw_ext h.up hn.up fun i => ?_
  rw [h.at_ i, findD_setD hn.up]
  cases hne : findD new i with
  | none =>
    show (if i ∈ goneD old new then none else findD old i) = none
    by_cases hg : i ∈ goneD old new
    · rw [if_pos hg]
    · rw [if_neg hg]
      cases ho : findD old i with
      | none => rfl
      | some v => exact absurd (goneD_mem.2 ⟨by rw [ho]; rfl, hne⟩) hg
  | some v =>
    by_cases ho : findD old i = some v
    · simp only [ho, if_true]
      rw [if_neg (fun hg => by have := (goneD_mem.1 hg).2; rw [hne] at this; cases this)]
    · simp [ho]
theorem bdV {l : Vw} (h : IsV l) : BdV l := h.bd
/-- Both loops over a difference, whatever follows it. -/
theorem run_dif {old new : Vw} (ho : IsV old) (hn : IsV new) (hl : old.length < 1000000) (hl2 : new.length < 1000000) (R : List Int) :
    (run1 old (difD old new ++ R)).gone = goneD old new ∧ (run2 old (difD old new ++ R)).ch = setD old new ∧ (run2 old (difD old new ++ R)).e = 0 ∧ (run2 old (difD old new ++ R)).b = R := by
  have hgl : (goneD old new).length < 1000000 := Nat.lt_of_le_of_lt (goneD_len old new) hl
  have hsl : (setD old new).length < 1000000 := Nat.lt_of_le_of_lt (setD_len old new) hl2
  obtain ⟨hg1, hg2⟩ := goneD_up ho new
  have e : difD old new ++ R = enc (goneD old new).length ++ (gapsB (-1) (goneD old new) ++ (enc (setD old new).length ++ (setB old (-1) (setD old new) ++ R))) := by
    unfold difD; simp only [List.append_assoc]
  have h1 : numR (difD old new ++ R) 0 = ((goneD old new).length, gapsB (-1) (goneD old new) ++ (enc (setD old new).length ++ (setB old (-1) (setD old new) ++ R)), 0) := by
    rw [e]; unfold numR; rw [if_pos rfl]; exact numD_enc _ (by omega)
  obtain ⟨nx, hnx⟩ := loop1_write old (goneD old new) 0 [] (enc (setD old new).length ++ (setB old (-1) (setD old new) ++ R)) (by omega) hg1 (fun g hg => ⟨(hg2 g hg).1, (hg2 g hg).2, (goneD_mem.1 hg).1⟩)
  have hr1 : run1 old (difD old new ++ R) = ⟨enc (setD old new).length ++ (setB old (-1) (setD old new) ++ R), 0, nx, goneD old new⟩ := by
    unfold run1; rw [h1]; simpa using hnx
  have h2 : numR (enc (setD old new).length ++ (setB old (-1) (setD old new) ++ R)) 0 = ((setD old new).length, setB old (-1) (setD old new) ++ R, 0) := by
    unfold numR; rw [if_pos rfl]; exact numD_enc _ (by omega)
  obtain ⟨ny, hny⟩ := loop2_write old (goneD old new) (setD old new) 0 [] R (by omega) (hn.up.filter _) (fun p hp => by
    obtain ⟨h3, h4⟩ := setD_mem.1 hp
    have hb := hn.bd p h3
    refine ⟨hb.1, hb.2.1, fun hg => ?_, h4, hb.2.2⟩
    have := (goneD_mem.1 hg).2
    rw [(findD_mem hn.up).2 h3] at this; cases this) ho.bd
  have hr2 : run2 old (difD old new ++ R) = ⟨R, 0, ny, setD old new⟩ := by
    unfold run2; simp only [hr1, h2]; simpa using hny
  rw [hr1, hr2]
  exact ⟨rfl, rfl, rfl, rfl⟩
/-- The round trip. -/
theorem dif_ok {old new : Vw} (ho : IsV old) (hn : IsV new) (hl : old.length < 1000000) (hl2 : new.length < 1000000) :
    errA old (difD old new) = 0 ∧ ∀ x, IsApp old (run1 old (difD old new)).gone (run2 old (difD old new)).ch x → x = new := by
  have h := run_dif ho hn hl hl2 []
  rw [List.append_nil] at h
  obtain ⟨h1, h2, h3, h4⟩ := h
  refine ⟨?_, fun x hx => ?_⟩
  · unfold errA; rw [h3, h4]; rfl
  · rw [h1, h2] at hx; exact isApp_new hn hx
/-- One byte more. -/
theorem dif_more {old new : Vw} (ho : IsV old) (hn : IsV new) (hl : old.length < 1000000) (hl2 : new.length < 1000000) (c : Int) : errA old (difD old new ++ [c]) = 8 := by
  obtain ⟨h1, h2, h3, h4⟩ := run_dif ho hn hl hl2 [c]
  unfold errA; rw [h3, h4]; rfl
theorem dif_self {a : Vw} (h : IsV a) : difD a a = [0, 0] := by
  have h1 : goneD a a = [] := List.eq_nil_iff_forall_not_mem.2 fun i hi => by
    obtain ⟨h1, h2⟩ := goneD_mem.1 hi
    rw [h2] at h1; cases h1
  have h2 : setD a a = [] := List.eq_nil_iff_forall_not_mem.2 fun p hp => by
    obtain ⟨h1, h2⟩ := setD_mem.1 hp
    exact h2 ((findD_mem h.up).2 h1)
  unfold difD
  rw [h1, h2]
  have : enc 0 = [0] := by rw [enc_small (by omega)]; rfl
  simp [gapsB, setB, this]
end Go.Proofs.Ytcniepogobgaoaa
