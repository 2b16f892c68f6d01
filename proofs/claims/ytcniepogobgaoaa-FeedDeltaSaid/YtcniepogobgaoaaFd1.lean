/-
  A map from ints to slices, as a partial function.
-/
import Derived.Test.YtcniepogobgaoaaSnMap
namespace Go.Proofs.Ytcniepogobgaoaa
set_option linter.unusedVariables false
set_option linter.unusedSimpArgs false
open Go.RowKit Go.Maps
open Go.WideShapes
open Go.ChangeMaps (mem_insert_iff)

/-- A value of a map's element type, whatever it is. -/
def RV : Value → Option (DataW Value × List MemPlace) := fun v => some (.held v, [])
/-- The datum D is the partial function f. -/
def MV (D : DataW Value) (f : Int → Option Value) : Prop :=
  ∃ es, D = .map es ∧ es.Pairwise (fun p q => p.1 ≠ q.1) ∧ (∀ p ∈ es, ∃ x v, p = (.int .i64 x, .held v)) ∧ ∀ i v, f i = some v ↔ ((Lit.int .i64 i, DataW.held v) ∈ es)
theorem MV.empty : MV (.map []) fun _ => none := ⟨[], rfl, List.Pairwise.nil, by simp, by simp⟩
theorem MV.tidy {D : DataW Value} {f : Int → Option Value} (h : MV D f) : Tidy D := by obtain ⟨es, rfl, hp, _⟩ := h; exact ⟨es, rfl, hp⟩
theorem MV.has {D : DataW Value} {f : Int → Option Value} (h : MV D f) (i : Int) : Maps.has D (.int .i64 i) = (f i).isSome := by
  obtain ⟨es, rfl, hp, hk, hf⟩ := h
  rw [has_eq]
  cases hfi : f i with
  | some v =>
    have := (hf i v).1 hfi
    exact List.any_eq_true.2 ⟨_, this, WideAt.sameKey_self (key_isKey i)⟩
  | none =>
    rw [Option.isSome_none, List.any_eq_false]
    intro p hp'
    obtain ⟨x, v, rfl⟩ := hk p hp'
    intro hs
    by_cases hx : x = i
    · subst hx
      have := (hf x v).2 hp'
      rw [hfi] at this; cases this
    · have : (Lit.int .i64 x) ≠ .int .i64 i := by intro e; injection e with _ e; exact hx e
      rw [sameKey_ne this] at hs; cases hs
theorem MV.at_ {D : DataW Value} {f : Int → Option Value} (h : MV D f) (i : Int) (z : Value) : D.atKey (.int .i64 i) (.held z) = .held ((f i).getD z) := by
  have hh := h.has i
  obtain ⟨es, rfl, hp, hk, hf⟩ := h
  cases hfi : f i with
  | some v => exact WideAt.atKey_mem (.held z) (key_isKey i) hp ((hf i v).1 hfi)
  | none =>
    rw [hfi] at hh
    exact atKey_of_not_has hh _
theorem MV.put {D : DataW Value} {f : Int → Option Value} (h : MV D f) (k : Int) (v : Value) : MV (D.put (.int .i64 k) (.held v)) fun i => if i = k then some v else f i := by
  obtain ⟨es', he', hp'⟩ := h.tidy.put (key_isKey k) (.held v)
  obtain ⟨es, rfl, hp, hk, hf⟩ := h
  have he : es' = DataW.insert (.int .i64 k, .held v) (es.filter fun p => !p.1.sameKey (.int .i64 k)) := by
    simp only [DataW.put] at he'
    injection he' with he'
    exact he'.symm
  have hmem : ∀ p, p ∈ es' ↔ p = (.int .i64 k, .held v) ∨ (p ∈ es ∧ p.1 ≠ .int .i64 k) := fun p => by
    rw [he, mem_insert_iff, List.mem_filter]
    refine or_congr Iff.rfl (and_congr_right fun hpe => ?_)
    constructor
    · intro hs e
      rw [e, WideAt.sameKey_self (key_isKey k)] at hs; cases hs
    · intro hne
      rw [sameKey_ne hne]; rfl
  refine ⟨es', he', hp', fun p hpe => ?_, fun i u => ?_⟩
  · rcases (hmem p).1 hpe with rfl | ⟨h1, _⟩
    · exact ⟨_, _, rfl⟩
    · exact hk p h1
  · rw [hmem]
    by_cases hik : i = k
    · subst hik
      simp only [if_true]
      constructor
      · intro e; injection e with e; subst e; exact .inl rfl
      · rintro (e | ⟨_, h2⟩)
        · injection e with _ e; injection e with e; rw [e]
        · exact absurd rfl h2
    · show (if i = k then some v else f i) = some u ↔ _
      rw [if_neg hik, hf]
      constructor
      · intro h1; exact .inr ⟨h1, fun e => by injection e with _ e; exact hik e⟩
      · rintro (e | ⟨h1, _⟩)
        · injection e with e _; injection e with _ e; exact absurd e hik
        · exact h1
theorem MV.congr {D : DataW Value} {f g : Int → Option Value} (h : MV D f) (hfg : ∀ i, f i = g i) : MV D g := by
  have : f = g := funext hfg
  rw [← this]; exact h
theorem MV.del {D : DataW Value} {f : Int → Option Value} (h : MV D f) (k : Int) : MV (D.del (.int .i64 k)) fun i => if i = k then none else f i := by
  obtain ⟨es, rfl, hp, hk, hf⟩ := h
  have he : (DataW.map es).del (.int .i64 k) = .map (es.filter fun p => !p.1.sameKey (.int .i64 k)) := rfl
  refine ⟨_, he, hp.filter _, fun p hpe => hk p (List.mem_filter.1 hpe).1, fun i v => ?_⟩
  rw [List.mem_filter]
  by_cases hik : i = k
  · subst hik
    simp only [if_true]
    constructor
    · intro e; cases e
    · rintro ⟨_, h2⟩
      rw [WideAt.sameKey_self (key_isKey i)] at h2; cases h2
  · show (if i = k then none else f i) = some v ↔ _
    rw [if_neg hik, hf]
    have : (Lit.int .i64 i) ≠ .int .i64 k := by intro e; injection e with _ e; exact hik e
    rw [sameKey_ne this]
    simp
theorem MV.keys {D : DataW Value} {f : Int → Option Value} (h : MV D f) {ss : List Int} (hs : ss.Perm (intKeys D)) (i : Int) : i ∈ ss ↔ (f i).isSome = true := by
  have hh := h.has
  obtain ⟨es, rfl, hp, hk, hf⟩ := h
  rw [hs.mem_iff, ← hh i, has_eq]
  simp only [intKeys, List.mem_map, List.any_eq_true]
  constructor
  · rintro ⟨p, hp', rfl⟩
    obtain ⟨x, v, rfl⟩ := hk p hp'
    exact ⟨_, hp', WideAt.sameKey_self (key_isKey x)⟩
  · rintro ⟨p, hp', hs⟩
    obtain ⟨x, v, rfl⟩ := hk p hp'
    refine ⟨_, hp', ?_⟩
    by_cases hx : x = i
    · subst hx; rfl
    · have : (Lit.int .i64 x) ≠ .int .i64 i := by intro e; injection e with _ e; exact hx e
      rw [sameKey_ne this] at hs; cases hs
theorem MV.size_put {D : DataW Value} {f : Int → Option Value} (h : MV D f) {k : Int} (hk : f k = none) (v : DataW Value) : Maps.size (D.put (.int .i64 k) v) = Maps.size D + 1 := by
  rw [Maps.size_put h.tidy, h.has k, hk]; rfl
theorem MV.size_del {D : DataW Value} {f : Int → Option Value} (h : MV D f) {k : Int} (hk : (f k).isSome = true) : Maps.size (D.del (.int .i64 k)) + 1 = Maps.size D := by
  have := Maps.size_del (k := .int .i64 k) h.tidy
  rw [h.has k, hk, if_pos rfl] at this
  exact this
/-- An own map may be said to have just as many entries as it has. -/
theorem ownsMap_tight {H : Type} {P : Program} {k : TypeId} {R : Value → Option (DataW H × List MemPlace)} {w : World} {b n : Nat} {D : DataW H} (h : w.ownsMap P k R b n D) : w.ownsMap P k R b (Maps.size D) D := by
  obtain ⟨es, clock, hb, F, hs, rfl⟩ := h
  exact ⟨es, clock, hb, F, by simp [Maps.size, length_sorted], rfl⟩
end Go.Proofs.Ytcniepogobgaoaa
