/-
  Maps keyed by int, as partial functions; a look-up among bools. (The kit has no law on a look-up in a map of bools that the call makes.)
-/
import Derived.Test.YtcniepogobgaoaaSnApp
import Derived.Test.YtcniepogobgaoaaSnR1
import Derived.Maps.OwnSet
import Derived.Maps.OwnOps
import Derived.Lib.SlMapMerge
import Derived.Lib.SlMapFilter
import Derived.Lib.SlKeysI
namespace Go.Proofs.Ytcniepogobgaoaa
set_option linter.unusedVariables false
set_option linter.unusedSimpArgs false
open Go.RowKit Go.Maps
open Go.WideShapes
open Go.ChangeMaps (mem_insert_iff)

/-- The datum D is the partial function f. -/
def MI (D : DataW Unit) (f : Int → Option Lit) : Prop :=
  ∃ es, D = .map es ∧ es.Pairwise (fun p q => p.1 ≠ q.1) ∧ (∀ p ∈ es, ∃ x v, p = (.int .i64 x, .lit v)) ∧ ∀ i v, f i = some v ↔ ((Lit.int .i64 i, DataW.lit v) ∈ es)
theorem MI.empty : MI (.map []) fun _ => none := ⟨[], rfl, List.Pairwise.nil, by simp, by simp⟩
theorem key_isKey (x : Int) : WideAt.IsKeyLit (.int .i64 x) := trivial
theorem MI.has {D : DataW Unit} {f : Int → Option Lit} (h : MI D f) (i : Int) : Maps.has D (.int .i64 i) = (f i).isSome := by
  obtain ⟨es, rfl, hp, hk, hf⟩ := h
  rw [has_eq]
  cases hfi : f i with
  | some v =>
    have := (hf i v).1 hfi
    exact List.any_eq_true.2 ⟨_, this, WideAt.sameKey_self (key_isKey i)⟩
  | none =>
    rw [Option.isSome_none, List.any_eq_false]
    intro p hp'
    obtain ⟨x, v, rfl⟩ := hk p hp'
    intro hs
    by_cases hx : x = i
    · subst hx
      have := (hf x v).2 hp'
      rw [hfi] at this; cases this
    · have : (Lit.int .i64 x) ≠ .int .i64 i := by intro e; injection e with _ e; exact hx e
      rw [sameKey_ne this] at hs; cases hs
theorem MI.at_ {D : DataW Unit} {f : Int → Option Lit} (h : MI D f) (i : Int) (z : Lit) : D.atKey (.int .i64 i) (.lit z) = .lit ((f i).getD z) := by
  have hh := h.has i
  obtain ⟨es, rfl, hp, hk, hf⟩ := h
  cases hfi : f i with
  | some v => exact WideAt.atKey_mem (.lit z) (key_isKey i) hp ((hf i v).1 hfi)
  | none =>
    rw [hfi] at hh
    exact atKey_of_not_has hh _
theorem MI.put {D : DataW Unit} {f : Int → Option Lit} (h : MI D f) (k : Int) (v : Lit) : MI (D.put (.int .i64 k) (.lit v)) fun i => if i = k then some v else f i := by
  have ht : Tidy D := by obtain ⟨es, rfl, hp, _⟩ := h; exact ⟨es, rfl, hp⟩
  obtain ⟨es', he', hp'⟩ := ht.put (key_isKey k) (.lit v)
  obtain ⟨es, rfl, hp, hk, hf⟩ := h
  have he : es' = DataW.insert (.int .i64 k, .lit v) (es.filter fun p => !p.1.sameKey (.int .i64 k)) := by
    simp only [DataW.put] at he'
    injection he' with he'
    exact he'.symm
  have hmem : ∀ p, p ∈ es' ↔ p = (.int .i64 k, .lit v) ∨ (p ∈ es ∧ p.1 ≠ .int .i64 k) := fun p => by
    rw [he, mem_insert_iff, List.mem_filter]
    refine or_congr Iff.rfl (and_congr_right fun hpe => ?_)
    constructor
    · intro hs e
      rw [e, WideAt.sameKey_self (key_isKey k)] at hs; cases hs
    · intro hne
      rw [sameKey_ne hne]; rfl
  refine ⟨es', he', hp', fun p hpe => ?_, fun i u => ?_⟩
  · rcases (hmem p).1 hpe with rfl | ⟨h1, _⟩
    · exact ⟨_, _, rfl⟩
    · exact hk p h1
  · rw [hmem]
    by_cases hik : i = k
    · subst hik
      simp only [if_true]
      constructor
      · intro e; injection e with e; subst e; exact .inl rfl
      · rintro (e | ⟨_, h2⟩)
        · injection e with _ e; injection e with e; rw [e]
        · exact absurd rfl h2
    · show (if i = k then some v else f i) = some u ↔ _
      rw [if_neg hik, hf]
      constructor
      · intro h1; exact .inr ⟨h1, fun e => by injection e with _ e; exact hik e⟩
      · rintro (e | ⟨h1, _⟩)
        · injection e with e _; injection e with _ e; exact absurd e hik
        · exact h1
theorem MI.congr {D : DataW Unit} {f g : Int → Option Lit} (h : MI D f) (hfg : ∀ i, f i = g i) : MI D g := by
  have : f = g := funext hfg
  rw [← this]; exact h
/-- maps.DeleteFunc by a predicate on keys. -/
theorem MI.del {D : DataW Unit} {f : Int → Option Lit} (h : MI D f) (pd : Lit → DataW Unit → Bool) (q : Int → Bool) (hq : ∀ x d, pd (.int .i64 x) d = q x) : MI (Lib.deleteFuncD pd D) fun i => if q i = true then none else f i := by
  obtain ⟨es, rfl, hp, hk, hf⟩ := h
  refine ⟨es.filter fun p => !pd p.1 p.2, rfl, hp.filter _, fun p hpe => hk p (List.mem_filter.1 hpe).1, fun i v => ?_⟩
  rw [List.mem_filter, ← hf]
  simp only [hq]
  cases q i <;> simp
/-- maps.Copy. -/
theorem MI.merge {D C : DataW Unit} {f g : Int → Option Lit} (h : MI D f) (h' : MI C g) : MI (Lib.mergeD D C) fun i => match g i with | some v => some v | none => f i := by
  obtain ⟨es, rfl, hp, hk, hg⟩ := h'
  have key : ∀ (es : List (Lit × DataW Unit)) (D : DataW Unit) (f g : Int → Option Lit), MI D f → es.Pairwise (fun p q => p.1 ≠ q.1) → (∀ p ∈ es, ∃ x v, p = (.int .i64 x, .lit v)) → (∀ i v, g i = some v ↔ ((Lit.int .i64 i, DataW.lit v) ∈ es)) →
      MI (es.foldl (fun D p => D.put p.1 p.2) D) fun i => match g i with | some v => some v | none => f i := by
    intro es
    induction es with
    | nil =>
      intro D f g hD _ _ hg
      refine hD.congr fun i => ?_
      cases hgi : g i with
      | none => rfl
      | some v => have := (hg i v).1 hgi; cases this
    | cons p t ih =>
      intro D f g hD hp hk hg
      obtain ⟨x, v, rfl⟩ := hk p (List.mem_cons_self ..)
      obtain ⟨hp1, hp2⟩ := List.pairwise_cons.1 hp
      have hgx : g x = some v := (hg x v).2 (List.mem_cons_self ..)
      have hnot : ∀ u, (Lit.int .i64 x, DataW.lit u) ∉ t := fun u hu => hp1 _ hu rfl
      have := ih (D.put (.int .i64 x) (.lit v)) _ (fun i => if i = x then none else g i) (hD.put x v) hp2 (fun p hp => hk p (List.mem_cons_of_mem _ hp)) (fun i u => by
        by_cases hix : i = x
        · subst hix
          simp [hnot]
        · rw [if_neg hix, hg]
          constructor
          · intro h
            rcases List.mem_cons.1 h with e | h
            · injection e with e _; injection e with _ e; exact absurd e hix
            · exact h
          · exact fun h => List.mem_cons_of_mem _ h)
      refine this.congr fun i => ?_
      by_cases hix : i = x
      · subst hix; simp [hgx]
      · simp [hix]
  exact key es D f g h hp hk hg
theorem MI.size_le {D : DataW Unit} {f : Int → Option Lit} (h : MI D f) : Tidy D := by obtain ⟨es, rfl, hp, _⟩ := h; exact ⟨es, rfl, hp⟩
/-- The keys, sorted: just where the function says something. -/
theorem MI.keys {D : DataW Unit} {f : Int → Option Lit} (h : MI D f) {ss : List Int} (hs : ss.Perm (intKeys D)) : (ss.mergeSort leI).Pairwise (· < ·) ∧ ∀ i, i ∈ ss.mergeSort leI ↔ (f i).isSome = true := by
  have hh := h.has
  obtain ⟨es, rfl, hp, hk, hf⟩ := h
  have hmem : ∀ i, i ∈ intKeys (DataW.map es) ↔ (f i).isSome = true := fun i => by
    rw [← hh i, has_eq]
    simp only [intKeys, List.mem_map, List.any_eq_true]
    constructor
    · rintro ⟨p, hp', rfl⟩
      obtain ⟨x, v, rfl⟩ := hk p hp'
      exact ⟨_, hp', WideAt.sameKey_self (key_isKey x)⟩
    · rintro ⟨p, hp', hs⟩
      obtain ⟨x, v, rfl⟩ := hk p hp'
      refine ⟨_, hp', ?_⟩
      by_cases hx : x = i
      · subst hx; rfl
      · have : (Lit.int .i64 x) ≠ .int .i64 i := by intro e; injection e with _ e; exact hx e
        rw [sameKey_ne this] at hs; cases hs
  have hnd : (intKeys (DataW.map es)).Nodup := by
    simp only [intKeys]
    refine List.pairwise_map.2 (hp.imp_of_mem fun {a b} ha hb hab e => hab ?_)
    obtain ⟨x, v, rfl⟩ := hk a ha
    obtain ⟨y, u, rfl⟩ := hk b hb
    have e' : x = y := e
    rw [e']
  have hnd' : (ss.mergeSort leI).Nodup := ((List.mergeSort_perm ss leI).trans hs).nodup_iff.2 hnd
  refine ⟨?_, fun i => by rw [((List.mergeSort_perm ss leI).trans hs).mem_iff, hmem]⟩
  have hsort := List.pairwise_mergeSort (le := leI) (by intro a b c; simp [leI]; omega) (by intro a b; simp [leI]; omega) ss
  have := hsort.and hnd'
  exact this.imp (by intro a b h; have := h.1; simp [leI] at this; have := h.2; omega)

section
variable {P : Program}
theorem plainElem_bool_inv {e : TypeId} (he : P.underlying e = some .bool) {v : Value} {z : DataW Unit × List MemPlace} (h : plainElem P e v = some z) : ∃ x, v = .bool x ∧ z = (.lit (.bool x), []) := by
  unfold plainElem at h
  rw [he] at h
  cases v <;> simp at h
  exact ⟨_, rfl, h.symm⟩
/-- 'm[k]' in a map of bools that reads as f: what stands there, else false. -/
theorem wpl_lookup_bool (w : World) {ops : Array Oper} {rest : List Oper} {o : Oper} {a : Act} {Q : Exit → Act → World → Prop}
    (hg : o.guard = none) (m x : Operand) (t : TypeId) (hop : o.op = Op.lookup t m x false)
    (k e : TypeId) (hk : P.underlying k = some (.int .i64)) (ht : P.underlying t = some (.map k e)) (he : P.underlying e = some .bool) (hz : (zeroValue e).run P w = .ok (.bool false) w) (b n : Nat) (D : DataW Unit) (f : Int → Option Lit) (hf : MI D f)
    (hm : a.eval m = .map (some b)) (hown : w.ownsMap P k (plainElem P e) b n D) (i : Int) (hi : (Lit.int .i64 i).wf = true) (hx : a.eval x = .int .i64 i) (c : Bool) (hc : (f i).getD (.bool false) = .bool c)
    (hK : wpList P ops Q rest (a.put o.dst (.bool c)) w) : wpList P ops Q (o :: rest) a w := by
  refine wpList_plain hg fun K' hK' => ?_
  obtain ⟨v, ps, hrun, hv⟩ := hown.lookup (int_keyed hk) ht hz (plainElem_bool he false) (keyOf_int_mk hk hi)
  rw [hf.at_ i (.bool false), hc] at hv
  obtain ⟨y, rfl, hy⟩ := plainElem_bool_inv he hv
  have : y = c := by injection hy with h _; injection h with h; injection h with h; exact h.symm
  subst this
  unfold Oper.wp
  simp [execOp, hop, hm, hx, hrun, Result.andThen]
  exact hK' _ _ hK
/-- 'v, ok := m[k]' in a map of ints. -/
theorem wpl_lookup_ok_int (w : World) {ops : Array Oper} {rest : List Oper} {o : Oper} {a : Act} {Q : Exit → Act → World → Prop}
    (hg : o.guard = none) (m x : Operand) (t : TypeId) (hop : o.op = Op.lookup t m x true)
    (k e : TypeId) (hk : P.underlying k = some (.int .i64)) (ht : P.underlying t = some (.map k e)) (he : P.underlying e = some (.int .i64)) (hz : (zeroValue e).run P w = .ok (.int .i64 0) w) (b n : Nat) (D : DataW Unit) (f : Int → Option Lit) (hf : MI D f)
    (hm : a.eval m = .map (some b)) (hown : w.ownsMap P k (plainElem P e) b n D) (i : Int) (hi : (Lit.int .i64 i).wf = true) (hx : a.eval x = .int .i64 i) (c : Int) (hc : (f i).getD (.int .i64 0) = .int .i64 c) (is : Bool) (his : (f i).isSome = is)
    (hK : wpList P ops Q rest (a.put o.dst (.tuple #[.int .i64 c, .bool is])) w) : wpList P ops Q (o :: rest) a w := by
  refine wpList_lookup_own_ok_int w hg m x t hop k e .i64 (int_keyed hk) ht he hz b n D hm hown (.int .i64 i) (.int .i64 i) hx (keyOf_int_mk hk hi) ?_
  intro c' hat _
  rw [hf.at_ i (.int .i64 0), hc] at hat
  have : c = c' := by injection hat with h; injection h
  subst this
  rw [hf.has i, his]
  exact hK
/-- 'm[k]' in a map of ints. -/
theorem wpl_lookup_int (w : World) {ops : Array Oper} {rest : List Oper} {o : Oper} {a : Act} {Q : Exit → Act → World → Prop}
    (hg : o.guard = none) (m x : Operand) (t : TypeId) (hop : o.op = Op.lookup t m x false)
    (k e : TypeId) (hk : P.underlying k = some (.int .i64)) (ht : P.underlying t = some (.map k e)) (he : P.underlying e = some (.int .i64)) (hz : (zeroValue e).run P w = .ok (.int .i64 0) w) (b n : Nat) (D : DataW Unit) (f : Int → Option Lit) (hf : MI D f)
    (hm : a.eval m = .map (some b)) (hown : w.ownsMap P k (plainElem P e) b n D) (i : Int) (hi : (Lit.int .i64 i).wf = true) (hx : a.eval x = .int .i64 i) (c : Int) (hc : (f i).getD (.int .i64 0) = .int .i64 c)
    (hK : wpList P ops Q rest (a.put o.dst (.int .i64 c)) w) : wpList P ops Q (o :: rest) a w := by
  refine wpList_lookup_own_int w hg m x t hop k e .i64 (int_keyed hk) ht he hz b n D hm hown (.int .i64 i) (.int .i64 i) hx (keyOf_int_mk hk hi) ?_
  intro c' hat _
  rw [hf.at_ i (.int .i64 0), hc] at hat
  have : c = c' := by injection hat with h; injection h
  subst this
  exact hK
/-- 'm[k] = v'. -/
theorem wpl_store (w : World) {ops : Array Oper} {rest : List Oper} {o : Oper} {a : Act} {Q : Exit → Act → World → Prop}
    (hg : o.guard = none) (m x v : Operand) (t : TypeId) (hop : o.op = Op.mapUpdate t m x v)
    (k e : TypeId) (hk : P.underlying k = some (.int .i64)) (ht : P.underlying t = some (.map k e)) (b n : Nat) (D : DataW Unit) (f : Int → Option Lit) (hf : MI D f)
    (hm : a.eval m = .map (some b)) (hown : w.ownsMap P k (plainElem P e) b n D) (hn : n < maxLen) (i : Int) (hi : (Lit.int .i64 i).wf = true) (val : Value) (u : Lit) (hx : a.eval x = .int .i64 i) (hv : a.eval v = val) (hval : plainElem (H := Unit) P e val = some (.lit u, []))
    (hK : ∀ D' w', Hid (w'.ownsMap P k (plainElem P e) b (n + 1) D') → Hid (MI D' fun j => if j = i then some u else f j) → Hid (w.grownBy w' (some b)) → wpList P ops Q rest (a.put o.dst undef) w') : wpList P ops Q (o :: rest) a w :=
  wpList_mapUpdate_own w hg m x v t hop k e (int_keyed hk) ht (plainElem P e) b n D hm hown hn (.int .i64 i) val (.int .i64 i) hx hv (keyOf_int_mk hk hi) (.lit u) [] hval fun w' h1 h2 => hK _ w' h1 (hf.put i u) h2
end
end Go.Proofs.Ytcniepogobgaoaa
