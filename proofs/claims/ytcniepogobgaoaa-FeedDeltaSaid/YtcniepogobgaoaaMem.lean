/-
  Words for memory, over any program: a slice that reads as a list of numbers, a block that is known whole, an append of one number.
-/
import Derived.WalkKit
import Derived.WalkSpells
import Derived.WalkLawsBesides
import Derived.Laws.OwnMore
import Derived.Maps.AppendAt
import Derived.Deep.AppendLies
import Derived.Deep.Draws
import Derived.Laws.Rows
import Derived.Lib.Hide
import Derived.Deep.QuietTactic
import Derived.BigQuiet
import Derived.Lib.MinMax
import Derived.OpenShut
import Derived.Laws.AppendOwnNone
namespace Go.Proofs.Ytcniepogobgaoaa
set_option linter.unusedVariables false
set_option linter.unusedSimpArgs false
open Go.RowKit

/-- Induction on a list from its end. -/
theorem snoc_ind {α : Type} {P : List α → Prop} (h0 : P []) (h1 : ∀ l x, P l → P (l ++ [x])) (l : List α) : P l := by
  rw [← l.reverse_reverse]
  induction l.reverse with
  | nil => exact h0
  | cons x t ih => simpa using h1 _ x ih

/-- Element k of a list of numbers. -/
def ix (zs : List Int) (k : Nat) : Int := zs.getD k 0
theorem ix_get {zs : List Int} {k : Nat} (h : k < zs.length) : ix zs k = zs[k] := by simp [ix, List.getD, List.getElem?_eq_getElem h]
theorem ix_app_l {xs ys : List Int} {k : Nat} (h : k < xs.length) : ix (xs ++ ys) k = ix xs k := by
  simp [ix, List.getD, List.getElem?_append_left h]
theorem ix_app_r {xs ys : List Int} {k : Nat} (h : xs.length ≤ k) : ix (xs ++ ys) k = ix ys (k - xs.length) := by
  simp [ix, List.getD, List.getElem?_append_right h]
theorem ix_drop (zs : List Int) (d k : Nat) : ix (zs.drop d) k = ix zs (d + k) := by simp [ix, List.getD, List.getElem?_drop]
theorem ix_take {zs : List Int} {d k : Nat} (h : k < d) : ix (zs.take d) k = ix zs k := by simp [ix, List.getD, List.getElem?_take_of_lt h]
theorem ix_map {zs : List Int} {f : Int → Int} {k : Nat} (h : k < zs.length) : ix (zs.map f) k = f (ix zs k) := by
  simp [ix, List.getD, List.getElem?_eq_getElem h]
theorem take_snoc_ix {zs : List Int} {k : Nat} (h : k < zs.length) : zs.take (k + 1) = zs.take k ++ [ix zs k] := by
  rw [List.take_succ_eq_append_getElem h, ix_get h]
theorem ix_mem {zs : List Int} {k : Nat} (h : k < zs.length) : ix zs k ∈ zs := by rw [ix_get h]; exact List.getElem_mem h
theorem ix_of_cons {z : Int} {zs : List Int} : ix (z :: zs) 0 = z := rfl
theorem ix_set {zs : List Int} {k i : Nat} {v : Int} (hk : k < zs.length) : ix (zs.set k v) i = if k = i then v else ix zs i := by
  simp only [ix, List.getD, List.getElem?_set]
  split
  · subst_vars; simp [hk]
  · rfl
theorem ext_ix {xs ys : List Int} (hl : xs.length = ys.length) (h : ∀ k, k < xs.length → ix xs k = ix ys k) : xs = ys := by
  apply List.ext_getElem hl
  intro k h1 h2
  have := h k h1
  rwa [ix_get h1, ix_get h2] at this

/-- The n cells from a slice's address on are 'f'; the address lies below block B. Nothing is said of an empty slice. -/
def RdF (w : World) (B : Nat) (A : Option Addr) (n : Nat) (f : Nat → Value) : Prop :=
  0 < n → ∃ b off, A = some ⟨b, off, none⟩ ∧ b < B ∧ ∀ k, k < n → w.cell? ⟨b, off + k, none⟩ = some (f k)
/-- The slice reads as the numbers zs. -/
def Rd (w : World) (B : Nat) (A : Option Addr) (zs : List Int) : Prop := RdF w B A zs.length fun k => .int .i64 (ix zs k)

section
variable {w w' : World} {B B' n : Nat} {A : Option Addr} {f : Nat → Value} {zs : List Int}
theorem RdF.keep (h : RdF w B A n f) (hk : ∀ p : Addr, p.block < B → w'.cell? p = w.cell? p) : RdF w' B A n f := fun hn => by
  obtain ⟨b, off, e, hb, hc⟩ := h hn
  exact ⟨b, off, e, hb, fun k hkn => (hk _ hb).trans (hc k hkn)⟩
theorem RdF.more (h : RdF w B A n f) (hB : B ≤ B') : RdF w B' A n f := fun hn => by
  obtain ⟨b, off, e, hb, hc⟩ := h hn
  exact ⟨b, off, e, by omega, hc⟩
theorem RdF.below (h : RdF w B A n f) (hb : Below B' w w') (hB : B ≤ B') : RdF w' B A n f := h.keep fun _ hp => hb.cell (Nat.lt_of_lt_of_le hp hB)
theorem RdF.alloc (h : RdF w B A n f) (hB : B ≤ w.heap.size) (o : Obj) : RdF (w.alloc o) B A n f := h.keep fun p hp => World.cell?_alloc_lt w o p (by omega)
theorem RdF.zero : RdF w B A 0 f := fun h => absurd h (by omega)
theorem Rd.keep (h : Rd w B A zs) (hk : ∀ p : Addr, p.block < B → w'.cell? p = w.cell? p) : Rd w' B A zs := RdF.keep h hk
theorem Rd.more (h : Rd w B A zs) (hB : B ≤ B') : Rd w B' A zs := RdF.more h hB
theorem Rd.below (h : Rd w B A zs) (hb : Below B' w w') (hB : B ≤ B') : Rd w' B A zs := RdF.below h hb hB
theorem Rd.alloc (h : Rd w B A zs) (hB : B ≤ w.heap.size) (o : Obj) : Rd (w.alloc o) B A zs := RdF.alloc h hB o
theorem Rd.nil : Rd w B A [] := RdF.zero
theorem Rd.drew (h : Rd w B A zs) : Rd w.drew B A zs := h
theorem Rd.drewN (h : Rd w B A zs) (k : Nat) : Rd (w.drewN k) B A zs := h
theorem Rd.drop {b off : Nat} (h : Rd w B (some ⟨b, off, none⟩) zs) (k : Nat) : Rd w B (some ⟨b, off + k, none⟩) (zs.drop k) := fun hn => by
  have hl : k < zs.length := by simp at hn; omega
  obtain ⟨b', off', e, hb, hc⟩ := h (by omega)
  injection e with e
  injection e with e1 e2
  subst e1 e2
  refine ⟨b, off + k, rfl, hb, fun j hj => ?_⟩
  simp at hj
  have := hc (k + j) (by omega)
  rw [Nat.add_assoc, this]
  simp only []
  rw [ix_drop]
theorem Rd.take (h : Rd w B A zs) (k : Nat) : Rd w B A (zs.take k) := fun hn => by
  have hl : 0 < zs.length := by simp at hn; omega
  obtain ⟨b, off, e, hb, hc⟩ := h hl
  refine ⟨b, off, e, hb, fun j hj => ?_⟩
  simp at hj
  have := hc j (by omega)
  rw [this]; simp only []; rw [ix_take (by omega)]
end

/-- The slice value v of the call's own holds the numbers zs, in a block from B on (T: the element type's number). -/
def Own (T : TypeId) (w : World) (B : Nat) (v : Value) (zs : List Int) : Prop := w.ownsRow B T 1 v zs.length (zs.map (Value.int .i64))

section
variable {T : TypeId} {w w' : World} {B n : Nat} {v : Value} {zs : List Int}
theorem Own.nil (T : TypeId) (w : World) (B : Nat) : Own T w B (.slice none 0 0) [] := World.ownsRow_nil _ _ _ _
theorem Own.alloc (h : Own T w B v zs) (o : Obj) : Own T (w.alloc o) B v zs := World.ownsRow.alloc h o
theorem Own.form (h : Own T w B v zs) : ∃ A c, v = .slice A zs.length c ∧ zs.length ≤ c ∧ c ≤ maxLen ∧ Rd w w.heap.size A zs := by
  rcases h.2 with ⟨rfl, h0⟩ | ⟨g, cap, cur, rfl, hb, hh, hn, hc, hs, ht⟩
  · exact ⟨none, 0, by rw [h0], by omega, by simp [maxLen], fun hn => absurd hn (by omega)⟩
  · refine ⟨_, cap, rfl, hn, hc, fun hp => ⟨g, 0, rfl, (Array.getElem?_eq_some_iff.1 hh).1, fun k hk => ?_⟩⟩
    have h1 : (cur.toList.take zs.length)[k]? = (zs.map (Value.int .i64))[k]? := by rw [← ht, Nat.mul_one]
    rw [List.getElem?_take_of_lt hk] at h1
    simp only [World.cell?, hh, Nat.zero_add]
    simp only [Option.isSome_none, Bool.false_eq_true, if_false]
    rw [← Array.getElem?_toList, h1]
    simp [List.getElem?_eq_getElem hk, ix_get hk]
theorem Own.base (h : Own T w B v zs) : ∀ k, v.ownBlock = some k → B ≤ k := by
  intro k hk
  rcases h.2 with ⟨rfl, _⟩ | ⟨g, cap, cur, rfl, hb, _⟩
  · simp [Value.ownBlock] at hk
  · simp [Value.ownBlock] at hk; omega
end

section
variable {P : Program}
/-- 'out = append(out, z)': the one number lies in a block at 'ad'. -/
theorem wpl_append_int {w : World} {ops : Array Oper} {rest : List Oper} {o : Oper} {a : Act} {Q : Exit → Act → World → Prop} (hgd : o.guard = none) (s x : Operand) (t : TypeId)
    (ho : o.op = .call { callee := .builtin .append, args := #[s, x], argTypes := #[t, t] })
    (T : TypeId) (ht : P.underlying t = some (.slice T)) (hi : (P.info? T).map (fun i => (i.zero, i.size, i.bytes)) = some (some (.int .i64 0), 1, 8))
    (B : Nat) (v : Value) (zs : List Int) (hs : a.eval s = v) (hown : Own T w B v zs)
    (ad : Addr) (c : Nat) (z : Int) (hx : a.eval x = .slice (some ad) 1 c) (hc : w.cell? ad = some (.int .i64 z))
    (hlen : zs.length < 1000000000000) (hB : B ≤ w.heap.size)
    (h : ∀ v' w', Hid (Own T w' B v' (zs ++ [z])) → Hid (w.grownBy w' v.ownBlock) → Below B w w' → wpList P ops Q rest (a.put o.dst v') w') : wpList P ops Q (o :: rest) a w := by
  obtain ⟨i0, hi0, hz0, hz1, hz2⟩ := info_parts hi
  refine wpList_append_own w hgd s x t ho B T i0 (.int .i64 0) 1 8 ht hi0 hz0 hz1 hz2 rfl (by decide) v zs.length (zs.map (Value.int .i64)) hs hown ad 1 c [.int .i64 z] hx rfl ?_ ?_ ?_ ?_ hB ?_
  · intro j u hj
    match j, hj with
    | 0, hj => simp at hj; subst hj; simpa [Addr.add] using hc
  · intro u hu; simp at hu; subst hu; rfl
  · simp [maxLen]; omega
  · omega
  · intro v' w' h1 h2 _
    refine h v' w' ?_ h2 ?_
    · show Own _ _ _ _ _
      unfold Own
      rw [List.map_append, List.length_append]
      exact h1
    · exact (Below.refl _ _).grown h2 hB hown.base
end

theorem Own.below {T : TypeId} {w w' : World} {B : Nat} {v : Value} {zs : List Int} (h : Own T w B v zs) (hb : Below w.heap.size w w') : Own T w' B v zs := by
  refine ⟨h.1, ?_⟩
  rcases h.2 with h0 | ⟨g, cap, cur, hv, hg, hh, hr⟩
  · exact .inl h0
  · exact .inr ⟨g, cap, cur, hv, hg, (hb.block g (Array.getElem?_eq_some_iff.1 hh).1).trans hh, hr⟩
theorem Own.lower {T : TypeId} {w : World} {B B' : Nat} {v : Value} {zs : List Int} (h : Own T w B v zs) (hB : B' ≤ B) : Own T w B' v zs := by
  refine ⟨h.1, ?_⟩
  rcases h.2 with h0 | ⟨g, cap, cur, hv, hg, hr⟩
  · exact .inl h0
  · exact .inr ⟨g, cap, cur, hv, by omega, hr⟩
theorem Own.rd {T : TypeId} {w : World} {B n c : Nat} {A : Option Addr} {zs : List Int} (h : Own T w B (.slice A n c) zs) : Rd w w.heap.size A zs := by
  obtain ⟨A', c', hv, _, _, hr⟩ := h.form
  injection hv with h1 h2 h3
  subst h1
  exact hr
theorem Own.len {T : TypeId} {w : World} {B n c : Nat} {A : Option Addr} {zs : List Int} (h : Own T w B (.slice A n c) zs) : zs.length = n := by
  obtain ⟨A', c', hv, _, _, hr⟩ := h.form
  injection hv with h1 h2 h3
  omega

theorem Own.open_ {T : TypeId} {w : World} {B n c : Nat} {A : Option Addr} {zs : List Int} (h : Own T w B (.slice A n c) zs) (hn : 0 < n) :
    ∃ g, A = some ⟨g, 0, none⟩ ∧ B ≤ g ∧ g < w.heap.size ∧ (∀ k, k < n → w.cell? ⟨g, k, none⟩ = some (.int .i64 (ix zs k))) ∧ ∀ k, w.frozen? ⟨g, k, none⟩ = false := by
  have hl := h.len
  have hr := h.rd
  unfold Own at h
  rw [hl] at h
  rcases h.2 with ⟨h', _⟩ | ⟨g, cap', cur, h', hb, hg, _⟩
  · simp at h'; omega
  · simp only [Value.slice.injEq, true_and] at h'
    obtain ⟨rfl, rfl⟩ := h'
    refine ⟨g, rfl, hb, (Array.getElem?_eq_some_iff.1 hg).1, fun k hk => ?_, fun k => h.frozenAt k⟩
    obtain ⟨b, off, e, _, hc⟩ := hr (by omega)
    injection e with e
    injection e with e1 e2
    subst e1 e2
    have := hc k (by omega)
    rwa [Nat.zero_add] at this
theorem Own.set_ {T : TypeId} {w : World} {B n c g : Nat} {zs : List Int} (h : Own T w B (.slice (some ⟨g, 0, none⟩) n c) zs) (k : Nat) (y : Int) :
    Own T (w.setCell ⟨g, k, none⟩ (.int .i64 y)) B (.slice (some ⟨g, 0, none⟩) n c) (zs.set k y) := by
  have hl := h.len
  unfold Own at h ⊢
  rw [List.length_set, List.map_set]
  rw [hl] at h ⊢
  exact (h.stored k _).1
theorem Own.cap {T : TypeId} {w : World} {B n c : Nat} {A : Option Addr} {zs : List Int} (h : Own T w B (.slice A n c) zs) : n ≤ c ∧ c ≤ maxLen := by
  obtain ⟨A', c', hv, h1, h2, _⟩ := h.form
  injection hv with e1 e2 e3
  subst e3
  omega
theorem Own.nilcap {T : TypeId} {w : World} {B n c : Nat} {A : Option Addr} {zs : List Int} (h : Own T w B (.slice A n c) zs) : A = none → c = 0 := by
  rcases h.2 with ⟨h0, _⟩ | ⟨g, cap, cur, hv, _⟩
  · injection h0 with _ _ h3; exact fun _ => h3
  · injection hv with h1; intro h2; rw [h1] at h2; cases h2

section
variable {P : Program}
/-- 'out = append(out, z)', the new value as a slice of n' elements. -/
theorem wpl_append1 {w : World} {ops : Array Oper} {rest : List Oper} {o : Oper} {a : Act} {Q : Exit → Act → World → Prop} (hgd : o.guard = none) (s x : Operand) (t : TypeId)
    (ho : o.op = .call { callee := .builtin .append, args := #[s, x], argTypes := #[t, t] })
    (T : TypeId) (ht : P.underlying t = some (.slice T)) (hi : (P.info? T).map (fun i => (i.zero, i.size, i.bytes)) = some (some (.int .i64 0), 1, 8))
    (B : Nat) (v : Value) (zs : List Int) (hs : a.eval s = v) (hown : Own T w B v zs)
    (ad : Addr) (c : Nat) (z : Int) (n' : Nat) (hn' : zs.length + 1 = n') (hx : a.eval x = .slice (some ad) 1 c) (hc : w.cell? ad = some (.int .i64 z))
    (hlen : zs.length < 1000000000000) (hB : B ≤ w.heap.size)
    (h : ∀ A' c' w', Hid (Own T w' B (.slice A' n' c') (zs ++ [z])) → Below B w w' → wpList P ops Q rest (a.put o.dst (.slice A' n' c')) w') : wpList P ops Q (o :: rest) a w := by
  refine wpl_append_int hgd s x t ho T ht hi B v zs hs hown ad c z hx hc hlen hB ?_
  intro v' w' h1 _ h3
  obtain ⟨A', c', rfl, _⟩ := h1.out.form
  rw [List.length_append, List.length_singleton, hn'] at h1 ⊢
  exact h A' c' w' h1 h3

/-- 'out = append(out, ys...)', at the operation. -/
theorem wp_appends {w : World} {o : Oper} {a : Act} {K : Act → World → Prop} {Q : Exit → Act → World → Prop} (s x : Operand) (t : TypeId)
    (ho : o.op = .call { callee := .builtin .append, args := #[s, x], argTypes := #[t, t] })
    (T : TypeId) (ht : P.underlying t = some (.slice T)) (hi : (P.info? T).map (fun i => (i.zero, i.size, i.bytes)) = some (some (.int .i64 0), 1, 8))
    (B : Nat) (v : Value) (zs ys : List Int) (hs : a.eval s = v) (hown : Own T w B v zs)
    (A : Option Addr) (m c B' : Nat) (n' : Nat) (hn' : zs.length + m = n') (hx : a.eval x = .slice A m c) (hm : ys.length = m) (hr : Rd w B' A ys) (hnc : A = none → c = 0)
    (hlen : zs.length + m < 1000000000000) (hB : B ≤ w.heap.size)
    (h : ∀ A' c' w', Hid (Own T w' B (.slice A' n' c') (zs ++ ys)) → Below B w w' → K (a.put o.dst (.slice A' n' c')) w') : o.wp P a w K Q := by
  obtain ⟨i0, hi0, hz0, hz1, hz2⟩ := info_parts hi
  rcases A with _ | ad
  · have hm0 : m = 0 := by
      rcases Nat.eq_zero_or_pos m with h0 | h0
      · exact h0
      · obtain ⟨_, _, h1, _⟩ := hr (by omega); cases h1
    subst hm0
    have hy : ys = [] := List.eq_nil_of_length_eq_zero hm
    subst hy
    obtain rfl : c = 0 := hnc rfl
    have hrun := run_append_owned_none (P := P) (w := w) B t o.type T i0 1 ht hi0 v zs.length _ hown
    unfold Oper.wp
    simp [execOp, ho, resolve, invoke, builtin, hs, hx, hrun, Result.andThen]
    obtain ⟨A', c', rfl, _⟩ := hown.form
    rw [show zs.length = n' from by omega] at hown ⊢
    exact h A' c' w (by rw [List.append_nil]; exact hown) (Below.refl _ _)
  · have hcells : ∀ j u, (ys.map (Value.int .i64))[j]? = some u → w.cell? (ad.add j) = some u := by
      intro j u hu
      have hj : j < ys.length := by have := (List.getElem?_eq_some_iff.1 hu).1; simpa using this
      obtain ⟨b, off, h1, _, hc⟩ := hr (by omega)
      injection h1 with h1
      subst h1
      rw [show (Addr.add ⟨b, off, none⟩ j) = ⟨b, off + j, none⟩ from by unfold Addr.add; split <;> simp_all]
      rw [hc j hj]
      simp [List.getElem?_eq_getElem hj] at hu
      subst hu
      show some (Value.int .i64 (ix ys j)) = _
      rw [ix_get hj]
    refine wp_append_own w s x t ho B T i0 (.int .i64 0) 1 8 ht hi0 hz0 hz1 hz2 rfl (by decide) v zs.length (zs.map (Value.int .i64)) hs hown ad m c (ys.map (Value.int .i64)) hx (by simp [hm]) hcells ?_ ?_ ?_ hB ?_
    · intro u hu; obtain ⟨y, _, rfl⟩ := List.mem_map.1 hu; rfl
    · simp [maxLen]; omega
    · omega
    · intro v' w' h1 h2 _
      have h1' : Own T w' B v' (zs ++ ys) := by
        unfold Own
        rw [List.map_append, List.length_append, hm]
        exact h1
      obtain ⟨A', c', rfl, _⟩ := h1'.form
      rw [List.length_append, hm, hn'] at h1' ⊢
      exact h A' c' w' h1' ((Below.refl _ _).grown h2 hB hown.base)
/-- 'out = append(out, ys...)'. -/
theorem wpl_appends {w : World} {ops : Array Oper} {rest : List Oper} {o : Oper} {a : Act} {Q : Exit → Act → World → Prop} (hgd : o.guard = none) (s x : Operand) (t : TypeId)
    (ho : o.op = .call { callee := .builtin .append, args := #[s, x], argTypes := #[t, t] })
    (T : TypeId) (ht : P.underlying t = some (.slice T)) (hi : (P.info? T).map (fun i => (i.zero, i.size, i.bytes)) = some (some (.int .i64 0), 1, 8))
    (B : Nat) (v : Value) (zs ys : List Int) (hs : a.eval s = v) (hown : Own T w B v zs)
    (A : Option Addr) (m c B' : Nat) (n' : Nat) (hn' : zs.length + m = n') (hx : a.eval x = .slice A m c) (hm : ys.length = m) (hr : Rd w B' A ys) (hnc : A = none → c = 0)
    (hlen : zs.length + m < 1000000000000) (hB : B ≤ w.heap.size)
    (h : ∀ A' c' w', Hid (Own T w' B (.slice A' n' c') (zs ++ ys)) → Below B w w' → wpList P ops Q rest (a.put o.dst (.slice A' n' c')) w') : wpList P ops Q (o :: rest) a w :=
  wpList_plain hgd fun _ hK => wp_appends s x t ho T ht hi B v zs ys hs hown A m c B' n' hn' hx hm hr hnc hlen hB fun A' c' w' h1 h2 => hK _ _ (h A' c' w' h1 h2)
/-- The same at a step of a region that draws its order. -/
theorem stp_appends {w : World} {ops : Array Oper} {o : Oper} {a : Act} {K : Act → World → Prop} {Q : Exit → Act → World → Prop} {E : Prop} (hgd : o.guard = none) (s x : Operand) (t : TypeId)
    (ho : o.op = .call { callee := .builtin .append, args := #[s, x], argTypes := #[t, t] })
    (T : TypeId) (ht : P.underlying t = some (.slice T)) (hi : (P.info? T).map (fun i => (i.zero, i.size, i.bytes)) = some (some (.int .i64 0), 1, 8))
    (B : Nat) (v : Value) (zs ys : List Int) (hs : a.eval s = v) (hown : Own T w B v zs)
    (A : Option Addr) (m c B' : Nat) (n' : Nat) (hn' : zs.length + m = n') (hx : a.eval x = .slice A m c) (hm : ys.length = m) (hr : Rd w B' A ys) (hnc : A = none → c = 0)
    (hlen : zs.length + m < 1000000000000) (hB : B ≤ w.heap.size)
    (h : ∀ A' c' w', Hid (Own T w' B (.slice A' n' c') (zs ++ ys)) → Below B w w' → K (a.put o.dst (.slice A' n' c')) w') : if Region.wanted o (yielded ops a.tmps) = true then Oper.wp P o a w K Q else E := by
  have hw : Region.wanted o (yielded ops a.tmps) = true := by simp [Region.wanted, hgd]
  rw [if_pos hw]
  exact wp_appends s x t ho T ht hi B v zs ys hs hown A m c B' n' hn' hx hm hr hnc hlen hB h
end

/-- A block that is known whole, nothing of it frozen. -/
def Blk (w : World) (g : Nat) (t : TypeId) (cs : Array Value) : Prop := w.heap[g]? = some (.cells cs t (0, 0))

section
variable {w w' : World} {g : Nat} {t : TypeId} {cs : Array Value}
theorem Blk.lt (h : Blk w g t cs) : g < w.heap.size := by
  rcases Nat.lt_or_ge g w.heap.size with hlt | hge
  · exact hlt
  · unfold Blk at h; rw [Array.getElem?_eq_none hge] at h; cases h
theorem Blk.le (h : Blk w g t cs) : g ≤ w.heap.size := Nat.le_of_lt h.lt
theorem Blk.cell (h : Blk w g t cs) (i : Nat) : w.cell? ⟨g, i, none⟩ = cs[i]? := cell_of_row w g i cs t (0, 0) h
theorem Blk.frozen (h : Blk w g t cs) (i : Nat) : w.frozen? ⟨g, i, none⟩ = false := by
  unfold Blk at h
  simp [World.frozen?, h]
theorem Blk.new (w : World) (t : TypeId) (cs : Array Value) : Blk (w.alloc (.cells cs t)) w.heap.size t cs := heap_alloc_new w _
theorem Blk.drew (h : Blk w g t cs) : Blk w.drew g t cs := h
theorem Blk.drewN (h : Blk w g t cs) (n : Nat) : Blk (w.drewN n) g t cs := h
theorem Blk.alloc (h : Blk w g t cs) (o : Obj) : Blk (w.alloc o) g t cs := (Below.heap_alloc w o g h.lt).trans h
theorem Blk.set_ (h : Blk w g t cs) (i : Nat) (u : Value) : Blk (w.setCell ⟨g, i, none⟩ u) g t (cs.setIfInBounds i u) := by
  unfold Blk at h ⊢
  simp [World.setCell, Array.getElem?_modify, h]
theorem Blk.far (h : Blk w g t cs) {p : Addr} (hp : g ≠ p.block) (u : Value) : Blk (w.setCell p u) g t cs := (Below.heap_setCell w p u g hp).trans h
theorem Blk.below {B : Nat} (h : Blk w g t cs) (hb : Below B w w') (hg : g < B) : Blk w' g t cs := (hb.block g hg).trans h
end

theorem ret_int {k : IntKind} {a b : Int} (h : a = b) : Ending.returned (.int k a) = .returned (.int k b) := by rw [h]
theorem ret_bool {a b : Bool} (h : a = b) : Ending.returned (.bool a) = .returned (.bool b) := by rw [h]
theorem below_drewN {B : Nat} {a w : World} (h : Below B a w) (n : Nat) : Below B a (w.drewN n) := ⟨h.os, h.tape, h.output, h.size, h.block⟩
theorem bcell {B : Nat} {W w1 : World} (hb : Below B W w1) : (∀ b o, b < B → w1.cell? ⟨b, o, none⟩ = W.cell? ⟨b, o, none⟩) ∧ (∀ b o, b < B → w1.frozen? ⟨b, o, none⟩ = W.frozen? ⟨b, o, none⟩) :=
  ⟨fun b o h => hb.cell (p := ⟨b, o, none⟩) h, fun b o h => hb.frozen (p := ⟨b, o, none⟩) h⟩
/-- A slice of integers that came in, as a list. -/
theorem rd_of_row {w : World} {a : Option Addr} {len cap : Nat} {zs : List Int}
    (h : (a = none ∧ len = 0 ∧ cap = 0 ∧ zs = []) ∨ ∃ x, a = some x ∧ len ≤ cap ∧ cap ≤ maxLen ∧ zs.length = cap ∧ (∀ i, i < zs.length → w.cell? (x.add i) = some (.int .i64 (zs.getD i 0))) ∧ ∀ n ∈ zs, (Lit.int .i64 n).wf = true) :
    Rd w w.heap.size a (zs.take len) ∧ (zs.take len).length = len ∧ len ≤ maxLen ∧ ∀ x ∈ zs.take len, -9223372036854775808 ≤ x ∧ x ≤ 9223372036854775807 := by
  rcases h with ⟨rfl, rfl, rfl, rfl⟩ | ⟨x, rfl, hl, hm, hz, hcell, hwz⟩
  · exact ⟨Rd.nil, rfl, by simp [maxLen], by simp⟩
  · refine ⟨fun hn => ?_, by simp; omega, by omega, fun y hy => ?_⟩
    · simp at hn
      obtain ⟨b, off, spot⟩ := x
      have hc := hcell 0 (by omega)
      have hspot : spot = none := by simpa [Addr.add] using World.cell?_spot hc
      subst hspot
      refine ⟨b, off, rfl, block_lt_of_cell (a := ⟨b, off, none⟩) hc, fun k hk => ?_⟩
      have hk' : k < len := by simp at hk; omega
      have := hcell k (by omega)
      rw [show (Addr.add ⟨b, off, none⟩ k) = ⟨b, off + k, none⟩ from by unfold Addr.add; split <;> simp_all] at this
      rw [this]
      show _ = some (Value.int .i64 (ix (zs.take len) k))
      rw [ix_take hk']
      rfl
    · exact bounds_i64 (hwz y (List.mem_of_mem_take hy))
theorem bd_of_wf {n : Int} (h : (Lit.int .i64 n).wf = true) : -9223372036854775808 ≤ n ∧ n ≤ 9223372036854775807 := by
  exact bounds_i64 h
end Go.Proofs.Ytcniepogobgaoaa
