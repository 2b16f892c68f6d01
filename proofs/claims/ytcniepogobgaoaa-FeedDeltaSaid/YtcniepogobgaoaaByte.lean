/-
  A slice of bytes, as Mem has a slice of integers: read, owned, appended to. (Printed off XMem.)
-/
import Derived.Test.YtcniepogobgaoaaMem
import Derived.Test.YtcniepogobgaoaaRef01
namespace Go.Proofs.Ytcniepogobgaoaa
set_option linter.unusedVariables false
set_option linter.unusedSimpArgs false
open Go.RowKit

theorem bounds_u8 {n : Int} (h : (Lit.int .u8 n).wf = true) : 0 ≤ n ∧ n ≤ 255 := by
  simp [Lit.wf, IntKind.min, IntKind.max, IntKind.signed, IntKind.bits] at h
  omega
/-- The slice reads as the numbers zs. -/
def RdU (w : World) (B : Nat) (A : Option Addr) (zs : List Int) : Prop := RdF w B A zs.length fun k => .int .u8 (ix zs k)

section
variable {w w' : World} {B B' n : Nat} {A : Option Addr} {f : Nat → Value} {zs : List Int}
theorem RdU.keep (h : RdU w B A zs) (hk : ∀ p : Addr, p.block < B → w'.cell? p = w.cell? p) : RdU w' B A zs := RdF.keep h hk
theorem RdU.more (h : RdU w B A zs) (hB : B ≤ B') : RdU w B' A zs := RdF.more h hB
theorem RdU.below (h : RdU w B A zs) (hb : Below B' w w') (hB : B ≤ B') : RdU w' B A zs := RdF.below h hb hB
theorem RdU.alloc (h : RdU w B A zs) (hB : B ≤ w.heap.size) (o : Obj) : RdU (w.alloc o) B A zs := RdF.alloc h hB o
theorem RdU.nil : RdU w B A [] := RdF.zero
theorem RdU.drew (h : RdU w B A zs) : RdU w.drew B A zs := h
theorem RdU.drewN (h : RdU w B A zs) (k : Nat) : RdU (w.drewN k) B A zs := h
theorem RdU.drop {b off : Nat} (h : RdU w B (some ⟨b, off, none⟩) zs) (k : Nat) : RdU w B (some ⟨b, off + k, none⟩) (zs.drop k) := fun hn => by
  have hl : k < zs.length := by simp at hn; omega
  obtain ⟨b', off', e, hb, hc⟩ := h (by omega)
  injection e with e
  injection e with e1 e2
  subst e1 e2
  refine ⟨b, off + k, rfl, hb, fun j hj => ?_⟩
  simp at hj
  have := hc (k + j) (by omega)
  rw [Nat.add_assoc, this]
  simp only []
  rw [ix_drop]
theorem RdU.take (h : RdU w B A zs) (k : Nat) : RdU w B A (zs.take k) := fun hn => by
  have hl : 0 < zs.length := by simp at hn; omega
  obtain ⟨b, off, e, hb, hc⟩ := h hl
  refine ⟨b, off, e, hb, fun j hj => ?_⟩
  simp at hj
  have := hc j (by omega)
  rw [this]; simp only []; rw [ix_take (by omega)]
end

/-- The slice value v of the call's own holds the numbers zs, in a block from B on (T: the element type's number). -/
def OwnU (T : TypeId) (w : World) (B : Nat) (v : Value) (zs : List Int) : Prop := w.ownsRow B T 1 v zs.length (zs.map (Value.int .u8))

section
variable {T : TypeId} {w w' : World} {B n : Nat} {v : Value} {zs : List Int}
theorem OwnU.nil (T : TypeId) (w : World) (B : Nat) : OwnU T w B (.slice none 0 0) [] := World.ownsRow_nil _ _ _ _
theorem OwnU.alloc (h : OwnU T w B v zs) (o : Obj) : OwnU T (w.alloc o) B v zs := World.ownsRow.alloc h o
theorem OwnU.form (h : OwnU T w B v zs) : ∃ A c, v = .slice A zs.length c ∧ zs.length ≤ c ∧ c ≤ maxLen ∧ RdU w w.heap.size A zs := by
  rcases h.2 with ⟨rfl, h0⟩ | ⟨g, cap, cur, rfl, hb, hh, hn, hc, hs, ht⟩
  · exact ⟨none, 0, by rw [h0], by omega, by simp [maxLen], fun hn => absurd hn (by omega)⟩
  · refine ⟨_, cap, rfl, hn, hc, fun hp => ⟨g, 0, rfl, (Array.getElem?_eq_some_iff.1 hh).1, fun k hk => ?_⟩⟩
    have h1 : (cur.toList.take zs.length)[k]? = (zs.map (Value.int .u8))[k]? := by rw [← ht, Nat.mul_one]
    rw [List.getElem?_take_of_lt hk] at h1
    simp only [World.cell?, hh, Nat.zero_add]
    simp only [Option.isSome_none, Bool.false_eq_true, if_false]
    rw [← Array.getElem?_toList, h1]
    simp [List.getElem?_eq_getElem hk, ix_get hk]
theorem OwnU.base (h : OwnU T w B v zs) : ∀ k, v.ownBlock = some k → B ≤ k := by
  intro k hk
  rcases h.2 with ⟨rfl, _⟩ | ⟨g, cap, cur, rfl, hb, _⟩
  · simp [Value.ownBlock] at hk
  · simp [Value.ownBlock] at hk; omega
end

section
variable {P : Program}
/-- 'out = append(out, z)': the one number lies in a block at 'ad'. -/
theorem wpl_append_intU {w : World} {ops : Array Oper} {rest : List Oper} {o : Oper} {a : Act} {Q : Exit → Act → World → Prop} (hgd : o.guard = none) (s x : Operand) (t : TypeId)
    (ho : o.op = .call { callee := .builtin .append, args := #[s, x], argTypes := #[t, t] })
    (T : TypeId) (ht : P.underlying t = some (.slice T)) (hi : (P.info? T).map (fun i => (i.zero, i.size, i.bytes)) = some (some (.int .u8 0), 1, 1))
    (B : Nat) (v : Value) (zs : List Int) (hs : a.eval s = v) (hown : OwnU T w B v zs)
    (ad : Addr) (c : Nat) (z : Int) (hx : a.eval x = .slice (some ad) 1 c) (hc : w.cell? ad = some (.int .u8 z))
    (hlen : zs.length < 1000000000000) (hB : B ≤ w.heap.size)
    (h : ∀ v' w', Hid (OwnU T w' B v' (zs ++ [z])) → Hid (w.grownBy w' v.ownBlock) → Below B w w' → wpList P ops Q rest (a.put o.dst v') w') : wpList P ops Q (o :: rest) a w := by
  obtain ⟨i0, hi0, hz0, hz1, hz2⟩ := info_parts hi
  refine wpList_append_own w hgd s x t ho B T i0 (.int .u8 0) 1 1 ht hi0 hz0 hz1 hz2 rfl (by decide) v zs.length (zs.map (Value.int .u8)) hs hown ad 1 c [.int .u8 z] hx rfl ?_ ?_ ?_ ?_ hB ?_
  · intro j u hj
    match j, hj with
    | 0, hj => simp at hj; subst hj; simpa [Addr.add] using hc
  · intro u hu; simp at hu; subst hu; rfl
  · simp [maxLen]; omega
  · omega
  · intro v' w' h1 h2 _
    refine h v' w' ?_ h2 ?_
    · show OwnU _ _ _ _ _
      unfold OwnU
      rw [List.map_append, List.length_append]
      exact h1
    · exact (Below.refl _ _).grown h2 hB hown.base
end
theorem OwnU.below {T : TypeId} {w w' : World} {B : Nat} {v : Value} {zs : List Int} (h : OwnU T w B v zs) (hb : Below w.heap.size w w') : OwnU T w' B v zs := by
  refine ⟨h.1, ?_⟩
  rcases h.2 with h0 | ⟨g, cap, cur, hv, hg, hh, hr⟩
  · exact .inl h0
  · exact .inr ⟨g, cap, cur, hv, hg, (hb.block g (Array.getElem?_eq_some_iff.1 hh).1).trans hh, hr⟩
theorem OwnU.lower {T : TypeId} {w : World} {B B' : Nat} {v : Value} {zs : List Int} (h : OwnU T w B v zs) (hB : B' ≤ B) : OwnU T w B' v zs := by
  refine ⟨h.1, ?_⟩
  rcases h.2 with h0 | ⟨g, cap, cur, hv, hg, hr⟩
  · exact .inl h0
  · exact .inr ⟨g, cap, cur, hv, by omega, hr⟩
theorem OwnU.rd {T : TypeId} {w : World} {B n c : Nat} {A : Option Addr} {zs : List Int} (h : OwnU T w B (.slice A n c) zs) : RdU w w.heap.size A zs := by
  obtain ⟨A', c', hv, _, _, hr⟩ := h.form
  injection hv with h1 h2 h3
  subst h1
  exact hr
theorem OwnU.len {T : TypeId} {w : World} {B n c : Nat} {A : Option Addr} {zs : List Int} (h : OwnU T w B (.slice A n c) zs) : zs.length = n := by
  obtain ⟨A', c', hv, _, _, hr⟩ := h.form
  injection hv with h1 h2 h3
  omega
theorem OwnU.open_ {T : TypeId} {w : World} {B n c : Nat} {A : Option Addr} {zs : List Int} (h : OwnU T w B (.slice A n c) zs) (hn : 0 < n) :
    ∃ g, A = some ⟨g, 0, none⟩ ∧ B ≤ g ∧ g < w.heap.size ∧ (∀ k, k < n → w.cell? ⟨g, k, none⟩ = some (.int .u8 (ix zs k))) ∧ ∀ k, w.frozen? ⟨g, k, none⟩ = false := by
  have hl := h.len
  have hr := h.rd
  unfold OwnU at h
  rw [hl] at h
  rcases h.2 with ⟨h', _⟩ | ⟨g, cap', cur, h', hb, hg, _⟩
  · simp at h'; omega
  · simp only [Value.slice.injEq, true_and] at h'
    obtain ⟨rfl, rfl⟩ := h'
    refine ⟨g, rfl, hb, (Array.getElem?_eq_some_iff.1 hg).1, fun k hk => ?_, fun k => h.frozenAt k⟩
    obtain ⟨b, off, e, _, hc⟩ := hr (by omega)
    injection e with e
    injection e with e1 e2
    subst e1 e2
    have := hc k (by omega)
    rwa [Nat.zero_add] at this
theorem OwnU.set_ {T : TypeId} {w : World} {B n c g : Nat} {zs : List Int} (h : OwnU T w B (.slice (some ⟨g, 0, none⟩) n c) zs) (k : Nat) (y : Int) :
    OwnU T (w.setCell ⟨g, k, none⟩ (.int .u8 y)) B (.slice (some ⟨g, 0, none⟩) n c) (zs.set k y) := by
  have hl := h.len
  unfold OwnU at h ⊢
  rw [List.length_set, List.map_set]
  rw [hl] at h ⊢
  exact (h.stored k _).1
theorem OwnU.cap {T : TypeId} {w : World} {B n c : Nat} {A : Option Addr} {zs : List Int} (h : OwnU T w B (.slice A n c) zs) : n ≤ c ∧ c ≤ maxLen := by
  obtain ⟨A', c', hv, h1, h2, _⟩ := h.form
  injection hv with e1 e2 e3
  subst e3
  omega
theorem OwnU.nilcap {T : TypeId} {w : World} {B n c : Nat} {A : Option Addr} {zs : List Int} (h : OwnU T w B (.slice A n c) zs) : A = none → c = 0 := by
  rcases h.2 with ⟨h0, _⟩ | ⟨g, cap, cur, hv, _⟩
  · injection h0 with _ _ h3; exact fun _ => h3
  · injection hv with h1; intro h2; rw [h1] at h2; cases h2

section
variable {P : Program}
/-- 'out = append(out, z)', the new value as a slice of n' elements. -/
theorem wpl_append1U {w : World} {ops : Array Oper} {rest : List Oper} {o : Oper} {a : Act} {Q : Exit → Act → World → Prop} (hgd : o.guard = none) (s x : Operand) (t : TypeId)
    (ho : o.op = .call { callee := .builtin .append, args := #[s, x], argTypes := #[t, t] })
    (T : TypeId) (ht : P.underlying t = some (.slice T)) (hi : (P.info? T).map (fun i => (i.zero, i.size, i.bytes)) = some (some (.int .u8 0), 1, 1))
    (B : Nat) (v : Value) (zs : List Int) (hs : a.eval s = v) (hown : OwnU T w B v zs)
    (ad : Addr) (c : Nat) (z : Int) (n' : Nat) (hn' : zs.length + 1 = n') (hx : a.eval x = .slice (some ad) 1 c) (hc : w.cell? ad = some (.int .u8 z))
    (hlen : zs.length < 1000000000000) (hB : B ≤ w.heap.size)
    (h : ∀ A' c' w', Hid (OwnU T w' B (.slice A' n' c') (zs ++ [z])) → Below B w w' → wpList P ops Q rest (a.put o.dst (.slice A' n' c')) w') : wpList P ops Q (o :: rest) a w := by
  refine wpl_append_intU hgd s x t ho T ht hi B v zs hs hown ad c z hx hc hlen hB ?_
  intro v' w' h1 _ h3
  obtain ⟨A', c', rfl, _⟩ := h1.out.form
  rw [List.length_append, List.length_singleton, hn'] at h1 ⊢
  exact h A' c' w' h1 h3

/-- 'out = append(out, ys...)', at the operation. -/
theorem wp_appendsU {w : World} {o : Oper} {a : Act} {K : Act → World → Prop} {Q : Exit → Act → World → Prop} (s x : Operand) (t : TypeId)
    (ho : o.op = .call { callee := .builtin .append, args := #[s, x], argTypes := #[t, t] })
    (T : TypeId) (ht : P.underlying t = some (.slice T)) (hi : (P.info? T).map (fun i => (i.zero, i.size, i.bytes)) = some (some (.int .u8 0), 1, 1))
    (B : Nat) (v : Value) (zs ys : List Int) (hs : a.eval s = v) (hown : OwnU T w B v zs)
    (A : Option Addr) (m c B' : Nat) (n' : Nat) (hn' : zs.length + m = n') (hx : a.eval x = .slice A m c) (hm : ys.length = m) (hr : RdU w B' A ys) (hnc : A = none → c = 0)
    (hlen : zs.length + m < 1000000000000) (hB : B ≤ w.heap.size)
    (h : ∀ A' c' w', Hid (OwnU T w' B (.slice A' n' c') (zs ++ ys)) → Hid (w.grownBy w' v.ownBlock) → Below B w w' → K (a.put o.dst (.slice A' n' c')) w') : o.wp P a w K Q := by
  obtain ⟨i0, hi0, hz0, hz1, hz2⟩ := info_parts hi
  rcases A with _ | ad
  · have hm0 : m = 0 := by
      rcases Nat.eq_zero_or_pos m with h0 | h0
      · exact h0
      · obtain ⟨_, _, h1, _⟩ := hr (by omega); cases h1
    subst hm0
    have hy : ys = [] := List.eq_nil_of_length_eq_zero hm
    subst hy
    obtain rfl : c = 0 := hnc rfl
    have hrun := run_append_owned_none (P := P) (w := w) B t o.type T i0 1 ht hi0 v zs.length _ hown
    unfold Oper.wp
    simp [execOp, ho, resolve, invoke, builtin, hs, hx, hrun, Result.andThen]
    obtain ⟨A', c', rfl, _⟩ := hown.form
    rw [show zs.length = n' from by omega] at hown ⊢
    exact h A' c' w (by rw [List.append_nil]; exact hown) (World.grownBy.refl w _) (Below.refl _ _)
  · have hcells : ∀ j u, (ys.map (Value.int .u8))[j]? = some u → w.cell? (ad.add j) = some u := by
      intro j u hu
      have hj : j < ys.length := by have := (List.getElem?_eq_some_iff.1 hu).1; simpa using this
      obtain ⟨b, off, h1, _, hc⟩ := hr (by omega)
      injection h1 with h1
      subst h1
      rw [show (Addr.add ⟨b, off, none⟩ j) = ⟨b, off + j, none⟩ from by unfold Addr.add; split <;> simp_all]
      rw [hc j hj]
      simp [List.getElem?_eq_getElem hj] at hu
      subst hu
      show some (Value.int .u8 (ix ys j)) = _
      rw [ix_get hj]
    refine wp_append_own w s x t ho B T i0 (.int .u8 0) 1 1 ht hi0 hz0 hz1 hz2 rfl (by decide) v zs.length (zs.map (Value.int .u8)) hs hown ad m c (ys.map (Value.int .u8)) hx (by simp [hm]) hcells ?_ ?_ ?_ hB ?_
    · intro u hu; obtain ⟨y, _, rfl⟩ := List.mem_map.1 hu; rfl
    · simp [maxLen]; omega
    · omega
    · intro v' w' h1 h2 _
      have h1' : OwnU T w' B v' (zs ++ ys) := by
        unfold OwnU
        rw [List.map_append, List.length_append, hm]
        exact h1
      obtain ⟨A', c', rfl, _⟩ := h1'.form
      rw [List.length_append, hm, hn'] at h1' ⊢
      exact h A' c' w' h1' h2 ((Below.refl _ _).grown h2 hB hown.base)
/-- 'out = append(out, ys...)'. -/
theorem wpl_appendsU {w : World} {ops : Array Oper} {rest : List Oper} {o : Oper} {a : Act} {Q : Exit → Act → World → Prop} (hgd : o.guard = none) (s x : Operand) (t : TypeId)
    (ho : o.op = .call { callee := .builtin .append, args := #[s, x], argTypes := #[t, t] })
    (T : TypeId) (ht : P.underlying t = some (.slice T)) (hi : (P.info? T).map (fun i => (i.zero, i.size, i.bytes)) = some (some (.int .u8 0), 1, 1))
    (B : Nat) (v : Value) (zs ys : List Int) (hs : a.eval s = v) (hown : OwnU T w B v zs)
    (A : Option Addr) (m c B' : Nat) (n' : Nat) (hn' : zs.length + m = n') (hx : a.eval x = .slice A m c) (hm : ys.length = m) (hr : RdU w B' A ys) (hnc : A = none → c = 0)
    (hlen : zs.length + m < 1000000000000) (hB : B ≤ w.heap.size)
    (h : ∀ A' c' w', Hid (OwnU T w' B (.slice A' n' c') (zs ++ ys)) → Hid (w.grownBy w' v.ownBlock) → Below B w w' → wpList P ops Q rest (a.put o.dst (.slice A' n' c')) w') : wpList P ops Q (o :: rest) a w :=
  wpList_plain hgd fun _ hK => wp_appendsU s x t ho T ht hi B v zs ys hs hown A m c B' n' hn' hx hm hr hnc hlen hB fun A' c' w' h1 h2 h3 => hK _ _ (h A' c' w' h1 h2 h3)
/-- The same at a step of a region that draws its order. -/
theorem stp_appendsU {w : World} {ops : Array Oper} {o : Oper} {a : Act} {K : Act → World → Prop} {Q : Exit → Act → World → Prop} {E : Prop} (hgd : o.guard = none) (s x : Operand) (t : TypeId)
    (ho : o.op = .call { callee := .builtin .append, args := #[s, x], argTypes := #[t, t] })
    (T : TypeId) (ht : P.underlying t = some (.slice T)) (hi : (P.info? T).map (fun i => (i.zero, i.size, i.bytes)) = some (some (.int .u8 0), 1, 1))
    (B : Nat) (v : Value) (zs ys : List Int) (hs : a.eval s = v) (hown : OwnU T w B v zs)
    (A : Option Addr) (m c B' : Nat) (n' : Nat) (hn' : zs.length + m = n') (hx : a.eval x = .slice A m c) (hm : ys.length = m) (hr : RdU w B' A ys) (hnc : A = none → c = 0)
    (hlen : zs.length + m < 1000000000000) (hB : B ≤ w.heap.size)
    (h : ∀ A' c' w', Hid (OwnU T w' B (.slice A' n' c') (zs ++ ys)) → Hid (w.grownBy w' v.ownBlock) → Below B w w' → K (a.put o.dst (.slice A' n' c')) w') : if Region.wanted o (yielded ops a.tmps) = true then Oper.wp P o a w K Q else E := by
  have hw : Region.wanted o (yielded ops a.tmps) = true := by simp [Region.wanted, hgd]
  rw [if_pos hw]
  exact wp_appendsU s x t ho T ht hi B v zs ys hs hown A m c B' n' hn' hx hm hr hnc hlen hB h
end

/-- A slice of integers that came in, as a list. -/
theorem rd_of_rowU {w : World} {a : Option Addr} {len cap : Nat} {zs : List Int}
    (h : (a = none ∧ len = 0 ∧ cap = 0 ∧ zs = []) ∨ ∃ x, a = some x ∧ len ≤ cap ∧ cap ≤ maxLen ∧ zs.length = cap ∧ (∀ i, i < zs.length → w.cell? (x.add i) = some (.int .u8 (zs.getD i 0))) ∧ ∀ n ∈ zs, (Lit.int .u8 n).wf = true) :
    RdU w w.heap.size a (zs.take len) ∧ (zs.take len).length = len ∧ len ≤ maxLen ∧ ∀ x ∈ zs.take len, 0 ≤ x ∧ x ≤ 255 := by
  rcases h with ⟨rfl, rfl, rfl, rfl⟩ | ⟨x, rfl, hl, hm, hz, hcell, hwz⟩
  · exact ⟨RdU.nil, rfl, by simp [maxLen], by simp⟩
  · refine ⟨fun hn => ?_, by simp; omega, by omega, fun y hy => ?_⟩
    · simp at hn
      obtain ⟨b, off, spot⟩ := x
      have hc := hcell 0 (by omega)
      have hspot : spot = none := by simpa [Addr.add] using World.cell?_spot hc
      subst hspot
      refine ⟨b, off, rfl, block_lt_of_cell (a := ⟨b, off, none⟩) hc, fun k hk => ?_⟩
      have hk' : k < len := by simp at hk; omega
      have := hcell k (by omega)
      rw [show (Addr.add ⟨b, off, none⟩ k) = ⟨b, off + k, none⟩ from by unfold Addr.add; split <;> simp_all] at this
      rw [this]
      show _ = some (Value.int .u8 (ix (zs.take len) k))
      rw [ix_take hk']
      rfl
    · exact bounds_u8 (hwz y (List.mem_of_mem_take hy))
end Go.Proofs.Ytcniepogobgaoaa
