/-
  A slice of structs of two integers (or of arrays of two): read, owned, appended to. (Printed off XUfW3, XUfP2.)
-/
import Derived.Test.YtcniepogobgaoaaByte
namespace Go.Proofs.Ytcniepogobgaoaa
set_option linter.unusedVariables false
set_option linter.unusedSimpArgs false
set_option maxRecDepth 4000
open Go.RowKit

theorem ownsRow_below {w w' : World} {B : Nat} {e : TypeId} {size n : Nat} {v : Value} {xs : List Value} (h : w.ownsRow B e size v n xs) (hb : Below w.heap.size w w') : w'.ownsRow B e size v n xs := by
  refine ⟨h.1, ?_⟩
  rcases h.2 with h0 | ⟨g, cap, cur, hv, hg, hh, hr⟩
  · exact .inl h0
  · exact .inr ⟨g, cap, cur, hv, hg, (hb.block g (Array.getElem?_eq_some_iff.1 hh).1).trans hh, hr⟩
theorem ownsRow_lower {w : World} {B B' : Nat} {e : TypeId} {size n : Nat} {v : Value} {xs : List Value} (h : w.ownsRow B e size v n xs) (hB : B' ≤ B) : w.ownsRow B' e size v n xs := by
  refine ⟨h.1, ?_⟩
  rcases h.2 with h0 | ⟨g, cap, cur, hv, hg, hr⟩
  · exact .inl h0
  · exact .inr ⟨g, cap, cur, hv, by omega, hr⟩

def ea (es : List (Int × Int)) (i : Nat) : Int := (es.getD i (0, 0)).1
def eb (es : List (Int × Int)) (i : Nat) : Int := (es.getD i (0, 0)).2
theorem take_snoc_pair {es : List (Int × Int)} {k : Nat} (h : k < es.length) : es.take (k + 1) = es.take k ++ [(ea es k, eb es k)] := by
  rw [List.take_succ_eq_append_getElem h]
  congr 1
  simp [ea, eb, List.getD, List.getElem?_eq_getElem h]
theorem pair_mem {es : List (Int × Int)} {k : Nat} (h : k < es.length) : (ea es k, eb es k) ∈ es := by
  have : (ea es k, eb es k) = es[k] := by simp [ea, eb, List.getD, List.getElem?_eq_getElem h]
  rw [this]; exact List.getElem_mem h

/-- The slice reads as the pairs es. -/
def RdP (w : World) (B : Nat) (A : Option Addr) (es : List (Int × Int)) : Prop :=
  0 < es.length → ∃ b off, A = some ⟨b, off, none⟩ ∧ b < B ∧ ∀ i, i < es.length → w.cell? ⟨b, off + i * 2, none⟩ = some (.int .i64 (ea es i)) ∧ w.cell? ⟨b, off + i * 2 + 1, none⟩ = some (.int .i64 (eb es i))
theorem RdP.keep {w w' : World} {B : Nat} {A : Option Addr} {es : List (Int × Int)} (h : RdP w B A es) (hk : ∀ p : Addr, p.block < B → w'.cell? p = w.cell? p) : RdP w' B A es := fun hn => by
  obtain ⟨b, off, e, hb, hc⟩ := h hn
  exact ⟨b, off, e, hb, fun i hi => ⟨(hk _ hb).trans (hc i hi).1, (hk _ hb).trans (hc i hi).2⟩⟩
theorem RdP.more {w : World} {B B' : Nat} {A : Option Addr} {es : List (Int × Int)} (h : RdP w B A es) (hB : B ≤ B') : RdP w B' A es := fun hn => by
  obtain ⟨b, off, e, hb, hc⟩ := h hn
  exact ⟨b, off, e, by omega, hc⟩
theorem RdP.below {w w' : World} {B B' : Nat} {A : Option Addr} {es : List (Int × Int)} (h : RdP w B A es) (hb : Below B' w w') (hB : B ≤ B') : RdP w' B A es := h.keep fun _ hp => hb.cell (Nat.lt_of_lt_of_le hp hB)

def flat (es : List (Int × Int)) : List Value := es.flatMap fun p => [.int .i64 p.1, .int .i64 p.2]
theorem flat_len (es : List (Int × Int)) : (flat es).length = es.length * 2 := by
  induction es with
  | nil => rfl
  | cons p t ih => simp only [flat, List.flatMap_cons, List.length_append] at *; simp [ih]; omega
theorem flat_get (es : List (Int × Int)) (i : Nat) (h : i < es.length) : (flat es)[i * 2]? = some (.int .i64 (ea es i)) ∧ (flat es)[i * 2 + 1]? = some (.int .i64 (eb es i)) := by
  induction es generalizing i with
  | nil => simp at h
  | cons p t ih =>
    match i with
    | 0 => exact ⟨rfl, rfl⟩
    | i + 1 =>
      have := ih i (by simpa using h)
      have e : (i + 1) * 2 = i * 2 + 2 := by omega
      rw [e]
      exact this
def OwnP (w : World) (B : Nat) (v : Value) (es : List (Int × Int)) : Prop := w.ownsRow B 48 2 v es.length (flat es)
theorem OwnP.nil (w : World) (B : Nat) : OwnP w B (.slice none 0 0) [] := World.ownsRow_nil _ _ _ _
theorem OwnP.form {w : World} {B : Nat} {v : Value} {es : List (Int × Int)} (h : OwnP w B v es) : ∃ A c, v = .slice A es.length c ∧ (A = none → c = 0) ∧ RdP w w.heap.size A es := by
  rcases h.2 with ⟨rfl, h0⟩ | ⟨g, cap, cur, rfl, hb, hh, hn, hc, hs, ht⟩
  · exact ⟨none, 0, by rw [h0], fun _ => rfl, fun hn => absurd hn (by omega)⟩
  · refine ⟨_, cap, rfl, (fun e => by cases e), fun hp => ⟨g, 0, rfl, (Array.getElem?_eq_some_iff.1 hh).1, fun i hi => ?_⟩⟩
    have hg := flat_get es i hi
    rw [← ht, List.getElem?_take_of_lt (by omega), List.getElem?_take_of_lt (by omega)] at hg
    have key : ∀ j u, cur.toList[j]? = some u → w.cell? ⟨g, 0 + j, none⟩ = some u := by
      intro j u hj
      simp only [World.cell?, hh, Nat.zero_add]
      simp only [Option.isSome_none, Bool.false_eq_true, if_false]
      rw [← Array.getElem?_toList, hj]
    exact ⟨key _ _ hg.1, key _ _ hg.2⟩
theorem OwnP.alloc {w : World} {B : Nat} {v : Value} {es : List (Int × Int)} (h : OwnP w B v es) (o : Obj) : OwnP (w.alloc o) B v es := World.ownsRow.alloc h o
theorem OwnP.nilcap {w : World} {B n c : Nat} {A : Option Addr} {es : List (Int × Int)} (h : OwnP w B (.slice A n c) es) : A = none → c = 0 := by
  obtain ⟨A', c', hv, h1, _⟩ := h.form
  injection hv with e1 e2 e3
  subst e1 e3
  exact h1
theorem pair_cells (p : Int × Int) (w : World) : (w.alloc (.cells #[.int .i64 p.1, .int .i64 p.2] 48)).cell? ⟨w.heap.size, 0, none⟩ = some (.int .i64 p.1) ∧ (w.alloc (.cells #[.int .i64 p.1, .int .i64 p.2] 48)).cell? (Addr.add ⟨w.heap.size, 0, none⟩ 1) = some (.int .i64 p.2) := by
  constructor
  · rw [World.cell?_alloc_at _ _ _ _ rfl]; rfl
  · show (w.alloc (.cells #[.int .i64 p.1, .int .i64 p.2] 48)).cell? ⟨w.heap.size, 1, none⟩ = _
    rw [World.cell?_alloc_at _ _ _ _ rfl]; rfl
theorem OwnP.rd {w : World} {B n c : Nat} {A : Option Addr} {es : List (Int × Int)} (h : OwnP w B (.slice A n c) es) : RdP w w.heap.size A es := by
  obtain ⟨A', c', hv, _, hr⟩ := h.form
  injection hv with h1 h2 h3
  subst h1
  exact hr

theorem pair_info : (Try.prog.info? 48).map (fun i => (i.zero, i.size, i.bytes)) = some (some (.agg #[.int .i64 0, .int .i64 0]), 2, 16) := by kernel_rfl
/-- 'out = append(out, [2]int{x, y})'. -/
theorem wp_append_pair {w : World} {o : Oper} {a : Act} {K : Act → World → Prop} {Q : Exit → Act → World → Prop} (s x : Operand)
    (ho : o.op = .call { callee := .builtin .append, args := #[s, x], argTypes := #[30, 30] })
    (B : Nat) (v : Value) (es : List (Int × Int)) (hs : a.eval s = v) (hown : OwnP w B v es)
    (ad : Addr) (c : Nat) (p : Int × Int) (n' : Nat) (hn' : es.length + 1 = n') (hx : a.eval x = .slice (some ad) 1 c) (hc : w.cell? ad = some (.int .i64 p.1)) (hc2 : w.cell? (ad.add 1) = some (.int .i64 p.2))
    (hlen : es.length < 1000000000) (hB : B ≤ w.heap.size)
    (h : ∀ A' c' w', Hid (OwnP w' B (.slice A' n' c') (es ++ [p])) → Below B w w' → K (a.put o.dst (.slice A' n' c')) w') : o.wp Try.prog a w K Q := by
  obtain ⟨i0, hi0, hz0, hz1, hz2⟩ := info_parts pair_info
  refine wp_append_own w s x 30 ho B 48 i0 (.agg #[.int .i64 0, .int .i64 0]) 2 16 Try.underlying30 hi0 hz0 hz1 hz2 rfl (by decide) v es.length (flat es) hs hown ad 1 c [.int .i64 p.1, .int .i64 p.2] hx rfl ?_ ?_ ?_ ?_ hB ?_
  · intro j u hj
    match j, hj with
    | 0, hj => simp at hj; subst hj; simpa [Addr.add] using hc
    | 1, hj => simp at hj; subst hj; exact hc2
  · intro u hu; simp at hu; rcases hu with rfl | rfl <;> rfl
  · simp [maxLen]; omega
  · omega
  · intro v' w' h1 h2 _
    have h1' : OwnP w' B v' (es ++ [p]) := by
      unfold OwnP flat at *
      rw [List.length_append, List.flatMap_append]
      exact h1
    have hbase : ∀ j, v.ownBlock = some j → B ≤ j := by
      intro j hj
      rcases hown.2 with ⟨rfl, _⟩ | ⟨g, cap, cur, rfl, hb, _⟩
      · simp [Value.ownBlock] at hj
      · simp [Value.ownBlock] at hj; omega
    obtain ⟨A', c', rfl, _⟩ := h1'.form
    rw [List.length_append, List.length_singleton, hn'] at h1' ⊢
    exact h A' c' w' h1' ((Below.refl _ _).grown h2 hB hbase)
theorem wpl_append_pair {w : World} {ops : Array Oper} {rest : List Oper} {o : Oper} {a : Act} {Q : Exit → Act → World → Prop} (hgd : o.guard = none) (s x : Operand)
    (ho : o.op = .call { callee := .builtin .append, args := #[s, x], argTypes := #[30, 30] })
    (B : Nat) (v : Value) (es : List (Int × Int)) (hs : a.eval s = v) (hown : OwnP w B v es)
    (ad : Addr) (c : Nat) (p : Int × Int) (n' : Nat) (hn' : es.length + 1 = n') (hx : a.eval x = .slice (some ad) 1 c) (hc : w.cell? ad = some (.int .i64 p.1)) (hc2 : w.cell? (ad.add 1) = some (.int .i64 p.2))
    (hlen : es.length < 1000000000) (hB : B ≤ w.heap.size)
    (h : ∀ A' c' w', Hid (OwnP w' B (.slice A' n' c') (es ++ [p])) → Below B w w' → wpList Try.prog ops Q rest (a.put o.dst (.slice A' n' c')) w') : wpList Try.prog ops Q (o :: rest) a w :=
  wpList_plain hgd fun _ hK => wp_append_pair s x ho B v es hs hown ad c p n' hn' hx hc hc2 hlen hB fun A' c' w' h1 h2 => hK _ _ (h A' c' w' h1 h2)

/-- 'out = append(out, ps...)' on pairs. -/
theorem wp_append_pairs {w : World} {o : Oper} {a : Act} {K : Act → World → Prop} {Q : Exit → Act → World → Prop} (s x : Operand)
    (ho : o.op = .call { callee := .builtin .append, args := #[s, x], argTypes := #[30, 30] })
    (B : Nat) (v : Value) (es ps : List (Int × Int)) (hs : a.eval s = v) (hown : OwnP w B v es)
    (A : Option Addr) (m c B' : Nat) (n' : Nat) (hn' : es.length + m = n') (hx : a.eval x = .slice A m c) (hm : ps.length = m) (hr : RdP w B' A ps) (hnc : A = none → c = 0)
    (hlen : es.length + m < 1000000000) (hB : B ≤ w.heap.size)
    (h : ∀ A' c' w', Hid (OwnP w' B (.slice A' n' c') (es ++ ps)) → Below B w w' → K (a.put o.dst (.slice A' n' c')) w') : o.wp Try.prog a w K Q := by
  obtain ⟨i0, hi0, hz0, hz1, hz2⟩ := info_parts pair_info
  rcases A with _ | ad
  · have hm0 : m = 0 := by
      rcases Nat.eq_zero_or_pos m with h0 | h0
      · exact h0
      · obtain ⟨_, _, h1, _⟩ := hr (by omega); cases h1
    subst hm0
    have hy : ps = [] := List.eq_nil_of_length_eq_zero hm
    subst hy
    obtain rfl : c = 0 := hnc rfl
    have hrun := run_append_owned_none (P := Try.prog) (w := w) B 30 o.type 48 i0 2 Try.underlying30 hi0 v es.length _ hown
    unfold Oper.wp
    simp [execOp, ho, resolve, invoke, builtin, hs, hx, hrun, Result.andThen]
    obtain ⟨A', c', rfl, _⟩ := hown.form
    rw [show es.length = n' from by omega] at hown ⊢
    exact h A' c' w (by rw [List.append_nil]; exact hown) (Below.refl _ _)
  · have hcells : ∀ j u, (flat ps)[j]? = some u → w.cell? (ad.add j) = some u := by
      intro j u hu
      have hj : j < ps.length * 2 := by have := (List.getElem?_eq_some_iff.1 hu).1; rw [flat_len] at this; exact this
      obtain ⟨b, off, h1, _, hc⟩ := hr (by omega)
      injection h1 with h1
      subst h1
      rw [show (Addr.add ⟨b, off, none⟩ j) = ⟨b, off + j, none⟩ from by unfold Addr.add; split <;> simp_all]
      have hc := hc (j / 2) (by omega)
      have hf := flat_get ps (j / 2) (by omega)
      rcases (by omega : j = j / 2 * 2 ∨ j = j / 2 * 2 + 1) with e | e
      · rw [e] at hu ⊢
        rw [hf.1] at hu
        rw [hc.1, hu]
      · rw [e] at hu ⊢
        rw [hf.2] at hu
        rw [← Nat.add_assoc, hc.2, hu]
    refine wp_append_own w s x 30 ho B 48 i0 (.agg #[.int .i64 0, .int .i64 0]) 2 16 Try.underlying30 hi0 hz0 hz1 hz2 rfl (by decide) v es.length (flat es) hs hown ad m c (flat ps) hx (by rw [flat_len, hm]) hcells ?_ ?_ ?_ hB ?_
    · intro u hu
      simp only [flat, List.mem_flatMap] at hu
      obtain ⟨y, _, hy⟩ := hu
      simp at hy; rcases hy with rfl | rfl <;> rfl
    · simp [maxLen]; omega
    · omega
    · intro v' w' h1 h2 _
      have h1' : OwnP w' B v' (es ++ ps) := by
        unfold OwnP flat at *
        rw [List.length_append, List.flatMap_append, hm]
        exact h1
      have hbase : ∀ j, v.ownBlock = some j → B ≤ j := by
        intro j hj
        rcases hown.2 with ⟨rfl, _⟩ | ⟨g, cap, cur, rfl, hb, _⟩
        · simp [Value.ownBlock] at hj
        · simp [Value.ownBlock] at hj; omega
      obtain ⟨A', c', rfl, _⟩ := h1'.form
      rw [List.length_append, hm, hn'] at h1' ⊢
      exact h A' c' w' h1' ((Below.refl _ _).grown h2 hB hbase)
theorem wpl_append_pairs {w : World} {ops : Array Oper} {rest : List Oper} {o : Oper} {a : Act} {Q : Exit → Act → World → Prop} (hgd : o.guard = none) (s x : Operand)
    (ho : o.op = .call { callee := .builtin .append, args := #[s, x], argTypes := #[30, 30] })
    (B : Nat) (v : Value) (es ps : List (Int × Int)) (hs : a.eval s = v) (hown : OwnP w B v es)
    (A : Option Addr) (m c B' : Nat) (n' : Nat) (hn' : es.length + m = n') (hx : a.eval x = .slice A m c) (hm : ps.length = m) (hr : RdP w B' A ps) (hnc : A = none → c = 0)
    (hlen : es.length + m < 1000000000) (hB : B ≤ w.heap.size)
    (h : ∀ A' c' w', Hid (OwnP w' B (.slice A' n' c') (es ++ ps)) → Below B w w' → wpList Try.prog ops Q rest (a.put o.dst (.slice A' n' c')) w') : wpList Try.prog ops Q (o :: rest) a w :=
  wpList_plain hgd fun _ hK => wp_append_pairs s x ho B v es ps hs hown A m c B' n' hn' hx hm hr hnc hlen hB fun A' c' w' h1 h2 => hK _ _ (h A' c' w' h1 h2)
/-- The same at a step of a region that draws its order. -/
theorem stp_append_pairs {w : World} {ops : Array Oper} {o : Oper} {a : Act} {K : Act → World → Prop} {Q : Exit → Act → World → Prop} {E : Prop} (hgd : o.guard = none) (s x : Operand)
    (ho : o.op = .call { callee := .builtin .append, args := #[s, x], argTypes := #[30, 30] })
    (B : Nat) (v : Value) (es ps : List (Int × Int)) (hs : a.eval s = v) (hown : OwnP w B v es)
    (A : Option Addr) (m c B' : Nat) (n' : Nat) (hn' : es.length + m = n') (hx : a.eval x = .slice A m c) (hm : ps.length = m) (hr : RdP w B' A ps) (hnc : A = none → c = 0)
    (hlen : es.length + m < 1000000000) (hB : B ≤ w.heap.size)
    (h : ∀ A' c' w', Hid (OwnP w' B (.slice A' n' c') (es ++ ps)) → Below B w w' → K (a.put o.dst (.slice A' n' c')) w') : if Region.wanted o (yielded ops a.tmps) = true then Oper.wp Try.prog o a w K Q else E := by
  have hw : Region.wanted o (yielded ops a.tmps) = true := by simp [Region.wanted, hgd]
  rw [if_pos hw]
  exact wp_append_pairs s x ho B v es ps hs hown A m c B' n' hn' hx hm hr hnc hlen hB h
theorem pairs1_rd (w : World) (a b : Int) : RdP (w.alloc (.cells #[.int .i64 a, .int .i64 b] 48)) (w.heap.size + 1) (some ⟨w.heap.size, 0, none⟩) [(a, b)] := fun _ => by
  refine ⟨_, _, rfl, by omega, fun i hi => ?_⟩
  match i, hi with
  | 0, _ => exact ⟨by rw [World.cell?_alloc_at _ _ _ _ rfl]; rfl, by rw [World.cell?_alloc_at _ _ _ _ rfl]; rfl⟩
/-- Two pairs laid in a new block read as such. -/
theorem pairs2_rd (w : World) (a b c d : Int) : RdP (w.alloc (.cells #[.int .i64 a, .int .i64 b, .int .i64 c, .int .i64 d] 48)) (w.heap.size + 1) (some ⟨w.heap.size, 0, none⟩) [(a, b), (c, d)] := fun _ => by
  refine ⟨_, _, rfl, by omega, fun i hi => ?_⟩
  match i, hi with
  | 0, _ => exact ⟨by rw [World.cell?_alloc_at _ _ _ _ rfl]; rfl, by rw [World.cell?_alloc_at _ _ _ _ rfl]; rfl⟩
  | 1, _ => exact ⟨by rw [World.cell?_alloc_at _ _ _ _ rfl]; rfl, by rw [World.cell?_alloc_at _ _ _ _ rfl]; rfl⟩
/-- A row of pairs and a row of bytes do not share a block. -/
theorem OwnP.apartU {T : TypeId} (hT : T ≠ 48) {w w' : World} {B B' : Nat} {v u : Value} {es : List (Int × Int)} {zs : List Int} (h : OwnP w B v es) (hz : OwnU T w B' u zs) (hg : w.grownBy w' u.ownBlock) : OwnP w' B v es := by
  refine ⟨h.1, ?_⟩
  rcases h.2 with h0 | ⟨g, cap, cur, hv, hb, hh, hr⟩
  · exact .inl h0
  · refine .inr ⟨g, cap, cur, hv, hb, (hg.block g (Array.getElem?_eq_some_iff.1 hh).1 ?_).trans hh, hr⟩
    intro e
    rcases hz.2 with ⟨rfl, _⟩ | ⟨g', cap', cur', rfl, _, hh', _⟩
    · simp [Value.ownBlock] at e
    · have : g' = g := by simpa [Value.ownBlock] using e.symm
      subst this
      rw [hh] at hh'
      injection hh' with h1
      injection h1 with _ h2
      exact hT h2.symm
end Go.Proofs.Ytcniepogobgaoaa
