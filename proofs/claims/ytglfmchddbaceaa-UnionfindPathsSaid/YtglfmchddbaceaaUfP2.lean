/-
  The sets do not depend on the order of the edges; and the law on pairs appended. Plain, but for the append.
-/
import Derived.Test.YtglfmchddbaceaaUfL2
namespace Go.Proofs.Ytglfmchddbaceaa
set_option linter.unusedVariables false
set_option linter.unusedSimpArgs false
open Go.RowKit

section
variable {n : Nat}
/-- The sets are the least that the edges join. -/
theorem run_least (f : Nat → Nat) (es : List (Int × Int)) (h : ∀ e ∈ es, Ins n e → f e.1.toNat = f e.2.toNat) : ∀ i, i < n → f (runE n es i) = f i := by
  induction es using snoc_ind with
  | h0 => intro i _; rfl
  | h1 l e ih =>
    have ih := ih fun x hx => h x (List.mem_append_left _ hx)
    intro i hi
    rw [runE_snoc]
    unfold uniE
    split
    · rename_i ho
      have he := h e (List.mem_append_right _ (List.mem_singleton.2 rfl)) ho
      have ha := ih e.1.toNat (by omega)
      have hb := ih e.2.toNat (by omega)
      rw [joinR_at]
      split
      · rename_i hm
        have h3 := ih i hi
        rw [hm] at h3
        rw [← h3]
        rcases Nat.le_total (runE n l e.1.toNat) (runE n l e.2.toNat) with c | c
        · rw [Nat.min_eq_left c, Nat.max_eq_right c, ha, hb, he]
        · rw [Nat.min_eq_right c, Nat.max_eq_left c, ha, hb, he]
      · exact ih i hi
    · exact ih i hi
theorem roots_same {r1 r2 : Nat → Nat} (h1 : RtOk n r1) (h2 : RtOk n r2) (a : ∀ i, i < n → r2 (r1 i) = r2 i) (b : ∀ i, i < n → r1 (r2 i) = r1 i) : ∀ i, i < n → r1 i = r2 i := by
  intro i hi
  have x1 := h1 i hi
  have x2 := h2 i hi
  have y1 := h2 (r1 i) (by omega)
  have y2 := h1 (r2 i) (by omega)
  rw [a i hi] at y1
  rw [b i hi] at y2
  omega
theorem groups_ext {r1 r2 : Nat → Nat} (h : ∀ i, i < n → r1 i = r2 i) : groups r1 n = groups r2 n := by
  have e1 : roots r1 n = roots r2 n := by
    unfold roots
    congr 1
    apply List.filter_congr
    intro i hi
    rw [h i (List.mem_range.1 hi)]
  unfold groups
  rw [e1]
  apply List.map_congr_left
  intro z hz
  unfold grp
  congr 1
  apply List.filter_congr
  intro i hi
  rw [h i (List.mem_range.1 hi)]
theorem run_ext {es fs : List (Int × Int)} (h1 : ∀ e ∈ es, Ins n e → ∃ f ∈ fs, f = e ∨ f = (e.2, e.1)) (h2 : ∀ e ∈ fs, Ins n e → ∃ f ∈ es, f = e ∨ f = (e.2, e.1)) : ∀ i, i < n → runE n es i = runE n fs i := by
  refine roots_same (RtOk.run n es) (RtOk.run n fs) (run_least _ es fun e he hi => ?_) (run_least _ fs fun e he hi => ?_)
  · obtain ⟨f, hf, rfl | rfl⟩ := h1 e he hi
    · exact run_joins n fs f hf hi
    · exact (run_joins n fs _ hf ⟨hi.2.2.1, hi.2.2.2, hi.1, hi.2.1⟩).symm
  · obtain ⟨f, hf, rfl | rfl⟩ := h2 e he hi
    · exact run_joins n es f hf hi
    · exact (run_joins n es _ hf ⟨hi.2.2.1, hi.2.2.2, hi.1, hi.2.1⟩).symm
end
/-- The law's other list: the edges from the last down to 'cut', turned; then the first 'cut', each twice. -/
def swaps (es : List (Int × Int)) (p q : Nat) : List (Int × Int) := (List.range q).map fun d => (eb es (p - 1 - d), ea es (p - 1 - d))
theorem swaps_snoc (es : List (Int × Int)) (p q : Nat) : swaps es p (q + 1) = swaps es p q ++ [(eb es (p - 1 - q), ea es (p - 1 - q))] := by simp [swaps, List.range_succ]
theorem swaps_len (es : List (Int × Int)) (p q : Nat) : (swaps es p q).length = q := by simp [swaps]
def twice (es : List (Int × Int)) : List (Int × Int) := es.flatMap fun e => [e, e]
theorem twice_len (es : List (Int × Int)) : (twice es).length = es.length * 2 := by
  induction es with
  | nil => rfl
  | cons a t ih => simp only [twice, List.flatMap_cons, List.length_append] at *; simp [ih]; omega
theorem twice_snoc (es : List (Int × Int)) (e : Int × Int) : twice (es ++ [e]) = twice es ++ [e, e] := by simp [twice]
theorem twice_mem {es : List (Int × Int)} {e : Int × Int} : e ∈ twice es ↔ e ∈ es := by simp [twice]
theorem swaps_mem {es : List (Int × Int)} {p q : Nat} {e : Int × Int} : e ∈ swaps es p q ↔ ∃ d, d < q ∧ e = (eb es (p - 1 - d), ea es (p - 1 - d)) := by
  simp only [swaps, List.mem_map, List.mem_range]
  constructor
  · rintro ⟨d, h1, rfl⟩; exact ⟨d, h1, rfl⟩
  · rintro ⟨d, h1, rfl⟩; exact ⟨d, h1, rfl⟩
theorem order_same (n : Nat) (es : List (Int × Int)) (cut : Nat) (hc : cut ≤ es.length) : groups (runE n es) n = groups (runE n (swaps es es.length (es.length - cut) ++ twice (es.take cut))) n := by
  have at_ : ∀ i, i < es.length → (ea es i, eb es i) = es.getD i (0, 0) := fun i hi => rfl
  refine groups_ext (run_ext (fun e he hi => ?_) (fun e he hi => ?_))
  · obtain ⟨i, h, rfl⟩ := List.mem_iff_getElem.1 he
    by_cases hic : i < cut
    · refine ⟨es[i], List.mem_append_right _ (twice_mem.2 ?_), .inl rfl⟩
      rw [List.mem_take_iff_getElem]
      exact ⟨i, by omega, rfl⟩
    · refine ⟨(es[i].2, es[i].1), List.mem_append_left _ (swaps_mem.2 ⟨es.length - 1 - i, by omega, ?_⟩), .inr rfl⟩
      rw [show es.length - 1 - (es.length - 1 - i) = i from by omega]
      simp [ea, eb, List.getD, List.getElem?_eq_getElem h]
  · rcases List.mem_append.1 he with h | h
    · obtain ⟨d, hd, rfl⟩ := swaps_mem.1 h
      exact ⟨_, pair_mem (show es.length - 1 - d < es.length by omega), .inr rfl⟩
    · exact ⟨e, List.mem_of_mem_take (twice_mem.1 h), .inl rfl⟩

/-- 'out = append(out, ps...)' on pairs. -/
theorem wp_append_pairs {w : World} {o : Oper} {a : Act} {K : Act → World → Prop} {Q : Exit → Act → World → Prop} (s x : Operand)
    (ho : o.op = .call { callee := .builtin .append, args := #[s, x], argTypes := #[24, 24] })
    (B : Nat) (v : Value) (es ps : List (Int × Int)) (hs : a.eval s = v) (hown : OwnP w B v es)
    (A : Option Addr) (m c B' : Nat) (n' : Nat) (hn' : es.length + m = n') (hx : a.eval x = .slice A m c) (hm : ps.length = m) (hr : RdP w B' A ps) (hnc : A = none → c = 0)
    (hlen : es.length + m < 1000000000) (hB : B ≤ w.heap.size)
    (h : ∀ A' c' w', Hid (OwnP w' B (.slice A' n' c') (es ++ ps)) → Below B w w' → K (a.put o.dst (.slice A' n' c')) w') : o.wp Try.prog a w K Q := by
  obtain ⟨i0, hi0, hz0, hz1, hz2⟩ := info_parts pair_info
  rcases A with _ | ad
  · have hm0 : m = 0 := by
      rcases Nat.eq_zero_or_pos m with h0 | h0
      · exact h0
      · obtain ⟨_, _, h1, _⟩ := hr (by omega); cases h1
    subst hm0
    have hy : ps = [] := List.eq_nil_of_length_eq_zero hm
    subst hy
    obtain rfl : c = 0 := hnc rfl
    have hrun := run_append_owned_none (P := Try.prog) (w := w) B 24 o.type 32 i0 2 Try.underlying24 hi0 v es.length _ hown
    unfold Oper.wp
    simp [execOp, ho, resolve, invoke, builtin, hs, hx, hrun, Result.andThen]
    obtain ⟨A', c', rfl, _⟩ := hown.form
    rw [show es.length = n' from by omega] at hown ⊢
    exact h A' c' w (by rw [List.append_nil]; exact hown) (Below.refl _ _)
  · have hcells : ∀ j u, (flat ps)[j]? = some u → w.cell? (ad.add j) = some u := by
      intro j u hu
      have hj : j < ps.length * 2 := by have := (List.getElem?_eq_some_iff.1 hu).1; rw [flat_len] at this; exact this
      obtain ⟨b, off, h1, _, hc⟩ := hr (by omega)
      injection h1 with h1
      subst h1
      rw [show (Addr.add ⟨b, off, none⟩ j) = ⟨b, off + j, none⟩ from by unfold Addr.add; split <;> simp_all]
      have hc := hc (j / 2) (by omega)
      have hf := flat_get ps (j / 2) (by omega)
      rcases (by omega : j = j / 2 * 2 ∨ j = j / 2 * 2 + 1) with e | e
      · rw [e] at hu ⊢
        rw [hf.1] at hu
        rw [hc.1, hu]
      · rw [e] at hu ⊢
        rw [hf.2] at hu
        rw [← Nat.add_assoc, hc.2, hu]
    refine wp_append_own w s x 24 ho B 32 i0 (.agg #[.int .i64 0, .int .i64 0]) 2 16 Try.underlying24 hi0 hz0 hz1 hz2 rfl (by decide) v es.length (flat es) hs hown ad m c (flat ps) hx (by rw [flat_len, hm]) hcells ?_ ?_ ?_ hB ?_
    · intro u hu
      simp only [flat, List.mem_flatMap] at hu
      obtain ⟨y, _, hy⟩ := hu
      simp at hy; rcases hy with rfl | rfl <;> rfl
    · simp [maxLen]; omega
    · omega
    · intro v' w' h1 h2 _
      have h1' : OwnP w' B v' (es ++ ps) := by
        unfold OwnP flat at *
        rw [List.length_append, List.flatMap_append, hm]
        exact h1
      have hbase : ∀ j, v.ownBlock = some j → B ≤ j := by
        intro j hj
        rcases hown.2 with ⟨rfl, _⟩ | ⟨g, cap, cur, rfl, hb, _⟩
        · simp [Value.ownBlock] at hj
        · simp [Value.ownBlock] at hj; omega
      obtain ⟨A', c', rfl, _⟩ := h1'.form
      rw [List.length_append, hm, hn'] at h1' ⊢
      exact h A' c' w' h1' ((Below.refl _ _).grown h2 hB hbase)
theorem wpl_append_pairs {w : World} {ops : Array Oper} {rest : List Oper} {o : Oper} {a : Act} {Q : Exit → Act → World → Prop} (hgd : o.guard = none) (s x : Operand)
    (ho : o.op = .call { callee := .builtin .append, args := #[s, x], argTypes := #[24, 24] })
    (B : Nat) (v : Value) (es ps : List (Int × Int)) (hs : a.eval s = v) (hown : OwnP w B v es)
    (A : Option Addr) (m c B' : Nat) (n' : Nat) (hn' : es.length + m = n') (hx : a.eval x = .slice A m c) (hm : ps.length = m) (hr : RdP w B' A ps) (hnc : A = none → c = 0)
    (hlen : es.length + m < 1000000000) (hB : B ≤ w.heap.size)
    (h : ∀ A' c' w', Hid (OwnP w' B (.slice A' n' c') (es ++ ps)) → Below B w w' → wpList Try.prog ops Q rest (a.put o.dst (.slice A' n' c')) w') : wpList Try.prog ops Q (o :: rest) a w :=
  wpList_plain hgd fun _ hK => wp_append_pairs s x ho B v es ps hs hown A m c B' n' hn' hx hm hr hnc hlen hB fun A' c' w' h1 h2 => hK _ _ (h A' c' w' h1 h2)
/-- The same at a step of a region that draws its order. -/
theorem stp_append_pairs {w : World} {ops : Array Oper} {o : Oper} {a : Act} {K : Act → World → Prop} {Q : Exit → Act → World → Prop} {E : Prop} (hgd : o.guard = none) (s x : Operand)
    (ho : o.op = .call { callee := .builtin .append, args := #[s, x], argTypes := #[24, 24] })
    (B : Nat) (v : Value) (es ps : List (Int × Int)) (hs : a.eval s = v) (hown : OwnP w B v es)
    (A : Option Addr) (m c B' : Nat) (n' : Nat) (hn' : es.length + m = n') (hx : a.eval x = .slice A m c) (hm : ps.length = m) (hr : RdP w B' A ps) (hnc : A = none → c = 0)
    (hlen : es.length + m < 1000000000) (hB : B ≤ w.heap.size)
    (h : ∀ A' c' w', Hid (OwnP w' B (.slice A' n' c') (es ++ ps)) → Below B w w' → K (a.put o.dst (.slice A' n' c')) w') : if Region.wanted o (yielded ops a.tmps) = true then Oper.wp Try.prog o a w K Q else E := by
  have hw : Region.wanted o (yielded ops a.tmps) = true := by simp [Region.wanted, hgd]
  rw [if_pos hw]
  exact wp_append_pairs s x ho B v es ps hs hown A m c B' n' hn' hx hm hr hnc hlen hB h
theorem pairs1_rd (w : World) (a b : Int) : RdP (w.alloc (.cells #[.int .i64 a, .int .i64 b] 32)) (w.heap.size + 1) (some ⟨w.heap.size, 0, none⟩) [(a, b)] := fun _ => by
  refine ⟨_, _, rfl, by omega, fun i hi => ?_⟩
  match i, hi with
  | 0, _ => exact ⟨by rw [World.cell?_alloc_at _ _ _ _ rfl]; rfl, by rw [World.cell?_alloc_at _ _ _ _ rfl]; rfl⟩
/-- Two pairs laid in a new block read as such. -/
theorem pairs2_rd (w : World) (a b c d : Int) : RdP (w.alloc (.cells #[.int .i64 a, .int .i64 b, .int .i64 c, .int .i64 d] 32)) (w.heap.size + 1) (some ⟨w.heap.size, 0, none⟩) [(a, b), (c, d)] := fun _ => by
  refine ⟨_, _, rfl, by omega, fun i hi => ?_⟩
  match i, hi with
  | 0, _ => exact ⟨by rw [World.cell?_alloc_at _ _ _ _ rfl]; rfl, by rw [World.cell?_alloc_at _ _ _ _ rfl]; rfl⟩
  | 1, _ => exact ⟨by rw [World.cell?_alloc_at _ _ _ _ rfl]; rfl, by rw [World.cell?_alloc_at _ _ _ _ rfl]; rfl⟩
end Go.Proofs.Ytglfmchddbaceaa
