/-
  Bodies in a row of the call's own.
-/
import Derived.Test.YtfnoeolngdhjfaaSetD
import Derived.Maps.AppendAt
namespace Go.Proofs.Ytfnoeolngdhjfaa
set_option linter.unusedVariables false
set_option linter.unusedSimpArgs false
set_option maxRecDepth 4000
open Go.RowKit

/-- The slice leads to a block of B or later, and not to the row's. -/
def PairsX (w : World) (B : Nat) (pv : Value) (es : List (Int × Int)) (ob : Option Nat) : Prop :=
  ∃ A c, pv = .slice A es.length c ∧ RdP w w.heap.size A es ∧ ∀ a, A = some a → B ≤ a.block ∧ a.block < w.heap.size ∧ ob ≠ some a.block
theorem PairsX.frame {w w' : World} {B : Nat} {pv : Value} {es : List (Int × Int)} {ob ob' : Option Nat} (h : PairsX w B pv es ob) (hz : w.heap.size ≤ w'.heap.size) (hf : ∀ k, B ≤ k → k < w.heap.size → ob ≠ some k → w'.heap[k]? = w.heap[k]?)
    (ho : ob' = ob ∨ ∃ j, ob' = some j ∧ w.heap.size ≤ j) : PairsX w' B pv es ob' := by
  obtain ⟨A, c, hv, hr, ha⟩ := h
  refine ⟨A, c, hv, fun hn => ?_, fun a e => ?_⟩
  · obtain ⟨b, off, e, hb, hc⟩ := hr hn
    obtain ⟨h1, h2, h3⟩ := ha _ e
    have hk := hf b h1 h2 h3
    refine ⟨b, off, e, by omega, fun i hi => ⟨?_, ?_⟩⟩
    · exact (World.cell?_of_block (w := w) (a := ⟨b, off + i * 2, none⟩) hk).trans (hc i hi).1
    · exact (World.cell?_of_block (w := w) (a := ⟨b, off + i * 2 + 1, none⟩) hk).trans (hc i hi).2
  · obtain ⟨h1, h2, h3⟩ := ha _ e
    refine ⟨h1, by omega, ?_⟩
    rcases ho with rfl | ⟨j, rfl, hj⟩
    · exact h3
    · intro e2; injection e2 with e2; omega
theorem PairsX.pv {w : World} {B : Nat} {pv : Value} {es : List (Int × Int)} {ob : Option Nat} (h : PairsX w B pv es ob) : PairsV w w.heap.size pv es := by
  obtain ⟨A, c, hv, hr, _⟩ := h
  exact ⟨A, c, hv, hr⟩

def flatB (ps : List (Value × Bd)) : List Value := ps.flatMap fun p => bodyVals p.1 p.2
theorem flatB_len (ps : List (Value × Bd)) : (flatB ps).length = ps.length * 9 := by
  induction ps with
  | nil => rfl
  | cons p t ih =>
    have e : flatB (p :: t) = bodyVals p.1 p.2 ++ flatB t := rfl
    have hl : (bodyVals p.1 p.2).length = 9 := rfl
    rw [e, List.length_append, ih, hl, List.length_cons]; omega
theorem flatB_get (ps : List (Value × Bd)) (i : Nat) (h : i < ps.length) (j : Nat) (u : Value) (hu : (bodyVals ps[i].1 ps[i].2)[j]? = some u) : (flatB ps)[i * 9 + j]? = some u := by
  induction ps generalizing i with
  | nil => simp at h
  | cons p t ih =>
    have hl : (bodyVals p.1 p.2).length = 9 := rfl
    have e : flatB (p :: t) = bodyVals p.1 p.2 ++ flatB t := rfl
    rw [e]
    match i with
    | 0 =>
      have hj : j < 9 := by
        have := List.getElem?_eq_some_iff.1 hu
        obtain ⟨h', _⟩ := this
        exact h'
      rw [List.getElem?_append_left (by omega)]
      simpa using hu
    | i + 1 =>
      rw [List.getElem?_append_right (by omega), hl]
      have e2 : (i + 1) * 9 + j - 9 = i * 9 + j := by omega
      rw [e2]
      exact ih i (by simpa using h) (by simpa using hu)

/-- Bodies in a row of the call's own, in blocks of B or later. -/
def OwnBs (w : World) (B : Nat) (v : Value) (bs : List Bd) : Prop :=
  ∃ ps : List (Value × Bd), ps.map Prod.snd = bs ∧ w.ownsRow B 100 9 v bs.length (flatB ps) ∧ ∀ p ∈ ps, PairsX w B p.1 p.2.poly v.ownBlock
theorem OwnBs.nil (w : World) (B : Nat) : OwnBs w B (.slice none 0 0) [] := ⟨[], rfl, World.ownsRow_nil _ _ _ _, by simp⟩
theorem OwnBs.frame {w w' : World} {B : Nat} {v : Value} {bs : List Bd} (h : OwnBs w B v bs) (hz : w.heap.size ≤ w'.heap.size) (hf : ∀ k, B ≤ k → k < w.heap.size → w'.heap[k]? = w.heap[k]?) : OwnBs w' B v bs := by
  obtain ⟨ps, hp, hr, hx⟩ := h
  refine ⟨ps, hp, ⟨hr.1, ?_⟩, fun p hm => (hx p hm).frame hz (fun k h1 h2 _ => hf k h1 h2) (.inl rfl)⟩
  rcases hr.2 with h0 | ⟨g, cap, cur, hv, hg, hh, hr'⟩
  · exact .inl h0
  · exact .inr ⟨g, cap, cur, hv, hg, (hf g hg (Array.getElem?_eq_some_iff.1 hh).1).trans hh, hr'⟩
theorem OwnBs.form {w : World} {B : Nat} {v : Value} {bs : List Bd} (h : OwnBs w B v bs) : ∃ A c, v = .slice A bs.length c ∧ RdBs w w.heap.size A bs ∧ (∀ r, v.ownBlock = some r → B ≤ r) := by
  obtain ⟨ps, hp, hr, hx⟩ := h
  have hl : ps.length = bs.length := by rw [← hp, List.length_map]
  rcases hr.2 with ⟨rfl, h0⟩ | ⟨g, cap, cur, rfl, hb, hh, hn, hc, hs, ht⟩
  · exact ⟨none, 0, by rw [h0], fun hn => absurd hn (by omega), fun r hr => by simp [Value.ownBlock] at hr⟩
  · refine ⟨_, cap, rfl, fun hp0 => ⟨g, 0, rfl, (Array.getElem?_eq_some_iff.1 hh).1, fun i hi => ?_⟩, fun r hr => by simp only [Value.ownBlock, Option.some.injEq] at hr; omega⟩
    have hi' : i < ps.length := by omega
    have hb2 : ps[i].2 = bs[i] := by simp only [← hp, List.getElem_map]
    refine ⟨ps[i].1, ?_, fun j u hu => ?_⟩
    · have := (hx _ (List.getElem_mem hi')).pv
      rw [hb2] at this; exact this
    · rw [← hb2] at hu
      have hg := flatB_get ps i hi' j u hu
      have hj : j < 9 := by
        obtain ⟨h', _⟩ := List.getElem?_eq_some_iff.1 hu
        exact h'
      rw [← ht, List.getElem?_take_of_lt (by omega)] at hg
      simp only [World.cell?, hh, Nat.zero_add]
      simp only [Option.isSome_none, Bool.false_eq_true, if_false]
      rw [← Array.getElem?_toList, hg]
theorem OwnBs.row {w : World} {B : Nat} {v : Value} {bs : List Bd} (h : OwnBs w B v bs) : ∀ r, v.ownBlock = some r → B ≤ r ∧ r < w.heap.size := by
  obtain ⟨ps, hp, hr, hx⟩ := h
  intro r hv
  rcases hr.2 with ⟨rfl, h0⟩ | ⟨g, cap, cur, rfl, hb, hh, hn, hc, hs, ht⟩
  · simp [Value.ownBlock] at hv
  · simp only [Value.ownBlock, Option.some.injEq] at hv
    subst hv
    exact ⟨hb, (Array.getElem?_eq_some_iff.1 hh).1⟩
theorem OwnBs.len {w : World} {B n c : Nat} {A : Option Addr} {bs : List Bd} (h : OwnBs w B (.slice A n c) bs) : bs.length = n := by
  obtain ⟨A', c', hv, _⟩ := h.form
  injection hv with _ h2 _
  exact h2.symm
theorem OwnBs.rd {w : World} {B n c : Nat} {A : Option Addr} {bs : List Bd} (h : OwnBs w B (.slice A n c) bs) : RdBs w w.heap.size A bs := by
  obtain ⟨A', c', hv, hr, _⟩ := h.form
  injection hv with h1 _ _
  subst h1
  exact hr
theorem cells_new (w : World) (vs : Array Value) (T : TypeId) (b : Nat) (hb : b = w.heap.size) : ∀ j u, vs.toList[j]? = some u → (w.alloc (.cells vs T)).cell? ((⟨b, 0, none⟩ : Addr).add j) = some u := by
  subst hb
  intro j u hu
  have e : (⟨w.heap.size, 0, none⟩ : Addr).add j = ⟨w.heap.size, j, none⟩ := by simp [Addr.add]; intro h; exact h.symm
  rw [e, World.cell?_alloc_new]
  simpa using hu
theorem body_info : (Try.prog.info? 100).map (fun i => (i.zero, i.size, i.bytes)) = some (some (.agg #[.int .i64 0, .slice none 0 0, .int .i64 0, .int .i64 0, .int .i64 0, .int .i64 0, .int .i64 0, .int .i64 0, .int .i64 0]), 9, 88) := by kernel_rfl
theorem wpl_append_body {w : World} {ops : Array Oper} {rest : List Oper} {o : Oper} {a : Act} {Q : Exit → Act → World → Prop} (hgd : o.guard = none) (s x : Operand)
    (ho : o.op = .call { callee := .builtin .append, args := #[s, x], argTypes := #[41, 41] })
    (B : Nat) (v : Value) (bs : List Bd) (hs : a.eval s = v) (hown : OwnBs w B v bs)
    (ad : Addr) (c : Nat) (pv : Value) (b : Bd) (n' : Nat) (hn' : bs.length + 1 = n') (hx : a.eval x = .slice (some ad) 1 c) (hc : ∀ j u, (bodyVals pv b)[j]? = some u → w.cell? (ad.add j) = some u)
    (hp : PairsX w B pv b.poly v.ownBlock) (hlen : bs.length < 1000000) (hB : B ≤ w.heap.size)
    (h : ∀ A' c' w', Hid (OwnBs w' B (.slice A' n' c') (bs ++ [b])) → Hid (w.grownBy w' v.ownBlock) → Hid ((Value.slice A' n' c').ownBlock = v.ownBlock ∨ ∃ j, (Value.slice A' n' c').ownBlock = some j ∧ w.heap.size ≤ j) → wpList Try.prog ops Q rest (a.put o.dst (.slice A' n' c')) w') : wpList Try.prog ops Q (o :: rest) a w := by
  obtain ⟨i0, hi0, hz0, hz1, hz2⟩ := info_parts body_info
  obtain ⟨ps, hps, hr, hxs⟩ := hown
  refine wpList_append_own_at w hgd s x 41 ho B 100 i0 _ 9 88 Try.underlying41 hi0 hz0 hz1 hz2 rfl (by decide) v bs.length (flatB ps) hs hr ad 1 c (bodyVals pv b) hx rfl hc ?_ ?_ ?_ hB ?_
  · intro u hu
    obtain ⟨A, c, hv, _⟩ := hp
    subst hv
    simp only [bodyVals, List.mem_cons, List.not_mem_nil, or_false] at hu
    rcases hu with rfl | rfl | rfl | rfl | rfl | rfl | rfl | rfl | rfl <;> rfl
  · simp [maxLen]; omega
  · omega
  · intro v' w' h1 h2 _ h4
    have ho' : v'.ownBlock = v.ownBlock ∨ ∃ j, v'.ownBlock = some j ∧ w.heap.size ≤ j := h4.imp id fun e => ⟨_, e, Nat.le_refl _⟩
    have hnew : OwnBs w' B v' (bs ++ [b]) := by
      refine ⟨ps ++ [(pv, b)], by simp [hps], ?_, ?_⟩
      · rw [List.length_append, List.length_singleton]
        have e : flatB (ps ++ [(pv, b)]) = flatB ps ++ bodyVals pv b := by simp [flatB]
        rw [e]; exact h1
      · intro p hm
        have hfr : ∀ k, B ≤ k → k < w.heap.size → v.ownBlock ≠ some k → w'.heap[k]? = w.heap[k]? := fun k _ h' hn => h2.block k h' (fun e => hn e.symm)
        rcases List.mem_append.1 hm with hm | hm
        · exact (hxs p hm).frame h2.size hfr ho'
        · obtain rfl := List.mem_singleton.1 hm
          exact hp.frame h2.size hfr ho'
    obtain ⟨A', c', rfl, _⟩ := hnew.form
    rw [List.length_append, List.length_singleton, hn'] at hnew ho' ⊢
    exact h A' c' w' hnew h2 ho'
end Go.Proofs.Ytfnoeolngdhjfaa
