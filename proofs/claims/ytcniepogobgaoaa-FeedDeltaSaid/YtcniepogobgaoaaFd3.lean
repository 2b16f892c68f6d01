/-
  Package feed: the store in memory; store.put.
-/
import Derived.Test.YtcniepogobgaoaaFd2
namespace Go.Proofs.Ytcniepogobgaoaa
set_option linter.unusedVariables false
set_option linter.unusedSimpArgs false
set_option maxRecDepth 4000
open Go.RowKit Go.Maps Go.Sort Go.Shelf

/-- The views kept, by rising ticks. -/
abbrev Kept := List (Int × Vw)
def UpK (l : Kept) : Prop := l.Pairwise (fun p q => p.1 < q.1)
/-- One view more; the first goes where there are too many. -/
def putL (k : Nat) (l : Kept) (t : Int) (v : Vw) : Kept := if k < l.length + 1 then (l ++ [(t, v)]).drop 1 else l ++ [(t, v)]
/-- The slice value u, in blocks of P, holds the view v. -/
def ViewM (W : World) (P : Nat → Prop) (u : Value) (v : Vw) : Prop := (∃ A c, u = .slice A v.length c) ∧ OwnP W 0 u v ∧ ∀ r, u.ownBlock = some r → P r
/-- The map at block b holds the views l. -/
def StM (W : World) (P : Nat → Prop) (b : Nat) (l : Kept) : Prop :=
  P b ∧ ∃ (D : DataW Value) (f : Int → Option Value), W.ownsMap Try.prog 3 RV b l.length D ∧ MV D f ∧ Maps.size D = l.length ∧ (∀ i u, f i = some u → ∃ v, (i, v) ∈ l ∧ ViewM W P u v) ∧ ∀ i v, (i, v) ∈ l → ∃ u, f i = some u ∧ ViewM W P u v
theorem OwnP.keepRow {w w' : World} {B : Nat} {v : Value} {es : Vw} (h : OwnP w B v es) (hr : ∀ r, v.ownBlock = some r → w'.heap[r]? = w.heap[r]?) : OwnP w' B v es := by
  refine ⟨h.1, ?_⟩
  rcases h.2 with h0 | ⟨g, cap, cur, hv, hb, hh, hr'⟩
  · exact .inl h0
  · exact .inr ⟨g, cap, cur, hv, hb, (hr g (by rw [hv]; rfl)).trans hh, hr'⟩
theorem OwnP.rowLt_ {w : World} {B : Nat} {v : Value} {es : Vw} (h : OwnP w B v es) : ∀ r, v.ownBlock = some r → B ≤ r ∧ r < w.heap.size ∧ ∃ cur, w.heap[r]? = some (.cells cur 48 (0, 0)) := by
  intro r hr
  rcases h.2 with ⟨h0, _⟩ | ⟨g, cap, cur, hv, hb, hh, _⟩
  · rw [h0] at hr; simp [Value.ownBlock] at hr
  · rw [hv] at hr
    have e : g = r := by simpa [Value.ownBlock] using hr
    subst e
    exact ⟨hb, (Array.getElem?_eq_some_iff.1 hh).1, cur, hh⟩
theorem ViewM.frm {W W' : World} {P P' S : Nat → Prop} {u : Value} {v : Vw} (h : ViewM W P u v) (hf : Frm S W W') (hS : ∀ k, S k → ¬ ∃ cur, W.heap[k]? = some (.cells cur 48 (0, 0))) (hP : ∀ k, P k → P' k) : ViewM W' P' u v := by
  obtain ⟨h1, h2, h3⟩ := h
  exact ⟨h1, h2.keepRow (fun r hr => hf.block r (h2.rowLt_ r hr).2.1 (fun e => hS r e (h2.rowLt_ r hr).2.2)), fun r hr => hP r (h3 r hr)⟩
theorem ViewM.frmP {W W' : World} {P S : Nat → Prop} {u : Value} {v : Vw} (h : ViewM W P u v) (hf : Frm S W W') (hS : ∀ k, S k → ¬ P k) : ViewM W' P u v := by
  obtain ⟨h1, h2, h3⟩ := h
  exact ⟨h1, h2.keepRow (fun r hr => hf.block r (h2.rowLt_ r hr).2.1 (fun e => hS r e (h3 r hr))), h3⟩
theorem ViewM.slP {W : World} {P : Nat → Prop} {u : Value} {v : Vw} (h : ViewM W P u v) : ∃ A c, u = .slice A v.length c ∧ SlP W W.heap.size A v.length c v := by
  obtain ⟨⟨A, c, rfl⟩, h2, _⟩ := h
  exact ⟨A, c, rfl, h2.slP⟩
theorem ownsMap_frm {H : Type} {P : Program} {k : TypeId} {R : Value → Option (DataW H × List MemPlace)} {w w' : World} {b n : Nat} {D : DataW H} (h : w.ownsMap P k R b n D) {S : Nat → Prop} (hf : Frm S w w') (hb : ¬ S b) : w'.ownsMap P k R b n D := by
  have hlt := h.lt
  obtain ⟨es, clock, hb', F, hs, hD⟩ := h
  exact ⟨es, clock, (hf.block b hlt hb).trans hb', F, hs, hD⟩
theorem StM.frmP {W W' : World} {P S : Nat → Prop} {b : Nat} {l : Kept} (h : StM W P b l) (hf : Frm S W W') (hS : ∀ k, S k → ¬ P k) : StM W' P b l := by
  obtain ⟨h0, D, f, h1, h2, h3, h4, h5⟩ := h
  refine ⟨h0, D, f, ownsMap_frm h1 hf (fun e => hS b e h0), h2, h3, fun i u hu => ?_, fun i v hv => ?_⟩
  · obtain ⟨v, k1, k2⟩ := h4 i u hu; exact ⟨v, k1, k2.frmP hf hS⟩
  · obtain ⟨u, k1, k2⟩ := h5 i v hv; exact ⟨u, k1, k2.frmP hf hS⟩
theorem StM.frm {W W' : World} {P P' S : Nat → Prop} {b : Nat} {l : Kept} (h : StM W P b l) (hf : Frm S W W') (hb : ¬ S b) (hS : ∀ k, S k → ¬ ∃ cur, W.heap[k]? = some (.cells cur 48 (0, 0))) (hP : ∀ k, P k → P' k) : StM W' P' b l := by
  obtain ⟨h0, D, f, h1, h2, h3, h4, h5⟩ := h
  refine ⟨hP b h0, D, f, ownsMap_frm h1 hf hb, h2, h3, fun i u hu => ?_, fun i v hv => ?_⟩
  · obtain ⟨v, k1, k2⟩ := h4 i u hu; exact ⟨v, k1, k2.frm hf hS hP⟩
  · obtain ⟨u, k1, k2⟩ := h5 i v hv; exact ⟨u, k1, k2.frm hf hS hP⟩
theorem UpK.append {l : Kept} (h : UpK l) {t : Int} {v : Vw} (ht : ∀ p ∈ l, p.1 < t) : UpK (l ++ [(t, v)]) := by
  unfold UpK at h ⊢
  rw [List.pairwise_append]
  exact ⟨h, List.pairwise_singleton _ _, fun a ha b hb => by rw [List.mem_singleton] at hb; subst hb; exact ht a ha⟩
theorem UpK.putL {l : Kept} (h : UpK l) {k : Nat} {t : Int} {v : Vw} (ht : ∀ p ∈ l, p.1 < t) : UpK (putL k l t v) := by
  unfold Go.Proofs.Ytcniepogobgaoaa.putL
  split
  · exact (h.append ht).sublist (List.drop_sublist _ _)
  · exact h.append ht
theorem putL_mem {l : Kept} {k : Nat} {t : Int} {v : Vw} {p : Int × Vw} (h : p ∈ putL k l t v) : p = (t, v) ∨ p ∈ l := by
  unfold putL at h
  split at h
  · rcases List.mem_append.1 (List.mem_of_mem_drop h) with h | h
    · exact .inr h
    · exact .inl (List.mem_singleton.1 h)
  · rcases List.mem_append.1 h with h | h
    · exact .inr h
    · exact .inl (List.mem_singleton.1 h)
/-- After the put, ahead of the delete. -/
theorem StM.stored {W W2 : World} {P : Nat → Prop} {b : Nat} {l : Kept} {D : DataW Value} {f : Int → Option Value} (hP : P b) (hmv : MV D f) (hsz : Maps.size D = l.length) (hfv : ∀ i u, f i = some u → ∃ v, (i, v) ∈ l ∧ ViewM W P u v) (hvf : ∀ i v, (i, v) ∈ l → ∃ u, f i = some u ∧ ViewM W P u v)
    {t : Int} {v : Vw} {A : Option Addr} {c : Nat} (ht : ∀ p ∈ l, p.1 < t) (hown : W2.ownsMap Try.prog 3 RV b (l.length + 1) (D.put (.int .i64 t) (.held (.slice A v.length c)))) (hfr : Frm (fun k => k = b) W W2) (hnb : ∀ cur, W.heap[b]? ≠ some (.cells cur 48 (0, 0))) (hv : OwnP W2 W.heap.size (.slice A v.length c) v) :
    StM W2 (fun k => P k ∨ W.heap.size ≤ k) b (l ++ [(t, v)]) := by
  have hft : f t = none := by
    cases h : f t with
    | none => rfl
    | some u => obtain ⟨v', h1, _⟩ := hfv t u h; exact absurd (ht _ h1) (Int.lt_irrefl _)
  have hS : ∀ k, k = b → ¬ ∃ cur, W.heap[k]? = some (.cells cur 48 (0, 0)) := by
    rintro k rfl ⟨cur, hc⟩
    exact hnb cur hc
  have hvn : ViewM W2 (fun k => P k ∨ W.heap.size ≤ k) (.slice A v.length c) v := ⟨⟨A, c, rfl⟩, ⟨hv.1, by
    rcases hv.2 with h0 | ⟨g, cap, cur, hv', hb, hr⟩
    · exact .inl h0
    · exact .inr ⟨g, cap, cur, hv', Nat.zero_le _, hr⟩⟩, fun r hr => .inr (hv.rowLt_ r hr).1⟩
  refine ⟨.inl hP, _, _, by rw [List.length_append]; exact hown, hmv.put t _, by rw [hmv.size_put hft, hsz, List.length_append]; rfl, fun i u hu => ?_, fun i v' hv' => ?_⟩
  · by_cases hi : i = t
    · subst hi
      simp only [if_true] at hu
      injection hu with hu
      subst hu
      exact ⟨v, by simp, hvn⟩
    · simp only [if_neg hi] at hu
      obtain ⟨v', k1, k2⟩ := hfv i u hu
      exact ⟨v', List.mem_append_left _ k1, k2.frm hfr hS (fun k h => .inl h)⟩
  · rcases List.mem_append.1 hv' with h | h
    · obtain ⟨u, k1, k2⟩ := hvf i v' h
      have hi : i ≠ t := fun e => by subst e; exact absurd (ht _ h) (Int.lt_irrefl _)
      exact ⟨u, by simp only [if_neg hi]; exact k1, k2.frm hfr hS (fun k h => .inl h)⟩
    · rw [List.mem_singleton] at h
      injection h with e1 e2
      subst e1 e2
      exact ⟨_, by simp, hvn⟩
/-- Deleting the least tick. -/
theorem StM.dropped {W W' : World} {P : Nat → Prop} {b : Nat} {p0 : Int × Vw} {l : Kept} {D : DataW Value} {f : Int → Option Value} (hu : UpK (p0 :: l)) (hP : P b) (hmv : MV D f) (hsz : Maps.size D = (p0 :: l).length) (hfv : ∀ i u, f i = some u → ∃ v, (i, v) ∈ p0 :: l ∧ ViewM W P u v) (hvf : ∀ i v, (i, v) ∈ p0 :: l → ∃ u, f i = some u ∧ ViewM W P u v)
    {n : Nat} (hown : W'.ownsMap Try.prog 3 RV b n (D.del (.int .i64 p0.1))) {S : Nat → Prop} (hfr : Frm S W W') (hS : ∀ k, S k → k = b) (hnb : ∀ cur, W.heap[b]? ≠ some (.cells cur 48 (0, 0))) : StM W' P b l := by
  have hS' : ∀ k, S k → ¬ ∃ cur, W.heap[k]? = some (.cells cur 48 (0, 0)) := by
    rintro k hk ⟨cur, hc⟩
    rw [hS k hk] at hc
    exact hnb cur hc
  obtain ⟨hu1, hu2⟩ := List.pairwise_cons.1 hu
  have hsome : (f p0.1).isSome = true := by
    obtain ⟨u, h, _⟩ := hvf p0.1 p0.2 (by simp)
    rw [h]; rfl
  have hs2 := hmv.size_del hsome
  rw [hsz] at hs2
  have hs3 : Maps.size (D.del (.int .i64 p0.1)) = l.length := by simp at hs2; exact hs2
  refine ⟨hP, _, _, by rw [← hs3]; exact ownsMap_tight hown, hmv.del p0.1, hs3, fun i u hu' => ?_, fun i v hv => ?_⟩
  · by_cases hi : i = p0.1
    · simp only [if_pos hi] at hu'; cases hu'
    · simp only [if_neg hi] at hu'
      obtain ⟨v, k1, k2⟩ := hfv i u hu'
      rcases List.mem_cons.1 k1 with h | h
      · exact absurd (by rw [← h]) hi
      · exact ⟨v, h, k2.frm hfr hS' (fun k h => h)⟩
  · obtain ⟨u, k1, k2⟩ := hvf i v (List.mem_cons_of_mem _ hv)
    have hi : i ≠ p0.1 := fun e => by have := hu1 _ hv; simp at this; omega
    exact ⟨u, by simp only [if_neg hi]; exact k1, k2.frm hfr hS' (fun k h => h)⟩
/-- The least key is the first one. -/
theorem least_first {W : World} {P : Nat → Prop} {p0 : Int × Vw} {l : Kept} {f : Int → Option Value} (hu : UpK (p0 :: l)) (hfv : ∀ i u, f i = some u → ∃ v, (i, v) ∈ p0 :: l ∧ ViewM W P u v) (hvf : ∀ i v, (i, v) ∈ p0 :: l → ∃ u, f i = some u ∧ ViewM W P u v)
    {ss : List Int} (hss : ∀ i, i ∈ ss ↔ (f i).isSome = true) {z : Int} (hz : z ∈ ss) (hle : ∀ y ∈ ss, z ≤ y) : z = p0.1 := by
  have h0 : p0.1 ∈ ss := (hss _).2 (by obtain ⟨u, h, _⟩ := hvf p0.1 p0.2 (by simp); rw [h]; rfl)
  have h1 := hle _ h0
  obtain ⟨hu1, _⟩ := List.pairwise_cons.1 hu
  have h2 := (hss z).1 hz
  cases h3 : f z with
  | none => rw [h3] at h2; cases h2
  | some u =>
    obtain ⟨v, k1, _⟩ := hfv z u h3
    rcases List.mem_cons.1 k1 with h | h
    · rw [← h]
    · have := hu1 _ h; simp at this; omega
section
variable {P : Program}
/-- 'm[k] = v' at a step of a region that draws its order. -/
theorem stp_mapUpdate {w : World} {ops : Array Oper} {o : Oper} {a : Act} {K : Act → World → Prop} {Q : Exit → Act → World → Prop} {E : Prop}
    (hg : o.guard = none) (m x v : Operand) (t : TypeId) (hop : o.op = Op.mapUpdate t m x v)
    (k e : TypeId) (hk : P.underlying k = some (.int .i64)) (ht : P.underlying t = some (.map k e)) (b n : Nat) (D : DataW Value)
    (hm : a.eval m = .map (some b)) (hown : w.ownsMap P k RV b n D) (hn : n < maxLen) (i : Int) (hi : (Lit.int .i64 i).wf = true) (val : Value) (hx : a.eval x = .int .i64 i) (hv : a.eval v = val)
    (hK : ∀ w', Hid (w'.ownsMap P k RV b (n + 1) (D.put (.int .i64 i) (.held val))) → Hid (w.grownBy w' (some b)) → K (a.put o.dst undef) w') : if Region.wanted o (yielded ops a.tmps) = true then Oper.wp P o a w K Q else E := by
  have hw : Region.wanted o (yielded ops a.tmps) = true := by simp [Region.wanted, hg]
  rw [if_pos hw]
  obtain ⟨w', hrun, r1, r2⟩ := hown.update (int_keyed hk) ht hn (keyOf_int_mk hk hi) (show RV val = some (.held val, []) from rfl)
  unfold Oper.wp
  simp [execOp, hop, hm, hx, hv, hrun, Result.andThen]
  exact hK w' r1 r2
/-- 'len(m)' at a step of a region that draws its order. -/
theorem stp_len {H : Type} {R : Value → Option (DataW H × List MemPlace)} {w : World} {ops : Array Oper} {o : Oper} {a : Act} {K : Act → World → Prop} {Q : Exit → Act → World → Prop} {E : Prop}
    (hg : o.guard = none) (m : Operand) (t : TypeId) (hop : o.op = Op.call { callee := Callee.builtin Builtin.len, args := #[m], argTypes := #[t] })
    (k e : TypeId) (ht : P.underlying t = some (.map k e)) (b n : Nat) (D : DataW H) (hm : a.eval m = .map (some b)) (hown : w.ownsMap P k R b n D) (s : Nat) (hs : Maps.size D = s)
    (hK : K (a.put o.dst (.int .i64 (s : Int))) w) : if Region.wanted o (yielded ops a.tmps) = true then Oper.wp P o a w K Q else E := by
  have hw : Region.wanted o (yielded ops a.tmps) = true := by simp [Region.wanted, hg]
  rw [if_pos hw]
  subst hs
  unfold Oper.wp
  simp [execOp, hop, resolve, invoke, builtin, hm, hown.len ht o.type, Result.andThen]
  exact hK
/-- 'delete(m, k)' at a step of a region that draws its order. -/
theorem stp_delete {H : Type} {R : Value → Option (DataW H × List MemPlace)} {w : World} {ops : Array Oper} {o : Oper} {a : Act} {K : Act → World → Prop} {Q : Exit → Act → World → Prop} {E : Prop}
    (hg : o.guard = none) (m x : Operand) (t k : TypeId) (hop : o.op = Op.call { callee := Callee.builtin Builtin.delete, args := #[m, x], argTypes := #[t, k] })
    (e : TypeId) (hk : P.underlying k = some (.int .i64)) (ht : P.underlying t = some (.map k e)) (b n : Nat) (D : DataW H) (hm : a.eval m = .map (some b)) (hown : w.ownsMap P k R b n D) (i : Int) (hi : (Lit.int .i64 i).wf = true) (hx : a.eval x = .int .i64 i)
    (hK : ∀ w', Hid (w'.ownsMap P k R b n (D.del (.int .i64 i))) → Hid (w.mapTurned w' b) → K (a.put o.dst (.tuple #[])) w') : if Region.wanted o (yielded ops a.tmps) = true then Oper.wp P o a w K Q else E := by
  have hw : Region.wanted o (yielded ops a.tmps) = true := by simp [Region.wanted, hg]
  rw [if_pos hw]
  obtain ⟨w', hrun, r1, r2⟩ := hown.drop (int_keyed hk) ht (keyOf_int_mk hk hi) o.type
  unfold Oper.wp
  simp [execOp, hop, resolve, invoke, builtin, hm, hx, hrun, Result.andThen]
  exact hK w' r1 r2
end
def PutPost (w : World) (P : Nat → Prop) (b : Nat) (l' : Kept) (e : Ending) (w' : World) : Prop := e = .returned (.tuple #[]) ∧ StM w' (fun k => P k ∨ w.heap.size ≤ k) b l' ∧ Frm (fun k => k = b) w w'
theorem notPair_of_map {H : Type} {P : Program} {k : TypeId} {R : Value → Option (DataW H × List MemPlace)} {w : World} {b n : Nat} {D : DataW H} (h : w.ownsMap P k R b n D) (cur : Array Value) : w.heap[b]? ≠ some (.cells cur 48 (0, 0)) := by
  obtain ⟨es, clock, hb, _⟩ := h
  rw [hb]
  intro e
  injection e with e
  cases e
set_option maxHeartbeats 8000000 in
theorem fput_any (g b keep : Nat) (l : Kept) (t : Int) (v : Vw) (A : Option Addr) (n c : Nat) (P : Nat → Prop) (w : World) (hc0 : w.cell? ⟨g, 0, none⟩ = some (.int .i64 (keep : Int))) (hc1 : w.cell? ⟨g, 1, none⟩ = some (.map (some b))) (hne : g ≠ b) (hst : StM w P b l) (hu : UpK l) (ht : ∀ p ∈ l, p.1 < t) (hk1 : 1 ≤ keep) (hlk : l.length ≤ keep) (hk2 : keep ≤ 1000) (hv : SlP w w.heap.size A n c v) (hn : n < 100000) (hi : (Lit.int .i64 t).wf = true) (hwf : ∀ p ∈ l, (Lit.int .i64 p.1).wf = true) :
    Calls Try.prog 27 #[.pointer (some ⟨g, 0, none⟩), .int .i64 t, .slice A n c] w (PutPost w P b (putL keep l t v)) := by
  obtain ⟨hPb, D, f, hown, hmv, hsz, hfv, hvf⟩ := hst
  have hg : g < w.heap.size := block_lt_of_cell hc0
  have hnp := notPair_of_map hown
  have HMV := Lib.hid hmv
  have HSZ := Lib.hid hsz
  have HFV := Lib.hid hfv
  have HVF := Lib.hid hvf
  have HOWN := Lib.hid hown
  have HU := Lib.hid hu
  have HT := Lib.hid ht
  have HV := Lib.hid hv
  have HNP := Lib.hid hnp
  have HVL := Lib.hid hv.len
  have hmax : l.length < maxLen := by simp [maxLen]; omega
  have HS0 : Hid (∀ W, Below w.heap.size w W → W.cell? ⟨g, 1, none⟩ = some (.map (some b)) ∧ W.ownsMap Try.prog 3 RV b l.length D) := Lib.hid fun W h => ⟨(h.cell (p := ⟨g, 1, none⟩) hg).trans hc1, ownsMap_frm hown (S := fun k => w.heap.size ≤ k) ⟨h.os, h.tape, h.output, h.size, fun k hk _ => h.block k hk⟩ (by have := hown.lt; omega)⟩
  have HWF := Lib.hid hwf
  clear hmv hsz hfv hvf hu ht hv hnp hwf
  have hS1 := (HS0.out w.drew (Below.drew (Below.refl _ _))).1
  go_enter Try.func27, Try.ntmps27
  have HMORE : Hid (∀ (A1 : Option Addr) (c1 : Nat) (w1 w2 : World), OwnP w1 w.drew.heap.size (.slice A1 n c1) v → Below w.heap.size w w1 → w2.ownsMap Try.prog 3 RV b (l.length + 1) (D.put (.int .i64 t) (.held (.slice A1 n c1))) → w1.grownBy w2 (some b) → StM w2 (fun k => P k ∨ w.heap.size ≤ k) b (l ++ [(t, v)]) ∧ Frm (fun k => k = b) w w2) := Lib.hid fun A1 c1 w1 w2 ho hb1 hm hg2 => by
    have hbl := HOWN.out.lt
    have hf1 : Frm (fun _ => False) w w1 := ⟨hb1.os, hb1.tape, hb1.output, hb1.size, fun k hk _ => hb1.block k hk⟩
    have hf2 : Frm (fun k => k = b) w w2 := (hf1.mono (S' := fun k => k = b) (fun k h => h.elim)).trans (Frm.of_grown hg2) (fun k hk => .inl (by injection hk with hk; exact hk.symm))
    refine ⟨?_, hf2⟩
    have hvl := HVL.out
    subst hvl
    refine StM.stored hPb HMV.out HSZ.out HFV.out HVF.out HT.out hm hf2 HNP.out ?_
    refine ho.keepRow (fun r hr => hg2.block r (ho.rowLt_ r hr).2.1 (fun e => ?_))
    have h1 := (ho.rowLt_ r hr).1
    injection e with e
    have h2 : w.drew.heap.size = w.heap.size := rfl
    omega
  have HV1 : Hid (SlP w.drew w.drew.heap.size A n c v) := Lib.hid (HV.out.below (Below.drew (Below.refl _ _)) (Nat.le_refl _))
  go_upto_region 0 with (fail)
  go_region_held3 (fun W => W.cell? ⟨g, 1, none⟩ = some (.map (some b))) (first | exact hS1 | assumption) (first
    | (go_at_call 33; (with_reducible refine (clone_any A n c v w.drew HV1.out hn).mono ?_); rintro e w1 ⟨A1, c1, rfl, ho1, hb1⟩; have hb2 : Below w.heap.size w w1 := (Below.drew (Below.refl _ _)).trans hb1; have hS2 := HS0.out w1 hb2; have hS3 := hS2.1; obtain ⟨w2, hrun, hown2, hgr2⟩ := hS2.2.update (int_keyed Try.underlying3) Try.underlying53 hmax (keyOf_int_mk Try.underlying3 hi) (show RV (.slice A1 n c1) = some (.held (.slice A1 n c1), []) from rfl); have hS4 : w2.cell? ⟨g, 1, none⟩ = some (.map (some b)) := hgr2.cell hS3 (fun e => by injection e with e; exact hne e); have hmore := HMORE.out A1 c1 w1 w2 ho1 hb2 hown2 hgr2))
  rename (StM w2 _ _ _ ∧ _) => hmore
  have HST := Lib.hid hmore.1
  have HFR := Lib.hid hmore.2
  have q0 : w2.cell? ⟨g, 0, none⟩ = some (.int .i64 (keep : Int)) := by
    have := hmore.2.block g hg hne
    rw [← hc0]; unfold World.cell?; rw [this]
  have q1 : w2.cell? ⟨g, 1, none⟩ = some (.map (some b)) := by
    have := hmore.2.block g hg hne
    rw [← hc1]; unfold World.cell?; rw [this]
  obtain ⟨hPb2, D2, f2, hown2', hmv2, hsz2, hfv2, hvf2⟩ := HST.out
  have hsl : Maps.size D2 = l.length + 1 := by rw [hsz2, List.length_append]; rfl
  have HSL := Lib.hid hsl
  have HOWN2 := Lib.hid hown2'
  have HMV2 := Lib.hid hmv2
  have HSZ2 := Lib.hid hsz2
  have HFV2 := Lib.hid hfv2
  have HVF2 := Lib.hid hvf2
  clear hsl hmv2 hsz2 hfv2 hvf2 hown2' hmore hrun hown2 hgr2 hS2 hS3 hS4 ho1 hb1 hb2 hS1 HMORE HV1 HS0 hown
  obtain ⟨s, hs⟩ : ∃ s, s = l.length + 1 := ⟨_, rfl⟩
  rw [← hs] at HSL
  have HSD := Lib.hid hs
  clear hs
  have hq10 : w2.drew.cell? ⟨g, 1, none⟩ = some (.map (some b)) ∧ w2.drew.cell? ⟨g, 0, none⟩ = some (.int .i64 (keep : Int)) := ⟨q1, q0⟩
  go_upto_region 1 with (fail)
  go_cut [22] (fun v W => v = .bool (decide ((keep : Int) < (s : Int))) ∧ W = w2.drew)
  case first =>
    go_region_law (refine stp_len rfl (.tmp 16) 53 rfl 3 30 Try.underlying53 b (l ++ [(t, v)]).length D2 rfl HOWN2.out s HSL.out ?_)
    all_goals
      go_simp
      refine ‹∀ (a : Act) (w : World), _ → _› _ _ ?_
      go_meet
      exact ⟨by simp, rfl⟩
  obtain ⟨rfl, rfl⟩ := hcut
  have hg2 : g < w2.heap.size := block_lt_of_cell q0
  by_cases hks : keep < s
  · have hki : (keep : Int) < (s : Int) := by omega
    have HP0 : Hid (∃ p0 l1, l ++ [(t, v)] = p0 :: l1) := Lib.hid (by
      rcases l with _ | ⟨p0, l1⟩
      · exact ⟨_, _, rfl⟩
      · exact ⟨p0, l1 ++ [(t, v)], rfl⟩)
    obtain ⟨p0, l1, hp0⟩ := HP0.out
    have HPL := Lib.hid hp0
    have hfv3 := HFV2.out
    have hvf3 := HVF2.out
    have hsz3 := HSZ2.out
    rw [hp0] at hfv3 hvf3 hsz3
    have huu : UpK (p0 :: l1) := by rw [← hp0]; exact HU.out.append HT.out
    have hpw : (Lit.int .i64 p0.1).wf = true := by
      have : p0 ∈ l ++ [(t, v)] := by rw [hp0]; simp
      rcases List.mem_append.1 this with h | h
      · exact HWF.out p0 h
      · rw [List.mem_singleton] at h; rw [h]; exact hi
    have HFIRST : Hid (∀ (ss : List Int) (z : Int), ss.Perm (intKeys D2) → z ∈ ss → (∀ y ∈ ss, z ≤ y) → z = p0.1) := Lib.hid fun ss z h1 h2 h3 => least_first huu hfv3 hvf3 (fun i => HMV2.out.keys h1 i) h2 h3
    have HLEN : Hid (∀ ss : List Int, ss.Perm (intKeys D2) → ss.length = s) := Lib.hid fun ss h => by
      rw [h.length_eq, ← HSL.out]
      obtain ⟨es, rfl, _⟩ := HMV2.out
      simp [intKeys, Maps.size]
    have hbw2 := HOWN2.out.lt
    have hs0 : 0 < s := by omega
    have hs6 : s < 1000000 := by rw [HSD.out]; omega
    have hs7 : Maps.size D2 ≤ 1000000 := by rw [HSL.out]; omega
    have HPOST : Hid (∀ (w6 w8 : World) (nn : Nat), Below w2.heap.size w2 w6 → w8.ownsMap Try.prog 3 RV b nn (D2.del (.int .i64 p0.1)) → w6.mapTurned w8 b → StM w8 (fun k => P k ∨ w.heap.size ≤ k) b (putL keep l t v) ∧ Frm (fun k => k = b) w w8 ∧ w8.cell? ⟨g, 1, none⟩ = some (.map (some b))) := Lib.hid fun w6 w8 nn hb6 ho8 ht8 => by
      have hf1 : Frm (fun _ => False) w2 w6 := ⟨hb6.os, hb6.tape, hb6.output, hb6.size, fun k hk _ => hb6.block k hk⟩
      have hg8 : w6.grownBy w8 (some b) := World.mapTurned.grown ht8
      have hf2 : Frm (fun k => k = b) w2 w8 := (hf1.mono (S' := fun k => k = b) (fun k h => h.elim)).trans (Frm.of_grown hg8) (fun k hk => .inl (by injection hk with hk; exact hk.symm))
      refine ⟨?_, HFR.out.trans hf2 (fun k hk => .inl hk), ?_⟩
      · have he : putL keep l t v = l1 := by unfold putL; rw [if_pos (by rw [← HSD.out]; exact hks), hp0]; rfl
        rw [he]
        exact StM.dropped huu hPb2 HMV2.out hsz3 hfv3 hvf3 ho8 hf2 (fun k hk => hk) (notPair_of_map HOWN2.out)
      · have := hf2.block g hg2 hne
        rw [← q1]; unfold World.cell?; rw [this]
    have HCEL : Hid (∀ W, Below w2.heap.size w2 W → W.cell? ⟨g, 1, none⟩ = some (.map (some b)) ∧ W.ownsMap Try.prog 3 RV b (l ++ [(t, v)]).length D2) := Lib.hid fun W h => ⟨(h.cell (p := ⟨g, 1, none⟩) hg2).trans q1, ownsMap_frm HOWN2.out (S := fun k => w2.heap.size ≤ k) ⟨h.os, h.tape, h.output, h.size, fun k hk _ => h.block k hk⟩ (by omega)⟩
    clear hfv3 hvf3 hsz3 huu hp0 HP0
    have hbd : Below w2.heap.size w2 w2.drew.drew := Below.drew (Below.drew (Below.refl _ _))
    have hT1 := (HCEL.out _ hbd).1
    have hT2 := (HCEL.out _ (hbd.alloc (Nat.le_refl _) (.cells #[.map (some b)] 53))).1
    have HO3 := Lib.hid (HCEL.out _ hbd).2
    have HCOLL : Hid (Calls Try.prog 48 #[.func (.func 64) #[] #[.pointer (some ⟨w2.heap.size, 0, none⟩)]] (w2.alloc (.cells #[.map (some b)] 53)).drew.drew fun e w' => ∃ (A : Option Addr) (n c : Nat) (ss : List Int), e = .returned (.slice A n c) ∧ ss.Perm (intKeys D2) ∧ ss.length = n ∧ Rd w' w'.heap.size A ss ∧ Below w2.drew.drew.heap.size w2.drew.drew w') := coll_keys b _ D2 RV w2.drew.drew HO3.out hs7
    go_upto_region 2 with (fail)
    go_region_held3 (fun W => W.cell? ⟨g, 1, none⟩ = some (.map (some b))) (first | exact hT1 | exact hT2 | assumption) (first
      | (go_at_call 49; (with_reducible refine (keysv_any (some b) w2.drew.drew).mono ?_); rintro e w5 ⟨rfl, rfl⟩; have hT3 := hT2)
      | (go_at_call 48; refine HCOLL.out.mono ?_; rintro e w6 ⟨A6, n6, c6, ss, rfl, hperm, hlen, hrd, hb6⟩; have hb6' := hbd.trans hb6; have hT4 := HCEL.out w6 hb6'; have hT5 := hT4.1; obtain rfl : n6 = s := hlen.symm.trans (HLEN.out ss hperm))
      | (go_at_call 47; (with_reducible refine (min_any A6 n6 c6 ss _ w6 hlen hs0 hs6 hrd).mono ?_); rintro e w7 ⟨z, rfl, hz1, hz2, rfl⟩; obtain rfl := HFIRST.out ss z hperm hz1 hz2)
      | (refine stp_delete rfl (.tmp 26) (.tmp 33) 53 3 rfl 30 Try.underlying3 Try.underlying53 b _ D2 rfl hT4.2 p0.1 hpw rfl ?_; intro w8 hown8 hturn8; have hfin := HPOST.out w6 w8 _ hb6' hown8.out hturn8.out; have hT6 := hfin.2.2))
    go_end0
    exact ⟨rfl, hfin.1, hfin.2.1⟩
  · have hki : ¬ ((keep : Int) < (s : Int)) := by omega
    go_wp2
    go_end0
    have he : putL keep l t v = l ++ [(t, v)] := by unfold putL; rw [if_neg (by rw [← HSD.out]; exact hks)]
    rw [he]
    refine ⟨rfl, HST.out.frmP ((Frm.refl (fun _ => False) w2).drewN 1) (fun _ h => h.elim) , HFR.out.drewN 1⟩
end Go.Proofs.Ytcniepogobgaoaa
