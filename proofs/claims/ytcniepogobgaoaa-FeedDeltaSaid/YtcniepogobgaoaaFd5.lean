/-
  Package feed: a sender and a receiver in memory; NewSender, NewReceiver, Latest.
-/
import Derived.Test.YtcniepogobgaoaaFd3
import Derived.Test.YtcniepogobgaoaaFd4
namespace Go.Proofs.Ytcniepogobgaoaa
set_option linter.unusedVariables false
set_option linter.unusedSimpArgs false
set_option maxRecDepth 4000
open Go.RowKit Go.Maps Go.Sort Go.Shelf

/-- A slice of ints, in blocks of P. -/
def AckM (W : World) (P : Nat → Prop) (A : Option Addr) (c : Nat) (zs : List Int) : Prop := Own 3 W 0 (.slice A zs.length c) zs ∧ ∀ r, (Value.slice A zs.length c).ownBlock = some r → P r
theorem own_keepRow {T : TypeId} {w w' : World} {B : Nat} {v : Value} {zs : List Int} (h : Own T w B v zs) (hr : ∀ r, v.ownBlock = some r → w'.heap[r]? = w.heap[r]?) : Own T w' B v zs := by
  refine ⟨h.1, ?_⟩
  rcases h.2 with h0 | ⟨g, cap, cur, hv, hb, hh, hr'⟩
  · exact .inl h0
  · exact .inr ⟨g, cap, cur, hv, hb, (hr g (by rw [hv]; rfl)).trans hh, hr'⟩
theorem own_rowLt {T : TypeId} {w : World} {B : Nat} {v : Value} {zs : List Int} (h : Own T w B v zs) : ∀ r, v.ownBlock = some r → B ≤ r ∧ r < w.heap.size ∧ ∃ cur, w.heap[r]? = some (.cells cur T (0, 0)) := by
  intro r hr
  rcases h.2 with ⟨h0, _⟩ | ⟨g, cap, cur, hv, hb, hh, _⟩
  · rw [h0] at hr; simp [Value.ownBlock] at hr
  · rw [hv] at hr
    have e : g = r := by simpa [Value.ownBlock] using hr
    subst e
    exact ⟨hb, (Array.getElem?_eq_some_iff.1 hh).1, cur, hh⟩
theorem AckM.frm {W W' : World} {P P' S : Nat → Prop} {A : Option Addr} {c : Nat} {zs : List Int} (h : AckM W P A c zs) (hf : Frm S W W') (hS : ∀ k, S k → ¬ ∃ cur, W.heap[k]? = some (.cells cur 3 (0, 0))) (hP : ∀ k, P k → P' k) : AckM W' P' A c zs :=
  ⟨own_keepRow h.1 (fun r hr => hf.block r (own_rowLt h.1 r hr).2.1 (fun e => hS r e (own_rowLt h.1 r hr).2.2)), fun r hr => hP r (h.2 r hr)⟩
theorem AckM.frmP {W W' : World} {P S : Nat → Prop} {A : Option Addr} {c : Nat} {zs : List Int} (h : AckM W P A c zs) (hf : Frm S W W') (hS : ∀ k, S k → ¬ P k) : AckM W' P A c zs :=
  ⟨own_keepRow h.1 (fun r hr => hf.block r (own_rowLt h.1 r hr).2.1 (fun e => hS r e (h.2 r hr))), h.2⟩
/-- A sender at block g, in blocks of P. -/
def SndM (W : World) (P : Nat → Prop) (g keep : Nat) (l : Kept) (last : Int) (acked : List Int) : Prop :=
  P g ∧ ∃ b A c, Blk W g 57 #[.int .i64 (keep : Int), .map (some b), .int .i64 last, .slice A acked.length c] ∧ StM W P b l ∧ AckM W P A c acked
/-- A receiver at block g, in blocks of P. -/
def RcvM (W : World) (P : Nat → Prop) (g keep : Nat) (l : Kept) (latest : Int) : Prop :=
  P g ∧ ∃ b, Blk W g 59 #[.int .i64 (keep : Int), .map (some b), .int .i64 latest] ∧ StM W P b l
theorem SndM.frmP {W W' : World} {P S : Nat → Prop} {g keep : Nat} {l : Kept} {last : Int} {acked : List Int} (h : SndM W P g keep l last acked) (hf : Frm S W W') (hS : ∀ k, S k → ¬ P k) : SndM W' P g keep l last acked := by
  obtain ⟨h0, b, A, c, h1, h2, h3⟩ := h
  exact ⟨h0, b, A, c, (hf.block g h1.lt (fun e => hS g e h0)).trans h1, h2.frmP hf hS, h3.frmP hf hS⟩
theorem RcvM.frmP {W W' : World} {P S : Nat → Prop} {g keep : Nat} {l : Kept} {latest : Int} (h : RcvM W P g keep l latest) (hf : Frm S W W') (hS : ∀ k, S k → ¬ P k) : RcvM W' P g keep l latest := by
  obtain ⟨h0, b, h1, h2⟩ := h
  exact ⟨h0, b, (hf.block g h1.lt (fun e => hS g e h0)).trans h1, h2.frmP hf hS⟩
theorem StM.mono {W : World} {P P' : Nat → Prop} {b : Nat} {l : Kept} (h : StM W P b l) (hP : ∀ k, P k → P' k) : StM W P' b l :=
  h.frm (S := fun _ => False) (Frm.refl _ _) (fun h => h) (fun _ h => h.elim) hP
theorem SndM.mono {W : World} {P P' : Nat → Prop} {g keep : Nat} {l : Kept} {last : Int} {acked : List Int} (h : SndM W P g keep l last acked) (hP : ∀ k, P k → P' k) : SndM W P' g keep l last acked := by
  obtain ⟨h0, b, A, c, h1, h2, h3⟩ := h
  exact ⟨hP g h0, b, A, c, h1, h2.mono hP, h3.1, fun r hr => hP r (h3.2 r hr)⟩
theorem RcvM.mono {W : World} {P P' : Nat → Prop} {g keep : Nat} {l : Kept} {latest : Int} (h : RcvM W P g keep l latest) (hP : ∀ k, P k → P' k) : RcvM W P' g keep l latest := by
  obtain ⟨h0, b, h1, h2⟩ := h
  exact ⟨hP g h0, b, h1, h2.mono hP⟩
theorem StM.empty {W : World} {P : Nat → Prop} {b : Nat} (hP : P b) (h : W.ownsMap Try.prog 3 RV b 0 (.map [])) : StM W P b [] :=
  ⟨hP, _, _, h, MV.empty, rfl, (fun i u h => by cases h), (fun i v h => by cases h)⟩

def NewPost (w : World) (e : Ending) (w' : World) (M : (Nat → Prop) → Nat → Prop) : Prop := ∃ g, e = .returned (.pointer (some ⟨g, 0, none⟩)) ∧ w.heap.size ≤ g ∧ M (fun k => w.heap.size ≤ k ∧ k < w'.heap.size) g ∧ Below w.heap.size w w'
set_option maxHeartbeats 2000000 in
theorem news_any (keep : Nat) (w : World) : Calls Try.prog 9 #[.int .i64 (keep : Int)] w fun e w' => NewPost w e w' (fun P g => SndM w' P g keep [] (-1) []) := by
  have hmm := @run_makeMap Try.prog
  go_enter Try.func9, Try.ntmps9
  go_wp2
  go_ret
  refine ⟨w.heap.size + 1, rfl, by omega, ?_, ((Below.refl _ _).alloc (Nat.le_refl _) _).alloc (by simp) _⟩
  have hb : Blk ((w.alloc (.map #[] 0)).alloc (.cells #[.int .i64 (keep : Int), .map (some w.heap.size), .int .i64 (-1), .slice none 0 0] 57)) (w.heap.size + 1) 57 #[.int .i64 (keep : Int), .map (some w.heap.size), .int .i64 (-1), .slice none 0 0] := by
    have := Blk.new (w.alloc (.map #[] 0)) 57 #[.int .i64 (keep : Int), .map (some w.heap.size), .int .i64 (-1), .slice none 0 0]
    rwa [World.size_alloc] at this
  refine ⟨⟨by omega, by simp⟩, w.heap.size, none, 0, hb, StM.empty ⟨Nat.le_refl _, by simp; omega⟩ ((World.ownsMap_made w Try.prog 3 RV).alloc _), Own.nil _ _ _, fun r hr => by simp [Value.ownBlock] at hr⟩
set_option maxHeartbeats 2000000 in
theorem newr_any (keep : Nat) (w : World) : Calls Try.prog 10 #[.int .i64 (keep : Int)] w fun e w' => NewPost w e w' (fun P g => RcvM w' P g keep [] (-1)) := by
  have hmm := @run_makeMap Try.prog
  go_enter Try.func10, Try.ntmps10
  go_wp2
  go_ret
  refine ⟨w.heap.size + 1, rfl, by omega, ?_, ((Below.refl _ _).alloc (Nat.le_refl _) _).alloc (by simp) _⟩
  have hb : Blk ((w.alloc (.map #[] 0)).alloc (.cells #[.int .i64 (keep : Int), .map (some w.heap.size), .int .i64 (-1)] 59)) (w.heap.size + 1) 59 #[.int .i64 (keep : Int), .map (some w.heap.size), .int .i64 (-1)] := by
    have := Blk.new (w.alloc (.map #[] 0)) 59 #[.int .i64 (keep : Int), .map (some w.heap.size), .int .i64 (-1)]
    rwa [World.size_alloc] at this
  exact ⟨⟨by omega, by simp⟩, w.heap.size, hb, StM.empty ⟨Nat.le_refl _, by simp; omega⟩ ((World.ownsMap_made w Try.prog 3 RV).alloc _)⟩

/-- The view of a tick. -/
def findK : Kept → Int → Option Vw
  | [], _ => none
  | p :: r, t => if p.1 = t then some p.2 else findK r t
theorem findK_mem {l : Kept} {t : Int} {v : Vw} (h : findK l t = some v) : (t, v) ∈ l := by
  induction l with
  | nil => cases h
  | cons p r ih =>
    unfold findK at h
    split at h
    · rename_i e
      injection h with h
      subst e h
      exact List.mem_cons_self ..
    · exact List.mem_cons_of_mem _ (ih h)
theorem findK_of_mem {l : Kept} (hu : UpK l) {t : Int} {v : Vw} (h : (t, v) ∈ l) : findK l t = some v := by
  induction l with
  | nil => cases h
  | cons p r ih =>
    obtain ⟨h1, h2⟩ := List.pairwise_cons.1 hu
    unfold findK
    rcases List.mem_cons.1 h with e | h
    · subst e; rw [if_pos rfl]
    · have := h1 _ h
      rw [if_neg (fun e => by simp only [] at this; omega)]
      exact ih h2 h
/-- What the map gives at a tick. -/
theorem StM.get {W : World} {P : Nat → Prop} {b : Nat} {l : Kept} (h : StM W P b l) (hu : UpK l) : ∃ (D : DataW Value) (f : Int → Option Value), W.ownsMap Try.prog 3 RV b l.length D ∧ MV D f ∧ ∀ t, (f t).isSome = (findK l t).isSome ∧
    ∃ A c, (f t).getD (.slice none 0 0) = .slice A ((findK l t).getD []).length c ∧ SlP W W.heap.size A ((findK l t).getD []).length c ((findK l t).getD []) := by
  obtain ⟨_, D, f, h1, h2, _, h4, h5⟩ := h
  refine ⟨D, f, h1, h2, fun t => ?_⟩
  cases hf : f t with
  | none =>
    have hn : findK l t = none := by
      cases hk : findK l t with
      | none => rfl
      | some v => obtain ⟨u, k1, _⟩ := h5 t v (findK_mem hk); rw [hf] at k1; cases k1
    rw [hn]
    exact ⟨rfl, none, 0, rfl, SlP.none _ _⟩
  | some u =>
    obtain ⟨v, k1, k2⟩ := h4 t u hf
    rw [findK_of_mem hu k1]
    obtain ⟨A, c, rfl, k3⟩ := k2.slP
    exact ⟨rfl, A, c, rfl, k3⟩
theorem has_st (g b : Nat) (P : Nat → Prop) (l : Kept) (t : Int) (w : World) (hc : w.cell? ⟨g, 1, none⟩ = some (.map (some b))) (hst : StM w P b l) (hu : UpK l) (hi : (Lit.int .i64 t).wf = true) (is : Bool) (his : (findK l t).isSome = is) :
    Calls Try.prog 24 #[.pointer (some ⟨g, 0, none⟩), .int .i64 t] w fun e w' => e = .returned (.bool is) ∧ w = w' := by
  obtain ⟨D, f, h1, h2, h3⟩ := hst.get hu
  exact has_any g b _ D f t is w hc h1 h2 hi ((h3 t).1.trans his)
theorem latest_any (g : Nat) (P : Nat → Prop) (keep : Nat) (l : Kept) (latest : Int) (w : World) (h : RcvM w P g keep l latest) :
    Calls Try.prog 19 #[.pointer (some ⟨g, 0, none⟩)] w fun e w' => e = .returned (.int .i64 latest) ∧ w = w' := by
  obtain ⟨_, b, hb, _⟩ := h
  have q2 : w.cell? ⟨g, 2, none⟩ = some (.int .i64 latest) := hb.cell 2
  clear hb
  go_enter Try.func19, Try.ntmps19
  go_wp2
  go_ret
  exact ⟨rfl, rfl⟩
def ViewPost (w : World) (v : Option Vw) (e : Ending) (w' : World) : Prop := ∃ A c, e = .returned (.tuple #[.slice A (v.getD []).length c, .bool v.isSome]) ∧ SlP w' w'.heap.size A (v.getD []).length c (v.getD []) ∧ Below w.heap.size w w'
set_option maxHeartbeats 2000000 in
theorem rview_any (g : Nat) (P : Nat → Prop) (keep : Nat) (l : Kept) (latest t : Int) (w : World) (h : RcvM w P g keep l latest) (hu : UpK l) (hi : (Lit.int .i64 t).wf = true) (hl : ∀ v, findK l t = some v → v.length < 100000) :
    Calls Try.prog 17 #[.pointer (some ⟨g, 0, none⟩), .int .i64 t] w (ViewPost w (findK l t)) := by
  obtain ⟨_, b, hb, hst⟩ := h
  have q1 : w.cell? ⟨g, 1, none⟩ = some (.map (some b)) := hb.cell 1
  obtain ⟨D, f, h1, h2, h3⟩ := hst.get hu
  obtain ⟨h4, A, c, h5, h6⟩ := h3 t
  obtain ⟨n, hn⟩ : ∃ n, n = ((findK l t).getD []).length := ⟨_, rfl⟩
  have hn9 : n < 100000 := by
    rw [hn]
    cases hf : findK l t with
    | none => simp
    | some v => exact hl v hf
  obtain ⟨is, his⟩ : ∃ is, is = (findK l t).isSome := ⟨_, rfl⟩
  rw [← hn] at h5 h6
  have H2 := Lib.hid h2
  have H4 : Hid ((f t).isSome = is) := Lib.hid (h4.trans his.symm)
  have H5 := Lib.hid h5
  have H6 := Lib.hid h6
  have HN := Lib.hid hn
  have HIS := Lib.hid his
  clear h2 h3 h4 h5 h6 hn his hb hst
  go_enter Try.func17, Try.ntmps17
  go_wp2_with (first | (at_lookup; refine wpl_lookup_ok_v _ rfl _ _ 53 rfl 3 30 Try.underlying3 Try.underlying53 _ (zeroP _) b l.length D f H2.out rfl h1 t hi rfl (.slice A n c) H5.out is H4.out ?_))
  refine (clone_any A n c _ w H6.out hn9).mono ?_
  rintro e w1 ⟨A1, c1, rfl, ho1, hb1⟩
  have HO1 := Lib.hid ho1
  have HB1 := Lib.hid hb1
  clear ho1 hb1
  go_wp2
  go_ret2
  unfold ViewPost
  rw [← HN.out, ← HIS.out]
  exact ⟨A1, c1, rfl, HO1.out.slP, HB1.out⟩
end Go.Proofs.Ytcniepogobgaoaa
