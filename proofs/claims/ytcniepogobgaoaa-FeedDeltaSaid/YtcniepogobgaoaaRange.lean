/-
  A range over an iterator that keeps its state in boxes laid ahead of the loop; the body never leaves the loop. (The kit's laws ask that the caller's word abide new blocks and walks alone.)
-/
import Derived.Test.YtcniepogobgaoaaMem
import Derived.RangeFuncFrom
import Derived.RangeFuncCalls
import Derived.RangeFuncLeaves
import Derived.OrdersIn
namespace Go.Proofs.Ytcniepogobgaoaa
open Go.RowKit
variable {F : Fence} {n : Nat} {P : Program}

/-- What the loop's word J abides: a block beyond B that is no cells may turn, new blocks may come, and cells of the boxes may be written. -/
structure Abox {β : Type} (B : Nat) (bx : Nat → Prop) (J : β → World → Prop) : Prop where
  grow : ∀ s W W' row, J s W → W.grownBy W' row → (∀ r, row = some r → B ≤ r ∧ ∃ o : Obj, W.heap[r]? = some o ∧ o.isCells = false) → J s W'
  box : ∀ s W b v, bx b → J s W → J s (W.setCell ⟨b, 0, none⟩ v)
theorem Abox.putObj {β : Type} {B : Nat} {bx : Nat → Prop} {J : β → World → Prop} (h : Abox B bx J) {s : β} {W : World} {l : Nat} {o : Obj} (o' : Obj) (hs : J s W) (hB : B ≤ l) (hl : W.heap[l]? = some o) (ho : o.isCells = false) : J s (W.putObj l o') :=
  h.grow s W _ (some l) hs (grownBy_putObj' W l o') (fun r e => by cases e; exact ⟨hB, o, hl, ho⟩)
theorem Abox.alloc {β : Type} {B : Nat} {bx : Nat → Prop} {J : β → World → Prop} (h : Abox B bx J) {s : β} {W : World} (o : Obj) (hs : J s W) : J s (W.alloc o) :=
  h.grow s W _ none hs (World.grownBy_alloc W o none) (fun r e => by cases e)

/-- The iterator's word: it calls yield on each of xs in turn, so long as each round goes on. -/
def BoxSeq {α : Type} (F : Fence) (n : Nat) (P : Program) (g : Nat) (lb : Array Value) (encs : α → Array Value) (Kp : World → World → Prop) (xs : List α) (bx : Nat → Prop) (W : World) : Prop :=
  ∀ (l : Nat) (J : Nat → World → Prop), Abox W.heap.size bx J →
    (∀ k x W1, J k W1 → xs[k]? = some x → YieldAt F (n - 1) P l (encs x) W1 fun e W' => e = .returned (.bool true) ∧ J (k + 1) W' ∧ Kp W1 W') →
    J 0 W → CallsIn F n P g (#[.func (.yield l) #[] #[]] ++ lb) W fun e W' => (∃ v, e = .returned v) ∧ J xs.length W'

theorem setCell_other {W : World} {b k : Nat} {v : Value} (h : k ≠ b) : (W.setCell ⟨b, 0, none⟩ v).heap[k]? = W.heap[k]? := Below.heap_setCell W ⟨b, 0, none⟩ v k h

/-- THE LAW: I k holds when k rounds are over; the body goes on in every round. -/
theorem wpIn_range_boxes {α : Type} {g : Operand} {ps : Array Tmp} {assign body : Code} {Q : Exit → Act → World → Prop} {a : Act} {w : World}
    (hro : F.round = none) (h1 : 1 ≤ n) {gf : Nat} {lb : Array Value} (hg : a.eval g = .func (.func gf) #[] lb) (hFg : F.fn gf) (eg : ∀ args w, (callFunc gf args).run P w = .ok (.enter gf args) w)
    {encs : α → Array Value} {Kp : World → World → Prop} {xs : List α} {bx : Nat → Prop} (hbx : ∀ b, bx b → b < w.heap.size) (hps : ∀ x, (encs x).size = ps.size)
    (hseq : ∀ W, Below w.heap.size w W → BoxSeq F (n - 1) P gf lb encs Kp xs bx W)
    (hKt : ∀ {A B C : World}, Kp A B → Kp B C → Kp A C) (hKb : ∀ (W : World) (l : Nat) (o o' : Obj), w.heap.size ≤ l → W.heap[l]? = some o → o.isCells = false → Kp W (W.putObj l o'))
    (I : Nat → World → Prop) (hI : Abox w.heap.size bx I) (h0 : I 0 w) (a₁ : α → Act)
    (hassign : ∀ (l : Nat) (x : α) (W : World) (K : Act → World → Prop), K (a₁ x) W →
      assign.wpIn (F.inRound l) (n - 1 - 1) P (Exit.then K (fun _ _ _ => False)) { tmps := (ps.zip (encs x)).foldl (fun t (p, v) => t.setIfInBounds p v) a.tmps, defers := [] } W)
    (hbody : ∀ (l : Nat) (k : Nat) (x : α) (W : World), I k W → xs[k]? = some x → body.wpIn (F.inRound l) (n - 1 - 1) P (Exit.then (fun _ W' => KeepsOthers W W' ∧ Kp W W' ∧ I (k + 1) W') (fun _ _ _ => False)) (a₁ x) W)
    (hdone : ∀ (D : Nat) (W : World), w.heap.size ≤ D → I xs.length W → W.heap[D]? = some (.deferred (some [])) → Q .normal { a with defers := { target := .collected D, args := #[] } :: a.defers } W) :
    (Code.rangeFunc g ps assign body).wpIn F n P Q a w := by
  refine wpIn_rangeFunc fun fn hfn => ?_
  rw [hro]
  obtain ⟨rec, hrec⟩ : ∃ rec : LoopState → Option Code → Loop, rec = fun st pe => { state := st, pending := pe, fn, tmps := a.tmps, params := ps, assign, body, defers := w.heap.size } := ⟨_, rfl⟩
  obtain ⟨W1, hW1⟩ : ∃ W1, (w.alloc (.deferred (some []))).alloc (.loop (rec .ready none)) = W1 := ⟨_, rfl⟩
  have hsz : W1.heap.size = w.heap.size + 2 := by rw [← hW1]; simp
  have hL1 : W1.heap[w.heap.size + 1]? = some (.loop (rec .ready none)) := by
    rw [← hW1]
    have := World.alloc_heap_new (w.alloc (.deferred (some []))) (.loop (rec .ready none))
    rwa [World.size_alloc] at this
  have hD1 : W1.heap[w.heap.size]? = some (.deferred (some [])) := by
    rw [← hW1]; exact (Below.heap_alloc _ _ _ (by simp)).trans (World.alloc_heap_new w _)
  have hI1 : I 0 W1 := by rw [← hW1]; exact hI.alloc _ (hI.alloc _ h0)
  have hb1 : Below w.heap.size w W1 := by rw [← hW1]; exact ((Below.refl _ w).alloc (Nat.le_refl _) _).alloc (by simp) _
  refine ⟨w.heap.size + 1, [{ target := .collected w.heap.size, args := #[] }], W1, { target := .fn (.func gf) lb, args := #[.func (.yield (w.heap.size + 1)) #[] #[]] }, W1, gf,
    #[.func (.yield (w.heap.size + 1)) #[] #[]] ++ lb, W1, ?_, ?_, ?_, ?_, fun _ => h1, ?_⟩
  · rw [← hW1, hrec]; exact run_enterLoop_outer _ _ _ _ _
  · simp only [resolve, hg]
    simp [go_sem]
  · intro f' hf'; simp [Target.leads] at hf'; subst hf'; exact hFg
  · simp [invoke, go_sem, eg]
  · have keep : ∀ {A B : World} {row : Option Nat} {k : Nat} {o : Obj}, A.grownBy B row → (∀ r, row = some r → W1.heap.size ≤ r ∧ ∃ o : Obj, A.heap[r]? = some o ∧ o.isCells = false) → k < w.heap.size + 2 → A.heap[k]? = some o → B.heap[k]? = some o := fun hg hr hk h =>
      (hg.block _ (Array.getElem?_eq_some_iff.1 h).1 (fun e => by have := (hr _ e.symm).1; omega)).trans h
    refine (hseq W1 hb1 (w.heap.size + 1) (fun k W => I k W ∧ W.heap[w.heap.size + 1]? = some (.loop (rec .ready none)) ∧ W.heap[w.heap.size]? = some (.deferred (some [])))
      ⟨fun s A B row hs hg hr => ⟨hI.grow s A B row hs.1 hg (fun r e => ⟨by have := (hr r e).1; omega, (hr r e).2⟩), keep hg hr (by omega) hs.2.1, keep hg hr (by omega) hs.2.2⟩,
       fun s A b v hb hs => ⟨hI.box s A b v hb hs.1, (setCell_other (by have := hbx b hb; omega)).trans hs.2.1, (setCell_other (by have := hbx b hb; omega)).trans hs.2.2⟩⟩ ?_ ⟨hI1, hL1, hD1⟩).mono ?_
    · rintro k x W ⟨hi, hl, hk⟩ hx
      have hlt : w.heap.size + 1 < W.heap.size := (Array.getElem?_eq_some_iff.1 hl).1
      have hy := run_yield (P := P) (args := encs x) hl (by rw [hrec]; exact hps x)
      rw [hrec] at hy
      refine ⟨fn, _, assign, body, hy, roundIn_of_wpIn hfn (hassign _ x W _ ⟨_, run_beginRound hl (by rw [hrec]), ?_⟩)⟩
      obtain ⟨Wb, hWb⟩ : ∃ Wb, W.putObj (w.heap.size + 1) (.loop { rec .ready none with state := .busy }) = Wb := ⟨_, rfl⟩
      have hl2 : Wb.heap[w.heap.size + 1]? = some (.loop { rec .ready none with state := .busy }) := by rw [← hWb]; exact World.putObj_heap_same hlt
      have hk2 : Wb.heap[w.heap.size]? = some (.deferred (some [])) := by rw [← hWb]; exact (World.putObj_heap_other (by omega)).trans hk
      have hib : I k Wb := by rw [← hWb]; exact hI.putObj _ hi (by omega) hl rfl
      have hkb : Kp W Wb := by rw [← hWb]; exact hKb _ _ _ _ (by omega) hl rfl
      rw [hWb]
      refine wpIn_mono (hbody _ k x _ hib hx) ?_
      rintro e a3 W3 hp
      cases e with
      | normal =>
        obtain ⟨hk3, hkp3, hi3⟩ := hp
        have hl3 := hk3.same _ _ hl2 rfl
        have hd3 := hk3.same _ _ hk2 rfl
        have hend := run_endRound (P := P) none hl3
        rw [hrec] at hend hl3
        refine ⟨_, _, hend, rfl, ⟨hI.putObj _ hi3 (by omega) hl3 rfl, ?_, (World.putObj_heap_other (by omega)).trans hd3⟩, hKt (hKt hkb hkp3) (hKb _ _ _ _ (by omega) hl3 rfl)⟩
        rw [hrec]; exact World.putObj_heap_same (Array.getElem?_eq_some_iff.1 hl3).1
      | ret => exact hp.elim
      | exit id => exact hp.elim
      | goto t => exact hp.elim
      | panic ch => exact hp.elim
      | outgrown => exact hp.elim
    · rintro e W2 ⟨⟨v, rfl⟩, hi, hl, hk⟩
      refine ⟨none, _, by have := run_endLoop (P := P) hl (by rw [hrec]; simp); rw [hrec] at this; exact this, ?_⟩
      exact hdone _ _ (Nat.le_refl _) (hI.putObj _ hi (by omega) hl rfl) ((World.putObj_heap_other (by omega)).trans hk)

/-- THE LAW where the assignment makes memory (a loop variable in a box): Ax says what it has made. -/
theorem wpIn_range_boxes2 {α : Type} {g : Operand} {ps : Array Tmp} {assign body : Code} {Q : Exit → Act → World → Prop} {a : Act} {w : World}
    (hro : F.round = none) (h1 : 1 ≤ n) {gf : Nat} {lb : Array Value} (hg : a.eval g = .func (.func gf) #[] lb) (hFg : F.fn gf) (eg : ∀ args w, (callFunc gf args).run P w = .ok (.enter gf args) w)
    {encs : α → Array Value} {Kp : World → World → Prop} {xs : List α} {bx : Nat → Prop} (hbx : ∀ b, bx b → b < w.heap.size) (hps : ∀ x, (encs x).size = ps.size)
    (hseq : ∀ W, Below w.heap.size w W → BoxSeq F (n - 1) P gf lb encs Kp xs bx W)
    (hKt : ∀ {A B C : World}, Kp A B → Kp B C → Kp A C) (hKb : ∀ (W : World) (l : Nat) (o o' : Obj), w.heap.size ≤ l → W.heap[l]? = some o → o.isCells = false → Kp W (W.putObj l o'))
    (I : Nat → World → Prop) (hI : Abox w.heap.size bx I) (h0 : I 0 w) (hKg : ∀ W W' : World, w.heap.size ≤ W.heap.size → W.grownBy W' none → Kp W W')
    (Ax : α → Act → World → Prop) (hAx : ∀ (x : α) (a : Act) (W W' : World) (row : Option Nat), Ax x a W → W.grownBy W' row → (∀ r, row = some r → w.heap.size ≤ r ∧ ∃ o : Obj, W.heap[r]? = some o ∧ o.isCells = false) → Ax x a W')
    (hassign : ∀ (l k : Nat) (x : α) (W : World) (K : Act → World → Prop), I k W → w.heap.size ≤ W.heap.size → (∀ a' W', W.grownBy W' none → Ax x a' W' → K a' W') →
      assign.wpIn (F.inRound l) (n - 1 - 1) P (Exit.then K (fun _ _ _ => False)) { tmps := (ps.zip (encs x)).foldl (fun t (p, v) => t.setIfInBounds p v) a.tmps, defers := [] } W)
    (hbody : ∀ (l : Nat) (k : Nat) (x : α) (a' : Act) (W : World), I k W → Ax x a' W → w.heap.size ≤ W.heap.size → xs[k]? = some x → body.wpIn (F.inRound l) (n - 1 - 1) P (Exit.then (fun _ W' => KeepsOthers W W' ∧ Kp W W' ∧ I (k + 1) W') (fun _ _ _ => False)) a' W)
    (hdone : ∀ (D : Nat) (W : World), w.heap.size ≤ D → I xs.length W → W.heap[D]? = some (.deferred (some [])) → Q .normal { a with defers := { target := .collected D, args := #[] } :: a.defers } W) :
    (Code.rangeFunc g ps assign body).wpIn F n P Q a w := by
  refine wpIn_rangeFunc fun fn hfn => ?_
  rw [hro]
  obtain ⟨rec, hrec⟩ : ∃ rec : LoopState → Option Code → Loop, rec = fun st pe => { state := st, pending := pe, fn, tmps := a.tmps, params := ps, assign, body, defers := w.heap.size } := ⟨_, rfl⟩
  obtain ⟨W1, hW1⟩ : ∃ W1, (w.alloc (.deferred (some []))).alloc (.loop (rec .ready none)) = W1 := ⟨_, rfl⟩
  have hsz : W1.heap.size = w.heap.size + 2 := by rw [← hW1]; simp
  have hL1 : W1.heap[w.heap.size + 1]? = some (.loop (rec .ready none)) := by
    rw [← hW1]
    have := World.alloc_heap_new (w.alloc (.deferred (some []))) (.loop (rec .ready none))
    rwa [World.size_alloc] at this
  have hD1 : W1.heap[w.heap.size]? = some (.deferred (some [])) := by
    rw [← hW1]; exact (Below.heap_alloc _ _ _ (by simp)).trans (World.alloc_heap_new w _)
  have hI1 : I 0 W1 := by rw [← hW1]; exact hI.alloc _ (hI.alloc _ h0)
  have hb1 : Below w.heap.size w W1 := by rw [← hW1]; exact ((Below.refl _ w).alloc (Nat.le_refl _) _).alloc (by simp) _
  refine ⟨w.heap.size + 1, [{ target := .collected w.heap.size, args := #[] }], W1, { target := .fn (.func gf) lb, args := #[.func (.yield (w.heap.size + 1)) #[] #[]] }, W1, gf,
    #[.func (.yield (w.heap.size + 1)) #[] #[]] ++ lb, W1, ?_, ?_, ?_, ?_, fun _ => h1, ?_⟩
  · rw [← hW1, hrec]; exact run_enterLoop_outer _ _ _ _ _
  · simp only [resolve, hg]
    simp [go_sem]
  · intro f' hf'; simp [Target.leads] at hf'; subst hf'; exact hFg
  · simp [invoke, go_sem, eg]
  · have keep : ∀ {A B : World} {row : Option Nat} {k : Nat} {o : Obj}, A.grownBy B row → (∀ r, row = some r → W1.heap.size ≤ r ∧ ∃ o : Obj, A.heap[r]? = some o ∧ o.isCells = false) → k < w.heap.size + 2 → A.heap[k]? = some o → B.heap[k]? = some o := fun hg hr hk h =>
      (hg.block _ (Array.getElem?_eq_some_iff.1 h).1 (fun e => by have := (hr _ e.symm).1; omega)).trans h
    refine (hseq W1 hb1 (w.heap.size + 1) (fun k W => I k W ∧ W.heap[w.heap.size + 1]? = some (.loop (rec .ready none)) ∧ W.heap[w.heap.size]? = some (.deferred (some [])))
      ⟨fun s A B row hs hg hr => ⟨hI.grow s A B row hs.1 hg (fun r e => ⟨by have := (hr r e).1; omega, (hr r e).2⟩), keep hg hr (by omega) hs.2.1, keep hg hr (by omega) hs.2.2⟩,
       fun s A b v hb hs => ⟨hI.box s A b v hb hs.1, (setCell_other (by have := hbx b hb; omega)).trans hs.2.1, (setCell_other (by have := hbx b hb; omega)).trans hs.2.2⟩⟩ ?_ ⟨hI1, hL1, hD1⟩).mono ?_
    · rintro k x W ⟨hi, hl, hk⟩ hx
      have hlt : w.heap.size + 1 < W.heap.size := (Array.getElem?_eq_some_iff.1 hl).1
      have hy := run_yield (P := P) (args := encs x) hl (by rw [hrec]; exact hps x)
      rw [hrec] at hy
      have hle0 : w.heap.size ≤ W.heap.size := by omega
      refine ⟨fn, _, assign, body, hy, roundIn_of_wpIn hfn (hassign _ k x W _ hi hle0 fun a' Wa hga hax => ?_)⟩
      have hKa : Kp W Wa := hKg W Wa hle0 hga
      have hia : I k Wa := hI.grow k W Wa none hi hga (fun r e => by cases e)
      have hla : Wa.heap[w.heap.size + 1]? = some (.loop (rec .ready none)) := (hga.block _ hlt (by simp)).trans hl
      have hka : Wa.heap[w.heap.size]? = some (.deferred (some [])) := (hga.block _ (by omega) (by simp)).trans hk
      have hlt : w.heap.size + 1 < Wa.heap.size := (Array.getElem?_eq_some_iff.1 hla).1
      clear hi hl hk
      have hi := hia
      have hl := hla
      have hk := hka
      refine ⟨_, run_beginRound hl (by rw [hrec]), ?_⟩
      obtain ⟨Wb, hWb⟩ : ∃ Wb, Wa.putObj (w.heap.size + 1) (.loop { rec .ready none with state := .busy }) = Wb := ⟨_, rfl⟩
      have hl2 : Wb.heap[w.heap.size + 1]? = some (.loop { rec .ready none with state := .busy }) := by rw [← hWb]; exact World.putObj_heap_same hlt
      have hk2 : Wb.heap[w.heap.size]? = some (.deferred (some [])) := by rw [← hWb]; exact (World.putObj_heap_other (by omega)).trans hk
      have hib : I k Wb := by rw [← hWb]; exact hI.putObj _ hi (by omega) hl rfl
      have hkb : Kp W Wb := by rw [← hWb]; exact hKt hKa (hKb _ _ _ _ (by omega) hl rfl)
      have hxb : Ax x a' Wb := by rw [← hWb]; exact hAx x a' _ _ _ hax (grownBy_putObj' Wa _ _) (fun r e => by cases e; exact ⟨by omega, _, hl, rfl⟩)
      have hzb : w.heap.size ≤ Wb.heap.size := by have := (Array.getElem?_eq_some_iff.1 hl2).1; omega
      rw [hWb]
      refine wpIn_mono (hbody _ k x _ _ hib hxb hzb hx) ?_
      rintro e a3 W3 hp
      cases e with
      | normal =>
        obtain ⟨hk3, hkp3, hi3⟩ := hp
        have hl3 := hk3.same _ _ hl2 rfl
        have hd3 := hk3.same _ _ hk2 rfl
        have hend := run_endRound (P := P) none hl3
        rw [hrec] at hend hl3
        refine ⟨_, _, hend, rfl, ⟨hI.putObj _ hi3 (by omega) hl3 rfl, ?_, (World.putObj_heap_other (by omega)).trans hd3⟩, hKt (hKt hkb hkp3) (hKb _ _ _ _ (by omega) hl3 rfl)⟩
        rw [hrec]; exact World.putObj_heap_same (Array.getElem?_eq_some_iff.1 hl3).1
      | ret => exact hp.elim
      | exit id => exact hp.elim
      | goto t => exact hp.elim
      | panic ch => exact hp.elim
      | outgrown => exact hp.elim
    · rintro e W2 ⟨⟨v, rfl⟩, hi, hl, hk⟩
      refine ⟨none, _, by have := run_endLoop (P := P) hl (by rw [hrec]; simp); rw [hrec] at this; exact this, ?_⟩
      exact hdone _ _ (Nat.le_refl _) (hI.putObj _ hi (by omega) hl rfl) ((World.putObj_heap_other (by omega)).trans hk)


/-! A region that draws its order, IN A ROUND: as outside of one, if it holds no defer statement. -/
def noDefer (ops : Array Oper) : Bool := ops.all fun o => match o.op with | .defer _ => false | _ => true
theorem noDefer_spec {ops : Array Oper} (h : noDefer ops = true) {i : Nat} {o : Oper} (hi : ops[i]? = some o) : ∀ c, o.op ≠ .defer c := by
  intro c hc
  obtain ⟨hlt, rfl⟩ := Array.getElem?_eq_some_iff.1 hi
  have := Array.all_eq_true.1 h i hlt
  rw [hc] at this
  cases this
theorem oper_inRound {l : Nat} {o : Oper} (h : ∀ c, o.op ≠ .defer c) {a : Act} {w : World} {K : Act → World → Prop} {Q : Exit → Act → World → Prop} (hh : o.wpIn F n P a w K Q) (hro : F.round = none) : o.wpIn (F.inRound l) n P a w K Q := by
  unfold Oper.wpIn at *
  rw [Oper.semAt_eq _ _ _ h] at *
  refine ⟨hh.1, ?_⟩
  have hh := hh.2
  generalize (execOp a.eval o).run P w = r at *
  cases r with
  | ok x w' => cases x <;> exact hh
  | halt x w' => cases x <;> exact hh
theorem wpOpIn_inRound {l : Nat} {ops : Array Oper} (hd : noDefer ops = true) (hro : F.round = none) {Q : Exit → Act → World → Prop} {i : Nat} {K K' : Act → World → Prop} {a : Act} {w : World} (hK : ∀ a w, K a w → K' a w) (h : wpOpIn F n P ops Q i K a w) : wpOpIn (F.inRound l) n P ops Q i K' a w := by
  refine wpOpIn_mono hK ?_
  unfold wpOpIn at *
  cases ho : ops[i]? with
  | none => simpa [ho] using h
  | some o =>
    simp only [ho] at h ⊢
    split
    · rename_i hw
      simp only [hw, if_true] at h
      exact oper_inRound (noDefer_spec hd ho) h hro
    · rename_i hw
      simp only [hw] at h
      exact h
theorem wpAnyIn_inRound {l : Nat} {ops : Array Oper} (hd : noDefer ops = true) (hro : F.round = none) {md : Region.Mode} {Q : Exit → Act → World → Prop} : ∀ (fuel : Nat) (listed : Array Bool) (a : Act) (w : World), wpAnyIn F n P md ops Q fuel listed a w → wpAnyIn (F.inRound l) n P md ops Q fuel listed a w
  | 0, _, _, _, h => h
  | fuel + 1, listed, a, w, h => ⟨h.1, fun i hi => wpOpIn_inRound hd hro (fun a w hh => wpAnyIn_inRound hd hro fuel _ a w hh) (h.2 i hi)⟩
end Go.Proofs.Ytcniepogobgaoaa
