/-
  A region that draws its order, by an invariant over the operations that have run: each operation once, whatever the order.
-/
import Derived.Test.YtcniepogobgaoaaLd
import Derived.Laws.CopyOwn
namespace Go.Proofs.Ytcniepogobgaoaa
open Go.RowKit
section
variable {P : Program} {ops : Array Oper} {Q : Exit → Act → World → Prop} {md : Region.Mode}

theorem filter_lt {α : Type} {p q : α → Bool} {l : List α} (h : ∀ x, q x = true → p x = true) {i : α} (hi : i ∈ l) (hp : p i = true) (hq : q i = false) : (l.filter q).length < (l.filter p).length := by
  have hle : ∀ l : List α, (l.filter q).length ≤ (l.filter p).length := by
    intro l
    induction l with
    | nil => simp
    | cons a t ih =>
      by_cases hqa : q a = true
      · simp [hqa, h a hqa]; exact ih
      · by_cases hpa : p a = true
        · simp [hqa, hpa]; omega
        · simp [hqa, hpa]; exact ih
  induction l with
  | nil => simp at hi
  | cons a t ih =>
    rcases List.mem_cons.1 hi with rfl | hi
    · have := hle t
      simp [hp, hq]; omega
    · have := ih hi
      by_cases hqa : q a = true
      · simp [hqa, h a hqa]; omega
      · by_cases hpa : p a = true
        · simp [hqa, hpa]; omega
        · simp [hqa, hpa]; omega

/-- The operations that must have run ahead of each: every one of the list binds, and each binding one has a smaller number. -/
def depsOk (md : Region.Mode) (ops : Array Oper) (D : List (List Nat)) : Bool :=
  (List.range ops.size).all fun i => match ops[i]? with
    | none => false
    | some o => (D.getD i []).all (fun d => o.after.any fun e => Region.binds md e && e.on == d) && o.after.all fun e => !Region.binds md e || decide (e.on < i)
theorem mem_ready {listed : Array Bool} {i : Nat} (h : i ∈ Region.ready md ops listed) : ∃ o, ops[i]? = some o ∧ listed.getD i true = false ∧ ∀ e ∈ o.after, Region.binds md e = true → listed.getD e.on false = true := by
  unfold Region.ready at h
  obtain ⟨h1, h2⟩ := List.mem_filter.1 h
  rw [Bool.and_eq_true] at h2
  obtain ⟨h2, h3⟩ := h2
  have hi : i < ops.size := List.mem_range.1 h1
  refine ⟨ops[i], by simp [hi], by simpa using h2, ?_⟩
  rw [Array.getElem?_eq_getElem hi] at h3
  simp only [Option.map_some, Option.getD_some] at h3
  intro e he hb
  obtain ⟨k, hk, hke⟩ := Array.mem_iff_getElem.1 he
  have := Array.all_eq_true.1 h3 k hk
  rw [hke] at this
  simpa [hb] using this
theorem ready_nil {listed : Array Bool} {D : List (List Nat)} (hd : depsOk md ops D = true) (h : Region.ready md ops listed = []) : ∀ i, i < ops.size → listed.getD i true = true := by
  intro i
  induction i using Nat.strongRecOn with
  | _ i ih =>
    intro hi
    cases hl : listed.getD i true with
    | true => rfl
    | false =>
      have hmem : i ∈ Region.ready md ops listed := by
        unfold Region.ready
        refine List.mem_filter.2 ⟨List.mem_range.2 hi, ?_⟩
        rw [Bool.and_eq_true]
        refine ⟨by rw [hl]; rfl, ?_⟩
        rw [Array.getElem?_eq_getElem hi]
        simp only [Option.map_some, Option.getD_some]
        rw [Array.all_eq_true]
        intro k hk
        unfold depsOk at hd
        have hx := List.all_eq_true.1 hd i (List.mem_range.2 hi)
        rw [Array.getElem?_eq_getElem hi] at hx
        simp only [Bool.and_eq_true] at hx
        have hy := Array.all_eq_true.1 hx.2 k hk
        cases hb : Region.binds md ((ops[i]).after[k]) with
        | false => simp
        | true =>
          rw [hb] at hy
          have hlt : ((ops[i]).after[k]).on < i := by simpa using hy
          have := ih _ hlt (by omega)
          have e1 : listed.getD ((ops[i]).after[k]).on false = true := by
            unfold Array.getD at this ⊢
            split at this
            · rename_i hs; rw [dif_pos hs]; exact this
            · exfalso
              rename_i hs
              have : listed.getD i true = true := by unfold Array.getD; rw [dif_neg (by omega)]
              rw [hl] at this; cases this
          rw [e1]; simp
      rw [h] at hmem
      cases hmem
/-- What has run has its list behind it. -/
def Clo (D : List (List Nat)) (L : Nat → Bool) : Prop := ∀ j, L j = true → (D.getD j []).all L = true
theorem Clo.step {D : List (List Nat)} {L : Nat → Bool} (h : Clo D L) {i : Nat} (hd : (D.getD i []).all L = true) : Clo D (fun j => j == i || L j) := fun j hj => by
  rw [List.all_eq_true]
  intro d hdm
  have : L d = true := by
    by_cases hji : j = i
    · subst hji; exact List.all_eq_true.1 hd d hdm
    · have hj' : L j = true := by simpa [hji] using hj
      exact List.all_eq_true.1 (h j hj') d hdm
  rw [this]; simp
/-- The invariant goes through. -/
theorem wpAny_inv (Inv : (Nat → Bool) → Act → World → Prop) (D : List (List Nat)) (hd : depsOk md ops D = true)
    (hstep : ∀ i, i < ops.size → ∀ L a w, Inv L a w → Clo D L → L i = false → (D.getD i []).all L = true → wpOp P ops Q i (fun a' w' => Inv (fun j => j == i || L j) a' w') a w)
    (hend : ∀ L a w, Inv L a w → (∀ j, j < ops.size → L j = true) → Q .normal a w) :
    ∀ (fuel : Nat) (listed : Array Bool) (a : Act) (w : World), listed.size = ops.size → ((List.range ops.size).filter fun j => !listed.getD j true).length ≤ fuel → Inv (fun j => listed.getD j false) a w → Clo D (fun j => listed.getD j false) → wpAny P md ops Q fuel listed a w := by
  have hall : ∀ (listed : Array Bool) (a : Act) (w : World), Region.ready md ops listed = [] → listed.size = ops.size → Inv (fun j => listed.getD j false) a w → Q .normal a w := by
    intro listed a w hr hsz hI
    refine hend _ a w hI fun j hj => ?_
    have := ready_nil hd hr j hj
    unfold Array.getD at this ⊢
    rw [dif_pos (by omega)] at this ⊢
    exact this
  intro fuel
  induction fuel with
  | zero =>
    intro listed a w hsz hc hI _
    have hr : Region.ready md ops listed = [] := by
      cases hq : Region.ready md ops listed with
      | nil => rfl
      | cons i t =>
        have hm : i ∈ Region.ready md ops listed := by rw [hq]; exact List.mem_cons_self ..
        obtain ⟨o, ho, hl, _⟩ := mem_ready hm
        have hi : i < ops.size := (Array.getElem?_eq_some_iff.1 ho).1
        have : i ∈ (List.range ops.size).filter fun j => !listed.getD j true := List.mem_filter.2 ⟨List.mem_range.2 hi, by rw [hl]; rfl⟩
        have := List.length_pos_of_mem this
        omega
    exact ⟨hr, hall listed a w hr hsz hI⟩
  | succ fuel ih =>
    intro listed a w hsz hc hI hclo
    refine ⟨fun hr => hall listed a w hr hsz hI, fun i hm => ?_⟩
    obtain ⟨o, ho, hl, hdeps⟩ := mem_ready hm
    have hi : i < ops.size := (Array.getElem?_eq_some_iff.1 ho).1
    have hD : (D.getD i []).all (fun j => listed.getD j false) = true := by
      rw [List.all_eq_true]
      intro d hdm
      unfold depsOk at hd
      have hx := List.all_eq_true.1 hd i (List.mem_range.2 hi)
      rw [ho] at hx
      simp only [Bool.and_eq_true] at hx
      have hy := List.all_eq_true.1 hx.1 d hdm
      obtain ⟨k, hk, hke⟩ := Array.any_eq_true.1 hy
      rw [Bool.and_eq_true] at hke
      have := hdeps _ (Array.getElem_mem hk) hke.1
      have e : (o.after[k]).on = d := by simpa using hke.2
      rw [e] at this
      exact this
    have hLi : listed.getD i false = false := by
      unfold Array.getD at hl ⊢
      rw [dif_pos (by omega)] at hl ⊢
      exact hl
    refine wpOp_mono (fun a' w' hI' => ?_) (hstep i hi _ a w hI hclo hLi hD)
    have hfun : (fun j => (listed.setIfInBounds i true).getD j false) = fun j => j == i || listed.getD j false := by
      funext j
      by_cases hji : i = j
      · subst hji
        simp [Array.getD_eq_getD_getElem?, Array.getElem?_setIfInBounds_self_of_lt (show i < listed.size by omega)]
      · simp [Array.getD_eq_getD_getElem?, Array.getElem?_setIfInBounds_ne hji, Ne.symm hji]
    refine ih _ a' w' (by simp [hsz]) ?_ ?_ (by rw [hfun]; exact hclo.step hD)
    · have : ((List.range ops.size).filter fun j => !(listed.setIfInBounds i true).getD j true).length < ((List.range ops.size).filter fun j => !listed.getD j true).length := by
        refine filter_lt (i := i) ?_ (List.mem_range.2 hi) (by rw [hl]; rfl) ?_
        · intro j hj
          by_cases hji : i = j
          · subst hji; rw [hl]; rfl
          · have : (listed.setIfInBounds i true).getD j true = listed.getD j true := by
              simp [Array.getD_eq_getD_getElem?, Array.getElem?_setIfInBounds_ne hji]
            rwa [this] at hj
        · have : (listed.setIfInBounds i true).getD i true = true := by
            simp [Array.getD_eq_getD_getElem?, Array.getElem?_setIfInBounds_self_of_lt (show i < listed.size by omega)]
          rw [this]; rfl
      omega
    · rw [hfun]; exact hI'
/-- A region that draws its order, by an invariant. -/
theorem wp_region_inv {id : Nat} {a : Act} {w : World} (hm : P.follows .mixedOrders = true) (Inv : (Nat → Bool) → Act → World → Prop) (D : List (List Nat)) (hd : depsOk .any ops D = true)
    (h0 : Inv (fun _ => false) a w.drew)
    (hstep : ∀ i, i < ops.size → ∀ L a w, Inv L a w → Clo D L → L i = false → (D.getD i []).all L = true → wpOp P ops Q i (fun a' w' => Inv (fun j => j == i || L j) a' w') a w)
    (hend : ∀ L a w, Inv L a w → (∀ j, j < ops.size → L j = true) → Q .normal a w) : (Code.region id ops true).wp P Q a w := by
  refine wp_region_any hm (wpAny_inv Inv D hd hstep hend _ _ _ _ (by simp) ?_ ?_ ?_)
  · exact Nat.le_trans (List.length_filter_le _ _) (by simp)
  · have : (fun j => (Array.replicate ops.size false).getD j false) = fun _ => false := by
      funext j
      simp only [Array.getD_eq_getD_getElem?, Array.getElem?_replicate]
      split <;> rfl
    rw [this]; exact h0
  · intro j hj
    have : (Array.replicate ops.size false).getD j false = false := by
      simp only [Array.getD_eq_getD_getElem?, Array.getElem?_replicate]
      split <;> rfl
    have hj' : (Array.replicate ops.size false).getD j false = true := hj
    rw [this] at hj'; cases hj'
theorem region_start {id : Nat} {b : Bool} {a : Act} {w : World} (h : ∀ a0, a0 = a → (Code.region id ops b).wp P Q a0 w) : (Code.region id ops b).wp P Q a w := h a rfl
theorem wpOp_yes {i : Nat} {K' : Act → World → Prop} {a : Act} {w : World} {o : Oper} (ho : ops[i]? = some o) (hw : Region.wanted o (yielded ops a.tmps) = true) (h : ∀ K : Act → World → Prop, (∀ a w, K' a w → K a w) → o.wp P a w K Q) : wpOp P ops Q i K' a w := by
  unfold wpOp
  rw [ho]
  simp only []
  rw [if_pos hw]
  exact .inl (h K' fun _ _ h => h)
theorem wpOp_no {i : Nat} {K' : Act → World → Prop} {a : Act} {w : World} {o : Oper} (ho : ops[i]? = some o) (hw : Region.wanted o (yielded ops a.tmps) = false) (h : K' (a.put o.dst undef) w) : wpOp P ops Q i K' a w := by
  unfold wpOp
  rw [ho]
  simp only []
  rw [if_neg (by rw [hw]; exact Bool.false_ne_true)]
  exact h
end
/-- The frame but for the slots ds. -/
structure Fr (a0 : Act) (ds : List Nat) (a : Act) : Prop where
  size : a.tmps.size = a0.tmps.size
  defers : a.defers = a0.defers
  same : ∀ k, k ∉ ds → a.tmps[k]? = a0.tmps[k]?
theorem Fr.refl (a : Act) (ds : List Nat) : Fr a ds a := ⟨rfl, rfl, fun _ _ => rfl⟩
theorem Fr.put {a0 a : Act} {ds : List Nat} (h : Fr a0 ds a) {d : Nat} (hd : d ∈ ds) (v : Value) : Fr a0 ds (a.put (some d) v) :=
  ⟨by simp [Act.put, h.size], by simp [Act.put, h.defers], fun k hk => by
    have : d ≠ k := fun e => hk (e ▸ hd)
    simp only [Act.put]
    rw [Array.getElem?_setIfInBounds_ne this]
    exact h.same k hk⟩
theorem put_same {a : Act} {d : Nat} (h : d < a.tmps.size) (v : Value) : (a.put (some d) v).tmps[d]? = some v := by
  simp only [Act.put]; rw [Array.getElem?_setIfInBounds_self_of_lt h]
theorem put_other {a : Act} {d k : Nat} (h : d ≠ k) (v : Value) : (a.put (some d) v).tmps[k]? = a.tmps[k]? := by
  simp only [Act.put]; rw [Array.getElem?_setIfInBounds_ne h]
theorem ev {a : Act} {k : Nat} {v : Value} (h : a.tmps[k]? = some v) : a.eval (.tmp k) = v := by simp [Act.eval, h]
/-- The frame with some slots laid anew. -/
def fill (a : Act) (l : List (Nat × Value)) : Act := ⟨l.foldl (fun t p => t.setIfInBounds p.1 p.2) a.tmps, a.defers⟩
theorem fill_eq {a0 a : Act} {l : List (Nat × Value)} (h : Fr a0 (l.map Prod.fst) a) (hl : ∀ p ∈ l, p.1 < a0.tmps.size ∧ a.tmps[p.1]? = some p.2) (hn : (l.map Prod.fst).Nodup) : a = fill a0 l := by
  have key : ∀ (l : List (Nat × Value)) (t : Array Value), (∀ p ∈ l, p.1 < t.size ∧ a.tmps[p.1]? = some p.2) → (l.map Prod.fst).Nodup → (∀ k : Nat, k ∉ l.map Prod.fst → a.tmps[k]? = t[k]?) → a.tmps.size = t.size → ∀ k : Nat, a.tmps[k]? = (l.foldl (fun t p => t.setIfInBounds p.1 p.2) t)[k]? := by
    intro l
    induction l with
    | nil => intro t _ _ h _ k; exact h k (by simp)
    | cons p r ih =>
      intro t hl hn hk hs k
      rw [List.foldl_cons]
      rw [List.map_cons, List.nodup_cons] at hn
      refine ih _ (fun q hq => ⟨by simpa using (hl q (List.mem_cons_of_mem _ hq)).1, (hl q (List.mem_cons_of_mem _ hq)).2⟩) hn.2 (fun j hj => ?_) (by simpa using hs) k
      by_cases hjp : p.1 = j
      · subst hjp
        rw [Array.getElem?_setIfInBounds_self_of_lt (hl p (List.mem_cons_self ..)).1]
        exact (hl p (List.mem_cons_self ..)).2
      · rw [Array.getElem?_setIfInBounds_ne hjp]
        exact hk j (by simp only [List.map_cons, List.mem_cons, not_or]; exact ⟨Ne.symm hjp, hj⟩)
  have he : a.tmps = (fill a0 l).tmps := Array.ext_getElem? (key l a0.tmps hl hn h.same h.size)
  have hd : a.defers = (fill a0 l).defers := h.defers
  cases a
  simp only at he hd
  subst he hd
  rfl
theorem all_mem {l : List Nat} {L : Nat → Bool} (h : l.all L = true) {d : Nat} (hm : d ∈ l) : L d = true := List.all_eq_true.1 h d hm
/-- Each slot of the list is as it says. -/
def FillOk (n : Nat) (a : Act) (l : List (Nat × Value)) : Prop := ∀ p ∈ l, p.1 < n ∧ a.tmps[p.1]? = some p.2
theorem FillOk.nil {n : Nat} {a : Act} : FillOk n a [] := fun _ h => by cases h
theorem FillOk.cons {n : Nat} {a : Act} {d : Nat} {v : Value} {l : List (Nat × Value)} (h1 : d < n) (h2 : a.tmps[d]? = some v) (h : FillOk n a l) : FillOk n a ((d, v) :: l) := fun p hp => by
  rcases List.mem_cons.1 hp with rfl | hp
  · exact ⟨h1, h2⟩
  · exact h p hp
/-- A box of the region's own: a slot points to it; what is known of its cells. -/
def Bx (a : Act) (W : World) (d b : Nat) (T : TypeId) (n B : Nat) (Pc : Array Value → Prop) : Prop :=
  a.tmps[d]? = some (.pointer (some ⟨b, 0, none⟩)) ∧ B ≤ b ∧ ∃ cs, Blk W b T cs ∧ cs.size = n ∧ Pc cs
section
variable {a : Act} {W W' : World} {d b : Nat} {T : TypeId} {n B : Nat} {Pc : Array Value → Prop}
theorem Bx.put (h : Bx a W d b T n B Pc) {d' : Nat} (hd : d' ≠ d) (v : Value) : Bx (a.put (some d') v) W d b T n B Pc := ⟨(put_other hd v).trans h.1, h.2⟩
theorem Bx.below (h : Bx a W d b T n B Pc) (hb : Below W.heap.size W W') : Bx a W' d b T n B Pc := by
  obtain ⟨h1, h2, cs, h3, h4⟩ := h
  exact ⟨h1, h2, cs, h3.below hb h3.lt, h4⟩
theorem Bx.alloc (h : Bx a W d b T n B Pc) (o : Obj) : Bx a (W.alloc o) d b T n B Pc := by
  obtain ⟨h1, h2, cs, h3, h4⟩ := h
  exact ⟨h1, h2, cs, h3.alloc o, h4⟩
theorem Bx.far (h : Bx a W d b T n B Pc) {g : Nat} {cs' : Array Value} (hg : g ≠ b) : Bx a (W.setRow g cs') d b T n B Pc := by
  obtain ⟨h1, h2, cs, h3, h4⟩ := h
  exact ⟨h1, h2, cs, (setRow_other W g b cs' (Ne.symm hg)).trans h3, h4⟩
theorem Bx.stored (h : Bx a W d b T n B Pc) {cs' : Array Value} {Pc' : Array Value → Prop} (hs : cs'.size = n) (hp : Pc' cs') : Bx a (W.setRow b cs') d b T n B Pc' := by
  obtain ⟨h1, h2, cs, h3, h4⟩ := h
  exact ⟨h1, h2, cs', setRow_heap W b cs cs' T (0, 0) h3, hs, hp⟩
theorem Bx.new {cs : Array Value} (hB : B ≤ W.heap.size) (hd : d < a.tmps.size) (hs : cs.size = n) (hp : Pc cs) : Bx (a.put (some d) (.pointer (some ⟨W.heap.size, 0, none⟩))) (W.alloc (.cells cs T)) d W.heap.size T n B Pc :=
  ⟨put_same hd _, hB, cs, Blk.new _ _ _, hs, hp⟩
theorem wp_store_row {P : Program} {o : Oper} {K : Act → World → Prop} {Q : Exit → Act → World → Prop} (ty : TypeId) (x y : Operand) (ho : o.op = .store ty x y) (hd : o.dst = none)
    (g : Nat) (hx : a.eval x = .pointer (some ⟨g, 0, none⟩)) {cells : Array Value} (hy : a.eval y = .agg cells) (old : Array Value) {t : TypeId} (hg : Blk W g t old)
    (hi : (P.info? ty).map (·.size) = some cells.size) (hs : old.size = cells.size) (h1 : cells.all (·.oneCell') = true) (h : K a (W.setRow g cells)) : o.wp P a W K Q := by
  unfold Oper.wp execOp
  simp only [ho, hx, hy, Instr.storeAt, Instr.sureAddr, Sem.run_bind, Sem.run_pure, Result.andThen_ok, run_storeVar_row W g t ty old cells hg hi hs h1]
  simp [Oper.upon, Act.put, hd]
  exact h
end
end Go.Proofs.Ytcniepogobgaoaa
