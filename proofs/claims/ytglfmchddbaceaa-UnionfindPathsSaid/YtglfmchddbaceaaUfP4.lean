/-
  Breadth-first search over the edges reaches the set of its start. Plain.
-/
import Derived.Test.YtglfmchddbaceaaUfP3
import Derived.Test.YtglfmchddbaceaaUfP2
namespace Go.Proofs.Ytglfmchddbaceaa
set_option linter.unusedVariables false
set_option linter.unusedSimpArgs false

theorem nodup_sub : ∀ (L M : List Int), L.Nodup → (∀ y ∈ L, y ∈ M) → L.length ≤ M.length
  | [], _, _, _ => Nat.zero_le _
  | a :: t, M, hn, hs => by
    obtain ⟨h1, h2⟩ := List.nodup_cons.1 hn
    have ha := hs a (List.mem_cons_self ..)
    have := nodup_sub t (M.erase a) h2 (fun y hy => (List.mem_erase_of_ne (by rintro rfl; exact h1 hy)).2 (hs y (List.mem_cons_of_mem _ hy)))
    rw [List.length_erase_of_mem ha] at this
    have hp : 0 < M.length := List.length_pos_of_mem ha
    simp only [List.length_cons]
    omega
/-- One edge's end, looked at from the element u: d = 0 from its first end, else from its second. -/
def Cl (es : List (Int × Int)) (L : List Int) (k : Nat) (u : Int) (j d : Nat) : Prop :=
  if d = 0 then (ea es j = u → 0 ≤ eb es j → eb es j < k → eb es j ∈ L) else (eb es j = u → 0 ≤ ea es j → ea es j < k → ea es j ∈ L)
theorem Cl.mono {es : List (Int × Int)} {L L' : List Int} {k j d : Nat} {u : Int} (h : Cl es L k u j d) (hs : ∀ y ∈ L, y ∈ L') : Cl es L' k u j d := by
  unfold Cl at *
  split <;> rename_i c <;> simp only [c, if_true, if_false] at h
  · exact fun a b c => hs _ (h a b c)
  · exact fun a b c => hs _ (h a b c)
/-- What is reached: elements of the start's set, each once. -/
structure Rch (k : Nat) (r : Nat → Nat) (s : Nat) (L : List Int) : Prop where
  nd : L.Nodup
  st : (s : Int) ∈ L
  el : ∀ y ∈ L, ∃ v : Nat, y = (v : Int) ∧ v < k ∧ r v = r s
/-- The search at place i, edge j, end d. -/
structure Srch (es : List (Int × Int)) (k : Nat) (r : Nat → Nat) (s : Nat) (L : List Int) (i j d : Nat) : Prop where
  rch : Rch k r s L
  done : ∀ i', i' < i → ∀ j', j' < es.length → ∀ d', d' < 2 → Cl es L k (ix L i') j' d'
  now : ∀ j', j' < j → ∀ d', d' < 2 → Cl es L k (ix L i) j' d'
  ends : ∀ d', d' < d → Cl es L k (ix L i) j d'
section
variable {es : List (Int × Int)} {k : Nat} {r : Nat → Nat} {s : Nat} {L : List Int} {i j d : Nat}
theorem Rch.len (h : Rch k r s L) : L.length ≤ k := by
  have := nodup_sub L ((List.range k).map fun i : Nat => (i : Int)) h.nd (fun y hy => by
    obtain ⟨v, h1, h2, _⟩ := h.el y hy
    exact List.mem_map.2 ⟨v, List.mem_range.2 h2, h1.symm⟩)
  simpa using this
theorem Srch.start (hs : s < k) : Srch es k r s [(s : Int)] 0 0 0 :=
  ⟨⟨by simp, by simp, fun y hy => by rw [List.mem_singleton] at hy; exact ⟨s, hy, hs, rfl⟩⟩, fun _ h => absurd h (by omega), fun _ h => absurd h (by omega), fun _ h => absurd h (by omega)⟩
theorem Srch.stay (h : Srch es k r s L i j d) (hc : Cl es L k (ix L i) j d) : Srch es k r s L i j (d + 1) :=
  ⟨h.rch, h.done, h.now, fun d' hd => by rcases Nat.lt_succ_iff_lt_or_eq.1 hd with c | rfl; exact h.ends d' c; exact hc⟩
theorem Srch.grow (h : Srch es k r s L i j d) (hi : i < L.length) {x : Nat} (hx : x < k) (hr : r x = r s) (hn : (x : Int) ∉ L) (hc : Cl es (L ++ [(x : Int)]) k (ix L i) j d) : Srch es k r s (L ++ [(x : Int)]) i j (d + 1) := by
  have hsub : ∀ y ∈ L, y ∈ L ++ [(x : Int)] := fun y hy => List.mem_append_left _ hy
  have hix : ∀ i', i' < L.length → ix (L ++ [(x : Int)]) i' = ix L i' := fun i' h' => ix_app_l h'
  refine ⟨⟨?_, hsub _ h.rch.st, fun y hy => ?_⟩, fun i' h1 j' h2 d' h3 => ?_, fun j' h2 d' h3 => ?_, fun d' h3 => ?_⟩
  · rw [List.nodup_append]
    exact ⟨h.rch.nd, by simp, fun a ha b hb e => hn (by rw [List.mem_singleton] at hb; rw [← hb, ← e]; exact ha)⟩
  · rcases List.mem_append.1 hy with c | c
    · exact h.rch.el y c
    · rw [List.mem_singleton] at c; exact ⟨x, c, hx, hr⟩
  · rw [hix i' (by omega)]; exact (h.done i' h1 j' h2 d' h3).mono hsub
  · rw [hix i hi]; exact (h.now j' h2 d' h3).mono hsub
  · rw [hix i hi]
    rcases Nat.lt_succ_iff_lt_or_eq.1 h3 with c | rfl
    · exact (h.ends d' c).mono hsub
    · exact hc
theorem Srch.nextEdge (h : Srch es k r s L i j 2) : Srch es k r s L i (j + 1) 0 :=
  ⟨h.rch, h.done, fun j' h1 d' h2 => by rcases Nat.lt_succ_iff_lt_or_eq.1 h1 with c | rfl; exact h.now j' c d' h2; exact h.ends d' h2, fun _ h => absurd h (by omega)⟩
theorem Srch.nextNode (h : Srch es k r s L i es.length 0) : Srch es k r s L (i + 1) 0 0 :=
  ⟨h.rch, fun i' h1 j' h2 d' h3 => by rcases Nat.lt_succ_iff_lt_or_eq.1 h1 with c | rfl; exact h.done i' c j' h2 d' h3; exact h.now j' h2 d' h3, fun _ h => absurd h (by omega), fun _ h => absurd h (by omega)⟩
theorem pair_of_mem {es : List (Int × Int)} {e : Int × Int} (h : e ∈ es) : ∃ j, j < es.length ∧ e = (ea es j, eb es j) := by
  obtain ⟨j, hj, rfl⟩ := List.mem_iff_getElem.1 h
  exact ⟨j, hj, by simp [ea, eb, List.getD, List.getElem?_eq_getElem hj]⟩
/-- At its end the search has reached the start's whole set. -/
theorem Srch.all (h : Srch es k (runE k es) s L L.length 0 0) (hs : s < k) : ∀ y : Nat, y < k → runE k es y = runE k es s → (y : Int) ∈ L := by
  have hcl : ∀ u x : Int, u ∈ L → 0 ≤ x → x < k → (∃ j, j < es.length ∧ ((ea es j = u ∧ eb es j = x) ∨ (eb es j = u ∧ ea es j = x))) → x ∈ L := by
    rintro u x hu h0 hk ⟨j, hj, hc⟩
    obtain ⟨i, hi, rfl⟩ := mem_ix hu
    rcases hc with ⟨c1, c2⟩ | ⟨c1, c2⟩
    · have := h.done i hi j hj 0 (by omega)
      unfold Cl at this
      rw [if_pos rfl, c2] at this
      exact this c1 h0 hk
    · have := h.done i hi j hj 1 (by omega)
      unfold Cl at this
      rw [if_neg (by omega), c2] at this
      exact this c1 h0 hk
  have hf := run_least (n := k) (fun z => if (z : Int) ∈ L then 1 else 0) es (fun e he hi => by
    obtain ⟨j, hj, rfl⟩ := pair_of_mem he
    unfold Ins at hi
    obtain ⟨i1, i2, i3, i4⟩ := hi
    simp only [] at i1 i2 i3 i4
    have e1 : (((ea es j).toNat : Nat) : Int) = ea es j := by omega
    have e2 : (((eb es j).toNat : Nat) : Int) = eb es j := by omega
    simp only [e1, e2]
    by_cases c1 : ea es j ∈ L
    · rw [if_pos c1, if_pos (hcl _ _ c1 i3 i4 ⟨j, hj, .inl ⟨rfl, rfl⟩⟩)]
    · rw [if_neg c1, if_neg (fun c2 => c1 (hcl _ _ c2 i1 i2 ⟨j, hj, .inr ⟨rfl, rfl⟩⟩))])
  intro y hy hr
  have h1 : (if ((runE k es y : Nat) : Int) ∈ L then 1 else 0) = (if (y : Int) ∈ L then 1 else 0) := hf y hy
  have h2 : (if ((runE k es s : Nat) : Int) ∈ L then 1 else 0) = (if (s : Int) ∈ L then 1 else 0) := hf s hs
  rw [hr] at h1
  rw [h2, if_pos h.rch.st] at h1
  by_cases c : (y : Int) ∈ L
  · exact c
  · rw [if_neg c] at h1; omega
/-- The set of the start, as long as what is reached, and holding it. -/
theorem Srch.island (h : Srch es k (runE k es) s L L.length 0 0) (hs : s < k) : (grp (runE k es) (runE k es s) k).length = L.length ∧ ∀ y ∈ L, y ∈ grp (runE k es) (runE k es s) k := by
  have h2 : ∀ y ∈ L, y ∈ grp (runE k es) (runE k es s) k := fun y hy => by
    obtain ⟨v, h1, h2, h3⟩ := h.rch.el y hy
    exact grp_mem.2 ⟨v, h2, h3, h1⟩
  refine ⟨Nat.le_antisymm ?_ ?_, h2⟩
  · refine nodup_sub _ _ ((grp_sorted _ _ _).imp (fun h => by omega)) (fun y hy => ?_)
    obtain ⟨v, h1, h2, h3⟩ := grp_mem.1 hy
    rw [h3]; exact h.all hs v h1 h2
  · exact nodup_sub _ _ h.rch.nd h2
/-- Where the start's island lies, and that it lies in no other. -/
theorem start_at (hr : RtOk k r) (hs : s < k) {q : Nat} (hq : q < (groups r k).length) : (s : Int) ∈ gx (groups r k) q ↔ gx (groups r k) q = grp r (r s) k := by
  obtain ⟨x, h1, h2, h3, h4⟩ := gx_groups hq
  rw [h4]
  constructor
  · intro h
    obtain ⟨v, v1, v2, v3⟩ := grp_mem.1 h
    have : v = s := by omega
    subst this
    rw [v2]
  · intro h
    rw [h]
    exact grp_mem.2 ⟨s, hs, rfl, rfl⟩
theorem start_in (hr : RtOk k r) (hs : s < k) : ∃ q, q < (groups r k).length ∧ (s : Int) ∈ gx (groups r k) q := by
  have hm : grp r (r s) k ∈ groups r k := by
    unfold groups
    exact List.mem_map.2 ⟨(r s : Int), (roots_mem r).2 ⟨r s, by have := hr s hs; omega, (hr s hs).2, rfl⟩, by rw [Int.toNat_natCast]⟩
  obtain ⟨q, hq, e⟩ := List.mem_iff_getElem.1 hm
  have e2 : gx (groups r k) q = grp r (r s) k := by simp [gx, List.getD, List.getElem?_eq_getElem hq, e]
  exact ⟨q, hq, by rw [e2]; exact grp_mem.2 ⟨s, hs, rfl, rfl⟩⟩
end
end Go.Proofs.Ytglfmchddbaceaa
