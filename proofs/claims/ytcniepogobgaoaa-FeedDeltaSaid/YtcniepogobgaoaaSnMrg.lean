/-
  The merged walk over two views, in plain Lean. No program in sight.
-/
import Derived.Test.YtcniepogobgaoaaSnDif
namespace Go.Proofs.Ytcniepogobgaoaa
set_option linter.unusedVariables false
set_option linter.unusedSimpArgs false

theorem enc_len' (n : Nat) : ∀ k, n < 128 ^ k → 0 < k → (enc n).length ≤ k := by
  intro k
  induction k generalizing n with
  | zero => intro _ h; omega
  | succ k ih =>
    intro h _
    by_cases hs : n < 128
    · rw [enc_small hs]; simp
    · rw [enc_big hs, List.length_cons]
      rw [Nat.pow_succ] at h
      have hk : 0 < k := by
        rcases Nat.eq_zero_or_pos k with h0 | h0
        · subst h0; simp at h; omega
        · exact h0
      have := ih (n / 128) (by omega) hk
      omega
theorem enc_len10' {n : Nat} (h : n < 18446744073709551616) : (enc n).length ≤ 10 := enc_len' n 10 (by omega) (by omega)
structure Pr where
  i : Int
  o : Int
  n : Int
  was : Bool
  stays : Bool
def mrg : Vw → Vw → List Pr
  | [], [] => []
  | o :: os, [] => ⟨o.1, o.2, 0, true, false⟩ :: mrg os []
  | [], n :: ns => ⟨n.1, 0, n.2, false, true⟩ :: mrg [] ns
  | o :: os, n :: ns =>
    if o.1 < n.1 then ⟨o.1, o.2, 0, true, false⟩ :: mrg os (n :: ns)
    else if n.1 < o.1 then ⟨n.1, 0, n.2, false, true⟩ :: mrg (o :: os) ns
    else ⟨n.1, o.2, n.2, true, true⟩ :: mrg os ns
termination_by a b => a.length + b.length
abbrev Up (l : Vw) : Prop := l.Pairwise fun p q => p.1 < q.1
theorem find_none {l : Vw} {i : Int} (h : ∀ p ∈ l, i < p.1) : findD l i = none := by
  induction l with
  | nil => rfl
  | cons a t ih =>
    have h1 := h a (List.mem_cons_self ..)
    rw [findD, if_neg (by omega)]
    exact ih fun p hp => h p (List.mem_cons_of_mem _ hp)
theorem find_skip {a : Int × Int} {t : Vw} {i : Int} (h : a.1 < i) : findD (a :: t) i = findD t i := by rw [findD, if_neg (by omega)]
theorem up_cons {a : Int × Int} {t : Vw} (h : Up (a :: t)) : (∀ p ∈ t, a.1 < p.1) ∧ Up t := List.pairwise_cons.1 h
def goneM (a b : Vw) : List Int := ((mrg a b).filter fun p => !p.stays).map (·.i)
def setM (a b : Vw) : Vw := ((mrg a b).filter fun p => p.stays && (!p.was || p.o != p.n)).map fun p => (p.i, p.n)
theorem goneD_congr {l b c : Vw} (h : ∀ p ∈ l, findD b p.1 = findD c p.1) : goneD l b = goneD l c := by
  unfold goneD
  congr 1
  apply List.filter_congr
  intro p hp
  rw [h p hp]
theorem goneD_cons (a : Int × Int) (t b : Vw) : goneD (a :: t) b = if (findD b a.1).isNone then a.1 :: goneD t b else goneD t b := by
  unfold goneD
  by_cases h : (findD b a.1).isNone = true <;> simp [h]
theorem goneM_eq : ∀ (a b : Vw), Up a → Up b → goneM a b = goneD a b
  | [], [], _, _ => by simp [goneM, mrg, goneD]
  | o :: os, [], h, _ => by
    have ih := goneM_eq os [] (up_cons h).2 List.Pairwise.nil
    unfold goneM at ih ⊢
    rw [mrg, goneD_cons]
    simp [findD, ih]
  | [], n :: ns, _, h => by
    have ih := goneM_eq [] ns List.Pairwise.nil (up_cons h).2
    unfold goneM at ih ⊢
    rw [mrg]
    simp [ih, goneD]
  | o :: os, n :: ns, h, h' => by
    obtain ⟨h1, h2⟩ := up_cons h
    obtain ⟨h3, h4⟩ := up_cons h'
    by_cases c1 : o.1 < n.1
    · have ih := goneM_eq os (n :: ns) h2 h'
      unfold goneM at ih ⊢
      rw [mrg, if_pos c1, goneD_cons, find_none (l := n :: ns) (i := o.1) (fun p hp => by rcases List.mem_cons.1 hp with rfl | hp; exact c1; have := h3 p hp; omega)]
      simp [ih]
    · by_cases c2 : n.1 < o.1
      · have ih := goneM_eq (o :: os) ns h h4
        unfold goneM at ih ⊢
        rw [mrg, if_neg c1, if_pos c2]
        rw [goneD_congr (l := o :: os) (b := n :: ns) (c := ns) (fun p hp => find_skip (by rcases List.mem_cons.1 hp with rfl | hp; exact c2; have := h1 p hp; omega))]
        simp [ih]
      · have ih := goneM_eq os ns h2 h4
        unfold goneM at ih ⊢
        rw [mrg, if_neg c1, if_neg c2, goneD_cons]
        have e : findD (n :: ns) o.1 = some n.2 := by rw [findD, if_pos (by omega)]
        rw [e, goneD_congr (l := os) (b := n :: ns) (c := ns) (fun p hp => find_skip (by have := h1 p hp; omega))]
        simp [ih]
termination_by a b => a.length + b.length
theorem setD_congr {l b c : Vw} (h : ∀ p ∈ l, findD b p.1 = findD c p.1) : setD b l = setD c l := by
  unfold setD
  apply List.filter_congr
  intro p hp
  rw [h p hp]
theorem setD_cons (a : Int × Int) (t b : Vw) : setD b (a :: t) = if findD b a.1 ≠ some a.2 then a :: setD b t else setD b t := by
  unfold setD
  by_cases h : findD b a.1 = some a.2 <;> simp [h]
theorem setM_eq : ∀ (a b : Vw), Up a → Up b → setM a b = setD a b
  | [], [], _, _ => by simp [setM, mrg, setD]
  | o :: os, [], h, _ => by
    have ih := setM_eq os [] (up_cons h).2 List.Pairwise.nil
    unfold setM at ih ⊢
    rw [mrg]
    simpa [setD] using ih
  | [], n :: ns, _, h => by
    have ih := setM_eq [] ns List.Pairwise.nil (up_cons h).2
    unfold setM at ih ⊢
    rw [mrg, setD_cons]
    simpa [findD] using ih
  | o :: os, n :: ns, h, h' => by
    obtain ⟨h1, h2⟩ := up_cons h
    obtain ⟨h3, h4⟩ := up_cons h'
    by_cases c1 : o.1 < n.1
    · have ih := setM_eq os (n :: ns) h2 h'
      unfold setM at ih ⊢
      rw [mrg, if_pos c1]
      rw [setD_congr (l := n :: ns) (b := o :: os) (c := os) (fun p hp => find_skip (by rcases List.mem_cons.1 hp with rfl | hp; exact c1; have := h3 p hp; omega))]
      simpa using ih
    · by_cases c2 : n.1 < o.1
      · have ih := setM_eq (o :: os) ns h h4
        unfold setM at ih ⊢
        rw [mrg, if_neg c1, if_pos c2, setD_cons, find_none (l := o :: os) (i := n.1) (fun p hp => by rcases List.mem_cons.1 hp with rfl | hp; exact c2; have := h1 p hp; omega)]
        simpa using ih
      · have ih := setM_eq os ns h2 h4
        unfold setM at ih ⊢
        rw [mrg, if_neg c1, if_neg c2, setD_cons]
        have e : findD (o :: os) n.1 = some o.2 := by rw [findD, if_pos (by omega)]
        rw [e, setD_congr (l := ns) (b := o :: os) (c := os) (fun p hp => find_skip (by have := h3 p hp; omega))]
        by_cases c3 : o.2 = n.2
        · simp [c3, ih]
        · simp [c3, ih]
termination_by a b => a.length + b.length
theorem mrg_lo : ∀ (a b : Vw) (L : Int), (∀ q ∈ a, L < q.1) → (∀ q ∈ b, L < q.1) → ∀ p ∈ mrg a b, L < p.i
  | [], [], _, _, _ => by simp [mrg]
  | o :: os, [], L, h, h' => by
    have ih := mrg_lo os [] L (fun q hq => h q (List.mem_cons_of_mem _ hq)) h'
    rw [mrg]
    intro p hp
    rcases List.mem_cons.1 hp with rfl | hp
    · exact h o (List.mem_cons_self ..)
    · exact ih p hp
  | [], n :: ns, L, h, h' => by
    have ih := mrg_lo [] ns L h (fun q hq => h' q (List.mem_cons_of_mem _ hq))
    rw [mrg]
    intro p hp
    rcases List.mem_cons.1 hp with rfl | hp
    · exact h' n (List.mem_cons_self ..)
    · exact ih p hp
  | o :: os, n :: ns, L, h, h' => by
    have ho := h o (List.mem_cons_self ..)
    have hn := h' n (List.mem_cons_self ..)
    have hos : ∀ q ∈ os, L < q.1 := fun q hq => h q (List.mem_cons_of_mem _ hq)
    have hns : ∀ q ∈ ns, L < q.1 := fun q hq => h' q (List.mem_cons_of_mem _ hq)
    rw [mrg]
    intro p hp
    split at hp
    · rcases List.mem_cons.1 hp with rfl | hp
      · exact ho
      · exact mrg_lo os (n :: ns) L hos h' p hp
    · split at hp
      · rcases List.mem_cons.1 hp with rfl | hp
        · exact hn
        · exact mrg_lo (o :: os) ns L h hns p hp
      · rcases List.mem_cons.1 hp with rfl | hp
        · exact hn
        · exact mrg_lo os ns L hos hns p hp
termination_by a b => a.length + b.length
/-- What a cell of the merged walk bears. -/
theorem mrg_old : ∀ (a b : Vw), Up a → Up b → ∀ p ∈ mrg a b, p.stays = true → p.o = (findD a p.i).getD 0
  | [], [], _, _ => by simp [mrg]
  | o :: os, [], h, _ => by
    have ih := mrg_old os [] (up_cons h).2 List.Pairwise.nil
    rw [mrg]
    intro p hp hs
    rcases List.mem_cons.1 hp with rfl | hp
    · simp at hs
    · rw [find_skip (mrg_lo os [] o.1 (up_cons h).1 (by simp) p hp)]
      exact ih p hp hs
  | [], n :: ns, _, h => by
    have ih := mrg_old [] ns List.Pairwise.nil (up_cons h).2
    rw [mrg]
    intro p hp hs
    rcases List.mem_cons.1 hp with rfl | hp
    · rfl
    · exact ih p hp hs
  | o :: os, n :: ns, h, h' => by
    obtain ⟨h1, h2⟩ := up_cons h
    obtain ⟨h3, h4⟩ := up_cons h'
    have hno : ∀ L : Int, L ≤ n.1 → ∀ q ∈ ns, L < q.1 := fun L hL q hq => by have := h3 q hq; omega
    rw [mrg]
    intro p hp hs
    split at hp
    · rename_i c1
      rcases List.mem_cons.1 hp with rfl | hp
      · simp at hs
      · rw [find_skip (mrg_lo os (n :: ns) o.1 h1 (fun q hq => by rcases List.mem_cons.1 hq with rfl | hq; exact c1; have := h3 q hq; omega) p hp)]
        exact mrg_old os (n :: ns) h2 h' p hp hs
    · split at hp
      · rename_i c1 c2
        rcases List.mem_cons.1 hp with rfl | hp
        · show (0 : Int) = _
          rw [find_none (l := o :: os) (i := n.1) (fun p hp => by rcases List.mem_cons.1 hp with rfl | hp; exact c2; have := h1 p hp; omega)]; rfl
        · exact mrg_old (o :: os) ns h h4 p hp hs
      · rename_i c1 c2
        rcases List.mem_cons.1 hp with rfl | hp
        · show o.2 = (findD (o :: os) n.1).getD 0
          rw [findD, if_pos (by omega)]; rfl
        · rw [find_skip (mrg_lo os ns o.1 h1 (fun q hq => by have := h3 q hq; omega) p hp)]
          exact mrg_old os ns h2 h4 p hp hs
termination_by a b => a.length + b.length
theorem mrg_len : ∀ (a b : Vw), (mrg a b).length ≤ a.length + b.length
  | [], [] => by simp [mrg]
  | o :: os, [] => by have := mrg_len os []; rw [mrg]; simp at *; omega
  | [], n :: ns => by have := mrg_len [] ns; rw [mrg]; simp at *; omega
  | o :: os, n :: ns => by
    have h1 := mrg_len os (n :: ns)
    have h2 := mrg_len (o :: os) ns
    have h3 := mrg_len os ns
    rw [mrg]
    split
    · simp at *; omega
    · split <;> simp at * <;> omega
termination_by a b => a.length + b.length

/-- The cells of the merged walk that are set, and their bytes. -/
def selP (p : Pr) : Bool := p.stays && (!p.was || p.o != p.n)
def setPB (last : Int) : List Pr → List Int
  | [] => []
  | p :: t => enc (p.i - last - 1).toNat ++ enc (zig (w64 (p.n - p.o))) ++ setPB p.i t
theorem setPB_snoc (last : Int) (l : List Pr) (x : Pr) : setPB last (l ++ [x]) = setPB last l ++ (enc (x.i - lastI last (l.map (·.i)) - 1).toNat ++ enc (zig (w64 (x.n - x.o)))) := by
  induction l generalizing last with
  | nil => simp [setPB, lastI]
  | cons a t ih =>
    simp only [List.cons_append, setPB, ih, List.append_assoc]
    congr 5
    cases t with
    | nil => simp [lastI]
    | cons b u => simp only [lastI, List.map_cons, List.getLast?_cons_cons, lastI_any a.i last b.i (u.map (·.i))]
theorem setPB_eq (old : Vw) (last : Int) (l : List Pr) (h : ∀ p ∈ l, p.o = (findD old p.i).getD 0) : setPB last l = setB old last (l.map fun p => (p.i, p.n)) := by
  induction l generalizing last with
  | nil => rfl
  | cons a t ih =>
    simp only [List.map_cons, setPB, setB]
    rw [ih a.i (fun p hp => h p (List.mem_cons_of_mem _ hp)), h a (List.mem_cons_self ..)]
/-- The difference by the merged walk is the difference. -/
theorem mrg_dif {a b : Vw} (ha : Up a) (hb : Up b) :
    difD a b = enc (((mrg a b).filter fun p => !p.stays).map (·.i)).length ++ gapsB (-1) (((mrg a b).filter fun p => !p.stays).map (·.i)) ++ enc ((mrg a b).filter selP).length ++ setPB (-1) ((mrg a b).filter selP) := by
  have h1 : goneD a b = ((mrg a b).filter fun p => !p.stays).map (·.i) := (goneM_eq a b ha hb).symm
  have h2 : setD a b = ((mrg a b).filter selP).map fun p => (p.i, p.n) := (setM_eq a b ha hb).symm
  have h3 : (setD a b).length = ((mrg a b).filter selP).length := by rw [h2, List.length_map]
  unfold difD
  rw [h1, h3, h2, setPB_eq a (-1) _ (fun p hp => by
    obtain ⟨hp, hs⟩ := List.mem_filter.1 hp
    refine mrg_old a b ha hb p hp ?_
    unfold selP at hs
    simp only [Bool.and_eq_true] at hs
    exact hs.1)]
theorem mrg_up : ∀ (a b : Vw), Up a → Up b → (mrg a b).Pairwise fun p q => p.i < q.i
  | [], [], _, _ => by simp [mrg]
  | o :: os, [], h, _ => by
    rw [mrg]
    exact List.pairwise_cons.2 ⟨mrg_lo os [] o.1 (up_cons h).1 (by simp), mrg_up os [] (up_cons h).2 List.Pairwise.nil⟩
  | [], n :: ns, _, h => by
    rw [mrg]
    exact List.pairwise_cons.2 ⟨mrg_lo [] ns n.1 (by simp) (up_cons h).1, mrg_up [] ns List.Pairwise.nil (up_cons h).2⟩
  | o :: os, n :: ns, h, h' => by
    obtain ⟨h1, h2⟩ := up_cons h
    obtain ⟨h3, h4⟩ := up_cons h'
    rw [mrg]
    split
    · rename_i c1
      exact List.pairwise_cons.2 ⟨mrg_lo os (n :: ns) o.1 h1 (fun q hq => by rcases List.mem_cons.1 hq with rfl | hq; exact c1; have := h3 q hq; omega), mrg_up os (n :: ns) h2 h'⟩
    · split
      · rename_i c1 c2
        exact List.pairwise_cons.2 ⟨mrg_lo (o :: os) ns n.1 (fun q hq => by rcases List.mem_cons.1 hq with rfl | hq; exact c2; have := h1 q hq; omega) h3, mrg_up (o :: os) ns h h4⟩
      · rename_i c1 c2
        exact List.pairwise_cons.2 ⟨mrg_lo os ns n.1 (fun q hq => by have := h1 q hq; omega) h3, mrg_up os ns h2 h4⟩
termination_by a b => a.length + b.length
/-- Bounds of what a cell of the merged walk bears. -/
def PrB (p : Pr) : Prop := (0 ≤ p.i ∧ p.i ≤ 2147483647) ∧ (-9223372036854775808 ≤ p.o ∧ p.o ≤ 9223372036854775807) ∧ (-9223372036854775808 ≤ p.n ∧ p.n ≤ 9223372036854775807)
abbrev BdV (l : Vw) : Prop := ∀ p ∈ l, 0 ≤ p.1 ∧ p.1 ≤ 2147483647 ∧ -9223372036854775808 ≤ p.2 ∧ p.2 ≤ 9223372036854775807
theorem mrg_bd : ∀ (a b : Vw), BdV a → BdV b → ∀ p ∈ mrg a b, PrB p
  | [], [], _, _ => by simp [mrg]
  | o :: os, [], h, h' => by
    have ih := mrg_bd os [] (fun p hp => h p (List.mem_cons_of_mem _ hp)) h'
    have ho := h o (List.mem_cons_self ..)
    rw [mrg]
    intro p hp
    rcases List.mem_cons.1 hp with rfl | hp
    · exact ⟨⟨ho.1, ho.2.1⟩, ho.2.2, (show -9223372036854775808 ≤ (0:Int) ∧ (0:Int) ≤ 9223372036854775807 by omega)⟩
    · exact ih p hp
  | [], n :: ns, h, h' => by
    have ih := mrg_bd [] ns h (fun p hp => h' p (List.mem_cons_of_mem _ hp))
    have hn := h' n (List.mem_cons_self ..)
    rw [mrg]
    intro p hp
    rcases List.mem_cons.1 hp with rfl | hp
    · exact ⟨⟨hn.1, hn.2.1⟩, (show -9223372036854775808 ≤ (0:Int) ∧ (0:Int) ≤ 9223372036854775807 by omega), hn.2.2⟩
    · exact ih p hp
  | o :: os, n :: ns, h, h' => by
    have ho := h o (List.mem_cons_self ..)
    have hn := h' n (List.mem_cons_self ..)
    have hos : BdV os := fun p hp => h p (List.mem_cons_of_mem _ hp)
    have hns : BdV ns := fun p hp => h' p (List.mem_cons_of_mem _ hp)
    rw [mrg]
    intro p hp
    split at hp
    · rcases List.mem_cons.1 hp with rfl | hp
      · exact ⟨⟨ho.1, ho.2.1⟩, ho.2.2, (show -9223372036854775808 ≤ (0:Int) ∧ (0:Int) ≤ 9223372036854775807 by omega)⟩
      · exact mrg_bd os (n :: ns) hos h' p hp
    · split at hp
      · rcases List.mem_cons.1 hp with rfl | hp
        · exact ⟨⟨hn.1, hn.2.1⟩, (show -9223372036854775808 ≤ (0:Int) ∧ (0:Int) ≤ 9223372036854775807 by omega), hn.2.2⟩
        · exact mrg_bd (o :: os) ns h hns p hp
      · rcases List.mem_cons.1 hp with rfl | hp
        · exact ⟨⟨hn.1, hn.2.1⟩, ho.2.2, hn.2.2⟩
        · exact mrg_bd os ns hos hns p hp
termination_by a b => a.length + b.length
def gP (ps : List Pr) : List Int := (ps.filter fun p => !p.stays).map (·.i)
def sP (ps : List Pr) : List Pr := ps.filter selP
theorem gP_snoc (ps : List Pr) (p : Pr) : gP (ps ++ [p]) = gP ps ++ if p.stays then [] else [p.i] := by
  unfold gP
  cases h : p.stays <;> simp [List.filter_append, h]
theorem sP_snoc (ps : List Pr) (p : Pr) : sP (ps ++ [p]) = sP ps ++ if selP p then [p] else [] := by
  unfold sP
  cases h : selP p <;> simp [List.filter_append, h]
theorem lastI_bd {l : List Int} {z : Int} (h0 : ∀ x ∈ l, 0 ≤ x) (h : ∀ x ∈ l, x < z) (hz : 0 ≤ z) : -1 ≤ lastI (-1) l ∧ lastI (-1) l < z := by
  induction l using snoc_ind with
  | h0 => simp [lastI]; omega
  | h1 l x ih =>
    rw [lastI_snoc]
    have := h0 x (by simp)
    have := h x (by simp)
    omega
theorem gapsB_len {l : List Int} (h : ∀ x ∈ l, 0 ≤ x ∧ x ≤ 2147483647) : (gapsB (-1) l).length ≤ 10 * l.length := by
  induction l using snoc_ind with
  | h0 => simp [gapsB]
  | h1 l x ih =>
    rw [gapsB_snoc, List.length_append, List.length_append]
    have h1 := ih fun y hy => h y (by simp [hy])
    have hx := h x (by simp)
    have h2 : -1 ≤ lastI (-1) l := (lastI_bd (z := 2147483648) (fun y hy => (h y (by simp [hy])).1) (fun y hy => by have := h y (by simp [hy]); omega) (by omega)).1
    have h3 := enc_len10' (n := (x - lastI (-1) l - 1).toNat) (by omega)
    rw [List.length_singleton]; omega
theorem setPB_len {l : List Pr} (h : ∀ x ∈ l, 0 ≤ x.i ∧ x.i ≤ 2147483647) : (setPB (-1) l).length ≤ 20 * l.length := by
  induction l using snoc_ind with
  | h0 => simp [setPB]
  | h1 l x ih =>
    rw [setPB_snoc, List.length_append, List.length_append, List.length_append]
    have h1 := ih fun y hy => h y (by simp [hy])
    have hx := h x (by simp)
    have h2 : -1 ≤ lastI (-1) (l.map (·.i)) := (lastI_bd (z := 2147483648) (fun y hy => by obtain ⟨p, hp, rfl⟩ := List.mem_map.1 hy; exact (h p (by simp [hp])).1) (fun y hy => by obtain ⟨p, hp, rfl⟩ := List.mem_map.1 hy; have := h p (by simp [hp]); omega) (by omega)).1
    have h3 := enc_len10' (n := (x.i - lastI (-1) (l.map (·.i)) - 1).toNat) (by omega)
    have h4 := w64_bd (x.n - x.o)
    have h5 := enc_len10' (n := zig (w64 (x.n - x.o))) (zig_lt h4.1 h4.2)
    rw [List.length_singleton]; omega
end Go.Proofs.Ytcniepogobgaoaa
