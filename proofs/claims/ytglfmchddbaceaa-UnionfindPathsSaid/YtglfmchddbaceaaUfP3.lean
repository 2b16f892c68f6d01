/-
  One more edge: the groups stay, or two of them are replaced by their union. Plain.
-/
import Derived.Test.YtglfmchddbaceaaUfP1
namespace Go.Proofs.Ytglfmchddbaceaa
set_option linter.unusedVariables false
set_option linter.unusedSimpArgs false

theorem filter_sum (l : List Int) (p : Int → Bool) : (l.filter p).length = (l.map fun z => if p z = true then 1 else 0).sum := by
  induction l with
  | nil => rfl
  | cons a t ih =>
    rw [List.map_cons, List.sum_cons, ← ih]
    by_cases h : p a = true
    · rw [List.filter_cons_of_pos h, if_pos h, List.length_cons]; omega
    · rw [List.filter_cons_of_neg h, if_neg h]; omega
def lost (gs hs : List (List Int)) : List (List Int) := gs.filter fun g => decide (g ∉ hs)
/-- What the law asks of the groups ahead of and behind one more edge. -/
structure MergeOk (gs hs : List (List Int)) (x y : Int) : Prop where
  one : ∀ g ∈ gs, g ∉ hs → (x ∈ g ↔ y ∉ g)
  num : ((lost gs hs).length = 0 ∧ hs.length = gs.length) ∨ ((lost gs hs).length = 2 ∧ hs.length + 1 = gs.length)
section
variable {n : Nat} {r : Nat → Nat}
theorem merge_ok (hr : RtOk n r) (e : Int × Int) : MergeOk (groups r n) (groups (uniE n r e) n) e.1 e.2 := by
  by_cases hs : Ins n e → r e.1.toNat = r e.2.toNat
  · rw [uni_same hs]
    refine ⟨fun g h1 h2 => absurd h1 h2, .inl ⟨?_, rfl⟩⟩
    unfold lost
    rw [List.filter_eq_nil_iff.2 (fun g hg => by simpa using hg)]; rfl
  · simp only [Classical.not_imp] at hs
    obtain ⟨ho, hne⟩ := hs
    have hj : joins n r e = true := by unfold joins; unfold Ins at ho; rw [decide_eq_true ho]; simp [hne]
    have hcnt := roots_uni hr e
    rw [hj, if_pos rfl] at hcnt
    have hr' : RtOk n (uniE n r e) := hr.uni e
    obtain ⟨a, ha⟩ : ∃ a, a = r e.1.toNat := ⟨_, rfl⟩
    obtain ⟨b, hb⟩ : ∃ b, b = r e.2.toNat := ⟨_, rfl⟩
    have h1 := hr e.1.toNat (by unfold Ins at ho; omega)
    have h2 := hr e.2.toNat (by unfold Ins at ho; omega)
    have hu : uniE n r e = joinR r a b := by unfold uniE; unfold Ins at ho; rw [if_pos ho, ha, hb]
    have hx0 : ((e.1.toNat : Nat) : Int) = e.1 := by unfold Ins at ho; omega
    have hy0 : ((e.2.toNat : Nat) : Int) = e.2 := by unfold Ins at ho; omega
    have hxn : e.1.toNat < n := by unfold Ins at ho; omega
    have hyn : e.2.toNat < n := by unfold Ins at ho; omega
    rw [← ha] at h1 hne
    rw [← hb] at h2 hne
    obtain ⟨M, hM⟩ : ∃ M, M = max a b := ⟨_, rfl⟩
    obtain ⟨m, hm⟩ : ∃ m, m = min a b := ⟨_, rfl⟩
    have hrM : r M = M := by
      rcases Nat.le_total a b with c | c
      · rw [hM, Nat.max_eq_right c]; exact h2.2
      · rw [hM, Nat.max_eq_left c]; exact h1.2
    have hrm : r m = m := by
      rcases Nat.le_total a b with c | c
      · rw [hm, Nat.min_eq_left c]; exact h1.2
      · rw [hm, Nat.min_eq_right c]; exact h2.2
    have hmM : m < M := by omega
    have hMn : M < n := by omega
    have hab : (a = m ∧ b = M) ∨ (a = M ∧ b = m) := by omega
    have jr : ∀ j, uniE n r e j = if r j = M then m else r j := by intro j; rw [hu, joinR_at, hM, hm]
    have hgr : ∀ z : Nat, z ≠ m → z ≠ M → grp (uniE n r e) z n = grp r z n := by
      intro z h3 h4
      unfold grp
      congr 1
      apply List.filter_congr
      intro i hi
      apply decide_eq_decide.2
      rw [jr]
      split <;> omega
    have hroot : ∀ z : Nat, z < n → r z = z → z ≠ M → uniE n r e z = z := by
      intro z _ h3 h4
      rw [jr, h3, if_neg h4]
    have key : ∀ z : Nat, z < n → r z = z → (grp r z n ∉ groups (uniE n r e) n ↔ z = m ∨ z = M) := by
      intro z hz hzz
      constructor
      · intro hn
        by_cases c1 : z = m
        · exact .inl c1
        · by_cases c2 : z = M
          · exact .inr c2
          · refine absurd ?_ hn
            rw [← hgr z c1 c2]
            unfold groups
            exact List.mem_map.2 ⟨(z : Int), (roots_mem _).2 ⟨z, hz, hroot z hz hzz c2, rfl⟩, by rw [Int.toNat_natCast]⟩
      · intro hc hin
        obtain ⟨z', hz', he⟩ := List.mem_map.1 hin
        obtain ⟨q, q1, q2, q3⟩ := (roots_mem _).1 hz'
        rw [q3, Int.toNat_natCast] at he
        have e1 := (grp_head hr hz hzz).2
        have e2 := (grp_head hr' q1 q2).2
        rw [he, e1] at e2
        have hqz : z = q := by omega
        subst hqz
        have hzm : z = m := by
          rcases hc with c | c
          · exact c
          · rw [jr, hzz, if_pos c] at q2; omega
        have hMin : (M : Int) ∈ grp (uniE n r e) z n := grp_mem.2 ⟨M, hMn, by rw [jr, if_pos hrM, hzm], rfl⟩
        rw [he] at hMin
        obtain ⟨i, i1, i2, i3⟩ := grp_mem.1 hMin
        have : i = M := by omega
        subst this
        omega
    have mem_z : ∀ (z i : Nat), i < n → ((i : Int) ∈ grp r z n ↔ r i = z) := by
      intro z i hi
      constructor
      · intro h; obtain ⟨q, q1, q2, q3⟩ := grp_mem.1 h; have : i = q := by omega
        subst this; exact q2
      · intro h; exact grp_mem.2 ⟨i, hi, h, rfl⟩
    refine ⟨fun g hg hn => ?_, .inr ⟨?_, by rw [groups_length, groups_length]; exact hcnt⟩⟩
    · obtain ⟨z, hz, rfl⟩ := List.mem_map.1 hg
      obtain ⟨q, q1, q2, q3⟩ := (roots_mem _).1 hz
      rw [q3, Int.toNat_natCast] at hn ⊢
      have hc := (key q q1 q2).1 hn
      rw [← hx0, ← hy0, mem_z q _ hxn, mem_z q _ hyn, ← ha, ← hb]
      omega
    · unfold lost
      have e1 : (groups r n).filter (fun g => decide (g ∉ groups (uniE n r e) n)) = ((roots r n).filter fun z => decide (z = (m : Int) ∨ z = (M : Int))).map fun z => grp r z.toNat n := by
        conv => lhs; unfold groups
        rw [List.filter_map]
        congr 1
        apply List.filter_congr
        intro z hz
        obtain ⟨q, q1, q2, q3⟩ := (roots_mem _).1 hz
        simp only [Function.comp]
        apply decide_eq_decide.2
        have := key q q1 q2
        rw [q3, Int.toNat_natCast]
        unfold groups at this
        rw [this]
        omega
      rw [e1, List.length_map, filter_sum]
      have e2 : ((roots r n).map fun z => if (decide (z = (m : Int) ∨ z = (M : Int))) = true then 1 else 0) = (roots r n).map fun z => (if z = (m : Int) then 1 else 0) + (if z = (M : Int) then 1 else 0) := by
        apply List.map_congr_left
        intro z _
        by_cases c1 : z = (m : Int) <;> by_cases c2 : z = (M : Int) <;> simp [c1, c2] <;> omega
      rw [e2, sum_add, sum_one (roots_sorted r n) ((roots_mem r).2 ⟨m, by omega, hrm, rfl⟩), sum_one (roots_sorted r n) ((roots_mem r).2 ⟨M, hMn, hrM, rfl⟩)]
end
end Go.Proofs.Ytglfmchddbaceaa
