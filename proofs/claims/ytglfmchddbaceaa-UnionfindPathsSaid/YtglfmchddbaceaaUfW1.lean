/-
  Package unionfind, New, find, Union and Same called: what they return and what becomes of the parents.
-/
import Derived.Test.YtglfmchddbaceaaUfDef
import Derived.BigRegion
import Derived.StillTailTactics
namespace Go.Proofs.Ytglfmchddbaceaa
set_option linter.unusedVariables false
set_option linter.unusedSimpArgs false
open Go.RowKit

def ints (p : List Int) : Array Value := (p.map (Value.int .i64)).toArray
theorem ints_get {p : List Int} {i : Nat} (h : i < p.length) : (ints p)[i]? = some (.int .i64 (ix p i)) := by
  simp [ints, List.getElem?_eq_getElem h, ix_get h]
theorem ints_set (p : List Int) (i : Nat) (v : Int) : (ints p).setIfInBounds i (.int .i64 v) = ints (p.set i v) := by
  simp [ints, List.map_set]

/-- The sets with the roots r lie in the blocks g (the struct) and gp (the parents). -/
def IsSets (w : World) (g gp n : Nat) (r : Nat → Nat) : Prop := ∃ p, Blk w g 49 #[.slice (some ⟨gp, 0, none⟩) n n] ∧ Blk w gp 3 (ints p) ∧ IsUF n p r ∧ n ≤ 1000

section
variable {w w' : World} {g gp n : Nat} {r : Nat → Nat}
theorem IsSets.lt (h : IsSets w g gp n r) : g < w.heap.size ∧ gp < w.heap.size := by obtain ⟨p, h1, h2, _⟩ := h; exact ⟨h1.lt, h2.lt⟩
theorem IsSets.ne (h : IsSets w g gp n r) : g ≠ gp := by
  obtain ⟨p, h1, h2, _⟩ := h
  rintro rfl
  unfold Blk at h1 h2
  rw [h1] at h2
  injection h2 with h2
  injection h2 with _ h3
  exact absurd h3 (by decide)
theorem IsSets.below {B : Nat} (h : IsSets w g gp n r) (hb : Below B w w') (h1 : g < B) (h2 : gp < B) : IsSets w' g gp n r := by
  obtain ⟨p, a, b, c⟩ := h; exact ⟨p, a.below hb h1, b.below hb h2, c⟩
theorem IsSets.drew (h : IsSets w g gp n r) : IsSets w.drew g gp n r := h
theorem IsSets.grown {row : Option Nat} (h : IsSets w g gp n r) (hg : w.grownBy w' row) (h1 : some g ≠ row) (h2 : some gp ≠ row) : IsSets w' g gp n r := by
  obtain ⟨p, a, b, c⟩ := h
  exact ⟨p, (hg.block _ a.lt h1).trans a, (hg.block _ b.lt h2).trans b, c⟩
end
/-- Only block gp has turned; no block is new. -/
def OnlyP (gp : Nat) (w w' : World) : Prop := w.grownBy w' (some gp) ∧ w'.heap.size = w.heap.size
theorem OnlyP.refl (gp : Nat) (w : World) : OnlyP gp w w := ⟨World.grownBy.refl w _, rfl⟩
theorem OnlyP.trans {gp : Nat} {a b c : World} (h : OnlyP gp a b) (k : OnlyP gp b c) : OnlyP gp a c :=
  ⟨⟨k.1.os.trans h.1.os, k.1.tape.trans h.1.tape, k.1.output.trans h.1.output, Nat.le_trans h.1.size k.1.size, fun i hi hne => (k.1.block i (by rw [h.2]; exact hi) hne).trans (h.1.block i hi hne)⟩, k.2.trans h.2⟩
theorem OnlyP.below {gp B : Nat} {a w w' : World} (hb : Below B a w) (h : OnlyP gp w w') (hB : B ≤ w.heap.size) (hg : B ≤ gp) : Below B a w' :=
  hb.grown h.1 hB (fun k hk => by injection hk with hk; omega)
theorem OnlyP.set (gp : Nat) (w : World) (i : Nat) (v : Value) : OnlyP gp w (w.setCell ⟨gp, i, none⟩ v) :=
  ⟨⟨rfl, rfl, rfl, by simp [World.setCell], fun k hk hne => Below.heap_setCell w _ _ k (fun e => hne (by rw [e]))⟩, by simp [World.setCell]⟩
theorem OnlyP.drew {gp : Nat} {a w : World} (h : OnlyP gp a w) : OnlyP gp a w.drew := ⟨⟨h.1.os, h.1.tape, h.1.output, h.1.size, h.1.block⟩, h.2⟩

theorem has_any (g gp n : Nat) (r : Nat → Nat) (a : Int) (w : World) (h : IsSets w g gp n r) (b : Bool) (hb : decide (0 ≤ a ∧ a < n) = b) :
    Calls Try.prog 33 #[.pointer (some ⟨g, 0, none⟩), .int .i64 a] w fun e w' => e = .returned (.bool b) ∧ w = w' := by
  obtain ⟨p, h1, h2, h3, h4⟩ := h
  have c0 : w.cell? ⟨g, 0, none⟩ = some (.slice (some ⟨gp, 0, none⟩) n n) := by rw [h1.cell]; rfl
  clear h1 h2 h3
  have hc : (b = true ∧ 0 ≤ a ∧ a < n) ∨ (b = false ∧ 0 ≤ a ∧ ¬ a < n) ∨ (b = false ∧ ¬ 0 ≤ a) := by
    subst hb
    by_cases h : 0 ≤ a ∧ a < n
    · exact .inl ⟨by simpa using h, h⟩
    · rw [decide_eq_false h]
      by_cases h0 : 0 ≤ a
      · exact .inr (.inl ⟨rfl, h0, fun h1 => h ⟨h0, h1⟩⟩)
      · exact .inr (.inr ⟨rfl, h0⟩)
  clear hb
  rcases hc with ⟨rfl, ha, hn⟩ | ⟨rfl, ha, hn⟩ | ⟨rfl, ha⟩
  · go_enter Try.func33, Try.ntmps33
    go_wp2
    go_ret
    exact ⟨rfl, rfl⟩
  · go_enter Try.func33, Try.ntmps33
    go_wp2
    go_ret
    exact ⟨rfl, rfl⟩
  · go_enter Try.func33, Try.ntmps33
    go_wp2
    go_ret
    exact ⟨rfl, rfl⟩

set_option maxHeartbeats 1000000 in
theorem find_any (g gp n : Nat) (r : Nat → Nat) (a : Nat) (w : World) (h : IsSets w g gp n r) (ha : a < n) :
    Calls Try.prog 29 #[.pointer (some ⟨g, 0, none⟩), .int .i64 (a : Int)] w fun e w' => e = .returned (.int .i64 (r a : Int)) ∧ IsSets w' g gp n r ∧ OnlyP gp w w' := by
  go_enter Try.func29, Try.ntmps29
  go_wp2
  go_step3
  go_wp2
  go_step3
  go_wp2
  go_loopw [1] (fun i wr => ∃ k : Nat, k < n ∧ r k = r a ∧ i = .int .i64 k ∧ IsSets wr g gp n r ∧ OnlyP gp w wr) (fun i _ => (intOf i).toNat)
  case atStart => exact ⟨a, ha, rfl, rfl, h, OnlyP.refl _ _⟩
  case round =>
    obtain ⟨k, hk, hra, rfl, hs, ho⟩ := hrel
    obtain ⟨p, h1, h2, h3, h4⟩ := hs
    have hne : g ≠ gp := IsSets.ne ⟨p, h1, h2, h3, h4⟩
    obtain ⟨q, hq, hle, hrq, hsq⟩ := h3.par k hk
    obtain ⟨q2, hq2, hle2, hrq2, hsq2⟩ := h3.par q (by omega)
    have c0 : wr.cell? ⟨g, 0, none⟩ = some (.slice (some ⟨gp, 0, none⟩) n n) := by rw [h1.cell]; rfl
    have ck : wr.cell? ⟨gp, k, none⟩ = some (.int .i64 (q : Int)) := by rw [h2.cell, ints_get (by rw [h3.len]; exact hk), hq]
    have cq : wr.cell? ⟨gp, q, none⟩ = some (.int .i64 (q2 : Int)) := by rw [h2.cell, ints_get (by rw [h3.len]; omega), hq2]
    have fk : wr.frozen? ⟨gp, k, none⟩ = false := h2.frozen _
    by_cases he : q = k
    · have hrk := hsq he
      have ht : ((q : Int) == (k : Int)) = true := by simp [he]
      have HR : Hid ((r a : Int) = (k : Int)) := by show _ = _; rw [← hra, hrk]
      have HF : Hid (IsSets wr g gp n r) := ⟨p, h1, h2, h3, h4⟩
      clear h1 h2 h3 hq hq2 hrq hsq hrq2 hsq2 hrk hra he
      go_wp2
      rw [Exit.noGoto_ret]
      go_ret
      exact ⟨ret_int HR.out.symm, HF.out, ho⟩
    · have hh := h3.halve hk hq he
      rw [hq2] at hh
      have hset : IsSets (wr.setCell ⟨gp, k, none⟩ (.int .i64 (q2 : Int))).drew g gp n r :=
        ⟨p.set k q2, (h1.far (p := ⟨gp, k, none⟩) hne _).drew, by rw [← ints_set]; exact (h2.set_ k _).drew, hh, h4⟩
      have ht : ((q : Int) == (k : Int)) = false := beq_eq_false_iff_ne.2 (by omega)
      have HS := Lib.hid hset
      have HO : Hid (OnlyP gp w (wr.setCell ⟨gp, k, none⟩ (.int .i64 (q2 : Int))).drew) := (ho.trans (OnlyP.set _ _ _ _)).drew
      have HQ : Hid (r q = r a) := hrq.trans hra
      have hi1 : (0 : Int) ≤ (q : Int) := by omega
      have hi2 : (q : Int) < (n : Int) := by omega
      have hi3 : (0 : Int) ≤ (k : Int) := by omega
      have hi4 : (k : Int) < (n : Int) := by omega
      clear h1 h2 h3 hq hq2 hrq hsq hrq2 hsq2 hra hset hh
      go_wp2
      go_still_tail 13, (by kernel_rfl)
      change wpList _ _ _ _ _ wr.drew
      go_wp2
      go_roundw
      case rel => exact ⟨q, by omega, HQ.out, rfl, HS.out, HO.out⟩
      case measure => simp [intOf]; omega

set_option maxHeartbeats 1000000 in
theorem union_no (g gp n : Nat) (r : Nat → Nat) (a b : Int) (w : World) (h : IsSets w g gp n r) (ho : ¬ (0 ≤ a ∧ a < n ∧ 0 ≤ b ∧ b < n)) :
    Calls Try.prog 25 #[.pointer (some ⟨g, 0, none⟩), .int .i64 a, .int .i64 b] w fun e w' => e = .returned (.bool false) ∧ w = w' := by
  by_cases ha : 0 ≤ a ∧ a < n
  · have h1 := decide_eq_true ha
    have h2 : decide (0 ≤ b ∧ b < n) = false := decide_eq_false (fun h => ho ⟨ha.1, ha.2, h⟩)
    have H1 := Lib.hid h1
    have H2 := Lib.hid h2
    clear h1 h2 ha ho
    go_enter Try.func25, Try.ntmps25
    go_wp2_with fail
    refine (has_any g gp n r a _ h true H1.out).mono ?_
    rintro e w1 ⟨rfl, rfl⟩
    go_wp2_with fail
    refine (has_any g gp n r b _ h false H2.out).mono ?_
    rintro e w1 ⟨rfl, rfl⟩
    go_wp2_with fail
    go_ret
    exact ⟨rfl, rfl⟩
  · have h1 := decide_eq_false ha
    have H1 := Lib.hid h1
    clear h1 ha ho
    go_enter Try.func25, Try.ntmps25
    go_wp2_with fail
    refine (has_any g gp n r a _ h false H1.out).mono ?_
    rintro e w1 ⟨rfl, rfl⟩
    go_wp2_with fail
    go_ret
    exact ⟨rfl, rfl⟩

set_option maxHeartbeats 1000000 in
theorem union_yes (g gp n : Nat) (r : Nat → Nat) (a b : Nat) (w : World) (h : IsSets w g gp n r) (ha : a < n) (hb : b < n) (res : Bool) (hres : decide (r a = r b) = !res) :
    Calls Try.prog 25 #[.pointer (some ⟨g, 0, none⟩), .int .i64 (a : Int), .int .i64 (b : Int)] w fun e w' => e = .returned (.bool res) ∧ IsSets w' g gp n (joinR r (r a) (r b)) ∧ OnlyP gp w w' := by
  have h1 : decide (0 ≤ (a : Int) ∧ (a : Int) < n) = true := decide_eq_true (by omega)
  have h2 : decide (0 ≤ (b : Int) ∧ (b : Int) < n) = true := decide_eq_true (by omega)
  obtain ⟨ra, hra⟩ : ∃ x, x = r a := ⟨_, rfl⟩
  obtain ⟨rb, hrb⟩ : ∃ x, x = r b := ⟨_, rfl⟩
  have hrla : ra ≤ a ∧ r ra = ra := by rw [hra]; obtain ⟨p, _, _, h3, _⟩ := h; exact h3.root_le a ha
  have hrlb : rb ≤ b ∧ r rb = rb := by rw [hrb]; obtain ⟨p, _, _, h3, _⟩ := h; exact h3.root_le b hb
  have fa : ∀ W : World, IsSets W g gp n r → Calls Try.prog 29 #[.pointer (some ⟨g, 0, none⟩), .int .i64 (a : Int)] W fun e w' => e = .returned (.int .i64 (ra : Int)) ∧ IsSets w' g gp n r ∧ OnlyP gp W w' := fun W hW => by rw [hra]; exact find_any g gp n r a W hW ha
  have fb : ∀ W : World, IsSets W g gp n r → Calls Try.prog 29 #[.pointer (some ⟨g, 0, none⟩), .int .i64 (b : Int)] W fun e w' => e = .returned (.int .i64 (rb : Int)) ∧ IsSets w' g gp n r ∧ OnlyP gp W w' := fun W hW => by rw [hrb]; exact find_any g gp n r b W hW hb
  rw [← hra, ← hrb] at hres ⊢
  have H1 := Lib.hid h1
  have H2 := Lib.hid h2
  have HA := Lib.hid fa
  have HB := Lib.hid fb
  have HRA : Hid (r ra = ra) := hrla.2
  have HRB : Hid (r rb = rb) := hrlb.2
  have hla := hrla.1
  have hlb := hrlb.1
  have hb2 : ((ra : Int) != (rb : Int)) = res := by
    cases res
    · have := of_decide_eq_true hres; rw [this]; simp
    · have := of_decide_eq_false hres; rw [bne_iff_ne]; omega
  clear h1 h2 fa fb hra hrb hrla hrlb hres
  go_enter Try.func25, Try.ntmps25
  go_wp2_with fail
  refine (has_any g gp n r a _ h true H1.out).mono ?_
  rintro e w1 ⟨rfl, rfl⟩
  go_wp2_with fail
  refine (has_any g gp n r b _ h true H2.out).mono ?_
  rintro e w1 ⟨rfl, rfl⟩
  go_wp2_with fail
  refine (HA.out _ h).mono ?_
  rintro e w1 ⟨rfl, hs1, ho1⟩
  go_wp2_with fail
  refine (HB.out _ hs1).mono ?_
  rintro e w2 ⟨rfl, hs2, ho2⟩
  have hne := hs2.ne
  obtain ⟨p, g1, g2, g3, g4⟩ := hs2
  have c0 : w2.cell? ⟨g, 0, none⟩ = some (.slice (some ⟨gp, 0, none⟩) n n) := by rw [g1.cell]; rfl
  obtain ⟨v0, cM⟩ : ∃ v, w2.cell? ⟨gp, max ra rb, none⟩ = some v := ⟨_, by rw [g2.cell]; exact ints_get (by rw [g3.len]; omega)⟩
  have fM : w2.frozen? ⟨gp, max ra rb, none⟩ = false := g2.frozen _
  have hj := g3.join (a := ra) (b := rb) (by omega) (by omega) HRA.out HRB.out
  have hset : IsSets (w2.setCell ⟨gp, max ra rb, none⟩ (.int .i64 ((min ra rb : Nat) : Int))) g gp n (joinR r ra rb) :=
    ⟨p.set (max ra rb) ((min ra rb : Nat) : Int), g1.far (p := ⟨gp, max ra rb, none⟩) hne _, by rw [← ints_set]; exact g2.set_ _ _, hj, g4⟩
  have hof := (ho1.trans ho2).trans (OnlyP.set gp w2 (max ra rb) (.int .i64 ((min ra rb : Nat) : Int)))
  have eM : max ra rb = (max (ra : Int) (rb : Int)).toNat := by omega
  have em : ((min ra rb : Nat) : Int) = min (ra : Int) (rb : Int) := by omega
  rw [eM] at cM fM
  rw [eM, em] at hset hof
  have HS := Lib.hid hset
  have HO := Lib.hid hof
  clear hset hj g1 g2 g3 hs1 hof eM em
  go_wp2
  go_ret
  exact ⟨rfl, HS.out, HO.out⟩

set_option maxHeartbeats 1000000 in
theorem same_no (g gp n : Nat) (r : Nat → Nat) (a b : Int) (w : World) (h : IsSets w g gp n r) (ho : ¬ (0 ≤ a ∧ a < n ∧ 0 ≤ b ∧ b < n)) :
    Calls Try.prog 26 #[.pointer (some ⟨g, 0, none⟩), .int .i64 a, .int .i64 b] w fun e w' => e = .returned (.bool false) ∧ w = w' := by
  by_cases ha : 0 ≤ a ∧ a < n
  · have h1 := decide_eq_true ha
    have h2 : decide (0 ≤ b ∧ b < n) = false := decide_eq_false (fun h => ho ⟨ha.1, ha.2, h⟩)
    have H1 := Lib.hid h1
    have H2 := Lib.hid h2
    clear h1 h2 ha ho
    go_enter Try.func26, Try.ntmps26
    go_wp2_with fail
    refine (has_any g gp n r a _ h true H1.out).mono ?_
    rintro e w1 ⟨rfl, rfl⟩
    go_wp2_with fail
    refine (has_any g gp n r b _ h false H2.out).mono ?_
    rintro e w1 ⟨rfl, rfl⟩
    go_wp2_with fail
    go_ret
    exact ⟨rfl, rfl⟩
  · have h1 := decide_eq_false ha
    have H1 := Lib.hid h1
    clear h1 ha ho
    go_enter Try.func26, Try.ntmps26
    go_wp2_with fail
    refine (has_any g gp n r a _ h false H1.out).mono ?_
    rintro e w1 ⟨rfl, rfl⟩
    go_wp2_with fail
    go_ret
    exact ⟨rfl, rfl⟩

set_option maxHeartbeats 1000000 in
theorem same_yes (g gp n : Nat) (r : Nat → Nat) (a b : Nat) (w : World) (h : IsSets w g gp n r) (ha : a < n) (hb : b < n) (res : Bool) (hres : decide (r a = r b) = res) :
    Calls Try.prog 26 #[.pointer (some ⟨g, 0, none⟩), .int .i64 (a : Int), .int .i64 (b : Int)] w fun e w' => e = .returned (.bool res) ∧ IsSets w' g gp n r ∧ OnlyP gp w w' := by
  have h1 : decide (0 ≤ (a : Int) ∧ (a : Int) < n) = true := decide_eq_true (by omega)
  have h2 : decide (0 ≤ (b : Int) ∧ (b : Int) < n) = true := decide_eq_true (by omega)
  have hb2 : ((r a : Int) == (r b : Int)) = res := by
    cases res
    · have := of_decide_eq_false hres; rw [beq_eq_false_iff_ne]; omega
    · have := of_decide_eq_true hres; rw [this]; simp
  have H1 := Lib.hid h1
  have H2 := Lib.hid h2
  clear h1 h2 hres
  go_enter Try.func26, Try.ntmps26
  go_wp2_with fail
  refine (has_any g gp n r a _ h true H1.out).mono ?_
  rintro e w1 ⟨rfl, rfl⟩
  go_wp2_with fail
  refine (has_any g gp n r b _ h true H2.out).mono ?_
  rintro e w1 ⟨rfl, rfl⟩
  go_wp2_with fail
  refine (find_any g gp n r a _ h ha).mono ?_
  rintro e w1 ⟨rfl, hs1, ho1⟩
  go_wp2_with fail
  refine (find_any g gp n r b _ hs1 hb).mono ?_
  rintro e w2 ⟨rfl, hs2, ho2⟩
  go_wp2_with fail
  go_ret
  exact ⟨rfl, hs2, ho1.trans ho2⟩

theorem run_make_ints (n : Nat) (hn : n < 1000000) (W : World) :
    (Instr.makeSlice 22 (.int .i64 (n : Int)) (.int .i64 (n : Int))).run Try.prog W = .ok (.slice (some ⟨W.heap.size, 0, none⟩) n n) (W.alloc (.cells (madeCells #[.int .i64 0] n) 3)) := by
  obtain ⟨i0, hi0, hz0, hz1, hz2⟩ := info_parts int_info3
  have hr := run_make (P := Try.prog) W 22 3 i0 (.int .i64 0) Try.underlying22 hi0 hz0 .i64 .i64 (n : Int) (n : Int) (by omega) (by omega) (by rw [hz2]; omega) (by omega)
  simp only [Int.toNat_natCast, hz1, Nat.mul_one] at hr
  exact hr
theorem made_ints (n : Nat) : madeCells #[.int .i64 0] n = ints (List.replicate n 0) := by
  apply Array.ext'
  simp [madeCells, ints, Nat.mod_one]
  apply List.ext_getElem
  · simp
  · intro i h1 h2; simp

/-- The first k numbers are themselves, the others 0. -/
def upTo (n k : Nat) : List Int := (List.range n).map fun i => if i < k then (i : Int) else 0
theorem upTo_zero (n : Nat) : upTo n 0 = List.replicate n 0 := by
  apply List.ext_getElem (by simp [upTo])
  intro i h1 h2; simp [upTo]
theorem upTo_len (n k : Nat) : (upTo n k).length = n := by simp [upTo]
theorem upTo_step (n k : Nat) (h : k < n) : (upTo n k).set k (k : Int) = upTo n (k + 1) := by
  apply List.ext_getElem (by simp [upTo])
  intro i h1 h2
  simp [upTo, List.getElem_set]
  split
  · subst_vars; simp
  · by_cases h3 : i < k
    · simp [h3, Nat.lt_succ_of_lt h3]
    · simp [h3, show ¬ i < k + 1 from by omega]
theorem upTo_all (n : Nat) : upTo n n = (List.range n).map fun i : Nat => (i : Int) := by
  unfold upTo
  apply List.map_congr_left
  intro i hi
  rw [if_pos (by simpa using hi)]

set_option maxHeartbeats 1000000 in
theorem new_any (n : Nat) (w : World) (hn : n ≤ 1000) :
    Calls Try.prog 22 #[.int .i64 (n : Int)] w fun e w' => ∃ g gp, e = .returned (.pointer (some ⟨g, 0, none⟩)) ∧ w.heap.size ≤ g ∧ w.heap.size ≤ gp ∧ IsSets w' g gp n id ∧ Below w.heap.size w w' := by
  have hmk := run_make_ints n (by omega)
  go_enter Try.func22, Try.ntmps22
  go_wp2
  go_loopw [4, 14] (fun _ i wr => ∃ k : Nat, k ≤ n ∧ i = .int .i64 k ∧ Blk wr (w.heap.size + 1) 49 #[.slice (some ⟨w.heap.size, 0, none⟩) n n] ∧ Blk wr w.heap.size 3 (ints (upTo n k)) ∧ Below w.heap.size w wr) (fun _ i _ => n - (intOf i).toNat)
  case atStart =>
    refine ⟨0, Nat.zero_le _, rfl, ?_, ?_, ((Below.refl _ _).alloc (Nat.le_refl _) _).alloc (by simp) _⟩
    · have := Blk.new (w.alloc (.cells (madeCells #[.int .i64 0] n) 3)) 49 #[.slice (some ⟨w.heap.size, 0, none⟩) n n]
      rwa [World.size_alloc] at this
    · rw [upTo_zero, ← made_ints]
      exact (Blk.new w 3 _).alloc _
  case round =>
    obtain ⟨k, hk, rfl, h1, h2, hb⟩ := hrel
    by_cases hlt : k < n
    · have c0 : wr.cell? ⟨w.heap.size + 1, 0, none⟩ = some (.slice (some ⟨w.heap.size, 0, none⟩) n n) := by rw [h1.cell]; rfl
      have ck : wr.cell? ⟨w.heap.size, k, none⟩ = some (.int .i64 (ix (upTo n k) k)) := by rw [h2.cell, ints_get (by rw [upTo_len]; exact hlt)]
      have fk : wr.frozen? ⟨w.heap.size, k, none⟩ = false := h2.frozen _
      have H1 : Hid (Blk (wr.setCell ⟨w.heap.size, k, none⟩ (.int .i64 (k : Int))) (w.heap.size + 1) 49 #[.slice (some ⟨w.heap.size, 0, none⟩) n n]) := h1.far (p := ⟨w.heap.size, k, none⟩) (by simp) _
      have H2 : Hid (Blk (wr.setCell ⟨w.heap.size, k, none⟩ (.int .i64 (k : Int))) w.heap.size 3 (ints (upTo n (k + 1)))) := by
        show Blk _ _ _ _
        rw [← upTo_step n k hlt, ← ints_set]; exact h2.set_ k _
      clear h1 h2
      go_wp2
      go_roundw
      case rel => exact ⟨k + 1, by omega, by go_num, H1.out, H2.out, hb.setCell (Nat.le_refl _) _⟩
      case measure => simp [intOf]; omega
    · obtain rfl : k = n := by omega
      go_wp2
      go_ret
      exact ⟨_, _, rfl, by omega, Nat.le_refl _, ⟨upTo k k, h1, h2, by rw [upTo_all]; exact IsUF.new k, hn⟩, hb⟩

theorem union_s (g gp n : Nat) (r r' : Nat → Nat) (a b : Int) (res : Bool) (w : World) (h : IsSets w g gp n r) (hr : r' = uniE n r (a, b)) (hres : joins n r (a, b) = res) :
    Calls Try.prog 25 #[.pointer (some ⟨g, 0, none⟩), .int .i64 a, .int .i64 b] w fun e w' => e = .returned (.bool res) ∧ IsSets w' g gp n r' ∧ OnlyP gp w w' := by
  subst hr hres
  by_cases ho : 0 ≤ a ∧ a < n ∧ 0 ≤ b ∧ b < n
  · obtain ⟨x, rfl⟩ : ∃ x : Nat, a = (x : Int) := ⟨a.toNat, by omega⟩
    obtain ⟨y, rfl⟩ : ∃ y : Nat, b = (y : Int) := ⟨b.toNat, by omega⟩
    have e1 : uniE n r ((x : Int), (y : Int)) = joinR r (r x) (r y) := by unfold uniE; rw [if_pos ho]; simp
    rw [e1]
    refine union_yes g gp n r x y w h (by omega) (by omega) _ ?_
    unfold joins
    rw [decide_eq_true ho]
    by_cases hxy : r x = r y <;> simp [hxy]
  · have e1 : uniE n r (a, b) = r := by unfold uniE; rw [if_neg ho]
    have e2 : joins n r (a, b) = false := by unfold joins; rw [decide_eq_false ho]; rfl
    rw [e1, e2]
    refine (union_no g gp n r a b w h ho).mono ?_
    rintro e w' ⟨rfl, rfl⟩
    exact ⟨rfl, h, OnlyP.refl _ _⟩
theorem same_s (g gp n : Nat) (r : Nat → Nat) (a b : Int) (res : Bool) (w : World) (h : IsSets w g gp n r) (hres : sames n r a b = res) :
    Calls Try.prog 26 #[.pointer (some ⟨g, 0, none⟩), .int .i64 a, .int .i64 b] w fun e w' => e = .returned (.bool res) ∧ IsSets w' g gp n r ∧ OnlyP gp w w' := by
  subst hres
  by_cases ho : 0 ≤ a ∧ a < n ∧ 0 ≤ b ∧ b < n
  · obtain ⟨x, rfl⟩ : ∃ x : Nat, a = (x : Int) := ⟨a.toNat, by omega⟩
    obtain ⟨y, rfl⟩ : ∃ y : Nat, b = (y : Int) := ⟨b.toNat, by omega⟩
    refine same_yes g gp n r x y w h (by omega) (by omega) _ ?_
    unfold sames
    rw [decide_eq_true ho]; simp
  · have e2 : sames n r a b = false := by unfold sames; rw [decide_eq_false ho]; rfl
    rw [e2]
    refine (same_no g gp n r a b w h ho).mono ?_
    rintro e w' ⟨rfl, rfl⟩
    exact ⟨rfl, h, OnlyP.refl _ _⟩

end Go.Proofs.Ytglfmchddbaceaa
