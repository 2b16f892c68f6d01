/-
  The reference of package unionfind, called.
-/
import Derived.Test.YtglfmchddbaceaaUfW4
import Derived.Test.YtglfmchddbaceaaUfRef
namespace Go.Proofs.Ytglfmchddbaceaa
set_option linter.unusedVariables false
set_option linter.unusedSimpArgs false
open Go.RowKit

theorem Own.blk_ge {T : TypeId} {w : World} {B n c : Nat} {A : Option Addr} {zs : List Int} (h : Own T w B (.slice A n c) zs) : ∀ b off, A = some ⟨b, off, none⟩ → B ≤ b := by
  rintro b off rfl
  rcases h.2 with ⟨h0, _⟩ | ⟨g, cap, cur, hv, hb, _⟩
  · cases h0
  · injection hv with e1
    injection e1 with e1
    injection e1 with e1
    omega
theorem rnew_any (n : Nat) (w : World) (hn : n ≤ 1000) :
    Calls Try.prog 23 #[.int .i64 (n : Int)] w fun e w' => ∃ A c, e = .returned (.slice A n c) ∧ Rd w' w'.heap.size A (labs id n) ∧ Below w.heap.size w w' ∧ ∀ b off, A = some ⟨b, off, none⟩ → w.heap.size ≤ b := by
  go_enter Try.func23, Try.ntmps23
  go_wp2
  go_loopw [3, 4] (fun v i wr => ∃ k : Nat, k ≤ n ∧ i = .int .i64 k ∧ (∃ A2 c2, v = .slice A2 k c2 ∧ Own 3 wr w.heap.size (.slice A2 k c2) (labs id k)) ∧ Below w.heap.size w wr) (fun _ i _ => n - (intOf i).toNat)
  case atStart => exact ⟨0, Nat.zero_le _, rfl, ⟨none, 0, rfl, Own.nil _ _ _⟩, Below.refl _ _⟩
  case round =>
    obtain ⟨k, hk, rfl, ⟨A2, c2, rfl, hown⟩, hb⟩ := hrel
    have hl := labs_len id k
    by_cases hlt : k < n
    · have HS := Lib.hid (labs_snoc id k)
      have hln : (labs id k).length < 1000000000000 := by rw [hl]; omega
      have hln2 : Hid ((labs id k).length + 1 = k + 1) := by show _ = _; rw [hl]
      clear hl
      have hsz := hb.size
      go_wp2_with (at_builtin; refine wpl_append1 rfl (.tmp 10) (.tmp 12) 22 rfl 3 Try.underlying22 int_info3 w.heap.size _ _ rfl (hown.alloc _) ⟨wr.heap.size, 0, none⟩ 1 (k : Int) (k + 1) hln2.out rfl (int_one _ _) hln (by simp; omega) ?_; intro A3 c3 w1 hown' hb')
      go_roundw
      case rel => exact ⟨k + 1, by omega, by go_num, ⟨A3, c3, rfl, by rw [HS.out]; exact hown'.out⟩, (hb.alloc hb.size _).trans hb'⟩
      case measure => simp [intOf]; omega
    · obtain rfl : k = n := by omega
      clear hl
      go_wp2
      go_ret
      exact ⟨A2, c2, rfl, hown.rd, hb, hown.blk_ge⟩

theorem rin_any (A : Option Addr) (n c : Nat) (z : Int) (w : World) (hn : n ≤ 1000) (b : Bool) (hb : decide (0 ≤ z ∧ z < n) = b) :
    Calls Try.prog 32 #[.slice A n c, .int .i64 z] w fun e w' => e = .returned (.bool b) ∧ w = w' := by
  subst hb
  by_cases h1 : 0 ≤ z
  · by_cases h2 : z < n
    · rw [decide_eq_true ⟨h1, h2⟩]
      go_enter Try.func32, Try.ntmps32
      go_wp2
      go_ret
      exact ⟨rfl, rfl⟩
    · rw [decide_eq_false (by omega)]
      go_enter Try.func32, Try.ntmps32
      go_wp2
      go_ret
      exact ⟨rfl, rfl⟩
  · rw [decide_eq_false (by omega)]
    go_enter Try.func32, Try.ntmps32
    go_wp2
    go_ret
    exact ⟨rfl, rfl⟩

theorem labs_at {w : World} {B n : Nat} {A : Option Addr} {lab : Nat → Nat} (h : Rd w B A (labs lab n)) (hn : 0 < n) : ∃ b off, A = some ⟨b, off, none⟩ ∧ b < B ∧ ∀ x : Nat, x < n → w.cell? ⟨b, off + x, none⟩ = some (.int .i64 (lab x : Int)) := by
  obtain ⟨b, off, e, hb, hc⟩ := h (by rw [labs_len]; exact hn)
  refine ⟨b, off, e, hb, fun x hx => ?_⟩
  have := hc x (by rw [labs_len]; exact hx)
  rw [this]
  show some (Value.int .i64 (ix (labs lab n) x)) = _
  rw [labs_ix lab hx]

set_option maxHeartbeats 1000000 in
theorem rsame_any (A : Option Addr) (n c : Nat) (lab : Nat → Nat) (a b : Int) (res : Bool) (B : Nat) (w : World) (hn : n ≤ 1000) (hr : Rd w B A (labs lab n)) (hres : sames n lab a b = res) :
    Calls Try.prog 27 #[.slice A n c, .int .i64 a, .int .i64 b] w fun e w' => e = .returned (.bool res) ∧ Below w.heap.size w w' := by
  by_cases ha : 0 ≤ a ∧ a < n
  · have H1 := Lib.hid (decide_eq_true ha)
    by_cases hb : 0 ≤ b ∧ b < n
    · have H2 := Lib.hid (decide_eq_true hb)
      obtain ⟨x, rfl⟩ : ∃ x : Nat, a = (x : Int) := ⟨a.toNat, by omega⟩
      obtain ⟨y, rfl⟩ : ∃ y : Nat, b = (y : Int) := ⟨b.toNat, by omega⟩
      have hx : x < n := by omega
      have hy : y < n := by omega
      obtain ⟨bl, off, rfl, hbb, hc⟩ := labs_at hr (by omega)
      have c1 := hc x hx
      have c2 := hc y hy
      have e3 : decide (lab x = lab y) = res := by
        rw [← hres]; unfold sames
        rw [decide_eq_true (⟨ha.1, ha.2, hb.1, hb.2⟩ : 0 ≤ (x : Int) ∧ (x : Int) < n ∧ 0 ≤ (y : Int) ∧ (y : Int) < n)]; simp
      have e4 : ((lab x : Int) == (lab y : Int)) = res := by
        cases res
        · have := of_decide_eq_false e3; rw [beq_eq_false_iff_ne]; omega
        · have := of_decide_eq_true e3; rw [this]; simp
      clear hc hres e3 hr
      go_enter Try.func27, Try.ntmps27
      go_wp2_with fail
      refine (rin_any _ n c (x : Int) _ hn true H1.out).mono ?_
      rintro e w1 ⟨rfl, rfl⟩
      go_wp2_with fail
      refine (rin_any _ n c (y : Int) _ hn true H2.out).mono ?_
      rintro e w1 ⟨rfl, rfl⟩
      go_wp2_with fail
      go_quiet (fail)
      go_wp2
      go_ret
      exact ⟨rfl, below_drewN (Below.refl _ _) _⟩
    · have H2 := Lib.hid (decide_eq_false hb)
      have e3 : res = false := by
        rw [← hres]; unfold sames
        rw [decide_eq_false (by omega)]; rfl
      subst e3
      clear hres hr hb ha
      go_enter Try.func27, Try.ntmps27
      go_wp2_with fail
      refine (rin_any _ n c a _ hn true H1.out).mono ?_
      rintro e w1 ⟨rfl, rfl⟩
      go_wp2_with fail
      refine (rin_any _ n c b _ hn false H2.out).mono ?_
      rintro e w1 ⟨rfl, rfl⟩
      go_wp2_with fail
      go_ret
      exact ⟨rfl, Below.refl _ _⟩
  · have H1 := Lib.hid (decide_eq_false ha)
    have e3 : res = false := by
      rw [← hres]; unfold sames
      rw [decide_eq_false (by omega)]; rfl
    subst e3
    clear hres hr ha
    go_enter Try.func27, Try.ntmps27
    go_wp2_with fail
    refine (rin_any _ n c a _ hn false H1.out).mono ?_
    rintro e w1 ⟨rfl, rfl⟩
    go_wp2_with fail
    go_ret
    exact ⟨rfl, Below.refl _ _⟩

set_option maxHeartbeats 1000000 in
theorem runion_any (A : Option Addr) (n c : Nat) (lab lab' : Nat → Nat) (a b : Int) (res : Bool) (w : World) (hn : n ≤ 1000) (hr : Rd w w.heap.size A (labs lab n)) (hlab : lab' = refE n lab (a, b)) (hres : joins n lab (a, b) = res) :
    Calls Try.prog 24 #[.slice A n c, .int .i64 a, .int .i64 b] w fun e w' => ∃ A' c', e = .returned (.tuple #[.slice A' n c', .bool res]) ∧ Rd w' w'.heap.size A' (labs lab' n) ∧ Below w.heap.size w w' ∧ (A' = A ∨ ∀ b off, A' = some ⟨b, off, none⟩ → w.heap.size ≤ b) := by
  by_cases ha : 0 ≤ a ∧ a < n
  · have H1 := Lib.hid (decide_eq_true ha)
    by_cases hb : 0 ≤ b ∧ b < n
    · have H2 := Lib.hid (decide_eq_true hb)
      obtain ⟨x, rfl⟩ : ∃ x : Nat, a = (x : Int) := ⟨a.toNat, by omega⟩
      obtain ⟨y, rfl⟩ : ∃ y : Nat, b = (y : Int) := ⟨b.toNat, by omega⟩
      have hx : x < n := by omega
      have hy : y < n := by omega
      have HR := Lib.hid hr
      obtain ⟨bl, off, rfl, hbb, hc⟩ := labs_at hr (by omega)
      have c1 := hc x hx
      have c2 := hc y hy
      have HC := Lib.hid hc
      have e2 : lab' = fun i => if lab i = lab y then lab x else lab i := by
        rw [hlab]; unfold refE
        rw [if_pos (by omega)]; simp
      have HL := Lib.hid e2
      by_cases hxy : lab x = lab y
      · have e3 : res = false := by
          rw [← hres]; unfold joins
          simp [hxy]
        subst e3
        have e4 : lab' = lab := by
          rw [e2]; funext i; split
          · rename_i h; rw [h, hxy]
          · rfl
        have HL2 := Lib.hid e4
        rw [hxy] at c1
        clear hc hres hr e2 e4 hlab hxy
        go_enter Try.func24, Try.ntmps24
        go_wp2_with fail
        refine (rin_any _ n c (x : Int) _ hn true H1.out).mono ?_
        rintro e w1 ⟨rfl, rfl⟩
        go_wp2_with fail
        refine (rin_any _ n c (y : Int) _ hn true H2.out).mono ?_
        rintro e w1 ⟨rfl, rfl⟩
        go_wp2_with fail
        go_ret2
        exact ⟨_, _, rfl, by rw [HL2.out]; exact HR.out, Below.refl _ _, .inl rfl⟩
      · have e3 : res = true := by
          rw [← hres]; unfold joins
          rw [decide_eq_true (by omega)]
          simp [hxy]
        subst e3
        have hne : ((lab x : Int) == (lab y : Int)) = false := beq_eq_false_iff_ne.2 (by omega)
        clear hc hres hr e2 hlab hxy
        go_enter Try.func24, Try.ntmps24
        go_wp2_with fail
        refine (rin_any _ n c (x : Int) _ hn true H1.out).mono ?_
        rintro e w1 ⟨rfl, rfl⟩
        go_wp2_with fail
        refine (rin_any _ n c (y : Int) _ hn true H2.out).mono ?_
        rintro e w1 ⟨rfl, rfl⟩
        go_wp2_with fail
        go_loopw [10, 11, 12] (fun v i _ wr => ∃ k : Nat, k ≤ n ∧ i = .int .i64 k ∧ (∃ A2 c2, v = .slice A2 k c2 ∧ Own 3 wr w.heap.size (.slice A2 k c2) (labs lab' k)) ∧ Below w.heap.size w wr) (fun _ i _ _ => n - (intOf i).toNat)
        case atStart => exact ⟨0, Nat.zero_le _, rfl, ⟨none, 0, rfl, Own.nil _ _ _⟩, Below.refl _ _⟩
        case round =>
          obtain ⟨k, hk, rfl, ⟨A2, c2, rfl, hown⟩, hbw⟩ := hrel
          by_cases hlt : k < n
          · have ck := (hbw.cell (p := ⟨bl, off + k, none⟩) hbb).trans (HC.out k hlt)
            have hl := labs_len lab' k
            have HS := Lib.hid (labs_snoc lab' k)
            have hln : (labs lab' k).length < 1000000000000 := by rw [hl]; omega
            have hln2 : Hid ((labs lab' k).length + 1 = k + 1) := by show _ = _; rw [hl]
            clear hl
            have hsz := hbw.size
            by_cases hky : lab k = lab y
            · have HE : Hid ((lab' k : Int) = (lab x : Int)) := by show _ = _; rw [HL.out]; simp [hky]
              rw [hky] at ck
              clear hky
              go_wp2_with (at_builtin; refine wpl_append1 rfl (.tmp 50) (.tmp 52) 22 rfl 3 Try.underlying22 int_info3 w.heap.size _ _ rfl (hown.alloc _) ⟨wr.heap.size, 0, none⟩ 1 (lab x : Int) (k + 1) hln2.out rfl (int_one _ _) hln (by simp; omega) ?_; intro A3 c3 w1 hown' hb')
              go_roundw
              case rel => exact ⟨k + 1, by omega, by go_num, ⟨A3, c3, rfl, by rw [HS.out, HE.out]; exact hown'.out⟩, (hbw.alloc hbw.size _).trans hb'⟩
              case measure => simp [intOf]; omega
            · have HE : Hid ((lab' k : Int) = (lab k : Int)) := by show _ = _; rw [HL.out]; simp [hky]
              have hky2 : ((lab k : Int) == (lab y : Int)) = false := beq_eq_false_iff_ne.2 (by omega)
              clear hky
              go_wp2_with (at_builtin; refine wpl_append1 rfl (.tmp 50) (.tmp 52) 22 rfl 3 Try.underlying22 int_info3 w.heap.size _ _ rfl (hown.alloc _) ⟨wr.heap.size, 0, none⟩ 1 (lab k : Int) (k + 1) hln2.out rfl (int_one _ _) hln (by simp; omega) ?_; intro A3 c3 w1 hown' hb')
              go_roundw
              case rel => exact ⟨k + 1, by omega, by go_num, ⟨A3, c3, rfl, by rw [HS.out, HE.out]; exact hown'.out⟩, (hbw.alloc hbw.size _).trans hb'⟩
              case measure => simp [intOf]; omega
          · obtain rfl : k = n := by omega
            go_wp2
            go_ret2
            exact ⟨A2, c2, rfl, hown.rd, hbw, .inr hown.blk_ge⟩
    · have H2 := Lib.hid (decide_eq_false hb)
      have e3 : res = false := by
        rw [← hres]; unfold joins
        rw [decide_eq_false (by omega)]; rfl
      subst e3
      have e4 : lab' = lab := by rw [hlab]; unfold refE; rw [if_neg (by omega)]
      have HL2 := Lib.hid e4
      have HR := Lib.hid hr
      clear hres hr hb ha hlab e4
      go_enter Try.func24, Try.ntmps24
      go_wp2_with fail
      refine (rin_any _ n c a _ hn true H1.out).mono ?_
      rintro e w1 ⟨rfl, rfl⟩
      go_wp2_with fail
      refine (rin_any _ n c b _ hn false H2.out).mono ?_
      rintro e w1 ⟨rfl, rfl⟩
      go_wp2_with fail
      go_ret2
      exact ⟨_, _, rfl, by rw [HL2.out]; exact HR.out, Below.refl _ _, .inl rfl⟩
  · have H1 := Lib.hid (decide_eq_false ha)
    have e3 : res = false := by
      rw [← hres]; unfold joins
      rw [decide_eq_false (by omega)]; rfl
    subst e3
    have e4 : lab' = lab := by rw [hlab]; unfold refE; rw [if_neg (by omega)]
    have HL2 := Lib.hid e4
    have HR := Lib.hid hr
    clear hres hr ha hlab e4
    go_enter Try.func24, Try.ntmps24
    go_wp2_with fail
    refine (rin_any _ n c a _ hn false H1.out).mono ?_
    rintro e w1 ⟨rfl, rfl⟩
    go_wp2_with fail
    go_ret2
    exact ⟨_, _, rfl, by rw [HL2.out]; exact HR.out, Below.refl _ _, .inl rfl⟩

/-- A slice of slices none of which shares its block with the row d. -/
def OwnX (w : World) (Bo Bi : Nat) (v : Value) (gs : List (List Int)) (d : Value) : Prop :=
  ∃ vals, w.ownsRow Bo 22 1 v gs.length vals ∧ ∀ j, j < gs.length → ∃ A c, vals[j]? = some (.slice A (gx gs j).length c) ∧ Own 3 w Bi (.slice A (gx gs j).length c) (gx gs j) ∧ ∀ k, (Value.slice A (gx gs j).length c).ownBlock = some k → d.ownBlock ≠ some k
theorem OwnX.toM {w : World} {Bo Bi : Nat} {v d : Value} {gs : List (List Int)} (h : OwnX w Bo Bi v gs d) : OwnM w Bo Bi v gs := by
  obtain ⟨vals, h1, h2⟩ := h
  refine ⟨vals, h1, fun j hj => ?_⟩
  obtain ⟨A, c, e, ho, _⟩ := h2 j hj
  exact ⟨A, c, e, ho⟩
theorem OwnX.nil (w : World) (Bo Bi : Nat) (d : Value) : OwnX w Bo Bi (.slice none 0 0) [] d := ⟨[], World.ownsRow_nil _ _ _ _, fun j hj => absurd hj (by simp)⟩
theorem OwnX.below {w w' : World} {Bo Bi : Nat} {v d : Value} {gs : List (List Int)} (h : OwnX w Bo Bi v gs d) (hb : Below w.heap.size w w') : OwnX w' Bo Bi v gs d := by
  obtain ⟨vals, h1, h2⟩ := h
  refine ⟨vals, ownsRow_below h1 hb, fun j hj => ?_⟩
  obtain ⟨A, c, e, ho, hd⟩ := h2 j hj
  exact ⟨A, c, e, ho.below hb, hd⟩
theorem Own.blk_lt {T : TypeId} {w : World} {B k : Nat} {v : Value} {zs : List Int} (h : Own T w B v zs) (hk : v.ownBlock = some k) : k < w.heap.size := by
  rcases h.2 with ⟨rfl, _⟩ | ⟨g, cap, cur, rfl, _, hh, _⟩
  · simp [Value.ownBlock] at hk
  · have : g = k := by simpa [Value.ownBlock] using hk
    subst this
    exact (Array.getElem?_eq_some_iff.1 hh).1
theorem ownsRow_blk_lt {w : World} {B k n : Nat} {e : TypeId} {size : Nat} {v : Value} {xs : List Value} (h : w.ownsRow B e size v n xs) (hk : v.ownBlock = some k) : k < w.heap.size := by
  rcases h.2 with ⟨rfl, _⟩ | ⟨g, cap, cur, rfl, _, hh, _⟩
  · simp [Value.ownBlock] at hk
  · have : g = k := by simpa [Value.ownBlock] using hk
    subst this
    exact (Array.getElem?_eq_some_iff.1 hh).1
/-- Two rows of different types do not share a block, told the other way. -/
theorem row_apart {w w' : World} {B B' n m : Nat} {v u : Value} {xs : List Value} {zs : List Int} (h : w.ownsRow B 22 1 v n xs) (hz : Own 3 w B' u zs) (hg : w.grownBy w' u.ownBlock) : w'.ownsRow B 22 1 v n xs := by
  refine ⟨h.1, ?_⟩
  rcases h.2 with h0 | ⟨g, cap, cur, hv, hb, hh, hr⟩
  · exact .inl h0
  · refine .inr ⟨g, cap, cur, hv, hb, (hg.block g (Array.getElem?_eq_some_iff.1 hh).1 ?_).trans hh, hr⟩
    intro e
    rcases hz.2 with ⟨rfl, _⟩ | ⟨g', cap', cur', rfl, _, hh', _⟩
    · simp [Value.ownBlock] at e
    · have : g' = g := by simpa [Value.ownBlock] using e.symm
      subst this
      rw [hh] at hh'
      injection hh' with h1
      injection h1 with _ h2
      exact absurd h2 (by decide)
theorem Own.far {T : TypeId} {w w' : World} {B : Nat} {v : Value} {zs : List Int} {row : Option Nat} (h : Own T w B v zs) (hg : w.grownBy w' row) (hne : ∀ k, v.ownBlock = some k → row ≠ some k) : Own T w' B v zs := by
  refine ⟨h.1, ?_⟩
  rcases h.2 with h0 | ⟨g, cap, cur, hv, hb, hh, hr⟩
  · exact .inl h0
  · refine .inr ⟨g, cap, cur, hv, hb, (hg.block g (Array.getElem?_eq_some_iff.1 hh).1 ?_).trans hh, hr⟩
    intro e
    exact hne g (by rw [hv]; simp [Value.ownBlock]) e.symm
/-- One more number behind the row d: the slices stay, and stay apart from it. -/
theorem OwnX.grow {w w' : World} {Bo Bi B : Nat} {v d d' : Value} {gs : List (List Int)} {zs : List Int} (h : OwnX w Bo Bi v gs d) (hd : Own 3 w B d zs) (hg : w.grownBy w' d.ownBlock) (hl : d'.ownBlock = d.ownBlock ∨ ∃ k, d'.ownBlock = some k ∧ w.heap.size ≤ k) : OwnX w' Bo Bi v gs d' := by
  obtain ⟨vals, h1, h2⟩ := h
  refine ⟨vals, row_apart (m := 0) h1 hd hg, fun j hj => ?_⟩
  obtain ⟨A, c, e, ho, hn⟩ := h2 j hj
  refine ⟨A, c, e, ho.far hg hn, fun k hk => ?_⟩
  rcases hl with hl | ⟨k', hl, hk'⟩
  · rw [hl]; exact hn k hk
  · rw [hl]
    intro e; injection e with e
    have := ho.blk_lt hk
    omega
/-- One more slice behind the slices. -/
theorem OwnX.snoc {w w' : World} {Bo Bi c : Nat} {A : Option Addr} {v v' d : Value} {gs : List (List Int)} {zs : List Int} (h : OwnX w Bo Bi v gs d) (hz : Own 3 w Bi (.slice A zs.length c) zs) (hzd : ∀ k, (Value.slice A zs.length c).ownBlock = some k → d.ownBlock ≠ some k)
    (hw : ∀ vals, w.ownsRow Bo 22 1 v gs.length vals → w'.ownsRow Bo 22 1 v' (gs.length + 1) (vals ++ [.slice A zs.length c])) (hg : w.grownBy w' v.ownBlock) : OwnX w' Bo Bi v' (gs ++ [zs]) d := by
  obtain ⟨vals, h1, h2⟩ := h
  have hvl : vals.length = gs.length := by have := h1.1; omega
  refine ⟨vals ++ [.slice A zs.length c], by rw [List.length_append]; exact hw vals h1, fun j hj => ?_⟩
  rcases Nat.lt_or_ge j gs.length with hj2 | hj2
  · obtain ⟨A1, c1, e1, ho1, hn1⟩ := h2 j hj2
    have e2 : gx (gs ++ [zs]) j = gx gs j := by simp [gx, List.getD, List.getElem?_append_left hj2]
    rw [e2]
    exact ⟨A1, c1, by rw [List.getElem?_append_left (by omega)]; exact e1, own_apart (m := 0) h1 ho1 hg, hn1⟩
  · obtain rfl : j = gs.length := by simp at hj; omega
    have e2 : gx (gs ++ [zs]) gs.length = zs := by simp [gx, List.getD]
    rw [e2]
    exact ⟨A, c, by rw [List.getElem?_append_right (by omega), hvl]; simp, own_apart (m := 0) h1 hz hg, hzd⟩

/-- 'done = append(done, z)', told with its block. -/
theorem wpl_append_at {w : World} {ops : Array Oper} {rest : List Oper} {o : Oper} {a : Act} {Q : Exit → Act → World → Prop} (hgd : o.guard = none) (s x : Operand)
    (ho : o.op = .call { callee := .builtin .append, args := #[s, x], argTypes := #[22, 22] })
    (B : Nat) (v : Value) (zs : List Int) (hs : a.eval s = v) (hown : Own 3 w B v zs)
    (ad : Addr) (c : Nat) (z : Int) (n' : Nat) (hn' : zs.length + 1 = n') (hx : a.eval x = .slice (some ad) 1 c) (hc : w.cell? ad = some (.int .i64 z))
    (hlen : zs.length < 1000000000) (hB : B ≤ w.heap.size)
    (h : ∀ A' c' w', Hid (Own 3 w' B (.slice A' n' c') (zs ++ [z])) → Hid (w.grownBy w' v.ownBlock) → Hid ((Value.slice A' n' c').ownBlock = v.ownBlock ∨ ∃ k, (Value.slice A' n' c').ownBlock = some k ∧ w.heap.size ≤ k) → wpList Try.prog ops Q rest (a.put o.dst (.slice A' n' c')) w') : wpList Try.prog ops Q (o :: rest) a w := by
  obtain ⟨i0, hi0, hz0, hz1, hz2⟩ := info_parts int_info3
  refine wpList_append_own_at w hgd s x 22 ho B 3 i0 (.int .i64 0) 1 8 Try.underlying22 hi0 hz0 hz1 hz2 rfl (by decide) v zs.length (zs.map (Value.int .i64)) hs hown ad 1 c [.int .i64 z] hx rfl ?_ ?_ ?_ ?_ hB ?_
  · intro j u hj
    match j, hj with
    | 0, hj => simp at hj; subst hj; simpa [Addr.add] using hc
  · intro u hu; simp at hu; subst hu; rfl
  · simp [maxLen]; omega
  · omega
  · intro v' w' h1 h2 _ h4
    have h1' : Own 3 w' B v' (zs ++ [z]) := by
      unfold Own
      rw [List.map_append, List.length_append]
      exact h1
    obtain ⟨A', c', rfl, _⟩ := h1'.form
    rw [List.length_append, List.length_singleton, hn'] at h1' h4 ⊢
    exact h A' c' w' h1' h2 (h4.imp id fun e => ⟨_, e, Nat.le_refl _⟩)

/-- 'out = append(out, zs)', the slices apart from d. -/
theorem wpl_append_sliceX {w : World} {ops : Array Oper} {rest : List Oper} {o : Oper} {a : Act} {Q : Exit → Act → World → Prop} (hgd : o.guard = none) (s x : Operand)
    (ho : o.op = .call { callee := .builtin .append, args := #[s, x], argTypes := #[27, 27] })
    (Bo Bi : Nat) (v d : Value) (gs : List (List Int)) (hs : a.eval s = v) (hown : OwnX w Bo Bi v gs d)
    (ad : Addr) (c : Nat) (A : Option Addr) (m cc : Nat) (zs : List Int) (hm : zs.length = m) (n' : Nat) (hn' : gs.length + 1 = n') (hx : a.eval x = .slice (some ad) 1 c) (hc : w.cell? ad = some (.slice A m cc)) (hz : Own 3 w Bi (.slice A m cc) zs)
    (hzd : ∀ k, (Value.slice A m cc).ownBlock = some k → d.ownBlock ≠ some k)
    (hlen : gs.length < 100000000) (hB : Bo ≤ w.heap.size)
    (h : ∀ A' c' w', Hid (OwnX w' Bo Bi (.slice A' n' c') (gs ++ [zs]) d) → Hid (w.grownBy w' v.ownBlock) → Hid (∀ zz BB, Own 3 w BB d zz → Own 3 w' BB d zz) → Below Bo w w' → wpList Try.prog ops Q rest (a.put o.dst (.slice A' n' c')) w') : wpList Try.prog ops Q (o :: rest) a w := by
  subst hm
  obtain ⟨i0, hi0, hz0, hz1, hz2⟩ := info_parts ints_info
  obtain ⟨vals, h1, h2⟩ := id hown
  have hvl : vals.length = gs.length := by have := h1.1; omega
  refine wpList_append_own w hgd s x 27 ho Bo 22 i0 (.slice none 0 0) 1 24 Try.underlying27 hi0 hz0 hz1 hz2 rfl (by decide) v gs.length vals hs h1 ad 1 c [.slice A zs.length cc] hx rfl ?_ ?_ ?_ ?_ hB ?_
  · intro j u hj
    match j, hj with
    | 0, hj => simp at hj; subst hj; simpa [Addr.add] using hc
  · intro u hu; simp at hu; subst hu; rfl
  · simp [maxLen]; omega
  · omega
  · intro v' w' g1 g2 _
    have hO : OwnX w' Bo Bi v' (gs ++ [zs]) d := by
      refine ⟨vals ++ [.slice A zs.length cc], by rw [List.length_append]; exact g1, fun j hj => ?_⟩
      rcases Nat.lt_or_ge j gs.length with hj2 | hj2
      · obtain ⟨A1, c1, e1, ho1, hn1⟩ := h2 j hj2
        have e2 : gx (gs ++ [zs]) j = gx gs j := by simp [gx, List.getD, List.getElem?_append_left hj2]
        rw [e2]
        exact ⟨A1, c1, by rw [List.getElem?_append_left (by omega)]; exact e1, own_apart (m := 0) h1 ho1 g2, hn1⟩
      · obtain rfl : j = gs.length := by simp at hj; omega
        have e2 : gx (gs ++ [zs]) gs.length = zs := by simp [gx, List.getD]
        rw [e2]
        exact ⟨A, cc, by rw [List.getElem?_append_right (by omega), hvl]; simp, own_apart (m := 0) h1 hz g2, hzd⟩
    have hbase : ∀ j, v.ownBlock = some j → Bo ≤ j := by
      intro j hj
      rcases h1.2 with ⟨rfl, _⟩ | ⟨g, cap, cur, rfl, hb, _⟩
      · simp [Value.ownBlock] at hj
      · simp [Value.ownBlock] at hj; omega
    obtain ⟨A', c', rfl⟩ := hO.toM.form
    rw [List.length_append, List.length_singleton, hn'] at hO ⊢
    exact h A' c' w' hO g2 (fun zz BB hd => own_apart (m := 0) h1 hd g2) ((Below.refl _ _).grown g2 hB hbase)

theorem rgK_len (lab : Nat → Nat) (n k : Nat) : (rgK lab n k).length = (firsts lab k).length := by simp [rgK]
theorem dones_len (lab : Nat → Nat) (k : Nat) : (dones lab k).length = (firsts lab k).length := by simp [dones]

set_option maxHeartbeats 2000000 in
theorem rgroups_any (A : Option Addr) (n c : Nat) (lab : Nat → Nat) (w : World) (hn : n ≤ 1000) (hr : Rd w w.heap.size A (labs lab n)) (gs : List (List Int)) (j : Nat) (hg : gs = rgK lab n n) (hj : gs.length = j) :
    Calls Try.prog 28 #[.slice A n c] w fun e w' => ∃ A' c', e = .returned (.slice A' j c') ∧ OwnM w' w.heap.size w.heap.size (.slice A' j c') gs ∧ Below w.heap.size w w' := by
  have HG := Lib.hid hg
  have HJ := Lib.hid hj
  clear hg hj
  go_enter Try.func28, Try.ntmps28
  go_wp2
  go_loopw [3, 4, 5] (fun v d i wr => ∃ k m : Nat, k ≤ n ∧ m ≤ k ∧ i = .int .i64 k ∧ (firsts lab k).length = m ∧ (∃ A2 c2, v = .slice A2 m c2 ∧ OwnX wr w.heap.size w.heap.size (.slice A2 m c2) (rgK lab n k) d) ∧ (∃ A3 c3, d = .slice A3 m c3 ∧ Own 3 wr w.heap.size (.slice A3 m c3) (dones lab k)) ∧ Below w.heap.size w wr) (fun _ _ i _ => n - (intOf i).toNat)
  case atStart => exact ⟨0, 0, Nat.zero_le _, Nat.le_refl _, rfl, rfl, ⟨none, 0, rfl, OwnX.nil _ _ _ _⟩, ⟨none, 0, rfl, Own.nil _ _ _⟩, Below.refl _ _⟩
  case round =>
    obtain ⟨k, m, hk, hmk, rfl, hfm, ⟨A2, c2, rfl, hox⟩, ⟨A3, c3, rfl, hod⟩, hb⟩ := hrel
    have HFM := Lib.hid hfm
    clear hfm
    by_cases hlt : k < n
    · obtain ⟨bl, off, rfl, hbb, hc⟩ := labs_at hr (by omega)
      have ck := (hb.cell (p := ⟨bl, off + k, none⟩) hbb).trans (hc k hlt)
      have HC := Lib.hid hc
      have HDL : Hid ((dones lab k).length = m) := by show _ = _; rw [dones_len, HFM.out]
      have HXL : Hid ((rgK lab n k).length = m) := by show _ = _; rw [rgK_len, HFM.out]
      clear hc
      by_cases hd : ∀ j, j < k → lab j ≠ lab k
      · have HF : Hid (firsts lab (k + 1) = firsts lab k ++ [k]) := by show _ = _; rw [firsts_snoc, if_pos hd]
        have HR : Hid (decide ((lab k : Int) ∈ dones lab k) = false) := decide_eq_false (fun h => dones_has.1 h hd)
        have HD1 : Hid (dones lab (k + 1) = dones lab k ++ [(lab k : Int)]) := by show _ = _; unfold dones; rw [HF.out, List.map_append]; rfl
        have HX1 : Hid (rgK lab n (k + 1) = rgK lab n k ++ [grp lab (lab k) n]) := by show _ = _; unfold rgK; rw [HF.out, List.map_append]; rfl
        have HM1 : Hid ((firsts lab (k + 1)).length = m + 1) := by show _ = _; rw [HF.out, List.length_append, HFM.out]; rfl
        clear hd
        have hsz := hb.size
        have hln : (dones lab k).length < 1000000000 := by rw [HDL.out]; omega
        have hln2 : Hid ((dones lab k).length + 1 = m + 1) := by show _ = _; rw [HDL.out]
        go_wp2_with fail
        refine (hasInt_any A3 m c3 (dones lab k) (lab k) false _ wr HDL.out hod.rd (by omega) HR.out).mono ?_
        rintro e w1 ⟨rfl, rfl⟩
        go_wp2_with (at_builtin; refine wpl_append_at rfl (.tmp 20) (.tmp 25) rfl w.heap.size _ _ rfl (hod.alloc _) ⟨wr.heap.size, 0, none⟩ 1 (lab k : Int) (m + 1) hln2.out rfl (int_one _ _) hln (by simp; omega) ?_; intro A4 c4 w2 hod2 hgr2 hloc2)
        have hgw := (World.grownBy_alloc wr (.cells #[.int .i64 (lab k : Int)] 3) (Value.slice A3 m c3).ownBlock).trans hgr2.out
        have hB2 : Below w.heap.size w w2 := hb.grown hgw hsz (fun j hj => hod.base j hj)
        have hx2 : OwnX w2 w.heap.size w.heap.size (.slice A2 m c2) (rgK lab n k) (.slice A4 (m + 1) c4) :=
          hox.grow hod hgw (hloc2.out.imp id (fun ⟨q, h1, h2⟩ => ⟨q, h1, by simp at h2; omega⟩))
        have HX2 := Lib.hid hx2
        have HOD2 := Lib.hid hod2.out
        have hs2 := hB2.size
        clear hx2 hod2 hgr2 hloc2 hgw hox hod hb ck
        go_loopw [6, 7] (fun g i wx => ∃ q : Nat, q ≤ n ∧ i = .int .i64 q ∧ (∃ A5 c5, g = .slice A5 (grp lab (lab k) q).length c5 ∧ Own 3 wx w2.heap.size (.slice A5 (grp lab (lab k) q).length c5) (grp lab (lab k) q)) ∧ Below w2.heap.size w2 wx) (fun _ i _ => n - (intOf i).toNat)
        case atStart => exact ⟨0, Nat.zero_le _, rfl, ⟨none, 0, rfl, Own.nil _ _ _⟩, Below.refl _ _⟩
        case round =>
          obtain ⟨q, hq, rfl, ⟨A5, c5, rfl, hog⟩, hbx⟩ := hrel
          have hszx := hbx.size
          have hgl := grp_length lab (lab k) q
          by_cases hqn : q < n
          · have hbw := hB2.trans (hbx.mono hs2)
            have cq := (hbw.cell (p := ⟨bl, off + q, none⟩) hbb).trans (HC.out q hqn)
            have ck := (hbw.cell (p := ⟨bl, off + k, none⟩) hbb).trans (HC.out k hlt)
            clear hbw
            by_cases hqk : lab q = lab k
            · have HS : Hid (grp lab (lab k) (q + 1) = grp lab (lab k) q ++ [(q : Int)]) := by show _ = _; rw [grp_snoc, if_pos hqk]
              have HL : Hid ((grp lab (lab k) (q + 1)).length = (grp lab (lab k) q).length + 1) := by show _ = _; rw [HS.out, List.length_append]; rfl
              rw [hqk] at cq
              clear hqk
              go_wp2
              go_quiet (fail)
              go_wp2_with (at_builtin; refine wpl_append1 rfl (.tmp 42) (.tmp 44) 22 rfl 3 Try.underlying22 int_info3 w2.heap.size _ _ rfl ((hog.below (below_drewN (Below.refl _ _) 2)).alloc _) ⟨wr.heap.size, 0, none⟩ 1 (q : Int) _ rfl rfl (int_one _ _) (by omega) (by simp; omega) ?_; intro A6 c6 w6 hog6 hb6)
              go_roundw
              case rel =>
                refine ⟨q + 1, by omega, by go_num, ⟨A6, c6, ?_, ?_⟩, ((below_drewN hbx _).alloc (by simp; omega) _).trans hb6⟩
                · rw [HL.out]
                · rw [HL.out, HS.out]; exact hog6.out
              case measure => simp [intOf]; omega
            · have HS : Hid (grp lab (lab k) (q + 1) = grp lab (lab k) q) := by show _ = _; rw [grp_snoc, if_neg hqk, List.append_nil]
              have hne : ((lab q : Int) == (lab k : Int)) = false := beq_eq_false_iff_ne.2 (by omega)
              clear hqk
              go_wp2
              go_quiet (fail)
              go_wp2
              go_roundw
              case rel =>
                refine ⟨q + 1, by omega, by go_num, ⟨A5, c5, ?_, ?_⟩, below_drewN hbx _⟩
                · rw [HS.out]
                · rw [HS.out]; exact hog.below (below_drewN (Below.refl _ _) _)
              case measure => simp [intOf]; omega
          · obtain rfl : q = n := by omega
            have hxx := HX2.out.below hbx
            have hxl : (rgK lab q k).length < 100000000 := by rw [HXL.out]; omega
            have hxl2 : Hid ((rgK lab q k).length + 1 = m + 1) := by show _ = _; rw [HXL.out]
            have hzd : ∀ j, (Value.slice A5 (grp lab (lab k) q).length c5).ownBlock = some j → (Value.slice A4 (m + 1) c4).ownBlock ≠ some j := fun j hj e => by
              have h1 := hog.base j hj
              have h2 := HOD2.out.blk_lt e
              omega
            go_wp2_with (at_builtin; refine wpl_append_sliceX rfl (.tmp 46) (.tmp 48) rfl w.heap.size w.heap.size _ (.slice A4 (m + 1) c4) _ rfl (hxx.below ((Below.refl _ _).alloc (Nat.le_refl _) (.cells #[.slice A5 (grp lab (lab k) q).length c5] 22))) ⟨wr.heap.size, 0, none⟩ 1 A5 _ c5 (grp lab (lab k) q) rfl (m + 1) hxl2.out rfl (by rw [World.cell?_alloc_at _ _ _ _ rfl]; rfl) ((hog.lower hs2).alloc _) hzd hxl (by simp; omega) ?_; intro A7 c7 w7 hx7 hg7 hk7 hb7)
            go_roundw
            case rel =>
              refine ⟨k + 1, m + 1, by omega, by omega, by go_num, HM1.out, ⟨A7, c7, rfl, ?_⟩, ⟨A4, c4, rfl, ?_⟩, ?_⟩
              · rw [HX1.out]; exact hx7.out
              · rw [HD1.out]; exact hk7.out _ _ (Own.alloc (Own.below HOD2.out hbx) _)
              · exact ((hB2.trans (hbx.mono hs2)).alloc (by omega) _).trans hb7
            case measure => simp [intOf]; omega
      · have HF : Hid (firsts lab (k + 1) = firsts lab k) := by show _ = _; rw [firsts_snoc, if_neg hd, List.append_nil]
        have HR : Hid (decide ((lab k : Int) ∈ dones lab k) = true) := decide_eq_true (dones_has.2 hd)
        clear hd
        go_wp2_with fail
        refine (hasInt_any A3 m c3 (dones lab k) (lab k) true _ wr HDL.out hod.rd (by omega) HR.out).mono ?_
        rintro e w1 ⟨rfl, rfl⟩
        go_wp2
        go_roundw
        case rel =>
          refine ⟨k + 1, m, by omega, by omega, by go_num, by rw [HF.out]; exact HFM.out, ⟨A2, c2, rfl, ?_⟩, ⟨A3, c3, rfl, ?_⟩, hb⟩
          · unfold rgK; rw [HF.out]; exact hox
          · unfold dones; rw [HF.out]; exact hod
        case measure => simp [intOf]; omega
    · obtain rfl : k = n := by omega
      have hjm : j = m := by rw [← HJ.out, HG.out, rgK_len, HFM.out]
      subst hjm
      have HO := Lib.hid hox.toM
      clear hox hod
      go_wp2
      go_ret
      exact ⟨A2, c2, rfl, by rw [HG.out]; exact HO.out, hb⟩

set_option maxHeartbeats 1000000 in
theorem rislands_any (n : Nat) (A : Option Addr) (m c : Nat) (es : List (Int × Int)) (w : World) (hl : es.length = m) (hr : RdP w w.heap.size A es) (hm : m ≤ 1000) (hn : n ≤ 1000) (j : Nat) (gs : List (List Int)) (hg : gs = rgK (refR n es) n n) (hj : gs.length = j) :
    Calls Try.prog 15 #[.int .i64 (n : Int), .slice A m c] w fun e w' => ∃ A' c', e = .returned (.slice A' j c') ∧ OwnM w' w.heap.size w.heap.size (.slice A' j c') gs ∧ Below w.heap.size w w' := by
  subst hl
  have HG := Lib.hid hg
  have HJ := Lib.hid hj
  clear hg hj
  go_enter Try.func15, Try.ntmps15
  go_wp2_with (go_at_call 23; refine (rnew_any n _ hn).mono ?_; rintro e w1 ⟨A1, c1, rfl, hr1, hb1, _⟩)
  go_loopw [5, 6, 7, 8] (fun s i _ _ wr => ∃ k : Nat, k ≤ es.length ∧ i = .int .i64 k ∧ (∃ A2 c2, s = .slice A2 n c2 ∧ Rd wr wr.heap.size A2 (labs (refR n (es.take k)) n)) ∧ Below w.heap.size w wr) (fun _ i _ _ _ => es.length - (intOf i).toNat)
  case atStart => exact ⟨0, Nat.zero_le _, rfl, ⟨A1, c1, rfl, hr1⟩, hb1⟩
  case round =>
    obtain ⟨k, hk, rfl, ⟨A2, c2, rfl, hr2⟩, hb⟩ := hrel
    by_cases hlt : k < es.length
    · obtain ⟨b, off, rfl, hbb, hc⟩ := hr (by omega)
      have hca : wr.cell? ⟨b, off + k * 2, none⟩ = some (.int .i64 (ea es k)) := (hb.cell (p := ⟨b, _, none⟩) hbb).trans (hc k hlt).1
      have hcb : wr.cell? ⟨b, off + k * 2 + 1, none⟩ = some (.int .i64 (eb es k)) := (hb.cell (p := ⟨b, _, none⟩) hbb).trans (hc k hlt).2
      have HR : Hid (refR n (es.take (k + 1)) = refE n (refR n (es.take k)) (ea es k, eb es k)) := by show _ = _; rw [take_snoc_pair hlt, refR_snoc]
      clear hc
      have hsz := hb.size
      have hS0 : wr.cell? ⟨b, off + k * 2, none⟩ = some (.int .i64 (ea es k)) ∧ wr.cell? ⟨b, off + k * 2 + 1, none⟩ = some (.int .i64 (eb es k)) ∧ EqS w wr := ⟨hca, hcb, hb⟩
      have HS := Lib.hid hr2.drew
      clear hr2
      go_wp2
      go_region_held3 (fun W => W.cell? ⟨b, off + k * 2, none⟩ = some (.int .i64 (ea es k)) ∧ W.cell? ⟨b, off + k * 2 + 1, none⟩ = some (.int .i64 (eb es k)) ∧ EqS w W) (first | exact hS0 | exact ⟨hS0.1, hS0.2.1, EqS.drew hb⟩ | assumption) (first | (go_at_call 24; rename (_ ∧ _ ∧ EqS w _) => hSS; refine (runion_any A2 n c2 (refR n (es.take k)) _ _ _ _ _ hn HS.out HR.out rfl).mono ?_; rintro e w1 ⟨A3, c3, rfl, hr3, hb3, _⟩; have hb1 : Below w.heap.size w w1 := (Below.drew hb).trans (hb3.mono hsz); have hS1 : w1.cell? ⟨b, off + k * 2, none⟩ = some (.int .i64 (ea es k)) ∧ w1.cell? ⟨b, off + k * 2 + 1, none⟩ = some (.int .i64 (eb es k)) ∧ EqS w w1 := ⟨(hb1.cell (p := ⟨b, _, none⟩) hbb).trans ((hb.cell (p := ⟨b, _, none⟩) hbb).symm.trans hca), (hb1.cell (p := ⟨b, _, none⟩) hbb).trans ((hb.cell (p := ⟨b, _, none⟩) hbb).symm.trans hcb), hb1⟩))
      go_wp2
      rename (Rd _ _ _ (labs (refR n (es.take (k + 1))) n)) => hr3
      rename (_ ∧ _ ∧ EqS w _) => hE
      go_roundw
      case rel => exact ⟨k + 1, by omega, by go_num, ⟨A3, c3, rfl, hr3⟩, hE.2.2⟩
      case measure => simp [intOf]; omega
    · obtain rfl : k = es.length := by omega
      rw [List.take_length] at hr2
      have HC := Lib.hid (rgroups_any A2 n c2 (refR n es) wr hn hr2 gs j HG.out HJ.out)
      have hsz := hb.size
      clear hr2
      go_wp2_with fail
      refine HC.out.mono ?_
      rintro e w2 ⟨A4, c4, rfl, ho, hb2⟩
      have HO := Lib.hid (ho.lower hsz hsz)
      have HB := Lib.hid (hb.trans (hb2.mono hsz))
      clear ho hb2
      go_wp2
      go_ret
      exact ⟨A4, c4, rfl, HO.out, HB.out⟩

end Go.Proofs.Ytglfmchddbaceaa
