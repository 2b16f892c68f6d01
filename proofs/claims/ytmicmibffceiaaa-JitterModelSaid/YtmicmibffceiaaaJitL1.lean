/-
  The laws JitterClamp and JitterBounds, called: they return true and write nothing that was there.
-/
import Derived.Test.YtmicmibffceiaaaJitLaw
import Derived.Test.YtmicmibffceiaaaJitW2
import Derived.Test.YtmicmibffceiaaaJitW3
namespace Go.Proofs.Ytmicmibffceiaaa
set_option linter.unusedVariables false
set_option linter.unusedSimpArgs false
open Go.RowKit

/-- What a walk keeps of an estimator: it lies in a block of its own, and below the first block of the call nothing has turned. -/
theorem chain {w W W' : World} (h : Below w.heap.size w W) (hb : Below W.heap.size W W') : Below w.heap.size w W' := h.trans (hb.mono h.size)

/-- A slice of the call's own, in its shape. -/
theorem own_shape {B n : Nat} {w w' : World} {v : Value} {zs : List Int} (h : OwnRes B w w' v zs) (hn : zs.length = n) :
    ∃ A c, v = .slice A n c ∧ Own 3 w' B (.slice A n c) zs ∧ (A = none → c = 0) ∧ Below B w w' := by
  obtain ⟨A, c, rfl, _⟩ := h.1.form
  rw [hn] at h
  exact ⟨A, c, by rw [hn], h.1, h.1.nilcap, h.2⟩

theorem delays_s (A : Option Addr) (n c : Nat) (xs ds : List Int) (m : Nat) (hd : ds = delays xs) (hm : ds.length = m) (w : World) (hl : xs.length = n) (hr : Rd w w.heap.size A xs) (hx : ∀ x ∈ xs, -9223372036854775808 ≤ x ∧ x ≤ 9223372036854775807) (hn : n ≤ maxLen) :
    Calls Try.prog 10 #[.slice A n c] w fun e w' => ∃ A' c', e = .returned (.slice A' m c') ∧ Own 3 w' w.heap.size (.slice A' m c') ds ∧ (A' = none → c' = 0) ∧ Below w.heap.size w w' := by
  subst hd
  refine (delays_any A n c xs w hl hr hx hn).mono ?_
  rintro e w' ⟨v, rfl, h⟩
  obtain ⟨A', c', rfl, h1, h2, h3⟩ := own_shape h hm
  exact ⟨A', c', rfl, h1, h2, h3⟩
theorem kept_s (A : Option Addr) (n c : Nat) (xs ks : List Int) (m : Nat) (hk : ks = kept xs) (hm : ks.length = m) (w : World) (hl : xs.length = n) (hr : Rd w w.heap.size A xs) (hx : ∀ x ∈ xs, -9223372036854775808 ≤ x ∧ x ≤ 9223372036854775807) (hn : n ≤ 1000) :
    Calls Try.prog 17 #[.slice A n c] w fun e w' => ∃ A' c', e = .returned (.slice A' m c') ∧ Own 3 w' w.heap.size (.slice A' m c') ks ∧ (A' = none → c' = 0) ∧ Below w.heap.size w w' := by
  subst hk
  refine (kept_any A n c xs w hl hr hx hn).mono ?_
  rintro e w' ⟨v, rfl, h⟩
  obtain ⟨A', c', rfl, h1, h2, h3⟩ := own_shape h hm
  exact ⟨A', c', rfl, h1, h2, h3⟩

theorem int_list_one (z : Int) (w : World) : Rd (w.alloc (.cells #[.int .i64 z] 3)) (w.alloc (.cells #[.int .i64 z] 3)).heap.size (some ⟨w.heap.size, 0, none⟩) [z] := fun _ =>
  ⟨_, _, rfl, by simp, fun k hk => by
    simp at hk
    subst hk
    exact int_one z w⟩

set_option maxHeartbeats 400000 in
theorem clamp_walk (d p : Int) (w : World) (h1 : -9223372036854775808 ≤ d ∧ d ≤ 9223372036854775807) (h2 : -9223372036854775808 ≤ p ∧ p ≤ 9223372036854775807) :
    Calls Try.prog 4 #[.int .i64 d, .int .i64 p] w fun e w' => e = .returned (.bool true) ∧ Below w.heap.size w w' := by
  obtain ⟨c, hc⟩ : ∃ c, c = clampd d := ⟨_, rfl⟩
  have hcb := clampd_bd d
  have hq : (Est.run [d]).quantile p = c := by rw [Est.quantile_eq, kept_one, Q_one, hc]
  have hd : (Est.run [d]).delay = min 8 c := by rw [Est.delay_eq, kept_one]; unfold D; rw [Q_one, hc]
  have hw : (Est.run [d]).window = min 12 (c + 1) := by rw [Est.window_eq, kept_one]; unfold W; rw [Q_one, ← hc]; rw [← hc] at hcb; simp; omega
  have hce : min 60 (max 0 d) = c := by rw [hc, clampd_eq]
  have HR := Lib.hid (int_list_one d w)
  have b0 : Below w.heap.size w (w.alloc (.cells #[.int .i64 d] 3)) := (Below.refl _ _).alloc (Nat.le_refl _) _
  have HQ := Lib.hid hq
  have HD := Lib.hid hd
  have HW := Lib.hid hw
  rw [← hc] at hcb
  clear hq hd hw hc
  go_enter Try.func4, Try.ntmps4
  go_wp2_with fail
  refine (filled_ex _ 1 1 [d] rfl _ HR.out (by intro x hx; simp at hx; omega) (by decide)).mono ?_
  rintro e w1 ⟨g, rfl, hg, he1, hb1⟩
  go_wp2_with fail
  refine (quantile_at _ _ p c HQ.out _ he1 h2.1 h2.2).mono ?_
  rintro e w2 ⟨rfl, he2, hb2⟩
  go_wp2_with fail
  refine (delay_at _ _ (min 8 c) HD.out _ he2).mono ?_
  rintro e w3 ⟨rfl, he3, hb3⟩
  go_wp2_with fail
  refine (window_at _ _ (min 12 (c + 1)) HW.out _ he3).mono ?_
  rintro e w4 ⟨rfl, he4, hb4⟩
  go_wp2_with fail
  refine (lives_any _).mono ?_
  rintro e w5 ⟨rfl, hb5⟩
  go_wp2_with fail
  go_ret
  exact ⟨rfl, chain (chain (chain (chain (chain b0 hb1) hb2) hb3) hb4) hb5⟩

theorem small_bd {d : List Int} (h : ∀ x ∈ d, -1000 ≤ x ∧ x ≤ 1000) : ∀ x ∈ d, -9223372036854775808 ≤ x ∧ x ≤ 9223372036854775807 := by
  intro x hx
  have := h x hx
  omega
theorem delays_small (xs : List Int) : ∀ x ∈ delays xs, -1000 ≤ x ∧ x ≤ 1000 := by
  intro x hx
  have := delays_bd xs x hx
  omega

/-- The estimator, and a block of a list that is read beside it. -/
def EstB (w0 W : World) (g : Nat) (s : Est) (b : Nat) : Prop := IsEst W g s ∧ Below w0.heap.size w0 W ∧ b < w0.heap.size
theorem EstB.step {w0 W W' : World} {g b o : Nat} {s : Est} {v : Value} (hc : W.cell? ⟨b, o, none⟩ = some v) (h : EstB w0 W g s b) (hb : Below W.heap.size W W') : W'.cell? ⟨b, o, none⟩ = some v ∧ EstB w0 W' g s b :=
  ⟨(hb.cell (p := ⟨b, o, none⟩) (Nat.lt_of_lt_of_le h.2.2 h.2.1.size)).trans hc, h.1.below hb h.1.1.lt, chain h.2.1 hb, h.2.2⟩
theorem EstB.drew {w0 W : World} {g b : Nat} {s : Est} (h : EstB w0 W g s b) : EstB w0 W.drew g s b := ⟨⟨h.1.1.drew, h.1.2⟩, h.2.1.drew, h.2.2⟩

set_option maxHeartbeats 1000000 in
theorem bounds_walk (A : Option Addr) (n c : Nat) (xs : List Int) (w : World) (hl : xs.length = n) (hr : Rd w w.heap.size A xs) (hx : ∀ x ∈ xs, -9223372036854775808 ≤ x ∧ x ≤ 9223372036854775807) (hn : n ≤ maxLen) :
    Calls Try.prog 9 #[.slice A n c] w fun e w' => e = .returned (.bool true) ∧ Below w.heap.size w w' := by
  obtain ⟨ds, hd⟩ : ∃ ds, ds = delays xs := ⟨_, rfl⟩
  obtain ⟨m, hm⟩ : ∃ m, ds.length = m := ⟨_, rfl⟩
  obtain ⟨ks, hk⟩ : ∃ ks, ks = kept ds := ⟨_, rfl⟩
  obtain ⟨j, hj⟩ : ∃ j, ks.length = j := ⟨_, rfl⟩
  have hm40 : m ≤ 40 := by rw [← hm, hd]; exact delays_length xs
  have hds := small_bd (hd ▸ delays_small xs)
  have hkb : ∀ x ∈ ks, 0 ≤ x ∧ x ≤ 60 := hk ▸ kept_bd ds
  have hj16 : j ≤ 16 := by rw [← hj, hk, kept_length]; omega
  obtain ⟨D0, hD⟩ : ∃ D0, (Est.run ds).delay = D0 := ⟨_, rfl⟩
  obtain ⟨W0, hW⟩ : ∃ W0, (Est.run ds).window = W0 := ⟨_, rfl⟩
  have hDb : 0 ≤ D0 ∧ D0 ≤ 8 := by rw [← hD, Est.delay_eq, ← hk]; exact D_bd hkb
  have hWb : 1 ≤ W0 ∧ W0 ≤ 12 := by rw [← hW, Est.window_eq]; exact W_bd
  have hWa : ∀ i, i < j → ix ks i < 12 → ix ks i < W0 := by
    intro i hi h12
    rw [← hW, Est.window_eq, ← hk]
    exact W_above hkb (ix_mem (by omega)) h12
  obtain ⟨hD1, hD2⟩ := hDb
  obtain ⟨hW1, hW2⟩ := hWb
  have HD := Lib.hid hD
  have HW := Lib.hid hW
  have HWA := Lib.hid hWa
  have HM := Lib.hid hm
  have HJ := Lib.hid hj
  have HDE := Lib.hid hd
  have HKE := Lib.hid hk
  have HDS := Lib.hid hds
  have HX := Lib.hid hx
  have HL := Lib.hid hl
  clear hD hW hWa hm hj hd hk hds hx hkb hl
  go_enter Try.func9, Try.ntmps9
  go_wp2_with fail
  refine (delays_s A n c xs ds m HDE.out HM.out _ HL.out hr HX.out hn).mono ?_
  rintro e w1 ⟨A1, c1, rfl, hown1, _, hb1⟩
  go_wp2_with fail
  refine (filled_ex A1 m c1 ds HM.out _ hown1.rd HDS.out (by omega)).mono ?_
  rintro e w2 ⟨g, rfl, hg, he2, hb2⟩
  go_wp2_with fail
  refine (delay_at _ _ D0 HD.out _ he2).mono ?_
  rintro e w3 ⟨rfl, he3, hb3⟩
  go_wp2_with fail
  refine (delay_at _ _ D0 HD.out _ he3).mono ?_
  rintro e w4 ⟨rfl, he4, hb4⟩
  go_wp2_with fail
  refine (window_at _ _ W0 HW.out _ he4).mono ?_
  rintro e w5 ⟨rfl, he5, hb5⟩
  go_wp2_with fail
  refine (window_at _ _ W0 HW.out _ he5).mono ?_
  rintro e w6 ⟨rfl, he6, hb6⟩
  have hB16 : Below w1.heap.size w1 w6 := chain (chain (chain (chain hb2 hb3) hb4) hb5) hb6
  go_wp2_with fail
  refine (kept_s A1 m c1 ds ks j HKE.out HJ.out _ HM.out ((hown1.rd.below hB16 (Nat.le_refl _)).more hB16.size) HDS.out (by omega)).mono ?_
  rintro e w7 ⟨A7, c7, rfl, hown7, _, hb7⟩
  have he7 := he6.below hb7 he6.1.lt
  have hB07 : Below w.heap.size w w7 := chain (chain hb1 hB16) hb7
  have hrd7 := hown7.rd
  go_wp2_with fail
  go_loopw [6] (fun i wr => ∃ k : Nat, k ≤ j ∧ i = .int .i64 k ∧ IsEst wr g (Est.run ds) ∧ Below w7.heap.size w7 wr) (fun i _ => j - (intOf i).toNat)
  case atStart => exact ⟨0, Nat.zero_le _, rfl, he7, Below.refl _ _⟩
  case round =>
    obtain ⟨k, hk, rfl, her, hbr⟩ := hrel
    by_cases hlt : k < j
    · obtain ⟨b, off, rfl, hbb, hc⟩ := hrd7 (by rw [HJ.out]; omega)
      have hck := (hbr.cell (p := ⟨b, off + k, none⟩) hbb).trans (hc k (by rw [HJ.out]; omega))
      clear hc
      by_cases h12 : ix ks k < 12
      · have hwk := HWA.out k hlt h12
        have hS0 : wr.cell? ⟨b, off + k, none⟩ = some (.int .i64 (ix ks k)) ∧ EstB w7 wr g (Est.run ds) b := ⟨hck, her, hbr, hbb⟩
        have hS1 : wr.drew.cell? ⟨b, off + k, none⟩ = some (.int .i64 (ix ks k)) ∧ EstB w7 wr.drew g (Est.run ds) b := ⟨hck, hS0.2.drew⟩
        have hwk' : decide (W0 ≤ ix ks k) = false := by simp; omega
        go_wp2
        go_region_held3 (fun W => W.cell? ⟨b, off + k, none⟩ = some (.int .i64 (ix ks k)) ∧ EstB w7 W g (Est.run ds) b) (first | exact hS0 | exact hS1 | assumption) (first | (go_at_call 14; rename (_ ∧ EstB w7 _ g _ b) => hSS; refine (window_at _ _ W0 HW.out _ hSS.2.1).mono ?_; rintro e w8 ⟨rfl, he8, hb8⟩; have hS2 := EstB.step hSS.1 hSS.2 hb8))
        go_wp2
        rename (_ ∧ EstB w7 _ g _ b) => hE
        go_roundw
        case rel => exact ⟨k + 1, by omega, by go_num, hE.2.1, hE.2.2.1⟩
        case measure => simp [intOf]; omega
      · have h12' : decide (ix ks k < 12) = false := by simpa using h12
        go_wp2
        go_quiet (fail)
        go_wp2
        go_roundw
        case rel => exact ⟨k + 1, by omega, by go_num, ⟨her.1.drewN _, her.2⟩, below_drewN hbr _⟩
        case measure => simp [intOf]; omega
    · go_wp2_with (go_at_call 20; refine (lives_any _).mono ?_; rintro e w9 ⟨rfl, hb9⟩)
      go_ret
      exact ⟨rfl, chain (chain hB07 hbr) hb9⟩

end Go.Proofs.Ytmicmibffceiaaa
