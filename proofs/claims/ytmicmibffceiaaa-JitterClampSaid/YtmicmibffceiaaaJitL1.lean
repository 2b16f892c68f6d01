/-
  The laws JitterClamp and JitterBounds, called: they return true and write nothing that was there.
-/
import Derived.Test.YtmicmibffceiaaaJitLaw
import Derived.Test.YtmicmibffceiaaaJitW2
import Derived.Test.YtmicmibffceiaaaJitW3
namespace Go.Proofs.Ytmicmibffceiaaa
open Go.RowKit

/-- What a walk keeps of an estimator: it lies in a block of its own, and below the first block of the call nothing has turned. -/
theorem chain {w W W' : World} (h : Below w.heap.size w W) (hb : Below W.heap.size W W') : Below w.heap.size w W' := h.trans (hb.mono h.size)

/-- A slice of the call's own, in its shape. -/
theorem own_shape {B n : Nat} {w w' : World} {v : Value} {zs : List Int} (h : OwnRes B w w' v zs) (hn : zs.length = n) :
    ∃ A c, v = .slice A n c ∧ Own 3 w' B (.slice A n c) zs ∧ (A = none → c = 0) ∧ Below B w w' := by
  obtain ⟨A, c, rfl, _⟩ := h.1.form
  rw [hn] at h
  exact ⟨A, c, by rw [hn], h.1, h.1.nilcap, h.2⟩

theorem delays_s (A : Option Addr) (n c : Nat) (xs ds : List Int) (m : Nat) (hd : ds = delays xs) (hm : ds.length = m) (w : World) (hl : xs.length = n) (hr : Rd w w.heap.size A xs) (hx : ∀ x ∈ xs, -9223372036854775808 ≤ x ∧ x ≤ 9223372036854775807) (hn : n ≤ maxLen) :
    Calls Try.prog 10 #[.slice A n c] w fun e w' => ∃ A' c', e = .returned (.slice A' m c') ∧ Own 3 w' w.heap.size (.slice A' m c') ds ∧ (A' = none → c' = 0) ∧ Below w.heap.size w w' := by
  subst hd
  refine (delays_any A n c xs w hl hr hx hn).mono ?_
  rintro e w' ⟨v, rfl, h⟩
  obtain ⟨A', c', rfl, h1, h2, h3⟩ := own_shape h hm
  exact ⟨A', c', rfl, h1, h2, h3⟩
theorem kept_s (A : Option Addr) (n c : Nat) (xs ks : List Int) (m : Nat) (hk : ks = kept xs) (hm : ks.length = m) (w : World) (hl : xs.length = n) (hr : Rd w w.heap.size A xs) (hx : ∀ x ∈ xs, -9223372036854775808 ≤ x ∧ x ≤ 9223372036854775807) (hn : n ≤ 1000) :
    Calls Try.prog 17 #[.slice A n c] w fun e w' => ∃ A' c', e = .returned (.slice A' m c') ∧ Own 3 w' w.heap.size (.slice A' m c') ks ∧ (A' = none → c' = 0) ∧ Below w.heap.size w w' := by
  subst hk
  refine (kept_any A n c xs w hl hr hx hn).mono ?_
  rintro e w' ⟨v, rfl, h⟩
  obtain ⟨A', c', rfl, h1, h2, h3⟩ := own_shape h hm
  exact ⟨A', c', rfl, h1, h2, h3⟩

theorem int_list_one (z : Int) (w : World) : Rd (w.alloc (.cells #[.int .i64 z] 3)) (w.alloc (.cells #[.int .i64 z] 3)).heap.size (some ⟨w.heap.size, 0, none⟩) [z] := fun _ =>
  ⟨_, _, rfl, by simp, fun k hk => by
    simp at hk
    subst hk
    exact int_one z w⟩

set_option maxHeartbeats 400000 in
theorem clamp_walk (d p : Int) (w : World) (h1 : -9223372036854775808 ≤ d ∧ d ≤ 9223372036854775807) (h2 : -9223372036854775808 ≤ p ∧ p ≤ 9223372036854775807) :
    Calls Try.prog 4 #[.int .i64 d, .int .i64 p] w fun e w' => e = .returned (.bool true) ∧ Below w.heap.size w w' := by
  obtain ⟨c, hc⟩ : ∃ c, c = clampd d := ⟨_, rfl⟩
  have hcb := clampd_bd d
  have hq : (Est.run [d]).quantile p = c := by rw [Est.quantile_eq, kept_one, Q_one, hc]
  have hd : (Est.run [d]).delay = min 8 c := by rw [Est.delay_eq, kept_one]; unfold D; rw [Q_one, hc]
  have hw : (Est.run [d]).window = min 12 (c + 1) := by rw [Est.window_eq, kept_one]; unfold W; rw [Q_one, ← hc]; rw [← hc] at hcb; simp; omega
  have hce : min 60 (max 0 d) = c := by rw [hc, clampd_eq]
  have HR := Lib.hid (int_list_one d w)
  have b0 : Below w.heap.size w (w.alloc (.cells #[.int .i64 d] 3)) := (Below.refl _ _).alloc (Nat.le_refl _) _
  have HQ := Lib.hid hq
  have HD := Lib.hid hd
  have HW := Lib.hid hw
  rw [← hc] at hcb
  clear hq hd hw hc
  go_enter Try.func4, Try.ntmps4
  go_wp2_with fail
  refine (filled_ex _ 1 1 [d] rfl _ HR.out (by intro x hx; simp at hx; omega) (by decide)).mono ?_
  rintro e w1 ⟨g, rfl, hg, he1, hb1⟩
  go_wp2_with fail
  refine (quantile_at _ _ p c HQ.out _ he1 h2.1 h2.2).mono ?_
  rintro e w2 ⟨rfl, he2, hb2⟩
  go_wp2_with fail
  refine (delay_at _ _ (min 8 c) HD.out _ he2).mono ?_
  rintro e w3 ⟨rfl, he3, hb3⟩
  go_wp2_with fail
  refine (window_at _ _ (min 12 (c + 1)) HW.out _ he3).mono ?_
  rintro e w4 ⟨rfl, he4, hb4⟩
  go_wp2_with fail
  refine (lives_any _).mono ?_
  rintro e w5 ⟨rfl, hb5⟩
  go_wp2_with fail
  go_ret
  exact ⟨rfl, chain (chain (chain (chain (chain b0 hb1) hb2) hb3) hb4) hb5⟩

end Go.Proofs.Ytmicmibffceiaaa
