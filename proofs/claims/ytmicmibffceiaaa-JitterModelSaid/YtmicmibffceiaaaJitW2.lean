/-
  Package jitter and its law's helper: an estimator filled with a list of delays; the example of the section.
-/
import Derived.Test.YtmicmibffceiaaaJitW1
namespace Go.Proofs.Ytmicmibffceiaaa
set_option linter.unusedVariables false
set_option linter.unusedSimpArgs false
open Go.RowKit

theorem run_take_snoc {xs : List Int} {k : Nat} (h : k < xs.length) : Est.run (xs.take (k + 1)) = (Est.run (xs.take k)).add (ix xs k) := by
  rw [take_snoc_ix h, Est.run_snoc]

set_option maxHeartbeats 400000 in
theorem filled_any (A : Option Addr) (c : Nat) (xs : List Int) (w : World) (hr : Rd w w.heap.size A xs) (hx : ∀ x ∈ xs, -9223372036854775808 ≤ x ∧ x ≤ 9223372036854775807) (hn : xs.length ≤ 1000) :
    Calls Try.prog 21 #[.slice A xs.length c] w fun e w' => e = .returned (.pointer (some ⟨w.heap.size, 0, none⟩)) ∧ IsEst w' w.heap.size (Est.run xs) ∧ Below w.heap.size w w' := by
  have HX := Lib.hid hx
  clear hx
  go_enter Try.func21, Try.ntmps21
  go_wp2_with (go_at_call 11; refine (new_any _).mono ?_; rintro e w1 ⟨rfl, he1, hb1⟩)
  go_loopw [4] (fun i wr => ∃ k : Nat, k ≤ xs.length ∧ i = .int .i64 k ∧ IsEst wr w.heap.size (Est.run (xs.take k)) ∧ Below w.heap.size w wr) (fun i _ => xs.length - (intOf i).toNat)
  case atStart => exact ⟨0, Nat.zero_le _, rfl, he1, hb1⟩
  case round =>
    obtain ⟨k, hk, rfl, he, hb⟩ := hrel
    by_cases hlt : k < xs.length
    · obtain ⟨b, off, rfl, hbb, hc⟩ := hr (by omega)
      have hck := (hb.cell (p := ⟨b, off + k, none⟩) hbb).trans (hc k hlt)
      have hbd := HX.out _ (ix_mem hlt)
      have hcn : (Est.run (xs.take k)).count < 100000 := by rw [Est.run_count]; simp; omega
      have HS := Lib.hid (run_take_snoc hlt)
      clear hc
      go_wp2_with (go_at_call 16; refine (add_any w.heap.size _ _ w.heap.size _ he hcn hbd.1 hbd.2 (Nat.le_refl _)).mono ?_; rintro e w2 ⟨rfl, he2, hb2⟩)
      go_roundw
      case rel => exact ⟨k + 1, by omega, by go_num, by rw [HS.out]; exact he2, hb.trans hb2⟩
      case measure => simp [intOf]; omega
    · have hk' : xs.take k = xs := List.take_of_length_le (by omega)
      have HK := Lib.hid hk'
      clear hk'
      go_wp2
      go_ret
      exact ⟨rfl, by rw [HK.out] at he; exact he, hb⟩

theorem filled_n (A : Option Addr) (n c : Nat) (xs : List Int) (hl : xs.length = n) (w : World) (hr : Rd w w.heap.size A xs) (hx : ∀ x ∈ xs, -9223372036854775808 ≤ x ∧ x ≤ 9223372036854775807) (hn : n ≤ 1000) :
    Calls Try.prog 21 #[.slice A n c] w fun e w' => e = .returned (.pointer (some ⟨w.heap.size, 0, none⟩)) ∧ IsEst w' w.heap.size (Est.run xs) ∧ Below w.heap.size w w' := by
  subst hl; exact filled_any A c xs w hr hx hn

theorem live_sorted : (Est.run [4, 1, 9]).sorted = [1, 4, 9] := by
  show List.mergeSort [4, 1, 9] _ = _
  simp [List.mergeSort, List.MergeSort.Internal.splitInTwo]
theorem live1 : (Est.run [4, 1, 9]).quantile 500 = 4 := by unfold Est.quantile; rw [live_sorted]; decide
theorem live2 : (Est.run [4, 1, 9]).quantile 900 = 9 := by unfold Est.quantile; rw [live_sorted]; decide
theorem live3 : (Est.run [4, 1, 9]).delay = 8 := by unfold Est.delay Est.quantile; rw [live_sorted]; decide
theorem live4 : (Est.run [4, 1, 9]).window = 10 := by unfold Est.window Est.quantile; rw [live_sorted]; decide

theorem quantile_at (g : Nat) (s : Est) (p q : Int) (hq : s.quantile p = q) (w : World) (h : IsEst w g s) (h1 : -9223372036854775808 ≤ p) (h2 : p ≤ 9223372036854775807) :
    Calls Try.prog 12 #[.pointer (some ⟨g, 0, none⟩), .int .i64 p] w fun e w' => e = .returned (.int .i64 q) ∧ IsEst w' g s ∧ Below w.heap.size w w' := by
  subst hq; exact (quantile_any g s p w h h1 h2).mono fun _ _ ⟨he, hb⟩ => ⟨he, h.below hb h.1.lt, hb⟩
theorem delay_at (g : Nat) (s : Est) (q : Int) (hq : s.delay = q) (w : World) (h : IsEst w g s) :
    Calls Try.prog 13 #[.pointer (some ⟨g, 0, none⟩)] w fun e w' => e = .returned (.int .i64 q) ∧ IsEst w' g s ∧ Below w.heap.size w w' := by
  subst hq; exact (delay_any g s w h).mono fun _ _ ⟨he, hb⟩ => ⟨he, h.below hb h.1.lt, hb⟩
theorem window_at (g : Nat) (s : Est) (q : Int) (hq : s.window = q) (w : World) (h : IsEst w g s) :
    Calls Try.prog 14 #[.pointer (some ⟨g, 0, none⟩)] w fun e w' => e = .returned (.int .i64 q) ∧ IsEst w' g s ∧ Below w.heap.size w w' := by
  subst hq; exact (window_any g s w h).mono fun _ _ ⟨he, hb⟩ => ⟨he, h.below hb h.1.lt, hb⟩

set_option maxHeartbeats 400000 in
theorem lives_any (w : World) : Calls Try.prog 20 #[] w fun e w' => e = .returned (.bool true) ∧ Below w.heap.size w w' := by
  have hr : Rd (w.alloc (.cells #[.int .i64 4, .int .i64 1, .int .i64 9] 3)) (w.alloc (.cells #[.int .i64 4, .int .i64 1, .int .i64 9] 3)).heap.size (some ⟨w.heap.size, 0, none⟩) [4, 1, 9] := fun _ =>
    ⟨_, _, rfl, by simp, fun k hk => by
      rw [(Blk.new w 3 _).cell]
      match k, hk with
      | 0, _ => rfl
      | 1, _ => rfl
      | 2, _ => rfl⟩
  have HR := Lib.hid hr
  clear hr
  go_enter Try.func20, Try.ntmps20
  go_wp2_with fail
  refine (filled_n _ 3 3 [4, 1, 9] rfl _ HR.out (by intro x hx; simp at hx; omega) (by decide)).mono ?_
  rintro e w1 ⟨rfl, he1, hb1⟩
  simp only [World.size_alloc] at he1
  go_wp2_with fail
  refine (quantile_at _ _ 500 4 live1 _ he1 (by omega) (by omega)).mono ?_
  rintro e w2 ⟨rfl, he2, hb2⟩
  go_wp2_with fail
  refine (quantile_at _ _ 900 9 live2 _ he2 (by omega) (by omega)).mono ?_
  rintro e w3 ⟨rfl, he3, hb3⟩
  go_wp2_with fail
  refine (delay_at _ _ 8 live3 _ he3).mono ?_
  rintro e w4 ⟨rfl, he4, hb4⟩
  go_wp2_with fail
  refine (window_at _ _ 10 live4 _ he4).mono ?_
  rintro e w5 ⟨rfl, he5, hb5⟩
  go_wp2_with fail
  go_ret
  refine ⟨rfl, ?_⟩
  have b0 : Below w.heap.size w (w.alloc (.cells #[.int .i64 4, .int .i64 1, .int .i64 9] 3)) := (Below.refl _ _).alloc (Nat.le_refl _) _
  have b1 := b0.trans (hb1.mono b0.size)
  have b2 := b1.trans (hb2.mono b1.size)
  have b3 := b2.trans (hb3.mono b2.size)
  have b4 := b3.trans (hb4.mono b3.size)
  exact b4.trans (hb5.mono b4.size)

/-- The estimator in a block of the call's own, wherever. -/
theorem filled_ex (A : Option Addr) (n c : Nat) (xs : List Int) (hl : xs.length = n) (w : World) (hr : Rd w w.heap.size A xs) (hx : ∀ x ∈ xs, -9223372036854775808 ≤ x ∧ x ≤ 9223372036854775807) (hn : n ≤ 1000) :
    Calls Try.prog 21 #[.slice A n c] w fun e w' => ∃ g, e = .returned (.pointer (some ⟨g, 0, none⟩)) ∧ w.heap.size ≤ g ∧ IsEst w' g (Est.run xs) ∧ Below w.heap.size w w' :=
  (filled_n A n c xs hl w hr hx hn).mono fun _ _ ⟨h1, h2, h3⟩ => ⟨_, h1, Nat.le_refl _, h2, h3⟩

end Go.Proofs.Ytmicmibffceiaaa
