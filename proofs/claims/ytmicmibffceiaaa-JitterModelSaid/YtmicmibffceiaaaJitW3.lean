/-
  The reference of package jitter, each function called: what it returns.
-/
import Derived.Test.YtmicmibffceiaaaJitDef
import Derived.Laws.CopyOwn
namespace Go.Proofs.Ytmicmibffceiaaa
set_option linter.unusedVariables false
set_option linter.unusedSimpArgs false
open Go.RowKit

/-- A slice of the call's own that reads as the numbers zs. -/
def OwnRes (B : Nat) (w w' : World) (v : Value) (zs : List Int) : Prop := Own 3 w' B v zs ∧ Below B w w'

set_option maxHeartbeats 400000 in
theorem delays_any (A : Option Addr) (n c : Nat) (xs : List Int) (w : World) (hl : xs.length = n) (hr : Rd w w.heap.size A xs) (hx : ∀ x ∈ xs, -9223372036854775808 ≤ x ∧ x ≤ 9223372036854775807) (hn : n ≤ maxLen) :
    Calls Try.prog 10 #[.slice A n c] w fun e w' => ∃ v, e = .returned v ∧ OwnRes w.heap.size w w' v (delays xs) := by
  subst hl
  have HX := Lib.hid hx
  clear hx
  unfold maxLen at hn
  go_enter Try.func10, Try.ntmps10
  go_wp2
  go_loopw [3, 4] (fun v i wr => ∃ k : Nat, k ≤ xs.length ∧ k ≤ 40 ∧ i = .int .i64 k ∧ Own 3 wr w.heap.size v ((xs.take k).map fun n => around n 80 - 5) ∧ Below w.heap.size w wr) (fun _ i _ => 40 - (intOf i).toNat)
  case atStart => exact ⟨0, Nat.zero_le _, by omega, rfl, Own.nil _ _ _, Below.refl _ _⟩
  case round =>
    obtain ⟨k, hk, hk4, rfl, hown, hb⟩ := hrel
    by_cases hlt : k < xs.length
    · by_cases h40 : k < 40
      · obtain ⟨b, off, rfl, hbb, hc⟩ := hr (by omega)
        have hck := (hb.cell (p := ⟨b, off + k, none⟩) hbb).trans (hc k hlt)
        have hbd := HX.out _ (ix_mem hlt)
        have h1 := around_lo (n := ix xs k) (m := 80) (by omega)
        have h2 := around_hi (n := ix xs k) (m := 80) (by omega)
        have HS := Lib.hid (delays_take hlt)
        have hln : ((xs.take k).map fun n => around n 80 - 5).length < 1000000000000 := by simp; omega
        have hsz := hb.size
        clear hc
        go_wp2_with (first | (go_at_call 15; refine (around_any _ 80 _ hbd.1 hbd.2 (by omega) (by omega)).mono ?_; rintro e w2 ⟨rfl, rfl⟩) | (at_builtin; refine wpl_append_int rfl (.tmp 15) (.tmp 22) 22 rfl 3 Try.underlying22 int_info3 w.heap.size _ _ rfl (hown.alloc _) ⟨wr.heap.size, 0, none⟩ 1 (around (ix xs k) 80 - 5) rfl (int_one _ _) hln (by simp; omega) ?_; intro v' w1 hown' _hg hb'))
        go_roundw
        case rel => exact ⟨k + 1, by omega, by omega, by go_num, by rw [HS.out]; exact hown'.out, (hb.alloc hb.size _).trans hb'⟩
        case measure => simp [intOf]; omega
      · have hk' : (xs.take k).map (fun n => around n 80 - 5) = delays xs := by unfold delays; rw [show k = 40 from by omega]
        have HK := Lib.hid hk'
        clear hk'
        go_wp2
        go_ret
        exact ⟨_, rfl, by rw [HK.out] at hown; exact hown, hb⟩
    · have hk' : (xs.take k).map (fun n => around n 80 - 5) = delays xs := by unfold delays; rw [List.take_of_length_le (by omega), List.take_of_length_le (by omega)]
      have HK := Lib.hid hk'
      clear hk'
      go_wp2
      go_ret
      exact ⟨_, rfl, by rw [HK.out] at hown; exact hown, hb⟩

set_option maxHeartbeats 400000 in
theorem kept_any (A : Option Addr) (n c : Nat) (xs : List Int) (w : World) (hl : xs.length = n) (hr : Rd w w.heap.size A xs) (hx : ∀ x ∈ xs, -9223372036854775808 ≤ x ∧ x ≤ 9223372036854775807) (hn : n ≤ 1000) :
    Calls Try.prog 17 #[.slice A n c] w fun e w' => ∃ v, e = .returned v ∧ OwnRes w.heap.size w w' v (kept xs) := by
  subst hl
  have HX := Lib.hid hx
  obtain ⟨j, hj⟩ : ∃ j : Nat, j = xs.length - 16 := ⟨_, rfl⟩
  have e1 : max 0 ((xs.length : Int) - 16) = (j : Int) := by omega
  have hjl : j ≤ xs.length := by omega
  have HJ := Lib.hid hj
  clear hx hj
  go_enter Try.func17, Try.ntmps17
  go_wp2
  go_loopw [3, 4] (fun v i wr => ∃ k : Nat, j ≤ k ∧ k ≤ xs.length ∧ i = .int .i64 k ∧ Own 3 wr w.heap.size v (((xs.take k).drop j).map clampd) ∧ Below w.heap.size w wr) (fun _ i _ => xs.length - (intOf i).toNat)
  case atStart => exact ⟨j, Nat.le_refl _, hjl, rfl, by rw [List.drop_eq_nil_of_le (by simp; omega)]; exact Own.nil _ _ _, Below.refl _ _⟩
  case round =>
    obtain ⟨k, hjk, hk, rfl, hown, hb⟩ := hrel
    clear e1
    by_cases hlt : k < xs.length
    · obtain ⟨b, off, rfl, hbb, hc⟩ := hr (by omega)
      have hck := (hb.cell (p := ⟨b, off + k, none⟩) hbb).trans (hc k hlt)
      have HS := Lib.hid (kept_snoc hjk hlt)
      have hln : (((xs.take k).drop j).map clampd).length < 1000000000000 := by simp; omega
      have hcl := clampd_eq (ix xs k)
      have hcl2 : min 60 (max 0 (ix xs k)) = clampd (ix xs k) := hcl.symm
      have hsz := hb.size
      clear hc hcl
      go_wp2_with (at_builtin; refine wpl_append_int rfl (.tmp 15) (.tmp 22) 22 rfl 3 Try.underlying22 int_info3 w.heap.size _ _ rfl (hown.alloc _) ⟨wr.heap.size, 0, none⟩ 1 (clampd (ix xs k)) rfl (int_one _ _) hln (by simp; omega) ?_; intro v' w1 hown' _hg hb')
      go_roundw
      case rel => exact ⟨k + 1, by omega, by omega, by go_num, by rw [HS.out]; exact hown'.out, (hb.alloc hb.size _).trans hb'⟩
      case measure => simp [intOf]; omega
    · have hk' : ((xs.take k).drop j).map clampd = kept xs := by unfold kept; rw [List.take_of_length_le (by omega), HJ.out]
      have HK := Lib.hid hk'
      clear hk'
      go_wp2
      go_ret
      exact ⟨_, rfl, by rw [HK.out] at hown; exact hown, hb⟩

set_option maxHeartbeats 400000 in
theorem atMost_any (A : Option Addr) (n c : Nat) (xs : List Int) (v : Int) (B : Nat) (w : World) (hl : xs.length = n) (hr : Rd w B A xs) (hn : n ≤ maxLen) :
    Calls Try.prog 22 #[.slice A n c, .int .i64 v] w fun e w' => e = .returned (.int .i64 (atMost xs v)) ∧ w = w' := by
  subst hl
  unfold maxLen at hn
  go_enter Try.func22, Try.ntmps22
  go_wp2
  go_loop [5, 6] (fun t i => ∃ k : Nat, k ≤ xs.length ∧ i = .int .i64 k ∧ t = .int .i64 (atMost (xs.take k) v)) (fun _ i => xs.length - (intOf i).toNat)
  case atStart => exact ⟨0, Nat.zero_le _, rfl, rfl⟩
  case round =>
    obtain ⟨k, hk, rfl, rfl⟩ := hrel
    have hbd := atMost_le (xs.take k) v
    have hbl : (xs.take k).length ≤ k := List.length_take_le _ _
    by_cases hlt : k < xs.length
    · obtain ⟨b, off, rfl, hbb, hc⟩ := hr (by omega)
      have hck := hc k hlt
      have HS := Lib.hid (atMost_snoc v hlt)
      clear hc
      by_cases hv : ix xs k ≤ v
      · go_wp2
        go_round
        case rel => exact ⟨k + 1, by omega, by go_num, by rw [HS.out, if_pos hv]; go_num⟩
        case measure => simp [intOf]; omega
      · go_wp2
        go_round
        case rel => exact ⟨k + 1, by omega, by go_num, by rw [HS.out, if_neg hv]; go_num⟩
        case measure => simp [intOf]; omega
    · have HK := Lib.hid (show xs.take k = xs from List.take_of_length_le (by omega))
      go_wp2
      go_ret
      exact ⟨ret_int (by rw [HK.out]), rfl⟩

set_option maxHeartbeats 400000 in
theorem largest_any (A : Option Addr) (n c : Nat) (xs : List Int) (B : Nat) (w : World) (hl : xs.length = n) (hr : Rd w B A xs) (hn : n ≤ maxLen) :
    Calls Try.prog 19 #[.slice A n c] w fun e w' => e = .returned (.int .i64 (largest xs)) ∧ w = w' := by
  subst hl
  unfold maxLen at hn
  go_enter Try.func19, Try.ntmps19
  go_wp2
  go_loop [3, 4] (fun t i => ∃ k : Nat, k ≤ xs.length ∧ i = .int .i64 k ∧ t = .int .i64 (largest (xs.take k))) (fun _ i => xs.length - (intOf i).toNat)
  case atStart => exact ⟨0, Nat.zero_le _, rfl, rfl⟩
  case round =>
    obtain ⟨k, hk, rfl, rfl⟩ := hrel
    by_cases hlt : k < xs.length
    · obtain ⟨b, off, rfl, hbb, hc⟩ := hr (by omega)
      have hck := hc k hlt
      have HS := Lib.hid (largest_snoc hlt)
      clear hc
      go_wp2
      go_round
      case rel => exact ⟨k + 1, by omega, by go_num, by rw [HS.out]⟩
      case measure => simp [intOf]; omega
    · have HK := Lib.hid (show xs.take k = xs from List.take_of_length_le (by omega))
      go_wp2
      go_ret
      exact ⟨ret_int (by rw [HK.out]), rfl⟩

set_option maxHeartbeats 1000000 in
theorem refQuantile_any (A : Option Addr) (n c : Nat) (xs : List Int) (p : Int) (B : Nat) (w : World) (hl : xs.length = n) (hr : Rd w B A xs) (hn : n ≤ 1000) :
    Calls Try.prog 18 #[.slice A n c, .int .i64 p] w fun e w' => e = .returned (.int .i64 (refQuantile xs p)) ∧ w = w' := by
  subst hl
  obtain ⟨q, hq⟩ : ∃ q, q = min 1000 (max 0 p) := ⟨_, rfl⟩
  have hq1 : 0 ≤ q ∧ q ≤ 1000 := by omega
  have hm1 : 0 ≤ q * (xs.length : Int) := Int.mul_nonneg hq1.1 (by omega)
  have hm2 : q * (xs.length : Int) ≤ 1000 * (xs.length : Int) := Int.mul_le_mul_of_nonneg_right hq1.2 (by omega)
  have hq2 : min 1000 (max 0 p) = q := hq.symm
  have HQ := Lib.hid hq2
  clear hq
  go_enter Try.func18, Try.ntmps18
  go_wp2
  go_loop [6, 7] (fun t i => ∃ k : Nat, k ≤ xs.length ∧ i = .int .i64 k ∧ t = .int .i64 (refBest xs q (xs.take k))) (fun _ i => xs.length - (intOf i).toNat)
  case atStart => exact ⟨0, Nat.zero_le _, rfl, rfl⟩
  case round =>
    obtain ⟨k, hk, rfl, rfl⟩ := hrel
    clear hq2
    by_cases hlt : k < xs.length
    · obtain ⟨b, off, rfl, hbb, hc⟩ := hr (by omega)
      have hck := hc k hlt
      have HS := Lib.hid (refBest_snoc xs q hlt)
      have ham := atMost_le xs (ix xs k)
      clear hc
      go_wp2_with (go_at_call 22; refine (atMost_any _ _ c xs _ _ _ rfl hr (by simp [maxLen]; omega)).mono ?_; rintro e w' ⟨rfl, rfl⟩)
      all_goals
        go_round
        case rel => exact ⟨k + 1, by omega, by go_num, by rw [HS.out]; unfold refStep; first | rw [if_pos ⟨by omega, by omega⟩] | rw [if_neg (by omega)]⟩
        case measure => simp [intOf]; omega
    · have HK := Lib.hid (show xs.take k = xs from List.take_of_length_le (by omega))
      go_wp2
      go_ret
      exact ⟨ret_int (by unfold refQuantile; rw [HQ.out, HK.out]), rfl⟩

end Go.Proofs.Ytmicmibffceiaaa
