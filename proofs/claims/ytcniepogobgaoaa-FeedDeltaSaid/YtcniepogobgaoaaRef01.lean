/-
  The helpers of package arenanetref01, each called: what it returns.
-/
import Derived.Test.YtcniepogobgaoaaMem
import Derived.Test.YtcniepogobgaoaaProg
namespace Go.Proofs.Ytcniepogobgaoaa
set_option linter.unusedVariables false
set_option linter.unusedSimpArgs false
open Go.RowKit

/-- arenanetref01.Around. -/
def around (n m : Int) : Int := if n < 0 then (-(n + 1)) % m else n % m
theorem around_lo {n m : Int} (hm : 1 ≤ m) : 0 ≤ around n m := by
  unfold around; split <;> exact Int.emod_nonneg _ (by omega)
theorem around_hi {n m : Int} (hm : 1 ≤ m) : around n m < m := by
  unfold around; split <;> exact Int.emod_lt_of_pos _ (by omega)

set_option maxHeartbeats 400000 in
theorem around_any (n m : Int) (w : World) (h1 : -9223372036854775808 ≤ n) (h2 : n ≤ 9223372036854775807) (h3 : 1 ≤ m) (h4 : m ≤ 9223372036854775807) :
    Calls Try.prog 8 #[.int .i64 n, .int .i64 m] w fun e w' => e = .returned (.int .i64 (around n m)) ∧ w = w' := by
  unfold around
  by_cases hlt : n < 0
  · rw [if_pos hlt]
    go_enter Try.func8, Try.ntmps8
    go_wp2
    go_ret
    exact ⟨ret_int (by rw [← Int.neg_tmod]; exact Int.tmod_eq_emod_of_nonneg (by omega)), rfl⟩
  · rw [if_neg hlt]
    go_enter Try.func8, Try.ntmps8
    go_wp2
    go_ret
    first | exact ⟨rfl, rfl⟩ | exact ⟨ret_int (Int.tmod_eq_emod_of_nonneg (by omega)), rfl⟩
theorem int_info3 : (Try.prog.info? 3).map (fun i => (i.zero, i.size, i.bytes)) = some (some (.int .i64 0), 1, 8) := by kernel_rfl
theorem int_one (z : Int) (w : World) : (w.alloc (.cells #[.int .i64 z] 3)).cell? ⟨w.heap.size, 0, none⟩ = some (.int .i64 z) := by
  rw [World.cell?_alloc_at _ _ _ _ rfl]; rfl

set_option maxHeartbeats 400000 in
theorem hasInt_any (A : Option Addr) (n c : Nat) (xs : List Int) (z : Int) (res : Bool) (B : Nat) (w : World) (hl : xs.length = n) (hr : Rd w B A xs) (hn : n ≤ 1000000000) (hres : decide (z ∈ xs) = res) :
    Calls Try.prog 14 #[.slice A n c, .int .i64 z] w fun e w' => e = .returned (.bool res) ∧ w = w' := by
  subst hl
  have HRES := Lib.hid hres
  clear hres
  go_enter Try.func14, Try.ntmps14
  go_wp2
  go_loop [5] (fun i => ∃ k : Nat, k ≤ xs.length ∧ i = .int .i64 k ∧ Hid (z ∉ xs.take k)) (fun i => xs.length - (intOf i).toNat)
  case atStart => exact ⟨0, Nat.zero_le _, rfl, by show _ ∉ _; simp⟩
  case round =>
    obtain ⟨k, hk, rfl, hno⟩ := hrel
    by_cases hlt : k < xs.length
    · obtain ⟨b, off, rfl, hbb, hc⟩ := hr (by omega)
      have hck := hc k hlt
      have HS := Lib.hid (take_snoc_ix hlt)
      have HM := Lib.hid (ix_mem hlt)
      clear hc
      by_cases hz : ix xs k = z
      · have ht : (ix xs k == z) = true := beq_iff_eq.2 hz
        have HR : Hid (true = res) := by show _ = _; rw [← HRES.out]; exact (decide_eq_true (hz ▸ HM.out)).symm
        clear hz
        go_wp2
        go_ret
        exact ⟨ret_bool HR.out, rfl⟩
      · have ht : (ix xs k == z) = false := beq_eq_false_iff_ne.2 hz
        have HN : Hid (z ∉ xs.take (k + 1)) := by
          show _ ∉ _
          rw [HS.out, List.mem_append, List.mem_singleton]
          rintro (h | h)
          · exact hno.out h
          · exact hz h.symm
        clear hz
        go_wp2
        go_round
        case rel => exact ⟨k + 1, by omega, by go_num, HN⟩
        case measure => simp [intOf]; omega
    · have HK := Lib.hid (show xs.take k = xs from List.take_of_length_le (by omega))
      have HR : Hid (false = res) := by show _ = _; rw [← HRES.out]; exact (decide_eq_false (by have := hno.out; rwa [HK.out] at this)).symm
      go_wp2
      go_ret
      exact ⟨ret_bool HR.out, rfl⟩
end Go.Proofs.Ytcniepogobgaoaa
