/-
  Package feed: varint; slices.Grow of nothing; slices.Concat of three slices of bytes.
-/
import Derived.Test.YtcniepogobgaoaaFdP
import Derived.Lib.AppendZeros
namespace Go.Proofs.Ytcniepogobgaoaa
set_option linter.unusedVariables false
set_option linter.unusedSimpArgs false
set_option maxRecDepth 4000
open Go.RowKit

set_option maxHeartbeats 2000000 in
theorem fvar_any (n : Nat) (w : World) (hn : n < 1000000) (out : List Int) (m : Nat) (ho : out = enc n) (hm : out.length = m) :
    Calls Try.prog 26 #[.int .i64 (n : Int)] w fun e w' => ∃ A c, e = .returned (.slice A m c) ∧ OwnU 5 w' w.heap.size (.slice A m c) out ∧ Below w.heap.size w w' := by
  have HO := Lib.hid ho
  have HM := Lib.hid hm
  clear ho hm
  go_enter Try.func26, Try.ntmps26
  go_wp2
  go_loopw [0, 3] (fun v o wr => ∃ (x t : Nat) (pre : List Int), x < 1000000 ∧ v = .int .i64 (x : Int) ∧ Hid (pre ++ enc x = enc n) ∧ Hid (pre.length = t) ∧ t < 1000 ∧ (∃ A c, o = .slice A t c ∧ Hid (OwnU 5 wr w.heap.size (.slice A t c) pre)) ∧ Below w.heap.size w wr) (fun v _ _ => (intOf v).toNat)
  case atStart => exact ⟨n, 0, [], hn, rfl, Lib.hid rfl, Lib.hid rfl, by omega, ⟨none, 0, rfl, Lib.hid (OwnU.nil _ _ _)⟩, Below.refl _ _⟩
  case round =>
    obtain ⟨x, t, pre, hx, rfl, HP, HT, ht9, ⟨A, c, rfl, hown⟩, hb⟩ := hrel
    have hsz := hb.size
    have hln : pre.length < 1000000000000 := by rw [HT.out]; omega
    have hln2 : Hid (pre.length + 1 = t + 1) := by show _ = _; rw [HT.out]
    by_cases hbig : 127 < x
    · have hbi : (127 : Int) < (x : Int) := by omega
      have hor := or_bits x
      obtain ⟨y, hy⟩ : ∃ y : Int, y = ((x % 128 + 128 : Nat) : Int) := ⟨_, rfl⟩
      have HE : Hid (pre ++ [y] ++ enc (x / 128) = enc n) := by
        show _ = _
        rw [← HP.out, enc_big (n := x) (by omega), List.append_assoc, hy]
        rfl
      rw [← hy] at hor
      have HL : Hid ((pre ++ [y]).length = t + 1) := by show _ = _; rw [List.length_append, HT.out]; rfl
      have htn : t + 1 < 1000 := by
        have h1 := congrArg List.length HE.out
        have h2 := enc_len10' (n := n) (by omega)
        rw [List.length_append, HL.out] at h1
        omega
      clear hy
      go_wp2_with (at_builtin; refine wpl_append1U rfl (.tmp 8) (.tmp 12) 33 rfl 5 Try.underlying33 u8_info w.heap.size _ _ rfl (OwnU.alloc hown.out _) ⟨wr.heap.size, 0, none⟩ 1 y (t + 1) hln2.out rfl (by first | exact u8_one _ _ | (rw [← hor]; exact u8_one _ _)) hln (by simp; omega) ?_; intro A3 c3 w1 hown' hb')
      go_roundw
      case rel => exact ⟨x / 128, t + 1, _, by omega, by go_num, HE, HL, htn, ⟨A3, c3, rfl, hown'⟩, (hb.alloc hb.size _).trans hb'⟩
      case measure => simp [intOf]; omega
    · have hbi : (x : Int) ≤ 127 := by omega
      have hov : out = pre ++ [(x : Int)] := by rw [HO.out, ← HP.out, enc_small (by omega)]
      have hmm : m = t + 1 := by rw [← HM.out, hov, List.length_append, HT.out]; rfl
      subst hmm
      have HOV := Lib.hid hov
      have hwr : (x : Int) % 256 = (x : Int) := by omega
      clear hov
      go_wp2_with (at_builtin; refine wpl_append1U rfl (.tmp 14) (.tmp 17) 33 rfl 5 Try.underlying33 u8_info w.heap.size _ _ rfl (OwnU.alloc hown.out _) ⟨wr.heap.size, 0, none⟩ 1 (x : Int) (t + 1) hln2.out rfl (by first | exact u8_one _ _ | (rw [← hwr]; exact u8_one _ _)) hln (by simp; omega) ?_; intro A3 c3 w1 hown' hb')
      go_ret
      exact ⟨A3, c3, rfl, by rw [HOV.out]; exact hown'.out, (hb.alloc hb.size _).trans hb'⟩

theorem size_zeroB (n : Nat) : (Builtin.zeroCells (Value.int .u8 0).cells n).size = n := by simp [Builtin.zeroCells, Value.cells]
set_option maxHeartbeats 2000000 in
/-- Grow(nil, n): room for n bytes at least. -/
theorem grow_any (n : Nat) (w : World) (h0 : 0 < n) (hn : n < 1000000) :
    Calls Try.prog 46 #[.slice none 0 0, .int .i64 (n : Int)] w fun e w' => ∃ A c, e = .returned (.slice A 0 c) ∧ OwnU 5 w' w.heap.size (.slice A 0 c) [] ∧ Below w.heap.size w w' := by
  have hni : ¬ ((n : Int) < 0) := by omega
  have hni2 : (0 : Int) < (n : Int) := by omega
  obtain ⟨i0, hi0, hz0, hz1, hz2⟩ := info_parts u8_info
  have hrun := Lib.run_append_nil_zeros (P := Try.prog) w 33 3 33 5 i0 (.int .u8 0) .i64 .i64 Try.underlying33 Try.underlying3 hi0 hz0 n h0 (by omega) (by omega) (by rw [hz2]; omega)
  have HRUN := Lib.hid hrun
  have hgc := grownCap_ge w n 0 5
  obtain ⟨gc, hgcd⟩ : ∃ gc, gc = grownCap w n 0 5 := ⟨_, rfl⟩
  rw [← hgcd] at HRUN hgc
  have hgm : gc ≤ maxLen := by
    rw [hgcd]
    exact grownCap_le_maxLen w n 0 5 (by simp [maxLen]; omega)
  clear hrun hgcd hi0 hz0 hz1 hz2
  go_enter Try.func46, Try.ntmps46
  go_wp2_with (at_builtin; refine Lib.wpList_append_run _ rfl (.tmp 20) (.tmp 21) 33 3 rfl _ _ rfl rfl _ _ HRUN.out ?_)
  go_ret
  have hsize : (Builtin.zeroCells #[Value.int IntKind.u8 0] n ++ Builtin.zeroCells #[Value.int IntKind.u8 0] (gc - n)).size = gc * 1 := by
    rw [Array.size_append]
    have e1 := size_zeroB n
    have e2 := size_zeroB (gc - n)
    simp only [Value.cells] at e1 e2
    omega
  refine ⟨some ⟨w.heap.size, 0, none⟩, gc, rfl, ⟨rfl, .inr ⟨w.heap.size, gc, _, rfl, Nat.le_refl _, heap_alloc_new w _, Nat.zero_le _, hgm, hsize, rfl⟩⟩, Below.drew ((Below.refl _ _).alloc (Nat.le_refl _) _)⟩

def sumN (N : Nat → Nat) : Nat → Nat
  | 0 => 0
  | k + 1 => sumN N k + N k
def catE (E : Nat → List Int) : Nat → List Int
  | 0 => []
  | k + 1 => catE E k ++ E k
theorem catE_len {N : Nat → Nat} {E : Nat → List Int} {n : Nat} (h : ∀ k, k < n → (E k).length = N k) : ∀ k, k ≤ n → (catE E k).length = sumN N k := by
  intro k
  induction k with
  | zero => intro _; rfl
  | succ k ih => intro hk; simp only [catE, sumN, List.length_append, ih (by omega), h k (by omega)]
theorem sumN_le {N : Nat → Nat} {n b : Nat} (h : ∀ k, k < n → N k ≤ b) : ∀ k, k ≤ n → sumN N k ≤ k * b := by
  intro k
  induction k with
  | zero => intro _; simp [sumN]
  | succ k ih => intro hk; have h1 := ih (by omega); have h2 := h k (by omega); simp only [sumN, Nat.succ_mul]; omega
def CatPost (w : World) (m : Nat) (zs : List Int) (e : Ending) (w' : World) : Prop := ∃ A' c', e = .returned (.slice A' m c') ∧ OwnU 5 w' w.heap.size (.slice A' m c') zs ∧ Below w.heap.size w w'
set_option maxHeartbeats 4000000 in
theorem concat_any (p : Nat) (A : Nat → Option Addr) (N C : Nat → Nat) (E : Nat → List Int) (w : World) (hp : p < w.heap.size) (hc : ∀ k, k < 3 → w.cell? ⟨p, k, none⟩ = some (.slice (A k) (N k) (C k))) (hs : ∀ k, k < 3 → SlU w w.heap.size (A k) (N k) (C k) (E k)) (hN : ∀ k, k < 3 → N k ≤ 100000) (m : Nat) (hm : sumN N 3 = m) (hm0 : 0 < m) :
    Calls Try.prog 25 #[.slice (some ⟨p, 0, none⟩) 3 3] w (CatPost w m (catE E 3)) := by
  have HC := Lib.hid hc
  have HS := Lib.hid hs
  have HM := Lib.hid hm
  have HN := Lib.hid hN
  have hm6 : m < 1000000 := by
    have := sumN_le hN 3 (Nat.le_refl _)
    omega
  clear hc hs hm hN
  go_enter Try.func25, Try.ntmps25
  go_wp2
  go_loopw [3, 11] (fun sv iv W => ∃ k : Nat, k ≤ 3 ∧ iv = .int .i64 (k : Int) ∧ sv = .int .i64 (sumN N k : Int) ∧ w = W) (fun _ iv _ => 3 - (intOf iv).toNat)
  case atStart => exact ⟨0, by omega, rfl, rfl, rfl⟩
  case round =>
    obtain ⟨k, hk, rfl, rfl, rfl⟩ := hrel
    by_cases hk3 : k < 3
    · have hki : (k : Int) < 3 := by omega
      have q1 := HC.out k hk3
      have hb1 := HN.out k hk3
      have hb2 : sumN N k ≤ 300000 := by have := sumN_le HN.out k hk; omega
      have HSU : Hid (sumN N (k + 1) = sumN N k + N k) := Lib.hid rfl
      obtain ⟨s, hs⟩ : ∃ s, s = sumN N k := ⟨_, rfl⟩
      obtain ⟨nk, hnk⟩ : ∃ nk, nk = N k := ⟨_, rfl⟩
      rw [← hs] at hb2
      rw [← hnk] at q1 hb1
      rw [← hs, ← hnk] at HSU
      rw [← hs]
      clear hs hnk
      have hneg : ¬ (((s + nk : Nat) : Int) < 0) := by omega
      go_wp2
      go_roundw
      case rel => exact ⟨k + 1, by omega, by go_num, by rw [HSU.out]; rfl, trivial⟩
      case measure => simp [intOf]; omega
    · have hki : ¬ ((k : Int) < 3) := by omega
      obtain rfl : k = 3 := by omega
      rw [HM.out]
      go_wp2_with fail
      refine (grow_any m w hm0 hm6).mono ?_
      rintro e w1 ⟨A1, c1, rfl, ho1, hb1⟩
      have HO1 := Lib.hid ho1
      have HB1 := Lib.hid hb1
      clear ho1 hb1
      go_wp2
      go_loopw [6, 27] (fun ov iv W => ∃ (k t : Nat), k ≤ 3 ∧ iv = .int .i64 (k : Int) ∧ Hid (t = sumN N k) ∧ (∃ A c, ov = .slice A t c ∧ Hid (OwnU 5 W w.heap.size (.slice A t c) (catE E k))) ∧ Hid (Below w.heap.size w W)) (fun _ iv _ => 3 - (intOf iv).toNat)
      case atStart => exact ⟨0, 0, by omega, rfl, Lib.hid rfl, ⟨A1, c1, rfl, HO1⟩, HB1⟩
      case round =>
        obtain ⟨k, t, hk, rfl, HT, ⟨A2, c2, rfl, HO⟩, HB⟩ := hrel
        by_cases hk3 : k < 3
        · have hki : (k : Int) < 3 := by omega
          have q1 : wr.cell? ⟨p, k, none⟩ = _ := (HB.out.cell (p := ⟨p, k, none⟩) hp).trans (HC.out k hk3)
          have hb1 := HN.out k hk3
          have hb2 : t ≤ 300000 := by have := sumN_le HN.out k hk; rw [HT.out]; omega
          have HSK := Lib.hid (HS.out k hk3)
          have hlen : (catE E k).length = t := by rw [HT.out]; exact catE_len (N := N) (n := 3) (fun j hj => (HS.out j hj).len) k hk
          have hln2 : Hid ((catE E k).length + N k = t + N k) := by show _ = _; rw [hlen]
          have hlt : (catE E k).length + N k < 1000000000000 := by omega
          have hwz := HB.out.size
          have HLEN := Lib.hid hlen
          have HRD : Hid (RdU wr w.heap.size (A k) (E k)) := Lib.hid (HSK.out.rd.below HB.out (Nat.le_refl _))
          have HT2 : Hid (t + N k = sumN N (k + 1)) := Lib.hid (by rw [HT.out]; rfl)
          clear hlen
          go_wp2_with (at_builtin; refine wpl_appendsU rfl (.tmp 31) (.tmp 32) 33 rfl 5 Try.underlying33 u8_info w.heap.size _ _ (E k) rfl HO.out (A k) (N k) (C k) w.heap.size (t + N k) hln2.out rfl HSK.out.len HRD.out HSK.out.nil hlt hwz ?_; intro A3 c3 w3 ho3 _ hb3)
          go_roundw
          case rel => exact ⟨k + 1, t + N k, by omega, by go_num, HT2, ⟨A3, c3, rfl, ho3⟩, Lib.hid (HB.out.trans hb3)⟩
          case measure => simp [intOf]; omega
        · have hki : ¬ ((k : Int) < 3) := by omega
          obtain rfl : k = 3 := by omega
          go_wp2
          go_ret
          have ht : t = m := by rw [HT.out, HM.out]
          subst ht
          exact ⟨A2, c2, rfl, HO.out, HB.out⟩
end Go.Proofs.Ytcniepogobgaoaa
