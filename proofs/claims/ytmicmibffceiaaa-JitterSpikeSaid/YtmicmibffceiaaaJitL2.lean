/-
  The laws JitterCoverage and JitterModel, called: they return true and write nothing that was there.
-/
import Derived.Test.YtmicmibffceiaaaJitL1
namespace Go.Proofs.Ytmicmibffceiaaa
set_option linter.unusedVariables false
set_option linter.unusedSimpArgs false
open Go.RowKit

theorem around_s (n m r : Int) (hr : r = around n m) (w : World) (h1 : -9223372036854775808 ≤ n) (h2 : n ≤ 9223372036854775807) (h3 : 1 ≤ m) (h4 : m ≤ 9223372036854775807) :
    Calls Try.prog 15 #[.int .i64 n, .int .i64 m] w fun e w' => e = .returned (.int .i64 r) ∧ w = w' := by
  subst hr; exact around_any n m w h1 h2 h3 h4
theorem atMost_s (A : Option Addr) (n c : Nat) (xs : List Int) (v : Int) (r : Nat) (hr' : r = atMost xs v) (B : Nat) (w : World) (hl : xs.length = n) (hr : Rd w B A xs) (hn : n ≤ 1000) :
    Calls Try.prog 22 #[.slice A n c, .int .i64 v] w fun e w' => e = .returned (.int .i64 (r : Int)) ∧ w = w' := by
  subst hr'; exact atMost_any A n c xs v B w hl hr (by simp [maxLen]; omega)

set_option maxHeartbeats 1000000 in
theorem cover_walk (A : Option Addr) (n c : Nat) (xs : List Int) (pp : Int) (w : World) (hl : xs.length = n) (hr : Rd w w.heap.size A xs) (hx : ∀ x ∈ xs, -9223372036854775808 ≤ x ∧ x ≤ 9223372036854775807) (hn : n ≤ maxLen)
    (hp1 : -9223372036854775808 ≤ pp) (hp2 : pp ≤ 9223372036854775807) :
    Calls Try.prog 6 #[.slice A n c, .int .i64 pp] w fun e w' => e = .returned (.bool true) ∧ Below w.heap.size w w' := by
  obtain ⟨m, hm⟩ : ∃ m, (delays xs).length = m := ⟨_, rfl⟩
  obtain ⟨ds, hd⟩ : ∃ ds, ds = delays xs ++ [3] := ⟨_, rfl⟩
  obtain ⟨ks, hk⟩ : ∃ ks, ks = kept ds := ⟨_, rfl⟩
  obtain ⟨j, hj⟩ : ∃ j, ks.length = j := ⟨_, rfl⟩
  obtain ⟨r, hr1⟩ : ∃ r, r = around pp 1000 := ⟨_, rfl⟩
  obtain ⟨q, hq⟩ : ∃ q, (Est.run ds).quantile (1 + r) = q := ⟨_, rfl⟩
  obtain ⟨a1, ha1⟩ : ∃ a1, a1 = atMost ks q := ⟨_, rfl⟩
  obtain ⟨a2, ha2⟩ : ∃ a2, a2 = atMost ks (q - 1) := ⟨_, rfl⟩
  have hm40 : m ≤ 40 := by rw [← hm]; exact delays_length xs
  have hdl : ds.length = m + 1 := by rw [hd, List.length_append, hm]; rfl
  have hds : ∀ x ∈ ds, -1000 ≤ x ∧ x ≤ 1000 := by
    intro x hx
    rw [hd] at hx
    rcases List.mem_append.1 hx with h | h
    · exact delays_small xs x h
    · simp at h; omega
  have hds := small_bd hds
  have hkb : ∀ x ∈ ks, 0 ≤ x ∧ x ≤ 60 := hk ▸ kept_bd ds
  have hj16 : j = min (m + 1) 16 := by rw [← hj, hk, kept_length, hdl]
  have hra := around_lo (n := pp) (m := 1000) (by omega)
  have hrb := around_hi (n := pp) (m := 1000) (by omega)
  rw [← hr1] at hra hrb
  have hq' : Q ks (1 + r) = q := by rw [← hq, Est.quantile_eq, hk]
  have hqb := Q_bd hkb (1 + r)
  rw [hq'] at hqb
  obtain ⟨hqb1, hqb2⟩ := hqb
  have hcov := Q_covers (l := ks) (by omega) (p := 1 + r) (by omega) (by omega)
  rw [hq', hj, ← ha1, ← ha2] at hcov
  obtain ⟨hcov1, hcov2⟩ := hcov
  have hal1 : a1 ≤ j := by rw [ha1, ← hj]; exact atMost_le _ _
  have hal2 : a2 ≤ j := by rw [ha2, ← hj]; exact atMost_le _ _
  have hmul1 : 0 ≤ (1 + r) * (j : Int) := Int.mul_nonneg (by omega) (by omega)
  have hmul2 : (1 + r) * (j : Int) ≤ 1000 * (j : Int) := Int.mul_le_mul_of_nonneg_right (by omega) (by omega)
  have hj1 : 1 ≤ j := by omega
  have hj2 : j ≤ 16 := by omega
  have HM := Lib.hid hm
  have HD := Lib.hid hd
  have HK := Lib.hid hk
  have HJ := Lib.hid hj
  have HR := Lib.hid hr1
  have HQ := Lib.hid hq
  have HA1 := Lib.hid ha1
  have HA2 := Lib.hid ha2
  have HDL := Lib.hid hdl
  have HDS := Lib.hid hds
  have HX := Lib.hid hx
  have HL := Lib.hid hl
  clear hm hd hk hj hr1 hq ha1 ha2 hdl hds hx hl hkb hj16 hq'
  go_enter Try.func6, Try.ntmps6
  go_wp2_with fail
  refine (delays_s A n c xs (delays xs) m rfl HM.out _ HL.out hr HX.out hn).mono ?_
  rintro e w1 ⟨A1, c1, rfl, hown1, _, hb1⟩
  have HO1 := Lib.hid (hown1.alloc (.cells #[.int .i64 3] 3))
  have hlen1 : (delays xs).length < 1000000000000 := by rw [HM.out]; omega
  have hsz1 := hb1.size
  have hn1 : Hid ((delays xs).length + 1 = m + 1) := by show _ = _; rw [HM.out]
  go_wp2_with (at_builtin; refine wpl_append1 rfl (.tmp 11) (.tmp 12) 22 rfl 3 Try.underlying22 int_info3 w.heap.size _ _ rfl HO1.out ⟨w1.heap.size, 0, none⟩ 1 3 (m + 1) hn1.out rfl (int_one _ _) hlen1 (by simp; omega) ?_; intro A2 c2 w2 hown2 hb2)
  have hb02 : Below w.heap.size w w2 := (hb1.alloc hb1.size (.cells #[.int .i64 3] 3)).trans hb2
  refine (around_s pp 1000 r HR.out _ hp1 hp2 (by omega) (by omega)).mono ?_
  rintro e w2' ⟨rfl, rfl⟩
  go_wp2_with fail
  have hown2 := hown2.out
  rw [← HD.out] at hown2
  refine (filled_ex A2 (m + 1) c2 ds HDL.out _ hown2.rd HDS.out (by omega)).mono ?_
  rintro e w3 ⟨g, rfl, hg, he3, hb3⟩
  go_wp2_with fail
  refine (kept_s A2 (m + 1) c2 ds ks j HK.out HJ.out _ HDL.out ((hown2.rd.below hb3 (Nat.le_refl _)).more hb3.size) HDS.out (by omega)).mono ?_
  rintro e w4 ⟨A4, c4, rfl, hown4, _, hb4⟩
  have he4 := he3.below hb4 he3.1.lt
  go_wp2_with fail
  refine (quantile_at _ _ (1 + r) q HQ.out _ he4 (by omega) (by omega)).mono ?_
  rintro e w5 ⟨rfl, he5, hb5⟩
  have hrd5 := hown4.rd.below hb5 (Nat.le_refl _)
  go_wp2_with fail
  refine (atMost_s A4 j c4 ks q a1 HA1.out _ _ HJ.out hrd5 (by omega)).mono ?_
  rintro e w6 ⟨rfl, rfl⟩
  go_wp2_with fail
  refine (atMost_s A4 j c4 ks (q - 1) a2 HA2.out _ _ HJ.out hrd5 (by omega)).mono ?_
  rintro e w6 ⟨rfl, rfl⟩
  go_wp2_with fail
  refine (lives_any _).mono ?_
  rintro e w7 ⟨rfl, hb7⟩
  go_wp2_with fail
  go_ret
  exact ⟨rfl, chain (chain (chain (chain hb02 hb3) hb4) hb5) hb7⟩

theorem refq_s (A : Option Addr) (n c : Nat) (xs : List Int) (p r : Int) (hr' : r = refQuantile xs p) (B : Nat) (w : World) (hl : xs.length = n) (hr : Rd w B A xs) (hn : n ≤ 1000) :
    Calls Try.prog 18 #[.slice A n c, .int .i64 p] w fun e w' => e = .returned (.int .i64 r) ∧ w = w' := by
  subst hr'; exact refQuantile_any A n c xs p B w hl hr hn
theorem largest_s (A : Option Addr) (n c : Nat) (xs : List Int) (r : Int) (hr' : r = largest xs) (B : Nat) (w : World) (hl : xs.length = n) (hr : Rd w B A xs) (hn : n ≤ 1000) :
    Calls Try.prog 19 #[.slice A n c] w fun e w' => e = .returned (.int .i64 r) ∧ w = w' := by
  subst hr'; exact largest_any A n c xs B w hl hr (by simp [maxLen]; omega)
theorem add_s (g : Nat) (s s' : Est) (x : Int) (hs : s' = s.add x) (w : World) (h : IsEst w g s) (hc : s.count < 100000) (h1 : -9223372036854775808 ≤ x) (h2 : x ≤ 9223372036854775807) :
    Calls Try.prog 16 #[.pointer (some ⟨g, 0, none⟩), .int .i64 x] w fun e w' => e = .returned (.tuple #[]) ∧ IsEst w' g s' ∧ Below g w w' := by
  subst hs; exact add_any g s x g w h hc h1 h2 (Nat.le_refl _)

set_option maxHeartbeats 2000000 in
theorem model_walk (A : Option Addr) (n c : Nat) (xs : List Int) (pp : Int) (w : World) (hl : xs.length = n) (hr : Rd w w.heap.size A xs) (hx : ∀ x ∈ xs, -9223372036854775808 ≤ x ∧ x ≤ 9223372036854775807) (hn : n ≤ maxLen)
    (hp1 : -9223372036854775808 ≤ pp) (hp2 : pp ≤ 9223372036854775807) :
    Calls Try.prog 3 #[.slice A n c, .int .i64 pp] w fun e w' => e = .returned (.bool true) ∧ Below w.heap.size w w' := by
  obtain ⟨ds, hd⟩ : ∃ ds, ds = delays xs := ⟨_, rfl⟩
  obtain ⟨m, hm⟩ : ∃ m, ds.length = m := ⟨_, rfl⟩
  obtain ⟨r, hr1⟩ : ∃ r, r = around pp 1200 := ⟨_, rfl⟩
  have hm40 : m ≤ 40 := by rw [← hm, hd]; exact delays_length xs
  have hds := small_bd (hd ▸ delays_small xs)
  have hra := around_lo (n := pp) (m := 1200) (by omega)
  have hrb := around_hi (n := pp) (m := 1200) (by omega)
  rw [← hr1] at hra hrb
  have hn1 : ∀ q, Est.new.quantile q = 0 := fun q => by show (Est.run []).quantile q = 0; rw [Est.quantile_eq]; rfl
  have hn2 : Est.new.delay = 0 := by unfold Est.delay; rw [hn1]; rfl
  have hn3 : Est.new.window = 1 := by unfold Est.window; rw [hn1]; rfl
  have HM := Lib.hid hm
  have HD := Lib.hid hd
  have HR := Lib.hid hr1
  have HDS := Lib.hid hds
  have HX := Lib.hid hx
  have HL := Lib.hid hl
  have HN1 := Lib.hid hn1
  have HN2 := Lib.hid hn2
  have HN3 := Lib.hid hn3
  clear hm hd hr1 hds hx hl hn1 hn2 hn3
  go_enter Try.func3, Try.ntmps3
  go_wp2_with fail
  refine (delays_s A n c xs ds m HD.out HM.out _ HL.out hr HX.out hn).mono ?_
  rintro e w1 ⟨A1, c1, rfl, hown1, _, hb1⟩
  have hrd1 := hown1.rd
  have hcap1 := hown1.cap.1
  go_wp2_with fail
  refine (new_any _).mono ?_
  rintro e w2 ⟨rfl, he2, hb2⟩
  obtain ⟨g, hg⟩ : ∃ g, w1.heap.size = g := ⟨_, rfl⟩
  rw [hg] at he2 hb2 hrd1 ⊢
  go_wp2_with fail
  refine (quantile_at _ _ pp 0 (HN1.out pp) _ he2 hp1 hp2).mono ?_
  rintro e w3 ⟨rfl, he3, hb3⟩
  go_wp2_with fail
  refine (delay_at _ _ 0 HN2.out _ he3).mono ?_
  rintro e w4 ⟨rfl, he4, hb4⟩
  go_wp2_with fail
  refine (window_at _ _ 1 HN3.out _ he4).mono ?_
  rintro e w5 ⟨rfl, he5, hb5⟩
  go_wp2_with fail
  refine (around_s pp 1200 r HR.out _ hp1 hp2 (by omega) (by omega)).mono ?_
  rintro e w5' ⟨rfl, rfl⟩
  have hbg : Below g w1 w5 := ((hb2.trans (hb3.mono (by have := he2.1.lt; omega))).trans (hb4.mono (by have := he3.1.lt; omega))).trans (hb5.mono (by have := he4.1.lt; omega))
  have hgw : w.heap.size ≤ g := by rw [← hg]; exact hb1.size
  have HG := Lib.hid hg
  clear hg
  go_wp2_with fail
  go_loopw [8] (fun i wr => ∃ k : Nat, k ≤ m ∧ i = .int .i64 k ∧ IsEst wr g (Est.run (ds.take k)) ∧ Below g w1 wr) (fun i _ => m - (intOf i).toNat)
  case atStart => exact ⟨0, Nat.zero_le _, rfl, he5, hbg⟩
  case round =>
    obtain ⟨k, hk, rfl, her, hbr⟩ := hrel
    by_cases hlt : k < m
    · obtain ⟨b, off, rfl, hbb, hc⟩ := hrd1 (by rw [HM.out]; omega)
      have hkl : k < ds.length := by rw [HM.out]; exact hlt
      have hck := (hbr.cell (p := ⟨b, off + k, none⟩) hbb).trans (hc k hkl)
      have hbd := HDS.out _ (ix_mem hkl)
      have hcn : (Est.run (ds.take k)).count < 100000 := by rw [Est.run_count]; simp; omega
      have hsn := run_take_snoc hkl
      obtain ⟨es, hes⟩ : ∃ es, es = ds.take (k + 1) := ⟨_, rfl⟩
      obtain ⟨ks, hks⟩ : ∃ ks, ks = kept es := ⟨_, rfl⟩
      obtain ⟨j, hj⟩ : ∃ j, ks.length = j := ⟨_, rfl⟩
      have hel : es.length = k + 1 := by rw [hes, List.length_take, HM.out]; omega
      have hkb : ∀ x ∈ ks, 0 ≤ x ∧ x ≤ 60 := hks ▸ kept_bd es
      have hj0 : ks.length ≠ 0 := by rw [hks, kept_length, hel]; omega
      have hj16 : j ≤ 16 := by rw [← hj, hks, kept_length]; omega
      have hq : ∀ q, (Est.run es).quantile q = refQuantile ks q := fun q => by rw [Est.quantile_eq, ← hks, Q_ref hj0 hkb]
      have hdl : (Est.run es).delay = min 8 (refQuantile ks 900) := by rw [Est.delay_eq, ← hks]; unfold D; rw [Q_ref hj0 hkb]
      have hwd : (Est.run es).window = min 12 (largest ks + 1) := by rw [Est.window_eq, ← hks]; exact W_ref hj0 hkb
      have hqb := Q_bd hkb 900
      rw [Q_ref hj0 hkb] at hqb
      have hlb := Q_bd hkb 1000
      rw [Q_largest hj0 hkb] at hlb
      rw [← hes] at hsn
      have hesb : ∀ x ∈ es, -9223372036854775808 ≤ x ∧ x ≤ 9223372036854775807 := fun x hx => HDS.out x (by rw [hes] at hx; exact List.mem_of_mem_take hx)
      obtain ⟨q1, hq1⟩ : ∃ q1, q1 = refQuantile ks pp := ⟨_, rfl⟩
      obtain ⟨q2, hq2⟩ : ∃ q2, q2 = refQuantile ks (r - 100) := ⟨_, rfl⟩
      obtain ⟨q3, hq3⟩ : ∃ q3, q3 = refQuantile ks 900 := ⟨_, rfl⟩
      obtain ⟨q4, hq4⟩ : ∃ q4, q4 = largest ks := ⟨_, rfl⟩
      rw [← hq3] at hdl hqb
      rw [← hq4] at hwd hlb
      obtain ⟨hqb1, hqb2⟩ := hqb
      obtain ⟨hlb1, hlb2⟩ := hlb
      have HQ1 := Lib.hid hq1
      have HQ2 := Lib.hid hq2
      have HQ3 := Lib.hid hq3
      have HQ4 := Lib.hid hq4
      have HQ := Lib.hid hq
      have HDL := Lib.hid hdl
      have HWD := Lib.hid hwd
      have HSN := Lib.hid hsn
      have HES := Lib.hid hes
      have HKS := Lib.hid hks
      have HJ := Lib.hid hj
      have HEL := Lib.hid hel
      have HEB := Lib.hid hesb
      clear hc hq1 hq2 hq3 hq4 hq hdl hwd hsn hes hks hj hel hkb hj0 hesb hkl
      go_wp2_with fail
      refine (add_s g _ (Est.run es) _ HSN.out _ her hcn hbd.1 hbd.2).mono ?_
      rintro e w6 ⟨rfl, he6, hb6⟩
      have hb16 := hbr.trans hb6
      have hrdk : Rd w6 g (some ⟨b, off, none⟩) es := by rw [HES.out]; exact (hrd1.below hb16 (Nat.le_refl _)).take _
      go_wp2_with fail
      refine (kept_s _ (k + 1) c1 es ks j HKS.out HJ.out _ HEL.out (hrdk.more he6.1.le) HEB.out (by omega)).mono ?_
      rintro e w7 ⟨A7, c7, rfl, hown7, _, hb7⟩
      have he7 := he6.below hb7 he6.1.lt
      have hrd7 := hown7.rd
      go_wp2_with fail
      refine (quantile_at _ _ pp q1 ((HQ.out pp).trans HQ1.out.symm) _ he7 hp1 hp2).mono ?_
      rintro e w8 ⟨rfl, he8, hb8⟩
      have hrd8 := hrd7.below hb8 (Nat.le_refl _)
      go_wp2_with fail
      refine (refq_s A7 j c7 ks pp q1 HQ1.out _ _ HJ.out hrd8 (by omega)).mono ?_
      rintro e w8' ⟨rfl, rfl⟩
      go_wp2_with fail
      refine (quantile_at _ _ (r - 100) q2 ((HQ.out _).trans HQ2.out.symm) _ he8 (by omega) (by omega)).mono ?_
      rintro e w9 ⟨rfl, he9, hb9⟩
      have hrd9 := hrd8.below hb9 (by have := hb8.size; omega)
      go_wp2_with fail
      refine (refq_s A7 j c7 ks (r - 100) q2 HQ2.out _ _ HJ.out hrd9 (by omega)).mono ?_
      rintro e w9' ⟨rfl, rfl⟩
      go_wp2_with fail
      refine (delay_at _ _ (min 8 q3) HDL.out _ he9).mono ?_
      rintro e w10 ⟨rfl, he10, hb10⟩
      have hrd10 := hrd9.below hb10 (by have := hb9.size; have := hb8.size; omega)
      go_wp2_with fail
      refine (refq_s A7 j c7 ks 900 q3 HQ3.out _ _ HJ.out hrd10 (by omega)).mono ?_
      rintro e w10' ⟨rfl, rfl⟩
      go_wp2_with fail
      refine (window_at _ _ (min 12 (q4 + 1)) HWD.out _ he10).mono ?_
      rintro e w11 ⟨rfl, he11, hb11⟩
      have hrd11 := hrd10.below hb11 (by have := hb10.size; have := hb9.size; have := hb8.size; omega)
      go_wp2_with fail
      refine (largest_s A7 j c7 ks q4 HQ4.out _ _ HJ.out hrd11 (by omega)).mono ?_
      rintro e w11' ⟨rfl, rfl⟩
      go_wp2_with fail
      go_roundw
      case rel => exact ⟨k + 1, by omega, by go_num, by rw [← HES.out]; exact he11, ((((hb16.trans (hb7.mono he6.1.le)).trans (hb8.mono he7.1.le)).trans (hb9.mono he8.1.le)).trans (hb10.mono he9.1.le)).trans (hb11.mono he10.1.le)⟩
      case measure => simp [intOf]; omega
    · go_wp2_with (go_at_call 20; refine (lives_any _).mono ?_; rintro e w9 ⟨rfl, hb9⟩)
      go_ret
      exact ⟨rfl, chain (hb1.trans (hbr.mono hgw)) hb9⟩

end Go.Proofs.Ytmicmibffceiaaa
