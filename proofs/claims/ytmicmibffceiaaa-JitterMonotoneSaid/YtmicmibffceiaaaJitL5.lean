/-
  The law JitterMonotone, called: it returns true and writes nothing that was there.
-/
import Derived.Test.YtmicmibffceiaaaJitL2
import Derived.StillTailTactics
namespace Go.Proofs.Ytmicmibffceiaaa
set_option linter.unusedVariables false
set_option linter.unusedSimpArgs false
open Go.RowKit

theorem ix_set {zs : List Int} {k i : Nat} {v : Int} (hk : k < zs.length) : ix (zs.set k v) i = if k = i then v else ix zs i := by
  simp only [ix, List.getD, List.getElem?_set]
  split
  · subst_vars; simp [hk]
  · rfl
set_option maxHeartbeats 2000000 in
theorem mono_walk (A : Option Addr) (n c : Nat) (xs : List Int) (one two at_ by_ : Int) (w : World) (hl : xs.length = n) (hr : Rd w w.heap.size A xs) (hx : ∀ x ∈ xs, -9223372036854775808 ≤ x ∧ x ≤ 9223372036854775807) (hn : n ≤ maxLen)
    (ho1 : -9223372036854775808 ≤ one) (ho2 : one ≤ 9223372036854775807) (ht1 : -9223372036854775808 ≤ two) (ht2 : two ≤ 9223372036854775807) (ha1 : -9223372036854775808 ≤ at_) (ha2 : at_ ≤ 9223372036854775807) (hb1 : -9223372036854775808 ≤ by_) (hb2 : by_ ≤ 9223372036854775807) :
    Calls Try.prog 8 #[.slice A n c, .int .i64 one, .int .i64 two, .int .i64 at_, .int .i64 by_] w fun e w' => e = .returned (.bool true) ∧ Below w.heap.size w w' := by
  obtain ⟨m0, hm0⟩ : ∃ m, (delays xs).length = m := ⟨_, rfl⟩
  have hm40 : m0 ≤ 40 := by rw [← hm0]; exact delays_length xs
  obtain ⟨ds, hd⟩ : ∃ ds, ds = delays xs ++ [5] := ⟨_, rfl⟩
  obtain ⟨m, hm⟩ : ∃ m, m = m0 + 1 := ⟨_, rfl⟩
  have hdl : ds.length = m := by rw [hd, List.length_append, hm0, hm]; rfl
  have hds : ∀ x ∈ ds, -1000 ≤ x ∧ x ≤ 1000 := by
    intro x hx
    rw [hd] at hx
    rcases List.mem_append.1 hx with h | h
    · exact delays_small xs x h
    · simp at h; omega
  obtain ⟨r, hr1⟩ : ∃ r, r = around at_ m := ⟨_, rfl⟩
  have hra := around_lo (n := at_) (m := m) (by omega)
  have hrb := around_hi (n := at_) (m := m) (by omega)
  rw [← hr1] at hra hrb
  obtain ⟨k, rfl⟩ : ∃ k : Nat, r = (k : Int) := ⟨r.toNat, by omega⟩
  obtain ⟨y, hy⟩ : ∃ y, y = around by_ 30 := ⟨_, rfl⟩
  have hya := around_lo (n := by_) (m := 30) (by omega)
  have hyb := around_hi (n := by_) (m := 30) (by omega)
  rw [← hy] at hya hyb
  obtain ⟨p, hp⟩ : ∃ p, p = around one 1001 := ⟨_, rfl⟩
  have hpa := around_lo (n := one) (m := 1001) (by omega)
  have hpb := around_hi (n := one) (m := 1001) (by omega)
  rw [← hp] at hpa hpb
  obtain ⟨q, hq⟩ : ∃ q, q = around two (1001 - p) := ⟨_, rfl⟩
  have hqa := around_lo (n := two) (m := 1001 - p) (by omega)
  have hqb := around_hi (n := two) (m := 1001 - p) (by omega)
  rw [← hq] at hqa hqb
  have hkm : k < m := by omega
  obtain ⟨us, hu⟩ : ∃ us, us = ds.set k (ix ds k + y) := ⟨_, rfl⟩
  have hul : us.length = m := by rw [hu, List.length_set, hdl]
  have hdk := hds _ (ix_mem (zs := ds) (k := k) (by omega))
  have hus : ∀ x ∈ us, -1100 ≤ x ∧ x ≤ 1100 := by
    intro x hx
    rw [hu] at hx
    rcases List.mem_or_eq_of_mem_set hx with h | h
    · have := hds x h; omega
    · omega
  have hle : ∀ i, i < ds.length → ix ds i ≤ ix us i := by
    intro i hi
    rw [hu, ix_set (by omega)]
    split
    · subst_vars; omega
    · omega
  obtain ⟨q1, hq1⟩ : ∃ z, (Est.run ds).quantile p = z := ⟨_, rfl⟩
  obtain ⟨q2, hq2⟩ : ∃ z, (Est.run ds).quantile (p + q) = z := ⟨_, rfl⟩
  obtain ⟨q3, hq3⟩ : ∃ z, (Est.run us).quantile p = z := ⟨_, rfl⟩
  obtain ⟨d1, hd1⟩ : ∃ z, (Est.run ds).delay = z := ⟨_, rfl⟩
  obtain ⟨d2, hd2⟩ : ∃ z, (Est.run us).delay = z := ⟨_, rfl⟩
  obtain ⟨v1, hv1⟩ : ∃ z, (Est.run ds).window = z := ⟨_, rfl⟩
  obtain ⟨v2, hv2⟩ : ∃ z, (Est.run us).window = z := ⟨_, rfl⟩
  have l1 : q1 ≤ q2 := by rw [← hq1, ← hq2, Est.quantile_eq, Est.quantile_eq]; exact Q_mono_p _ (by omega)
  have l2 : q1 ≤ q3 := by rw [← hq1, ← hq3, Est.quantile_eq, Est.quantile_eq]; exact Q_raise (by omega) hle p
  have l3 : d1 ≤ d2 := by rw [← hd1, ← hd2, Est.delay_eq, Est.delay_eq]; exact D_raise (by omega) hle
  have l4 : v1 ≤ v2 := by rw [← hv1, ← hv2, Est.window_eq, Est.window_eq]; exact W_raise (by omega) hle
  have hds' := small_bd hds
  have hus' : ∀ x ∈ us, -9223372036854775808 ≤ x ∧ x ≤ 9223372036854775807 := fun x hx => by have := hus x hx; omega
  have hm41 : m ≤ 41 := by omega
  have hm1 : 1 ≤ m := by omega
  have HX := Lib.hid hx
  have HL := Lib.hid hl
  have HM0 := Lib.hid hm0
  have HM := Lib.hid hm
  have HD := Lib.hid hd
  have HDL := Lib.hid hdl
  have HR := Lib.hid hr1
  have HY := Lib.hid hy
  have HP := Lib.hid hp
  have HQ := Lib.hid hq
  have HU := Lib.hid hu
  have HUL := Lib.hid hul
  have HDS := Lib.hid hds'
  have HUS := Lib.hid hus'
  have HDS2 : Hid (∀ i, i < m → -1000 ≤ ix ds i ∧ ix ds i ≤ 1000) := fun i hi => hds _ (ix_mem (by omega))
  have HQ1 := Lib.hid hq1
  have HQ2 := Lib.hid hq2
  have HQ3 := Lib.hid hq3
  have HD1 := Lib.hid hd1
  have HD2 := Lib.hid hd2
  have HV1 := Lib.hid hv1
  have HV2 := Lib.hid hv2
  clear hx hl hm0 hm hd hdl hr1 hy hp hq hu hul hds hus hds' hus' hle hq1 hq2 hq3 hd1 hd2 hv1 hv2
  go_enter Try.func8, Try.ntmps8
  go_wp2_with fail
  refine (delays_s A n c xs (delays xs) m0 rfl HM0.out _ HL.out hr HX.out hn).mono ?_
  rintro e w1 ⟨A1, c1, rfl, hown1, _, hb1⟩
  have HO1 := Lib.hid (hown1.alloc (.cells #[.int .i64 5] 3))
  have hlen1 : (delays xs).length < 1000000000000 := by rw [HM0.out]; omega
  have hsz1 := hb1.size
  have hn1 : Hid ((delays xs).length + 1 = m) := by show _ = _; rw [HM0.out, HM.out]
  have hm41' := hm41
  go_wp2_with (at_builtin; refine wpl_append1 rfl (.tmp 19) (.tmp 20) 22 rfl 3 Try.underlying22 int_info3 w.heap.size _ _ rfl HO1.out ⟨w1.heap.size, 0, none⟩ 1 5 m hn1.out rfl (int_one _ _) hlen1 (by simp; omega) ?_; intro A2 c2 w2 hown2 hb2)
  have hb02 : Below w.heap.size w w2 := (hb1.alloc hb1.size (.cells #[.int .i64 5] 3)).trans hb2
  have hown2 := hown2.out
  rw [← HD.out] at hown2
  have hcap2 := hown2.cap
  refine (ints_any A2 m c2 41 m ds _ _ HDL.out hcap2.1 hcap2.2 (by omega) (by omega) (by omega) hown2.rd hown2.nilcap).mono ?_
  rintro e w3 ⟨A3, c3, rfl, hown3, hb3⟩
  have htk : ds.take m = ds := List.take_of_length_le (by rw [HDL.out]; exact Nat.le_refl _)
  rw [htk] at hown3
  have HTK := Lib.hid htk
  clear htk
  go_wp2_with fail
  refine (around_s at_ m k HR.out _ ha1 ha2 (by omega) (by omega)).mono ?_
  rintro e w3' ⟨rfl, rfl⟩
  obtain ⟨b, rfl, hbB, hbb, hcell, hfrz⟩ := hown3.open_ (by omega)
  have hck := hcell k hkm
  have hfr := hfrz k
  clear hcell hfrz
  have hdk' : -2000 ≤ ix ds k ∧ ix ds k ≤ 2000 := by have := HDS2.out k hkm; omega
  have hwrap : IntKind.i64.wrap (ix ds k + y) = ix ds k + y := IntWalk.i64_in _ (by omega)
  have hown4 : Own 3 (w3.setCell ⟨b, k, none⟩ (.int .i64 (ix ds k + y))).drew w2.heap.size (.slice (some ⟨b, 0, none⟩) m c3) us := by rw [HU.out]; exact hown3.set_ k _
  have hb34 : Below w2.heap.size w2 (w3.setCell ⟨b, k, none⟩ (.int .i64 (ix ds k + y))).drew := (hb3.setCell hbB _).drew
  have HO4 := Lib.hid hown4
  have HB34 := Lib.hid hb34
  clear hown4 hb34
  go_wp2
  go_region_with (go_at_call 15; refine (around_s by_ 30 y HY.out _ (by assumption) (by assumption) (by omega) (by omega)).mono ?_; rintro e w3'' ⟨rfl, rfl⟩)
  all_goals
    have hown4 := HO4.out
    have hb34 := HB34.out
    clear hwrap
    generalize (w3.setCell ⟨b, k, none⟩ (.int .i64 (ix ds k + y))).drew = w4 at *
    have hrd2 : Rd w4 w4.heap.size A2 ds := (hown2.rd.below hb34 (Nat.le_refl _)).more hb34.size
    go_wp2_with fail
    refine (filled_ex A2 m c2 ds HDL.out _ hrd2 HDS.out (by omega)).mono ?_
    rintro e w5 ⟨g, rfl, hg, he5, hb5⟩
    go_wp2_with fail
    refine (filled_ex _ m c3 us HUL.out _ (hown4.below hb5).rd HUS.out (by omega)).mono ?_
    rintro e w6 ⟨g2, rfl, hg2, he6', hb6⟩
    have he6 := he5.below hb6 he5.1.lt
    go_wp2_with fail
    refine (around_s one 1001 p HP.out _ (by assumption) (by assumption) (by omega) (by omega)).mono ?_
    rintro e w6' ⟨rfl, rfl⟩
    go_wp2_with fail
    refine (around_s two (1001 - p) q HQ.out _ (by assumption) (by assumption) (by omega) (by omega)).mono ?_
    rintro e w6' ⟨rfl, rfl⟩
    go_wp2_with fail
    refine (quantile_at _ _ p q1 HQ1.out _ he6 (by omega) (by omega)).mono ?_
    rintro e w7 ⟨rfl, he7, hb7⟩
    go_wp2_with fail
    refine (quantile_at _ _ (p + q) q2 HQ2.out _ he7 (by omega) (by omega)).mono ?_
    rintro e w8 ⟨rfl, he8, hb8⟩
    go_wp2_with fail
    refine (quantile_at _ _ p q1 HQ1.out _ he8 (by omega) (by omega)).mono ?_
    rintro e w9 ⟨rfl, he9, hb9⟩
    have he9' := ((he6'.below hb7 he6'.1.lt).below hb8 (Nat.lt_of_lt_of_le he6'.1.lt hb7.size)).below hb9 (Nat.lt_of_lt_of_le he6'.1.lt (Nat.le_trans hb7.size hb8.size))
    go_wp2_with fail
    refine (quantile_at _ _ p q3 HQ3.out _ he9' (by omega) (by omega)).mono ?_
    rintro e w10 ⟨rfl, he10', hb10⟩
    have he10 := he9.below hb10 he9.1.lt
    go_wp2_with fail
    refine (delay_at _ _ d1 HD1.out _ he10).mono ?_
    rintro e w11 ⟨rfl, he11, hb11⟩
    have he11' := he10'.below hb11 he10'.1.lt
    go_wp2_with fail
    refine (delay_at _ _ d2 HD2.out _ he11').mono ?_
    rintro e w12 ⟨rfl, he12', hb12⟩
    have he12 := he11.below hb12 he11.1.lt
    go_wp2_with fail
    refine (window_at _ _ v1 HV1.out _ he12).mono ?_
    rintro e w13 ⟨rfl, he13, hb13⟩
    have he13' := he12'.below hb13 he12'.1.lt
    go_wp2_with fail
    refine (window_at _ _ v2 HV2.out _ he13').mono ?_
    rintro e w14 ⟨rfl, he14', hb14⟩
    go_wp2_with fail
    refine (lives_any _).mono ?_
    rintro e w15 ⟨rfl, hb15⟩
    go_wp2_with fail
    go_ret
    exact ⟨rfl, chain (chain (chain (chain (chain (chain (chain (chain (chain (chain (chain (hb02.trans (hb34.mono hb02.size)) hb5) hb6) hb7) hb8) hb9) hb10) hb11) hb12) hb13) hb14) hb15⟩

end Go.Proofs.Ytmicmibffceiaaa
