/-
  arenanetref28.Value: a value that a cell may hold.
-/
import Derived.Test.YtfnoeolngdhjfaaSnV2
namespace Go.Proofs.Ytfnoeolngdhjfaa
set_option linter.unusedVariables false
set_option linter.unusedSimpArgs false
set_option maxRecDepth 4000
open Go.RowKit

set_option maxHeartbeats 2000000 in
theorem value_any (cs : Array Value) (s : Su) (m : SuM) (k : Nat) (v : Int) (w : World) (hcs : cs = suVals s m) (hp8 : s.players ≤ 100) (hn8 : m.nb ≤ 100) (hn0 : 0 < m.nb) (hk : k < 1300) (hv1 : -9223372036854775808 ≤ v) (hv2 : v ≤ 9223372036854775807) :
    Calls Try.prog 25 #[.agg cs, .int .i64 (k : Int), .int .i64 v] w fun e w' => ∃ u : Int, e = .returned (.int .i64 u) ∧ ((-2147483647 ≤ u ∧ u ≤ 2147483647) ∧ (48 + 4 * s.players ≤ k → (k - (48 + 4 * s.players)) % 8 < 2 → -1048576 ≤ u ∧ u ≤ 1048576)) ∧ Below w.heap.size w w' := by
  have HCS := Lib.hid hcs
  have HV1 := Lib.hid hv1
  have HV2 := Lib.hid hv2
  have HBS := Lib.hid (Blk.new w 49 cs)
  have HB0 : Hid (Below w.heap.size w (w.alloc (.cells cs 49))) := (Below.refl _ _).alloc (Nat.le_refl _) _
  have l1 := (bound_bd v 1048576 (by omega)).1
  have l2 := (bound_bd v 1048576 (by omega)).2
  have l3 := (bound_bd v 2147483647 (by omega)).1
  have l4 := (bound_bd v 2147483647 (by omega)).2
  have HL1 := Lib.hid l1
  have HL2 := Lib.hid l2
  have HL3 := Lib.hid l3
  have HL4 := Lib.hid l4
  clear hcs hv1 hv2 l1 l2 l3 l4
  go_enter Try.func25, Try.ntmps25
  go_wp2_with (refine wpl_load_g rfl 49 _ rfl _ rfl 49 cs (0, 0) _ HBS.out Try.underlying49 rfl (su_info' HCS.out) ?_)
  refine (rbody_any cs s m 0 _ HCS.out hp8 hn8 hn0).mono ?_
  rintro e w1 ⟨rfl, hb1⟩
  obtain ⟨f0, hf0⟩ : ∃ f0, f0 = 48 + 4 * s.players := ⟨_, rfl⟩
  rw [show 48 + 4 * s.players + 8 * 0 = f0 by omega]
  have hf1 : f0 < 1300 := by omega
  have HF0 := Lib.hid hf0
  have HB1 := Lib.hid (HB0.out.trans (hb1.mono HB0.out.size))
  clear hb1 hf0
  have e0 : decide ((0 : Int) ≤ (f0 : Int)) = true := decide_eq_true (by omega)
  by_cases hlt : k < f0
  · have e1 : decide ((f0 : Int) ≤ (k : Int)) = false := decide_eq_false (by omega)
    go_wp2_with fail
    refine (bound_any v 2147483647 _ HV1.out HV2.out (by omega) (by omega)).mono ?_
    rintro e w2 ⟨rfl, rfl⟩
    obtain ⟨u, hu⟩ : ∃ u, bound v 2147483647 = u := ⟨_, rfl⟩
    have HU := Lib.hid hu
    rw [hu]
    clear hu
    go_wp2
    go_ret
    rw [← HF0.out]
    exact ⟨u, rfl, ⟨⟨by rw [← HU.out]; exact HL3.out, by rw [← HU.out]; exact HL4.out⟩, fun h => absurd h (by omega)⟩, HB1.out⟩
  · have e1 : decide ((f0 : Int) ≤ (k : Int)) = true := decide_eq_true (by omega)
    have e2 : (-9223372036854775808 : Int) ≤ (k : Int) - (f0 : Int) := by omega
    have e3 : (k : Int) - (f0 : Int) ≤ 9223372036854775807 := by omega
    obtain ⟨d, hd⟩ : ∃ d : Nat, (k : Int) - (f0 : Int) = (d : Int) := ⟨k - f0, by omega⟩
    have hd' : k - f0 = d := by omega
    by_cases hq : d % 8 < 2
    · have e4 : decide (((k : Int) - (f0 : Int)).tmod 8 < 2) = true := decide_eq_true (by rw [hd, Int.tmod_eq_emod_of_nonneg (by omega)]; omega)
      go_wp2_with fail
      refine (bound_any v 1048576 _ HV1.out HV2.out (by omega) (by omega)).mono ?_
      rintro e w2 ⟨rfl, rfl⟩
      obtain ⟨u, hu⟩ : ∃ u, bound v 1048576 = u := ⟨_, rfl⟩
      have HU := Lib.hid hu
      rw [hu]
      clear hu
      go_wp2
      go_ret
      rw [← HF0.out]
      have u1 : -1048576 ≤ u := by rw [← HU.out]; exact HL1.out
      have u2 : u ≤ 1048576 := by rw [← HU.out]; exact HL2.out
      exact ⟨u, rfl, ⟨⟨by omega, by omega⟩, fun _ _ => ⟨u1, u2⟩⟩, HB1.out⟩
    · have e4 : decide (((k : Int) - (f0 : Int)).tmod 8 < 2) = false := decide_eq_false (by rw [hd, Int.tmod_eq_emod_of_nonneg (by omega)]; omega)
      go_wp2_with fail
      refine (bound_any v 2147483647 _ HV1.out HV2.out (by omega) (by omega)).mono ?_
      rintro e w2 ⟨rfl, rfl⟩
      obtain ⟨u, hu⟩ : ∃ u, bound v 2147483647 = u := ⟨_, rfl⟩
      have HU := Lib.hid hu
      rw [hu]
      clear hu
      go_wp2
      go_ret
      rw [← HF0.out]
      exact ⟨u, rfl, ⟨⟨by rw [← HU.out]; exact HL3.out, by rw [← HU.out]; exact HL4.out⟩, fun h h2 => absurd (show d % 8 < 2 by rw [← hd']; exact h2) hq⟩, HB1.out⟩
/-- What the functions take of a state with one cell changed. -/
theorem VisIn.set_ {w5 W : World} {B : Nat} {cs : Array Value} {s : Su} {m : SuM} {A A' : Option Addr} {N c' k B2 : Nat} {zs : List Int} {u : Int} (h : VisIn w5 B cs s m A N zs) (hb : Below w5.heap.size w5 W) (ho : Own 3 W B2 (.slice A' N c') (zs.set k u)) (hk : k < N)
    (hu : (-2147483647 ≤ u ∧ u ≤ 2147483647) ∧ (48 + 4 * s.players ≤ k → (k - (48 + 4 * s.players)) % 8 < 2 → -1048576 ≤ u ∧ u ≤ 1048576)) : VisIn W W.heap.size cs s m A' N (zs.set k u) := by
  have hl := h.len
  refine ⟨h.su.below (hb.mono h.B) (Nat.le_trans h.B hb.size), h.p8, h.n8, h.pn, h.n0, h.hN, by rw [List.length_set]; exact hl, ho.rd, fun j hj => ?_, h.nd, h.doors, Nat.le_refl _⟩
  rw [List.length_set] at hj
  rw [ix_set (by omega)]
  split
  · rename_i e; subst e; exact hu
  · exact h.ok j hj
/-- The body whose cell k is, among the first j. -/
def bodyAt (k f0 j : Nat) : Int := if f0 ≤ k ∧ (k - f0) / 8 < j then (((k - f0) / 8 : Nat) : Int) else -1
theorem bodyAt_no {k f0 j : Nat} (h : k < f0 + 8 * j ∨ f0 + 8 * j + 8 ≤ k) : bodyAt k f0 (j + 1) = bodyAt k f0 j := by
  unfold bodyAt
  by_cases h1 : f0 ≤ k ∧ (k - f0) / 8 < j
  · rw [if_pos h1, if_pos (by omega)]
  · rw [if_neg h1, if_neg (by omega)]
theorem bodyAt_yes {k f0 j : Nat} (h1 : f0 + 8 * j ≤ k) (h2 : k < f0 + 8 * j + 8) : bodyAt k f0 (j + 1) = (j : Int) := by
  unfold bodyAt
  have : (k - f0) / 8 = j := by omega
  rw [if_pos (by omega), this]
set_option maxHeartbeats 40000000 in
theorem hides_walk (A1 : Option Addr) (n1 c1 : Nat) (xs : List Int) (A2 : Option Addr) (n2 c2 : Nat) (ys : List Int) (z q v : Int) (w : World) (h1 : In w A1 n1 xs) (h2 : In w A2 n2 ys) (hz1 : -9223372036854775808 ≤ z) (hz2 : z ≤ 9223372036854775807) (hq1 : -9223372036854775808 ≤ q) (hq2 : q ≤ 9223372036854775807) (hv1 : -9223372036854775808 ≤ v) (hv2 : v ≤ 9223372036854775807) :
    Calls Try.prog 8 #[.slice A1 n1 c1, .slice A2 n2 c2, .int .i64 z, .int .i64 q, .int .i64 v] w fun e w' => e = .returned (.bool true) ∧ Below w.heap.size w w' := by
  have H1 := Lib.hid h1
  have H2 := Lib.hid h2
  have HZ1 := Lib.hid hz1
  have HZ2 := Lib.hid hz2
  have HQ1 := Lib.hid hq1
  have HQ2 := Lib.hid hq2
  have HV1 := Lib.hid hv1
  have HV2 := Lib.hid hv2
  clear h1 h2 hz1 hz2 hq1 hq2 hv1 hv2
  go_enter Try.func8, Try.ntmps8
  go_wp2_with fail
  refine (setup_any A1 n1 c1 xs w H1.out.len H1.out.rd H1.out.bd H1.out.max).mono ?_
  rintro e w1 ⟨cs, m, rfl, hsu, hb1⟩
  have HSU := Lib.hid hsu
  have HB1 := Lib.hid hb1
  clear hsu hb1
  have HBN := Lib.hid (Blk.new w1 49 cs)
  obtain ⟨hp1, hp2, hp3, hp4⟩ := mkSetup_p8 xs
  have hnb : m.nb ≤ 5 := by have := HSU.out.nb; omega
  have hnb0 : 0 < m.nb := by have := HSU.out.nb; omega
  go_wp2_with (first
    | (refine wpl_store_row rfl 49 _ _ rfl rfl w1.heap.size rfl rfl su0 (Blk.new _ _ _) (su_info' HSU.out.eq) (by rw [su_size HSU.out.eq]; rfl) (su_one HSU.out.eq) ?_; rw [World.setRow_alloc_new])
    | (refine wpl_load_g rfl 49 _ rfl _ rfl 49 cs (0, 0) _ HBN.out Try.underlying49 rfl (su_info' HSU.out.eq) ?_))
  obtain ⟨N, hN⟩ : ∃ N, szOf (mkSetup xs) = N := ⟨_, rfl⟩
  have HB2 : Hid (Below w.heap.size w (w1.alloc (.cells cs 49))) := HB1.out.alloc HB1.out.size _
  refine (state_any cs (mkSetup xs) m w1.heap.size N A2 n2 c2 ys _ (HSU.out.below ((Below.refl _ _).alloc (Nat.le_refl _) _) (Nat.le_refl _)) hp1 (by omega) hnb0 (by simp) hN (mkSetup_ok xs) H2.out.len ((H2.out.rd.below HB2.out (Nat.le_refl _)).more HB2.out.size) H2.out.bd H2.out.max).mono ?_
  rintro e w2 ⟨A3, c3, zs, rfl, hzl, hown, hok, hb2⟩
  have HB3 := Lib.hid (HB2.out.trans (hb2.mono HB2.out.size))
  have HBS := Lib.hid (HBN.out.below hb2 (by simp))
  have HV0 := Lib.hid (visIn_of (c := c3) ((HSU.out.below ((Below.refl _ _).alloc (Nat.le_refl _) _) (Nat.le_refl _)).below (hb2.mono (by simp)) (Nat.le_trans (by simp) hb2.size)) hN hzl hown.rd hok (Nat.le_refl _))
  obtain ⟨b5, hb5⟩ : ∃ b5, b5 = w1.heap.size := ⟨_, rfl⟩
  rw [← hb5] at HBS ⊢
  obtain ⟨s, hs⟩ : ∃ s, s = mkSetup xs := ⟨_, rfl⟩
  rw [← hs] at HV0 hp1 hp2 hp3
  have hc0 : w2.cell? ⟨b5, 0, none⟩ = some (.int .i64 (s.players : Int)) := (HBS.out.cell 0).trans (su_c0 HV0.out.su.eq)
  obtain ⟨bz, oz, hA3, hbz, hcz⟩ := HV0.out.rd (by have := HV0.out.len; have := HV0.out.hN; omega)
  have hNN := HV0.out.hN
  have hNb : 0 < N ∧ N < 1300 := by omega
  subst hA3
  clear hN hb2 hown hok hzl hs hb5 hcz hNN
  have ha1 := around_lo (n := z) (m := (s.players : Int)) (by omega)
  have ha2 := around_hi (n := z) (m := (s.players : Int)) (by omega)
  obtain ⟨pl, hpl'⟩ : ∃ pl : Nat, around z (s.players : Int) = (pl : Int) := ⟨(around z (s.players : Int)).toNat, by omega⟩
  have hpl : pl < s.players := by omega
  have HPL := Lib.hid hpl'
  clear ha1 ha2 hpl'
  have ha1 := around_lo (n := q) (m := (N : Int)) (by omega)
  have ha2 := around_hi (n := q) (m := (N : Int)) (by omega)
  obtain ⟨k, hk'⟩ : ∃ k : Nat, around q (N : Int) = (k : Int) := ⟨(around q (N : Int)).toNat, by omega⟩
  have hkN : k < N := by omega
  have HK := Lib.hid hk'
  clear ha1 ha2 hk'
  go_wp2_with fail
  refine (around_any z (s.players : Int) _ HZ1.out HZ2.out (by omega) (by omega)).mono ?_
  rintro e w3' ⟨rfl, rfl⟩
  rw [HPL.out]
  go_wp2_with fail
  refine (around_any q (N : Int) _ HQ1.out HQ2.out (by omega) (by omega)).mono ?_
  rintro e w3' ⟨rfl, rfl⟩
  rw [HK.out]
  go_wp2_with (refine wpl_load_g (by simp [Region.wanted, yielded]) 49 _ rfl _ rfl 49 cs (0, 0) _ HBS.out Try.underlying49 rfl (su_info' HSU.out.eq) ?_)
  refine (view_any cs s m _ N c3 _ pl zs _ HV0.out hpl).mono ?_
  rintro e w4 ⟨A4, n4, c4, rfl, ho4, hb4⟩
  have HO4 := Lib.hid ho4
  have HB4 := Lib.hid (HB3.out.trans (hb4.mono HB3.out.size))
  have HBS4 := Lib.hid (HBS.out.below hb4 HBS.out.lt)
  have HV4 := Lib.hid (HV0.out.below (hb4.mono HV0.out.B))
  clear ho4 hb4
  go_wp2_with (refine wpl_load_g (by simp [Region.wanted, yielded]) 49 _ rfl _ rfl 49 cs (0, 0) _ HBS4.out Try.underlying49 rfl (su_info' HSU.out.eq) ?_)
  refine (seen_any cs s m _ N c3 _ pl zs _ HV4.out hpl).mono ?_
  rintro e w5 ⟨A5, n5, c5, rfl, ho5, hb5⟩
  have HO5 := Lib.hid ho5
  have HB5 := Lib.hid (HB4.out.trans (hb5.mono HB4.out.size))
  have HB45 := Lib.hid hb5
  have HBS5 := Lib.hid (HBS4.out.below hb5 HBS4.out.lt)
  have HV5 := Lib.hid (HV4.out.below (hb5.mono HV4.out.B))
  have HRD := Lib.hid ((HV5.out.rd.below ((Below.refl w5.heap.size w5).alloc (Nat.le_refl _) (.cells #[] 3)) HV5.out.B).more HV5.out.B)
  clear ho5 hb5
  go_wp2_with (first
    | (at_builtin; refine wpl_appends rfl (.tmp 43) (.tmp 44) 22 rfl 3 Try.underlying22 int_info3 w5.heap.size _ [] zs rfl (Own.lit0 w5) (some ⟨bz, oz, none⟩) N c3 w5.heap.size N (by simp) rfl HV5.out.len HRD.out (by simp) (by simp; omega) (by simp) ?_; intro A6 c6 w6 ho6 hb6; have HB6 := Lib.hid (((Below.refl w5.heap.size w5).alloc (Nat.le_refl _) (.cells #[] 3)).trans hb6); have HBS6 := Lib.hid (HBS5.out.below HB6.out HBS5.out.lt); rw [List.nil_append] at ho6; clear hb6)
    | (refine wpl_load_g (by simp [Region.wanted, yielded]) 49 _ rfl _ rfl 49 cs (0, 0) _ HBS6.out Try.underlying49 rfl (su_info' HSU.out.eq) ?_))
  have hn0 : 0 < m.nb := hnb0
  refine (value_any cs s m k v _ HV5.out.su.eq HV5.out.p8 HV5.out.n8 hn0 (by omega) HV1.out HV2.out).mono ?_
  rintro e w7 ⟨u, rfl, hu, hb7⟩
  have HU := Lib.hid hu
  have HB7 := Lib.hid (HB6.out.trans (hb7.mono HB6.out.size))
  have HO7 := Lib.hid (ho6.out.below hb7)
  obtain ⟨g, hA, hgB, hgW, hcell, hfroz⟩ := HO7.out.open_ hNb.1
  subst hA
  have z0 := hcell k hkN
  have z1 := hfroz k
  obtain ⟨y0, hy0⟩ : ∃ y0, y0 = ix zs k := ⟨_, rfl⟩
  rw [← hy0] at z0
  have HO8 := Lib.hid (HO7.out.set_ k u)
  have HB8 := Lib.hid (HB7.out.setCell (p := ⟨g, k, none⟩) (by show _ ≤ g; omega) (.int .i64 u))
  have HBS8 := Lib.hid (HBS5.out.below HB8.out HBS5.out.lt)
  have HV8 := Lib.hid (HV5.out.set_ HB8.out HO8.out hkN HU.out)
  clear hcell hfroz hy0 hu hb7 ho6
  go_wp2_with (refine wpl_load_g (by simp [Region.wanted, yielded]) 49 _ rfl _ rfl 49 cs (0, 0) _ HBS8.out Try.underlying49 rfl (su_info' HSU.out.eq) ?_)
  refine (view_any cs s m _ N c6 _ pl (zs.set k u) _ HV8.out hpl).mono ?_
  rintro e w9 ⟨A7, n7, c7, rfl, ho9, hb9⟩
  have HO9 := Lib.hid ho9
  have HB59 := Lib.hid (HB8.out.trans (hb9.mono HB8.out.size))
  have HB9 := Lib.hid (HB5.out.trans (HB59.out.mono HB5.out.size))
  have HBS9 := Lib.hid (HBS8.out.below hb9 HBS8.out.lt)
  have HV9 := Lib.hid (HV8.out.below hb9)
  have HRA := Lib.hid (((HO4.out.rd.below HB45.out (Nat.le_refl _)).more HB45.out.size).below HB59.out (Nat.le_refl _))
  have HRS := Lib.hid (HO5.out.rd.below HB59.out (Nat.le_refl _))
  have HLA := Lib.hid HO4.out.len
  have HLS := Lib.hid HO5.out.len
  have HRB := Lib.hid HO9.out.rd
  have HLB9 := Lib.hid HO9.out.len
  have hz5 : w5.heap.size ≤ w9.heap.size := HB59.out.size
  clear ho9 hb9
  have hplb : pl < m.nb := by have := HV5.out.pn; omega
  obtain ⟨f1, hf1⟩ : ∃ f1, f1 = 48 + 4 * pl := ⟨_, rfl⟩
  obtain ⟨f0, hf0⟩ : ∃ f0, f0 = 48 + 4 * s.players := ⟨_, rfl⟩
  have HLP : Hid (∀ W : World, Calls Try.prog 26 #[.agg cs, .int .i64 (pl : Int)] W fun e w' => e = .returned (.int .i64 (f1 : Int)) ∧ Below W.heap.size W w') := by
    intro W; rw [hf1]; exact lplayer_any cs s m pl W HV0.out.su.eq hp1 hpl
  have HLB : Hid (∀ (W : World) (j : Nat), j < m.nb → Calls Try.prog 27 #[.agg cs, .int .i64 (j : Int)] W fun e w' => e = .returned (.int .i64 ((f0 + 8 * j : Nat) : Int)) ∧ Below W.heap.size W w') := by
    intro W j hj; rw [hf0]; exact lbody_any cs s m j W HV0.out.su.eq hp1 (by omega) hj
  have HF1 := Lib.hid hf1
  have HF0 := Lib.hid hf0
  have hf1b : f1 < 1000 ∧ f0 < 1000 := by omega
  clear hf1 hf0 z0 z1
  obtain ⟨ow, how⟩ : ∃ ow : Bool, ow = decide (f1 ≤ k ∧ k < f1 + 4) := ⟨_, rfl⟩
  have HOW := Lib.hid how
  clear how
  go_upto_region 10 with (fail)
  go_cut [19] (fun v19 W => v19 = .bool ow ∧ Hid (EqS w9 W))
  case first =>
    by_cases d1 : f1 ≤ k
    · have e1 : decide ((f1 : Int) ≤ (k : Int)) = true := decide_eq_true (by omega)
      go_wp2_with (refine wpl_load_g (by simp [Region.wanted, yielded, e1]) 49 _ rfl _ rfl 49 cs (0, 0) _ HBS9.out Try.underlying49 rfl (su_info' HSU.out.eq) ?_)
      refine (HLP.out _).mono ?_
      rintro e v0 ⟨rfl, hx⟩
      have HBR0 := Lib.hid (HBS9.out.below hx HBS9.out.lt)
      have HE0 := Lib.hid (EqS.next (EqS.refl w9) hx)
      clear hx
      go_wp2_with (refine wpl_load_g (by simp [Region.wanted, yielded, e1]) 49 _ rfl _ rfl 49 cs (0, 0) _ HBR0.out Try.underlying49 rfl (su_info' HSU.out.eq) ?_)
      refine (HLP.out _).mono ?_
      rintro e v1 ⟨rfl, hx⟩
      have HBR1 := Lib.hid (HBR0.out.below hx HBR0.out.lt)
      have HE1 := Lib.hid (EqS.next HE0.out hx)
      clear hx
      by_cases d2 : k < f1 + 4
      · have e2 : decide ((k : Int) < (f1 : Int) + 4) = true := decide_eq_true (by omega)
        go_wp2
        go_meet
        case rel => exact ⟨by rw [HOW.out, decide_eq_true (show f1 ≤ k ∧ k < f1 + 4 from ⟨d1, d2⟩)], HE1⟩
      · have e2 : decide ((k : Int) < (f1 : Int) + 4) = false := decide_eq_false (by omega)
        go_wp2
        go_meet
        case rel => exact ⟨by rw [HOW.out, decide_eq_false (fun h => d2 h.2)], HE1⟩
    · have e1 : decide ((f1 : Int) ≤ (k : Int)) = false := decide_eq_false (by omega)
      go_wp2_with (refine wpl_load_g (by simp [Region.wanted, yielded, e1]) 49 _ rfl _ rfl 49 cs (0, 0) _ HBS9.out Try.underlying49 rfl (su_info' HSU.out.eq) ?_)
      refine (HLP.out _).mono ?_
      rintro e v0 ⟨rfl, hx⟩
      have HBR0 := Lib.hid (HBS9.out.below hx HBS9.out.lt)
      have HE0 := Lib.hid (EqS.next (EqS.refl w9) hx)
      clear hx
      go_wp2
      go_meet
      case rel => exact ⟨by rw [HOW.out, decide_eq_false (fun h => d1 h.1)], HE0⟩
  case rest =>
    obtain ⟨rfl, hE⟩ := hcut
    rename World => w10
    go_wp2
    go_loopw [20, 21] (fun t i W => ∃ j : Nat, j ≤ m.nb ∧ i = .int .i64 (j : Int) ∧ t = .int .i64 (bodyAt k f0 j) ∧ Hid (EqS w9 W)) (fun _ i _ => m.nb - (intOf i).toNat)
    case atStart => exact ⟨0, by omega, rfl, by simp [bodyAt], hE⟩
    case round =>
      obtain ⟨j, hj, rfl, rfl, HE⟩ := hrel
      have HBR := Lib.hid (HBS9.out.below HE.out HBS9.out.lt)
      have hc1 := (HBR.out.cell 1).trans (su_c1 HV5.out.su.eq)
      by_cases hlt : j < m.nb
      · obtain ⟨bt, hbt⟩ : ∃ bt, bt = bodyAt k f0 j := ⟨_, rfl⟩
        have HBT := Lib.hid hbt
        rw [← hbt]
        clear hbt
        obtain ⟨fj, hfj⟩ : ∃ fj, fj = f0 + 8 * j := ⟨_, rfl⟩
        have HLJ : Hid (∀ W : World, Calls Try.prog 27 #[.agg cs, .int .i64 (j : Int)] W fun e w' => e = .returned (.int .i64 (fj : Int)) ∧ Below W.heap.size W w') := fun W => by rw [hfj]; exact HLB.out W j hlt
        have hfjb : fj < 2000 := by omega
        have HFJ := Lib.hid hfj
        clear hfj
        by_cases d1 : fj ≤ k
        · have e1 : decide ((fj : Int) ≤ (k : Int)) = true := decide_eq_true (by omega)
          go_wp2_with (refine wpl_load_g (by simp [Region.wanted, yielded, e1]) 49 _ rfl _ rfl 49 cs (0, 0) _ HBR.out Try.underlying49 rfl (su_info' HSU.out.eq) ?_)
          refine (HLJ.out _).mono ?_
          rintro e v0 ⟨rfl, hx⟩
          have HBR0 := Lib.hid (HBR.out.below hx HBR.out.lt)
          have HE0 := Lib.hid (EqS.next HE.out hx)
          clear hx
          go_wp2_with (refine wpl_load_g (by simp [Region.wanted, yielded, e1]) 49 _ rfl _ rfl 49 cs (0, 0) _ HBR0.out Try.underlying49 rfl (su_info' HSU.out.eq) ?_)
          refine (HLJ.out _).mono ?_
          rintro e v1 ⟨rfl, hx⟩
          have HBR1 := Lib.hid (HBR0.out.below hx HBR0.out.lt)
          have HE1 := Lib.hid (EqS.next HE0.out hx)
          clear hx
          by_cases d2 : k < fj + 8
          · have e2 : decide ((k : Int) < (fj : Int) + 8) = true := decide_eq_true (by omega)
            go_wp2
            go_roundw
            case rel => exact ⟨j + 1, by omega, by go_num, (by have := HFJ.out; rw [bodyAt_yes (by omega) (by omega)]), HE1⟩
            case measure => simp [intOf]; omega
          · have e2 : decide ((k : Int) < (fj : Int) + 8) = false := decide_eq_false (by omega)
            go_wp2
            go_roundw
            case rel => exact ⟨j + 1, by omega, by go_num, (by have := HFJ.out; rw [HBT.out, bodyAt_no (by omega)]), HE1⟩
            case measure => simp [intOf]; omega
        · have e1 : decide ((fj : Int) ≤ (k : Int)) = false := decide_eq_false (by omega)
          go_wp2_with (refine wpl_load_g (by simp [Region.wanted, yielded, e1]) 49 _ rfl _ rfl 49 cs (0, 0) _ HBR.out Try.underlying49 rfl (su_info' HSU.out.eq) ?_)
          refine (HLJ.out _).mono ?_
          rintro e v0 ⟨rfl, hx⟩
          have HBR0 := Lib.hid (HBR.out.below hx HBR.out.lt)
          have HE0 := Lib.hid (EqS.next HE.out hx)
          clear hx
          go_wp2
          go_roundw
          case rel => exact ⟨j + 1, by omega, by go_num, (by have := HFJ.out; rw [HBT.out, bodyAt_no (by omega)]), HE0⟩
          case measure => simp [intOf]; omega
      · have hd : decide ((j : Int) < (m.nb : Int)) = false := decide_eq_false (by omega)
        obtain rfl : j = m.nb := by omega
        clear hlt
        have hkz : k < zs.length := by rw [HV5.out.len]; exact hkN
        have hNN := HV5.out.hN
        by_cases c1 : k = 0
        · have e1 : decide ((k : Int) = 0) = true := decide_eq_true (by omega)
          go_wp2_with fail
          refine (lives_any _).mono ?_
          rintro e vl ⟨rfl, hx⟩
          have HBL := Lib.hid (HB9.out.trans ((EqS.next HE.out hx).mono HB9.out.size))
          clear hx
          go_wp2
          go_ret
          exact ⟨rfl, HBL.out⟩
        have e1 : decide ((k : Int) = 0) = false := decide_eq_false (by omega)
        by_cases c2 : ow = true
        · subst c2
          go_wp2_with fail
          refine (lives_any _).mono ?_
          rintro e vl ⟨rfl, hx⟩
          have HBL := Lib.hid (HB9.out.trans ((EqS.next HE.out hx).mono HB9.out.size))
          clear hx
          go_wp2
          go_ret
          exact ⟨rfl, HBL.out⟩
        obtain rfl : ow = false := by simpa using c2
        have hno : ¬ (48 + 4 * pl ≤ k ∧ k < 48 + 4 * pl + 4) := by
          have h1 := HOW.out
          have h2 := HF1.out
          intro h
          rw [decide_eq_true (by omega)] at h1
          cases h1
        have HNO := Lib.hid hno
        clear hno c2
        by_cases c3 : f0 ≤ k
        · obtain ⟨b, hb⟩ : ∃ b, b = (k - f0) / 8 := ⟨_, rfl⟩
          have hbn : b < m.nb := by have := HF0.out; omega
          have hbt : bodyAt k f0 m.nb = (b : Int) := by unfold bodyAt; rw [if_pos (by omega), hb]
          rw [hbt]
          have e2 : decide ((0 : Int) ≤ (b : Int)) = true := decide_eq_true (by omega)
          have HBB := Lib.hid hb
          clear hbt hb
          obtain ⟨s1, hs1⟩ : ∃ s1, s1 = seesB s zs pl b := ⟨_, rfl⟩
          have HS1 : Hid (decide ((b : Int) ∈ seenL s zs pl m.nb) = s1) := by show _ = _; rw [seenL_mem hbn, hs1]
          have HS1' := Lib.hid hs1
          clear hs1
          have HRS' := Lib.hid ((HRS.out.below HE.out (by omega)))
          go_wp2_with fail
          refine (hasInt_any A5 n5 c5 _ (b : Int) s1 _ _ HLS.out HRS'.out (by have := HLS.out; have := seenL_len s zs pl m.nb; omega) HS1.out).mono ?_
          rintro e vh ⟨rfl, rfl⟩
          by_cases c4 : s1 = true
          · subst c4
            go_wp2_with fail
            refine (lives_any _).mono ?_
            rintro e vl ⟨rfl, hx⟩
            have HBL := Lib.hid (HB9.out.trans ((EqS.next HE.out hx).mono HB9.out.size))
            clear hx
            go_wp2
            go_ret
            exact ⟨rfl, HBL.out⟩
          obtain rfl : s1 = false := by simpa using c4
          clear c4
          go_wp2_with (refine wpl_load_g (by simp [Region.wanted, yielded, c1, e1, e2]) 49 _ rfl _ rfl 49 cs (0, 0) _ HBR.out Try.underlying49 rfl (su_info' HSU.out.eq) ?_)
          refine (seen_any cs s m _ N c6 _ pl (zs.set k u) _ (HV9.out.below (HE.out.mono HV9.out.B)) hpl).mono ?_
          rintro e vs ⟨A8, n8, c8, rfl, ho8, hx⟩
          have HE8 := Lib.hid (EqS.next HE.out hx)
          have HO88 := Lib.hid ho8
          clear hx ho8
          obtain ⟨s2, hs2⟩ : ∃ s2, s2 = seesB s (zs.set k u) pl b := ⟨_, rfl⟩
          have HS2 : Hid (decide ((b : Int) ∈ seenL s (zs.set k u) pl m.nb) = s2) := by show _ = _; rw [seenL_mem hbn, hs2]
          have HS2' := Lib.hid hs2
          clear hs2
          go_wp2_with fail
          refine (hasInt_any A8 n8 c8 _ (b : Int) s2 _ _ HO88.out.len HO88.out.rd (by have := HO88.out.len; have := seenL_len s (zs.set k u) pl m.nb; omega) HS2.out).mono ?_
          rintro e vh ⟨rfl, rfl⟩
          by_cases c4 : s2 = true
          · subst c4
            go_wp2_with fail
            refine (lives_any _).mono ?_
            rintro e vl ⟨rfl, hx⟩
            have HBL := Lib.hid (HB9.out.trans ((EqS.next HE8.out hx).mono HB9.out.size))
            clear hx
            go_wp2
            go_ret
            exact ⟨rfl, HBL.out⟩
          obtain rfl : s2 = false := by simpa using c4
          clear c4
          have HEQ : Hid (decide (viewL s zs pl m.nb = viewL s (zs.set k u) pl m.nb) = true) := by
            show _ = _
            have h0 := HF0.out
            have h1 := HBB.out
            rw [viewL_set hpl hkz c1 HNO.out (.inr ⟨b, by omega, by omega, HS1'.out.symm, HS2'.out.symm⟩)]
            simp
          go_wp2_with fail
          refine (eqv_any A4 n4 c4 (viewL s zs pl m.nb) A7 n7 c7 (viewL s (zs.set k u) pl m.nb) true _ _ _ HLA.out HLB9.out (HRA.out.below HE8.out (by have := HE8.out.size; omega)) (HRB.out.below HE8.out (Nat.le_refl _)) (by have := HLA.out; have := viewL_len s zs pl m.nb; omega) (by have := HLB9.out; have := viewL_len s (zs.set k u) pl m.nb; omega) HEQ.out (by have := HE8.out.size; omega) HE8.out.size).mono ?_
          rintro e ve ⟨rfl, hx⟩
          have HEE := Lib.hid (EqS.next HE8.out hx)
          clear hx
          go_wp2_with fail
          refine (lives_any _).mono ?_
          rintro e vl ⟨rfl, hx⟩
          have HBL := Lib.hid (HB9.out.trans ((EqS.next HEE.out hx).mono HB9.out.size))
          clear hx
          go_wp2
          go_ret
          exact ⟨rfl, HBL.out⟩
        · have hbt : bodyAt k f0 m.nb = -1 := by unfold bodyAt; rw [if_neg (fun h => c3 h.1)]
          rw [hbt]
          clear hbt
          have HEQ : Hid (decide (viewL s zs pl m.nb = viewL s (zs.set k u) pl m.nb) = true) := by
            show _ = _
            have h0 := HF0.out
            rw [viewL_set hpl hkz c1 HNO.out (.inl (by omega))]
            simp
          go_wp2_with fail
          refine (eqv_any A4 n4 c4 (viewL s zs pl m.nb) A7 n7 c7 (viewL s (zs.set k u) pl m.nb) true _ _ _ HLA.out HLB9.out (HRA.out.below HE.out (by have := HE.out.size; omega)) (HRB.out.below HE.out (Nat.le_refl _)) (by have := HLA.out; have := viewL_len s zs pl m.nb; omega) (by have := HLB9.out; have := viewL_len s (zs.set k u) pl m.nb; omega) HEQ.out (by have := HE.out.size; omega) HE.out.size).mono ?_
          rintro e ve ⟨rfl, hx⟩
          have HEE := Lib.hid (EqS.next HE.out hx)
          clear hx
          go_wp2_with fail
          refine (lives_any _).mono ?_
          rintro e vl ⟨rfl, hx⟩
          have HBL := Lib.hid (HB9.out.trans ((EqS.next HEE.out hx).mono HB9.out.size))
          clear hx
          go_wp2
          go_ret
          exact ⟨rfl, HBL.out⟩
end Go.Proofs.Ytfnoeolngdhjfaa
