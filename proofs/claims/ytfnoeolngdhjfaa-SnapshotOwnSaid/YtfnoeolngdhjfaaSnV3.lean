/-
  Law SnapshotOwn.
-/
import Derived.Test.YtfnoeolngdhjfaaSnV2
namespace Go.Proofs.Ytfnoeolngdhjfaa
set_option linter.unusedVariables false
set_option linter.unusedSimpArgs false
set_option maxRecDepth 4000
open Go.RowKit

theorem ea_get {V : List (Int × Int)} {k : Nat} (h : k < V.length) : V[k] = (ea V k, eb V k) := by simp [ea, eb, List.getD, List.getElem?_eq_getElem h]
theorem ea_lt {V : List (Int × Int)} (h : V.Pairwise fun a b => a.1 < b.1) {j k : Nat} (hjk : j < k) (hk : k < V.length) : ea V j < ea V k := by
  have := List.pairwise_iff_getElem.1 h j k (by omega) hk hjk
  rw [ea_get (by omega), ea_get hk] at this
  exact this
theorem countP_snoc {V : List (Int × Int)} {q : Int × Int → Bool} {k : Nat} (h : k < V.length) : (V.take (k + 1)).countP q = (V.take k).countP q + if q (ea V k, eb V k) then 1 else 0 := by
  rw [List.take_succ_eq_append_getElem h, List.countP_append, ea_get h]
  simp [List.countP_cons]
theorem ownB_iff {f1 b0 kn : Nat} {v : Int} : ownB f1 b0 ((kn : Int), v) = true ↔ kn = 0 ∨ (f1 ≤ kn ∧ kn < f1 + 4) ∨ (b0 ≤ kn ∧ kn < b0 + 8) := by
  simp [ownB, or_assoc]; omega
set_option maxHeartbeats 40000000 in
theorem own_walk (A1 : Option Addr) (n1 c1 : Nat) (xs : List Int) (A2 : Option Addr) (n2 c2 : Nat) (ys : List Int) (z : Int) (w : World) (h1 : In w A1 n1 xs) (h2 : In w A2 n2 ys) (hz1 : -9223372036854775808 ≤ z) (hz2 : z ≤ 9223372036854775807) :
    Calls Try.prog 9 #[.slice A1 n1 c1, .slice A2 n2 c2, .int .i64 z] w fun e w' => e = .returned (.bool true) ∧ Below w.heap.size w w' := by
  have H1 := Lib.hid h1
  have H2 := Lib.hid h2
  have HZ1 := Lib.hid hz1
  have HZ2 := Lib.hid hz2
  clear h1 h2 hz1 hz2
  go_enter Try.func9, Try.ntmps9
  go_wp2_with fail
  refine (setup_any A1 n1 c1 xs w H1.out.len H1.out.rd H1.out.bd H1.out.max).mono ?_
  rintro e w1 ⟨cs, m, rfl, hsu, hb1⟩
  have HSU := Lib.hid hsu
  have HB1 := Lib.hid hb1
  clear hsu hb1
  have HBN := Lib.hid (Blk.new w1 49 cs)
  obtain ⟨hp1, hp2, hp3, hp4⟩ := mkSetup_p8 xs
  have hnb : m.nb ≤ 5 := by have := HSU.out.nb; omega
  have hnb0 : 0 < m.nb := by have := HSU.out.nb; omega
  go_wp2_with (first
    | (refine wpl_store_row rfl 49 _ _ rfl rfl w1.heap.size rfl rfl su0 (Blk.new _ _ _) (su_info' HSU.out.eq) (by rw [su_size HSU.out.eq]; rfl) (su_one HSU.out.eq) ?_; rw [World.setRow_alloc_new])
    | (refine wpl_load_g rfl 49 _ rfl _ rfl 49 cs (0, 0) _ HBN.out Try.underlying49 rfl (su_info' HSU.out.eq) ?_))
  obtain ⟨N, hN⟩ : ∃ N, szOf (mkSetup xs) = N := ⟨_, rfl⟩
  have HB2 : Hid (Below w.heap.size w (w1.alloc (.cells cs 49))) := HB1.out.alloc HB1.out.size _
  refine (state_any cs (mkSetup xs) m w1.heap.size N A2 n2 c2 ys _ (HSU.out.below ((Below.refl _ _).alloc (Nat.le_refl _) _) (Nat.le_refl _)) hp1 (by omega) hnb0 (by simp) hN (mkSetup_ok xs) H2.out.len ((H2.out.rd.below HB2.out (Nat.le_refl _)).more HB2.out.size) H2.out.bd H2.out.max).mono ?_
  rintro e w2 ⟨A3, c3, zs, rfl, hzl, hown, hok, hb2⟩
  have HB3 := Lib.hid (HB2.out.trans (hb2.mono HB2.out.size))
  have HBS := Lib.hid (HBN.out.below hb2 (by simp))
  have HV0 := Lib.hid (visIn_of (c := c3) ((HSU.out.below ((Below.refl _ _).alloc (Nat.le_refl _) _) (Nat.le_refl _)).below (hb2.mono (by simp)) (Nat.le_trans (by simp) hb2.size)) hN hzl hown.rd hok (Nat.le_refl _))
  obtain ⟨b5, hb5⟩ : ∃ b5, b5 = w1.heap.size := ⟨_, rfl⟩
  rw [← hb5] at HBS ⊢
  obtain ⟨s, hs⟩ : ∃ s, s = mkSetup xs := ⟨_, rfl⟩
  rw [← hs] at HV0 hp1 hp2 hp3
  have hc0 : w2.cell? ⟨b5, 0, none⟩ = some (.int .i64 (s.players : Int)) := (HBS.out.cell 0).trans (su_c0 HV0.out.su.eq)
  clear hN hb2 hown hok hzl hs hb5
  have ha1 := around_lo (n := z) (m := (s.players : Int)) (by omega)
  have ha2 := around_hi (n := z) (m := (s.players : Int)) (by omega)
  obtain ⟨pl, hpl'⟩ : ∃ pl : Nat, around z (s.players : Int) = (pl : Int) := ⟨(around z (s.players : Int)).toNat, by omega⟩
  have hpl : pl < s.players := by omega
  have HPL := Lib.hid hpl'
  clear ha1 ha2 hpl'
  go_wp2_with fail
  refine (around_any z (s.players : Int) _ HZ1.out HZ2.out (by omega) (by omega)).mono ?_
  rintro e w3' ⟨rfl, rfl⟩
  rw [HPL.out]
  go_wp2_with (refine wpl_load_g rfl 49 _ rfl _ rfl 49 cs (0, 0) _ HBS.out Try.underlying49 rfl (su_info' HSU.out.eq) ?_)
  refine (view_any cs s m A3 N c3 _ pl zs _ HV0.out hpl).mono ?_
  rintro e w4 ⟨A4, n4, c4, rfl, ho4, hb4⟩
  obtain ⟨V, hV⟩ : ∃ V, V = viewL s zs pl m.nb := ⟨_, rfl⟩
  rw [← hV] at ho4
  obtain ⟨f1, hf1⟩ : ∃ f1, f1 = 48 + 4 * pl := ⟨_, rfl⟩
  obtain ⟨b0, hb0⟩ : ∃ b0, b0 = 48 + 4 * s.players + 8 * pl := ⟨_, rfl⟩
  have hplb : pl < m.nb := by have := HV0.out.pn; omega
  obtain ⟨L, hL1, hL2, hL3⟩ := viewL_length (s := s) (zs := zs) hplb
  have hup : V.Pairwise fun a b => a.1 < b.1 := by rw [hV]; exact viewL_up hpl
  have hcnt : V.countP (ownB f1 b0) = 13 := by rw [hV, hf1, hb0]; exact viewL_own hpl hplb
  have hlen : V.length = 5 + 8 * L := by rw [hV]; exact hL3
  have hn4 : n4 = 5 + 8 * L := by rw [← ho4.len]; exact hlen
  have hmem : ∀ k (h : k < V.length), ∃ kn : Nat, ea V k = (kn : Int) ∧ eb V k = ix zs kn ∧ kn < N ∧ (kn = 0 ∨ (f1 ≤ kn ∧ kn < f1 + 4) ∨ f1 + 4 ≤ kn) := by
    intro k h
    have hm : V[k] ∈ viewL s zs pl m.nb := by rw [← hV]; exact List.getElem_mem h
    obtain ⟨kn, e, hc⟩ := mem_viewL hm
    rw [ea_get h] at e
    injection e with e1 e2
    have hNN := HV0.out.hN
    refine ⟨kn, e1, e2, ?_, ?_⟩
    · rcases hc with h | h | ⟨i, hi, h⟩
      · omega
      · omega
      · have := seenN_lt hi; omega
    · rcases hc with h | h | ⟨i, hi, h⟩
      · exact .inl h
      · exact .inr (.inl (by omega))
      · exact .inr (.inr (by omega))
  have HMEM := Lib.hid hmem
  have HUP := Lib.hid hup
  have HCNT := Lib.hid hcnt
  have HLEN := Lib.hid hlen
  have HN4 := Lib.hid hn4
  have HF1 := Lib.hid hf1
  have HB0' := Lib.hid hb0
  have HO4 := Lib.hid ho4
  have HB4 := Lib.hid (HB3.out.trans (hb4.mono HB3.out.size))
  have HBS4 := Lib.hid (HBS.out.below hb4 HBS.out.lt)
  have HV4 := Lib.hid (HV0.out.below hb4)
  have hn4b : n4 < 1000 := by omega
  have hzn4 : w2.heap.size ≤ w4.heap.size := hb4.size
  have hf1b : f1 < 1000 := by omega
  have hb0b : b0 < 1000 ∧ f1 + 4 ≤ b0 := by omega
  have hNb : N < 1300 := by have := HV0.out.hN; omega
  have hm5 := hnb
  have HLP : Hid (∀ W : World, Calls Try.prog 26 #[.agg cs, .int .i64 (pl : Int)] W fun e w' => e = .returned (.int .i64 (f1 : Int)) ∧ Below W.heap.size W w') := by
    intro W; rw [hf1]; exact lplayer_any cs s m pl W HV0.out.su.eq hp1 hpl
  have HLB : Hid (∀ W : World, Calls Try.prog 27 #[.agg cs, .int .i64 (pl : Int)] W fun e w' => e = .returned (.int .i64 (b0 : Int)) ∧ Below W.heap.size W w') := by
    intro W; rw [hb0]; exact lbody_any cs s m pl W HV0.out.su.eq hp1 (by omega) hplb
  clear hV hf1 hb0 hup hcnt hlen hn4 hmem ho4 hb4 hL3
  go_wp2
  go_loopw [11, 12] (fun o i W => ∃ k : Nat, k ≤ n4 ∧ i = .int .i64 (k : Int) ∧ o = .int .i64 (((V.take k).countP (ownB f1 b0) : Nat) : Int) ∧ EqS w4 W) (fun _ i _ => n4 - (intOf i).toNat)
  case atStart => exact ⟨0, by omega, rfl, rfl, EqS.refl _⟩
  case round =>
    obtain ⟨k, hk, rfl, rfl, heq⟩ := hrel
    obtain ⟨o0, ho0⟩ : ∃ o0, o0 = (V.take k).countP (ownB f1 b0) := ⟨_, rfl⟩
    rw [← ho0]
    have ho0b : o0 ≤ 1000 := by rw [ho0]; exact Nat.le_trans List.countP_le_length (by simp; omega)
    by_cases hlt : k < n4
    · have hkV : k < V.length := by rw [HO4.out.len]; exact hlt
      obtain ⟨kn, g1, g2, g3, g4⟩ := HMEM.out k hkV
      obtain ⟨b, off, hA4, hbb, hcl⟩ := HO4.out.rd (by omega)
      have hck := hcl k hkV
      have q0 := (heq.cell (p := ⟨b, off + k * 2, none⟩) hbb).trans hck.1
      have q1 := (heq.cell (p := ⟨b, off + k * 2 + 1, none⟩) hbb).trans hck.2
      obtain ⟨bz, oz, hA3, hbz, hcz⟩ := HV4.out.rd (by rw [HV4.out.len]; omega)
      have qz := (heq.cell (p := ⟨bz, oz + kn, none⟩) (by show bz < _; omega)).trans (hcz kn (by rw [HV4.out.len]; exact g3))
      rw [g1] at q0
      rw [g2] at q1
      obtain ⟨v, hv⟩ : ∃ v, v = ix zs kn := ⟨_, rfl⟩
      simp only [] at qz
      rw [← hv] at q1 qz
      have hsn := countP_snoc (q := ownB f1 b0) hkV
      rw [← ho0, g1, g2] at hsn
      have HSN := Lib.hid hsn
      have HE := Lib.hid heq
      have HBR := Lib.hid (HBS4.out.below heq HBS4.out.lt)
      have i1 : (0 : Int) ≤ (kn : Int) := by omega
      have i2 : ¬ (kn : Int) < 0 := by omega
      have i3 : (kn : Int) < (N : Int) := by omega
      subst hA4 hA3
      have HG1 := Lib.hid g1
      have hprev : ∀ j, j + 1 = k → ∃ pn : Nat, wr.cell? ⟨b, off + j * 2, none⟩ = some (.int .i64 (pn : Int)) ∧ (pn : Int) < (kn : Int) := by
        intro j hj
        obtain ⟨pn, p1, _, _, _⟩ := HMEM.out j (by omega)
        refine ⟨pn, ?_, ?_⟩
        · rw [← p1]; exact (heq.cell (p := ⟨b, off + j * 2, none⟩) hbb).trans (hcl j (by omega)).1
        · have := ea_lt HUP.out (j := j) (k := k) (by omega) hkV
          rw [p1, HG1.out] at this; exact this
      have HPREV := Lib.hid hprev
      clear hck hcl hcz g1 g2 hv hsn heq ho0 hprev hkV
      have e1 : decide ((kn : Int) < 0) = false := decide_eq_false i2
      have e2 : decide ((N : Int) ≤ (kn : Int)) = false := decide_eq_false (by omega)
      have g3' : kn < N := g3
      by_cases hk0 : k = 0
      · subst hk0
        rw [Nat.zero_mul, Nat.add_zero] at q0 q1
        go_upto_region 12 with (fail)
        go_quiet (fail)
        go_upto_region 14 with (fail)
        by_cases c1 : kn = 0
        · have d1 : decide ((kn : Int) = 0) = true := decide_eq_true (by omega)
          go_wp2
          go_roundw
          case rel => exact ⟨0 + 1, by omega, by go_num, (by rw [HSN.out, if_pos (ownB_iff.2 (by omega))]; go_num), below_drewN HE.out _⟩
          case measure => simp [intOf]; omega
        have d1 : decide ((kn : Int) = 0) = false := decide_eq_false (by omega)
        have d2 : decide ((f1 : Int) ≤ (kn : Int)) = true := decide_eq_true (by omega)
        by_cases c2 : kn < f1 + 4
        · have d3 : decide ((kn : Int) < (f1 : Int) + 4) = true := decide_eq_true (by omega)
          go_wp2_with (refine wpl_load_g (by simp [Region.wanted, yielded, c1, d1, d2, d3]) 49 _ rfl _ rfl 49 cs (0, 0) _ HBR.out Try.underlying49 rfl (su_info' HSU.out.eq) ?_)
          refine (HLP.out _).mono ?_
          rintro e v0 ⟨rfl, hx⟩
          have HBR0 := Lib.hid ((Blk.drewN HBR.out _).below hx HBR.out.lt)
          have HE0 := Lib.hid (EqS.next (below_drewN HE.out _) hx)
          clear hx
          go_wp2_with (refine wpl_load_g (by simp [Region.wanted, yielded, c1, d1, d2, d3]) 49 _ rfl _ rfl 49 cs (0, 0) _ HBR0.out Try.underlying49 rfl (su_info' HSU.out.eq) ?_)
          refine (HLP.out _).mono ?_
          rintro e v1 ⟨rfl, hx⟩
          have HBR1 := Lib.hid (HBR0.out.below hx HBR0.out.lt)
          have HE1 := Lib.hid (EqS.next HE0.out hx)
          clear hx
          go_wp2
          go_roundw
          case rel => exact ⟨0 + 1, by omega, by go_num, (by rw [HSN.out, if_pos (ownB_iff.2 (by omega))]; go_num), HE1.out⟩
          case measure => simp [intOf]; omega
        have d3 : decide ((kn : Int) < (f1 : Int) + 4) = false := decide_eq_false (by omega)
        by_cases c3 : kn < b0
        · have d4 : decide ((b0 : Int) ≤ (kn : Int)) = false := decide_eq_false (by omega)
          go_wp2_with (refine wpl_load_g (by simp [Region.wanted, yielded, c1, d1, d2, d3, d4]) 49 _ rfl _ rfl 49 cs (0, 0) _ HBR.out Try.underlying49 rfl (su_info' HSU.out.eq) ?_)
          refine (HLP.out _).mono ?_
          rintro e v0 ⟨rfl, hx⟩
          have HBR0 := Lib.hid ((Blk.drewN HBR.out _).below hx HBR.out.lt)
          have HE0 := Lib.hid (EqS.next (below_drewN HE.out _) hx)
          clear hx
          go_wp2_with (refine wpl_load_g (by simp [Region.wanted, yielded, c1, d1, d2, d3, d4]) 49 _ rfl _ rfl 49 cs (0, 0) _ HBR0.out Try.underlying49 rfl (su_info' HSU.out.eq) ?_)
          refine (HLP.out _).mono ?_
          rintro e v1 ⟨rfl, hx⟩
          have HBR1 := Lib.hid (HBR0.out.below hx HBR0.out.lt)
          have HE1 := Lib.hid (EqS.next HE0.out hx)
          clear hx
          go_wp2_with (refine wpl_load_g (by simp [Region.wanted, yielded, c1, d1, d2, d3, d4]) 49 _ rfl _ rfl 49 cs (0, 0) _ HBR1.out Try.underlying49 rfl (su_info' HSU.out.eq) ?_)
          refine (HLB.out _).mono ?_
          rintro e v2 ⟨rfl, hx⟩
          have HBR2 := Lib.hid (HBR1.out.below hx HBR1.out.lt)
          have HE2 := Lib.hid (EqS.next HE1.out hx)
          clear hx
          go_wp2
          go_roundw
          case rel => exact ⟨0 + 1, by omega, by go_num, (by rw [HSN.out, if_neg (fun h => by have := ownB_iff.1 h; omega)]; go_num), HE2.out⟩
          case measure => simp [intOf]; omega
        have d4 : decide ((b0 : Int) ≤ (kn : Int)) = true := decide_eq_true (by omega)
        by_cases c4 : kn < b0 + 8
        · have d5 : decide ((kn : Int) < (b0 : Int) + 8) = true := decide_eq_true (by omega)
          go_wp2_with (refine wpl_load_g (by simp [Region.wanted, yielded, c1, d1, d2, d3, d4, d5]) 49 _ rfl _ rfl 49 cs (0, 0) _ HBR.out Try.underlying49 rfl (su_info' HSU.out.eq) ?_)
          refine (HLP.out _).mono ?_
          rintro e v0 ⟨rfl, hx⟩
          have HBR0 := Lib.hid ((Blk.drewN HBR.out _).below hx HBR.out.lt)
          have HE0 := Lib.hid (EqS.next (below_drewN HE.out _) hx)
          clear hx
          go_wp2_with (refine wpl_load_g (by simp [Region.wanted, yielded, c1, d1, d2, d3, d4, d5]) 49 _ rfl _ rfl 49 cs (0, 0) _ HBR0.out Try.underlying49 rfl (su_info' HSU.out.eq) ?_)
          refine (HLP.out _).mono ?_
          rintro e v1 ⟨rfl, hx⟩
          have HBR1 := Lib.hid (HBR0.out.below hx HBR0.out.lt)
          have HE1 := Lib.hid (EqS.next HE0.out hx)
          clear hx
          go_wp2_with (refine wpl_load_g (by simp [Region.wanted, yielded, c1, d1, d2, d3, d4, d5]) 49 _ rfl _ rfl 49 cs (0, 0) _ HBR1.out Try.underlying49 rfl (su_info' HSU.out.eq) ?_)
          refine (HLB.out _).mono ?_
          rintro e v2 ⟨rfl, hx⟩
          have HBR2 := Lib.hid (HBR1.out.below hx HBR1.out.lt)
          have HE2 := Lib.hid (EqS.next HE1.out hx)
          clear hx
          go_wp2_with (refine wpl_load_g (by simp [Region.wanted, yielded, c1, d1, d2, d3, d4, d5]) 49 _ rfl _ rfl 49 cs (0, 0) _ HBR2.out Try.underlying49 rfl (su_info' HSU.out.eq) ?_)
          refine (HLB.out _).mono ?_
          rintro e v3 ⟨rfl, hx⟩
          have HBR3 := Lib.hid (HBR2.out.below hx HBR2.out.lt)
          have HE3 := Lib.hid (EqS.next HE2.out hx)
          clear hx
          go_wp2
          go_roundw
          case rel => exact ⟨0 + 1, by omega, by go_num, (by rw [HSN.out, if_pos (ownB_iff.2 (by omega))]; go_num), HE3.out⟩
          case measure => simp [intOf]; omega
        · have d5 : decide ((kn : Int) < (b0 : Int) + 8) = false := decide_eq_false (by omega)
          go_wp2_with (refine wpl_load_g (by simp [Region.wanted, yielded, c1, d1, d2, d3, d4, d5]) 49 _ rfl _ rfl 49 cs (0, 0) _ HBR.out Try.underlying49 rfl (su_info' HSU.out.eq) ?_)
          refine (HLP.out _).mono ?_
          rintro e v0 ⟨rfl, hx⟩
          have HBR0 := Lib.hid ((Blk.drewN HBR.out _).below hx HBR.out.lt)
          have HE0 := Lib.hid (EqS.next (below_drewN HE.out _) hx)
          clear hx
          go_wp2_with (refine wpl_load_g (by simp [Region.wanted, yielded, c1, d1, d2, d3, d4, d5]) 49 _ rfl _ rfl 49 cs (0, 0) _ HBR0.out Try.underlying49 rfl (su_info' HSU.out.eq) ?_)
          refine (HLP.out _).mono ?_
          rintro e v1 ⟨rfl, hx⟩
          have HBR1 := Lib.hid (HBR0.out.below hx HBR0.out.lt)
          have HE1 := Lib.hid (EqS.next HE0.out hx)
          clear hx
          go_wp2_with (refine wpl_load_g (by simp [Region.wanted, yielded, c1, d1, d2, d3, d4, d5]) 49 _ rfl _ rfl 49 cs (0, 0) _ HBR1.out Try.underlying49 rfl (su_info' HSU.out.eq) ?_)
          refine (HLB.out _).mono ?_
          rintro e v2 ⟨rfl, hx⟩
          have HBR2 := Lib.hid (HBR1.out.below hx HBR1.out.lt)
          have HE2 := Lib.hid (EqS.next HE1.out hx)
          clear hx
          go_wp2_with (refine wpl_load_g (by simp [Region.wanted, yielded, c1, d1, d2, d3, d4, d5]) 49 _ rfl _ rfl 49 cs (0, 0) _ HBR2.out Try.underlying49 rfl (su_info' HSU.out.eq) ?_)
          refine (HLB.out _).mono ?_
          rintro e v3 ⟨rfl, hx⟩
          have HBR3 := Lib.hid (HBR2.out.below hx HBR2.out.lt)
          have HE3 := Lib.hid (EqS.next HE2.out hx)
          clear hx
          go_wp2
          go_roundw
          case rel => exact ⟨0 + 1, by omega, by go_num, (by rw [HSN.out, if_neg (fun h => by have := ownB_iff.1 h; omega)]; go_num), HE3.out⟩
          case measure => simp [intOf]; omega
      · obtain ⟨j, hj⟩ : ∃ j, j + 1 = k := ⟨k - 1, by omega⟩
        obtain ⟨pn, p1, p2⟩ := HPREV.out j hj
        subst hj
        have e3 : decide ((kn : Int) ≤ (pn : Int)) = false := decide_eq_false (by omega)
        go_upto_region 12 with (fail)
        go_quiet (fail)
        go_upto_region 14 with (fail)
        by_cases c1 : kn = 0
        · have d1 : decide ((kn : Int) = 0) = true := decide_eq_true (by omega)
          go_wp2
          go_roundw
          case rel => exact ⟨j + 1 + 1, by omega, by go_num, (by rw [HSN.out, if_pos (ownB_iff.2 (by omega))]; go_num), below_drewN HE.out _⟩
          case measure => simp [intOf]; omega
        have d1 : decide ((kn : Int) = 0) = false := decide_eq_false (by omega)
        have d2 : decide ((f1 : Int) ≤ (kn : Int)) = true := decide_eq_true (by omega)
        by_cases c2 : kn < f1 + 4
        · have d3 : decide ((kn : Int) < (f1 : Int) + 4) = true := decide_eq_true (by omega)
          go_wp2_with (refine wpl_load_g (by simp [Region.wanted, yielded, c1, d1, d2, d3]) 49 _ rfl _ rfl 49 cs (0, 0) _ HBR.out Try.underlying49 rfl (su_info' HSU.out.eq) ?_)
          refine (HLP.out _).mono ?_
          rintro e v0 ⟨rfl, hx⟩
          have HBR0 := Lib.hid ((Blk.drewN HBR.out _).below hx HBR.out.lt)
          have HE0 := Lib.hid (EqS.next (below_drewN HE.out _) hx)
          clear hx
          go_wp2_with (refine wpl_load_g (by simp [Region.wanted, yielded, c1, d1, d2, d3]) 49 _ rfl _ rfl 49 cs (0, 0) _ HBR0.out Try.underlying49 rfl (su_info' HSU.out.eq) ?_)
          refine (HLP.out _).mono ?_
          rintro e v1 ⟨rfl, hx⟩
          have HBR1 := Lib.hid (HBR0.out.below hx HBR0.out.lt)
          have HE1 := Lib.hid (EqS.next HE0.out hx)
          clear hx
          go_wp2
          go_roundw
          case rel => exact ⟨j + 1 + 1, by omega, by go_num, (by rw [HSN.out, if_pos (ownB_iff.2 (by omega))]; go_num), HE1.out⟩
          case measure => simp [intOf]; omega
        have d3 : decide ((kn : Int) < (f1 : Int) + 4) = false := decide_eq_false (by omega)
        by_cases c3 : kn < b0
        · have d4 : decide ((b0 : Int) ≤ (kn : Int)) = false := decide_eq_false (by omega)
          go_wp2_with (refine wpl_load_g (by simp [Region.wanted, yielded, c1, d1, d2, d3, d4]) 49 _ rfl _ rfl 49 cs (0, 0) _ HBR.out Try.underlying49 rfl (su_info' HSU.out.eq) ?_)
          refine (HLP.out _).mono ?_
          rintro e v0 ⟨rfl, hx⟩
          have HBR0 := Lib.hid ((Blk.drewN HBR.out _).below hx HBR.out.lt)
          have HE0 := Lib.hid (EqS.next (below_drewN HE.out _) hx)
          clear hx
          go_wp2_with (refine wpl_load_g (by simp [Region.wanted, yielded, c1, d1, d2, d3, d4]) 49 _ rfl _ rfl 49 cs (0, 0) _ HBR0.out Try.underlying49 rfl (su_info' HSU.out.eq) ?_)
          refine (HLP.out _).mono ?_
          rintro e v1 ⟨rfl, hx⟩
          have HBR1 := Lib.hid (HBR0.out.below hx HBR0.out.lt)
          have HE1 := Lib.hid (EqS.next HE0.out hx)
          clear hx
          go_wp2_with (refine wpl_load_g (by simp [Region.wanted, yielded, c1, d1, d2, d3, d4]) 49 _ rfl _ rfl 49 cs (0, 0) _ HBR1.out Try.underlying49 rfl (su_info' HSU.out.eq) ?_)
          refine (HLB.out _).mono ?_
          rintro e v2 ⟨rfl, hx⟩
          have HBR2 := Lib.hid (HBR1.out.below hx HBR1.out.lt)
          have HE2 := Lib.hid (EqS.next HE1.out hx)
          clear hx
          go_wp2
          go_roundw
          case rel => exact ⟨j + 1 + 1, by omega, by go_num, (by rw [HSN.out, if_neg (fun h => by have := ownB_iff.1 h; omega)]; go_num), HE2.out⟩
          case measure => simp [intOf]; omega
        have d4 : decide ((b0 : Int) ≤ (kn : Int)) = true := decide_eq_true (by omega)
        by_cases c4 : kn < b0 + 8
        · have d5 : decide ((kn : Int) < (b0 : Int) + 8) = true := decide_eq_true (by omega)
          go_wp2_with (refine wpl_load_g (by simp [Region.wanted, yielded, c1, d1, d2, d3, d4, d5]) 49 _ rfl _ rfl 49 cs (0, 0) _ HBR.out Try.underlying49 rfl (su_info' HSU.out.eq) ?_)
          refine (HLP.out _).mono ?_
          rintro e v0 ⟨rfl, hx⟩
          have HBR0 := Lib.hid ((Blk.drewN HBR.out _).below hx HBR.out.lt)
          have HE0 := Lib.hid (EqS.next (below_drewN HE.out _) hx)
          clear hx
          go_wp2_with (refine wpl_load_g (by simp [Region.wanted, yielded, c1, d1, d2, d3, d4, d5]) 49 _ rfl _ rfl 49 cs (0, 0) _ HBR0.out Try.underlying49 rfl (su_info' HSU.out.eq) ?_)
          refine (HLP.out _).mono ?_
          rintro e v1 ⟨rfl, hx⟩
          have HBR1 := Lib.hid (HBR0.out.below hx HBR0.out.lt)
          have HE1 := Lib.hid (EqS.next HE0.out hx)
          clear hx
          go_wp2_with (refine wpl_load_g (by simp [Region.wanted, yielded, c1, d1, d2, d3, d4, d5]) 49 _ rfl _ rfl 49 cs (0, 0) _ HBR1.out Try.underlying49 rfl (su_info' HSU.out.eq) ?_)
          refine (HLB.out _).mono ?_
          rintro e v2 ⟨rfl, hx⟩
          have HBR2 := Lib.hid (HBR1.out.below hx HBR1.out.lt)
          have HE2 := Lib.hid (EqS.next HE1.out hx)
          clear hx
          go_wp2_with (refine wpl_load_g (by simp [Region.wanted, yielded, c1, d1, d2, d3, d4, d5]) 49 _ rfl _ rfl 49 cs (0, 0) _ HBR2.out Try.underlying49 rfl (su_info' HSU.out.eq) ?_)
          refine (HLB.out _).mono ?_
          rintro e v3 ⟨rfl, hx⟩
          have HBR3 := Lib.hid (HBR2.out.below hx HBR2.out.lt)
          have HE3 := Lib.hid (EqS.next HE2.out hx)
          clear hx
          go_wp2
          go_roundw
          case rel => exact ⟨j + 1 + 1, by omega, by go_num, (by rw [HSN.out, if_pos (ownB_iff.2 (by omega))]; go_num), HE3.out⟩
          case measure => simp [intOf]; omega
        · have d5 : decide ((kn : Int) < (b0 : Int) + 8) = false := decide_eq_false (by omega)
          go_wp2_with (refine wpl_load_g (by simp [Region.wanted, yielded, c1, d1, d2, d3, d4, d5]) 49 _ rfl _ rfl 49 cs (0, 0) _ HBR.out Try.underlying49 rfl (su_info' HSU.out.eq) ?_)
          refine (HLP.out _).mono ?_
          rintro e v0 ⟨rfl, hx⟩
          have HBR0 := Lib.hid ((Blk.drewN HBR.out _).below hx HBR.out.lt)
          have HE0 := Lib.hid (EqS.next (below_drewN HE.out _) hx)
          clear hx
          go_wp2_with (refine wpl_load_g (by simp [Region.wanted, yielded, c1, d1, d2, d3, d4, d5]) 49 _ rfl _ rfl 49 cs (0, 0) _ HBR0.out Try.underlying49 rfl (su_info' HSU.out.eq) ?_)
          refine (HLP.out _).mono ?_
          rintro e v1 ⟨rfl, hx⟩
          have HBR1 := Lib.hid (HBR0.out.below hx HBR0.out.lt)
          have HE1 := Lib.hid (EqS.next HE0.out hx)
          clear hx
          go_wp2_with (refine wpl_load_g (by simp [Region.wanted, yielded, c1, d1, d2, d3, d4, d5]) 49 _ rfl _ rfl 49 cs (0, 0) _ HBR1.out Try.underlying49 rfl (su_info' HSU.out.eq) ?_)
          refine (HLB.out _).mono ?_
          rintro e v2 ⟨rfl, hx⟩
          have HBR2 := Lib.hid (HBR1.out.below hx HBR1.out.lt)
          have HE2 := Lib.hid (EqS.next HE1.out hx)
          clear hx
          go_wp2_with (refine wpl_load_g (by simp [Region.wanted, yielded, c1, d1, d2, d3, d4, d5]) 49 _ rfl _ rfl 49 cs (0, 0) _ HBR2.out Try.underlying49 rfl (su_info' HSU.out.eq) ?_)
          refine (HLB.out _).mono ?_
          rintro e v3 ⟨rfl, hx⟩
          have HBR3 := Lib.hid (HBR2.out.below hx HBR2.out.lt)
          have HE3 := Lib.hid (EqS.next HE2.out hx)
          clear hx
          go_wp2
          go_roundw
          case rel => exact ⟨j + 1 + 1, by omega, by go_num, (by rw [HSN.out, if_neg (fun h => by have := ownB_iff.1 h; omega)]; go_num), HE3.out⟩
          case measure => simp [intOf]; omega
    · have hd : decide (k < n4) = false := decide_eq_false hlt
      obtain rfl : k = n4 := by omega
      have ho13 : o0 = 13 := by
        rw [ho0, List.take_of_length_le (by rw [HO4.out.len]; exact Nat.le_refl _)]; exact HCNT.out
      clear ho0
      subst ho13
      have hnk := HN4.out
      have hr0 : (-9223372036854775808 : Int) ≤ (k : Int) - 13 := by omega
      have hr1 : ((k : Int) - 13).tmod 8 = 0 := by
        have : (k : Int) - 13 = 8 * ((L : Int) - 1) := by omega
        rw [this]; exact Int.mul_tmod_right 8 _
      have hr2 : (k : Int) - 13 < 9223372036854775808 := by omega
      have hr3 : decide (((k : Int) - 13).tmod 8 = 0) = true := decide_eq_true hr1
      have HE := Lib.hid heq
      clear hlt heq hnk
      go_wp2_with fail
      refine (lives_any wr).mono ?_
      rintro e w9 ⟨rfl, hb9⟩
      have HB9 := Lib.hid (HB4.out.trans ((HE.out.trans (hb9.mono HE.out.size)).mono HB4.out.size))
      clear hb9
      go_wp2
      go_ret
      exact ⟨rfl, HB9.out⟩
end Go.Proofs.Ytfnoeolngdhjfaa
