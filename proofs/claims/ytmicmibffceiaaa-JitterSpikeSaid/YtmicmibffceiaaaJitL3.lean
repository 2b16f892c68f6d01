/-
  The laws JitterSliding and JitterSpike, called: they return true and write nothing that was there.
-/
import Derived.Test.YtmicmibffceiaaaJitL2
import Derived.Deep.RegionHeldLaw
import Derived.Deep.RegionLaw
namespace Go.Proofs.Ytmicmibffceiaaa
set_option linter.unusedVariables false
set_option linter.unusedSimpArgs false
open Go.RowKit

/-- The first k of the values that a law makes of a list: element i, or i where there is none, reduced. -/
def fillUp (l : List Int) (most : Int) (k : Nat) : List Int := (List.range k).map fun i => around (if i < l.length then ix l i else (i : Int)) most
theorem fillUp_length (l : List Int) (most : Int) (k : Nat) : (fillUp l most k).length = k := by simp [fillUp]
theorem fillUp_snoc (l : List Int) (most : Int) (k : Nat) : fillUp l most (k + 1) = fillUp l most k ++ [around (if k < l.length then ix l k else (k : Int)) most] := by
  unfold fillUp; rw [List.range_succ, List.map_append]; rfl
theorem fillUp_yes {l : List Int} {k : Nat} (most : Int) (h : k < l.length) : fillUp l most (k + 1) = fillUp l most k ++ [around (ix l k) most] := by rw [fillUp_snoc, if_pos h]
theorem fillUp_no {l : List Int} {k : Nat} (most : Int) (h : ¬ k < l.length) : fillUp l most (k + 1) = fillUp l most k ++ [around (k : Int) most] := by rw [fillUp_snoc, if_neg h]
theorem fillUp_bd (l : List Int) {most : Int} (hm : 1 ≤ most) (k : Nat) : ∀ x ∈ fillUp l most k, 0 ≤ x ∧ x < most := by
  intro x hx
  simp only [fillUp, List.mem_map] at hx
  obtain ⟨i, _, rfl⟩ := hx
  exact ⟨around_lo hm, around_hi hm⟩

set_option maxHeartbeats 2000000 in
theorem slide_walk (A : Option Addr) (n c : Nat) (xs : List Int) (A' : Option Addr) (n' c' : Nat) (ys : List Int) (turn pp : Int) (w : World) (hl : xs.length = n) (hr : Rd w w.heap.size A xs) (hx : ∀ x ∈ xs, -9223372036854775808 ≤ x ∧ x ≤ 9223372036854775807) (hn : n ≤ maxLen)
    (hl' : ys.length = n') (hr' : Rd w w.heap.size A' ys) (hy : ∀ x ∈ ys, -9223372036854775808 ≤ x ∧ x ≤ 9223372036854775807) (hn' : n' ≤ maxLen)
    (ht1 : -9223372036854775808 ≤ turn) (ht2 : turn ≤ 9223372036854775807) (hp1 : -9223372036854775808 ≤ pp) (hp2 : pp ≤ 9223372036854775807) :
    Calls Try.prog 5 #[.slice A n c, .slice A' n' c', .int .i64 turn, .int .i64 pp] w fun e w' => e = .returned (.bool true) ∧ Below w.heap.size w w' := by
  unfold maxLen at hn'
  have HX := Lib.hid hx
  have HY := Lib.hid hy
  have HL := Lib.hid hl
  have HL' := Lib.hid hl'
  obtain ⟨r, hr1⟩ : ∃ r, r = around turn 17 := ⟨_, rfl⟩
  have hra := around_lo (n := turn) (m := 17) (by omega)
  have hrb := around_hi (n := turn) (m := 17) (by omega)
  rw [← hr1] at hra hrb
  have HR := Lib.hid hr1
  clear hx hy hl hl' hr1
  go_enter Try.func5, Try.ntmps5
  go_wp2
  go_loopw [9, 10] (fun v i wr => ∃ k : Nat, k ≤ 16 ∧ i = .int .i64 k ∧ (∃ A2 c2, v = .slice A2 k c2 ∧ Own 3 wr w.heap.size (.slice A2 k c2) (fillUp ys 70 k)) ∧ Below w.heap.size w wr) (fun _ i _ => 16 - (intOf i).toNat)
  case atStart => exact ⟨0, Nat.zero_le _, rfl, ⟨none, 0, rfl, Own.nil _ _ _⟩, Below.refl _ _⟩
  case round =>
    obtain ⟨k, hk, rfl, ⟨A2, c2, rfl, hown⟩, hb⟩ := hrel
    have HLN := Lib.hid (fillUp_length ys 70 k)
    by_cases hlt : k < 16
    · have hsz := hb.size
      have hln : (fillUp ys 70 k).length < 1000000000000 := by rw [HLN.out]; omega
      have hln2 : Hid ((fillUp ys 70 k).length + 1 = k + 1) := by show _ = _; rw [HLN.out]
      by_cases hkn : k < n'
      · obtain ⟨b, off, rfl, hbb, hc⟩ := hr' (by rw [HL'.out]; omega)
        have hkl : k < ys.length := by rw [HL'.out]; exact hkn
        have hck := (hb.cell (p := ⟨b, off + k, none⟩) hbb).trans (hc k hkl)
        have hbd := HY.out _ (ix_mem hkl)
        have HS := Lib.hid (fillUp_yes 70 hkl)
        clear hc
        go_wp2_with (first | (go_at_call 15; refine (around_any _ 70 _ hbd.1 hbd.2 (by omega) (by omega)).mono ?_; rintro e w2 ⟨rfl, rfl⟩) | (at_builtin; refine wpl_append1 rfl (.tmp 28) (.tmp 31) 22 rfl 3 Try.underlying22 int_info3 w.heap.size _ _ rfl (hown.alloc _) ⟨wr.heap.size, 0, none⟩ 1 (around (ix ys k) 70) (k + 1) hln2.out rfl (int_one _ _) hln (by simp; omega) ?_; intro A3 c3 w1 hown' hb'))
        go_roundw
        case rel => exact ⟨k + 1, by omega, by go_num, ⟨A3, c3, rfl, by rw [HS.out]; exact hown'.out⟩, (hb.alloc hb.size _).trans hb'⟩
        case measure => simp [intOf]; omega
      · have HS := Lib.hid (fillUp_no (l := ys) (k := k) 70 (by rw [HL'.out]; exact hkn))
        go_wp2_with (first | (go_at_call 15; refine (around_any _ 70 _ (by omega) (by omega) (by omega) (by omega)).mono ?_; rintro e w2 ⟨rfl, rfl⟩) | (at_builtin; refine wpl_append1 rfl (.tmp 28) (.tmp 31) 22 rfl 3 Try.underlying22 int_info3 w.heap.size _ _ rfl (hown.alloc _) ⟨wr.heap.size, 0, none⟩ 1 (around (k : Int) 70) (k + 1) hln2.out rfl (int_one _ _) hln (by simp; omega) ?_; intro A3 c3 w1 hown' hb'))
        go_roundw
        case rel => exact ⟨k + 1, by omega, by go_num, ⟨A3, c3, rfl, by rw [HS.out]; exact hown'.out⟩, (hb.alloc hb.size _).trans hb'⟩
        case measure => simp [intOf]; omega
    · obtain rfl : k = 16 := by omega
      obtain ⟨ts, hts⟩ : ∃ ts, ts = fillUp ys 70 16 := ⟨_, rfl⟩
      rw [← hts] at hown
      have htl : ts.length = 16 := by rw [hts]; exact fillUp_length _ _ _
      have htb : ∀ x ∈ ts, 0 ≤ x ∧ x < 70 := by rw [hts]; exact fillUp_bd ys (by omega) 16
      obtain ⟨b, off, rfl, hbb, _⟩ := hown.rd (by omega)
      obtain ⟨rn, rfl⟩ : ∃ rn : Nat, r = (rn : Int) := ⟨r.toNat, by omega⟩
      have hrt := hown.rd
      have hcap := hown.cap.1
      obtain ⟨ds, hd⟩ : ∃ ds, ds = delays xs := ⟨_, rfl⟩
      obtain ⟨m, hm⟩ : ∃ m, ds.length = m := ⟨_, rfl⟩
      have hm40 : m ≤ 40 := by rw [← hm, hd]; exact delays_length xs
      have hds := small_bd (hd ▸ delays_small xs)
      have hts' : ∀ x ∈ ts, -1000 ≤ x ∧ x ≤ 1000 := fun x hx => by have := htb x hx; omega
      have HD := Lib.hid hd
      have HM := Lib.hid hm
      have HTL := Lib.hid htl
      have HDS := Lib.hid hds
      have HTB := Lib.hid hts'
      clear hts hd hm htl hds htb hts'
      go_wp2_with fail
      refine (around_s turn 17 rn HR.out _ ht1 ht2 (by omega) (by omega)).mono ?_
      rintro e w1' ⟨rfl, rfl⟩
      go_wp2_with fail
      refine (delays_s A n c xs ds m HD.out HM.out _ HL.out ((hr.below hb (Nat.le_refl _)).more hb.size) HX.out hn).mono ?_
      rintro e w2 ⟨A4, c4, rfl, hown4, hnc4, hb2⟩
      have hrt2 := hrt.below hb2 (Nat.le_refl _)
      have hl4 : Hid (ds.length + 16 = m + 16) := by show _ = _; rw [HM.out]
      have hl4' : ds.length + 16 < 1000000000000 := by rw [HM.out]; omega
      have hsz2 := hb2.size
      have hbb2 : b < w2.heap.size := by omega
      go_wp2_with (at_builtin; refine wpl_appends rfl (.tmp 36) (.tmp 37) 22 rfl 3 Try.underlying22 int_info3 wr.heap.size _ _ _ rfl hown4 _ 16 c2 _ (m + 16) hl4.out rfl HTL.out hrt2 (by intro h; cases h) hl4' hb2.size ?_; intro A5 c5 w3 hown5 hb3)
      have hown5 := hown5.out
      have hl5 : Hid ((ds ++ ts).length = m + 16) := by show _ = _; rw [List.length_append, HM.out, HTL.out]
      have hbt : ∀ x ∈ ds ++ ts, -9223372036854775808 ≤ x ∧ x ≤ 9223372036854775807 := by
        intro x hx
        rcases List.mem_append.1 hx with h | h
        · exact HDS.out x h
        · have := HTB.out x h; omega
      have HBT := Lib.hid hbt
      clear hbt
      refine (filled_ex A5 (m + 16) c5 (ds ++ ts) hl5.out _ hown5.rd HBT.out (by omega)).mono ?_
      rintro e w4 ⟨g, rfl, hg, he4, hb4⟩
      have hrt4 := ((hrt2.below hb3 (Nat.le_refl _)).below hb4 (by have := hb3.size; omega))
      have hb34 : Below wr.heap.size wr w4 := (hb2.trans hb3).trans (hb4.mono (by have := hb3.size; omega))
      have hdr := hrt4.drop rn
      have htk := hrt4.take rn
      have hdl : Hid ((ts.drop rn).length = 16 - rn) := by show _ = _; rw [List.length_drop, HTL.out]
      have htl' : Hid ((ts.take rn).length = rn) := by show _ = _; rw [List.length_take, HTL.out]; omega
      have hS0 : Rd w4.drew wr.heap.size (some ⟨b, off, none⟩) ts ∧ Below w4.heap.size w4 w4.drew := ⟨hrt4, (Below.refl _ _).drew⟩
      have hwr := hb34.size
      have hz0 : Hid (([] : List Int).length + (16 - rn) = 16 - rn) := by show _ = _; simp
      have hz6 : Hid (([] ++ ts.drop rn).length + rn = 16) := by show _ = _; rw [List.nil_append, hdl.out]; omega
      have hz7 : Hid (([] ++ ts.drop rn).length + rn < 1000000000000) := by show _ < _; rw [List.nil_append, hdl.out]; omega
      have hz8 : Hid (([] ++ ts.drop rn ++ ts.take rn).length = 16) := by show _ = _; rw [List.nil_append, List.length_append, hdl.out, htl'.out]; omega
      have hbr : ∀ x ∈ [] ++ ts.drop rn ++ ts.take rn, -9223372036854775808 ≤ x ∧ x ≤ 9223372036854775807 := by
        intro x hx
        have : x ∈ ts := by
          rcases List.mem_append.1 hx with h | h
          · exact List.mem_of_mem_drop h
          · exact List.mem_of_mem_take h
        have := HTB.out x this; omega
      have HBR := Lib.hid hbr
      have hk1 : kept (ds ++ ts) = ts.map clampd := kept_app HTL.out
      have hk2 : kept ([] ++ ts.drop rn ++ ts.take rn) = (ts.drop rn ++ ts.take rn).map clampd := kept_16 hz8.out
      have hpm : (ts.map clampd).Perm ((ts.drop rn ++ ts.take rn).map clampd) := by
        have := List.perm_append_comm (l₁ := ts.take rn) (l₂ := ts.drop rn)
        rw [List.take_append_drop] at this
        exact this.map _
      obtain ⟨q, hq⟩ : ∃ q, (Est.run (ds ++ ts)).quantile pp = q := ⟨_, rfl⟩
      obtain ⟨D1, hD⟩ : ∃ q, (Est.run (ds ++ ts)).delay = q := ⟨_, rfl⟩
      obtain ⟨W1, hW⟩ : ∃ q, (Est.run (ds ++ ts)).window = q := ⟨_, rfl⟩
      have hq2 : (Est.run ([] ++ ts.drop rn ++ ts.take rn)).quantile pp = q := by rw [← hq, Est.quantile_eq, Est.quantile_eq, hk1, hk2, Q_perm hpm]
      have hD2 : (Est.run ([] ++ ts.drop rn ++ ts.take rn)).delay = D1 := by rw [← hD, Est.delay_eq, Est.delay_eq, hk1, hk2]; unfold D; rw [Q_perm hpm]
      have hW2 : (Est.run ([] ++ ts.drop rn ++ ts.take rn)).window = W1 := by rw [← hW, Est.window_eq, Est.window_eq, hk1, hk2]; unfold W; rw [Q_perm hpm, hpm.length_eq]
      have HQ := Lib.hid hq
      have HDe := Lib.hid hD
      have HWi := Lib.hid hW
      have HQ2 := Lib.hid hq2
      have HD2 := Lib.hid hD2
      have HW2 := Lib.hid hW2
      have hlast : Below w.heap.size w w4 := hb.trans (hb34.mono hb.size)
      have hdr' : c2 ≠ rn → Rd w4.drew wr.heap.size (some ⟨b, off + rn, none⟩) (ts.drop rn) := fun _ => Rd.drew hdr
      have hdr2 : c2 = rn → Rd w4.drew wr.heap.size (some ⟨b, off, none⟩) (ts.drop rn) := fun h => by
        rw [List.drop_eq_nil_of_le (by rw [HTL.out]; omega)]; exact Rd.nil
      clear hbr hk1 hk2 hpm hq hD hW hq2 hD2 hW2 hdr htk hrt4 hrt2 hrt
      go_wp2_with fail
      rcases Nat.decEq c2 rn with hcr | hcr
      · have hdr3 := hdr' hcr
        clear hdr' hdr2
        have hi1 : (0 : Int) ≤ (rn : Int) := by omega
        have hi2 : (rn : Int) ≤ 16 := by omega
        have hi3 : (rn : Int) ≤ (c2 : Int) := by omega
        have hi4 : (16 : Int) ≤ (c2 : Int) := by omega
        go_region_held3 (fun W => Rd W wr.heap.size (some ⟨b, off, none⟩) ts ∧ Below w4.heap.size w4 W) (first | exact hS0 | exact hS1 | exact hS2 | exact hS3 | assumption) (first | (refine stp_appends rfl (.const (.slice none 0 0)) (.tmp 42) 22 rfl 3 Try.underlying22 int_info3 w4.heap.size _ [] (ts.drop rn) rfl (Own.nil _ _ _) _ (16 - rn) _ _ (16 - rn) hz0.out rfl hdl.out hdr3 (by intro h; cases h) (by simp only [List.length_nil]; omega) (by simp) ?_; intro A6 c6 w5 hown6 hb6; have hS1 : Rd w5 wr.heap.size (some ⟨b, off, none⟩) ts ∧ Below w4.heap.size w4 w5 := ⟨hS0.1.below hb6 hwr, hS0.2.trans hb6⟩; have hz1 := hb6.size) | (refine stp_appends rfl (.tmp 43) (.tmp 46) 22 rfl 3 Try.underlying22 int_info3 w4.heap.size _ _ (ts.take rn) rfl hown6.out _ rn _ _ 16 hz6.out rfl htl'.out (hS1.1.take rn) (by intro h; cases h) hz7.out (by simpa using hz1) ?_; intro A7 c7 w6 hown7 hb7; have hS2 : Rd w6 wr.heap.size (some ⟨b, off, none⟩) ts ∧ Below w4.heap.size w4 w6 := ⟨hS1.1.below hb7 hwr, hS1.2.trans hb7⟩; have hz2 := hb7.size) | (go_at_call 21; refine (filled_ex A7 16 c7 _ hz8.out _ hown7.out.rd HBR.out (by omega)).mono ?_; rintro e w7 ⟨g2, rfl, hg2, he7, hb8⟩; have hS3 : Rd w7 wr.heap.size (some ⟨b, off, none⟩) ts ∧ Below w4.heap.size w4 w7 := ⟨hS2.1.below hb8 (by simp at hz1 hz2; omega), hS2.2.trans (hb8.mono (by simp at hz1 hz2; omega))⟩))
        all_goals
          rename (_ ∧ Below w4.heap.size w4 _) => hSE
          have heg := he4.below hSE.2 he4.1.lt
          have hbe := chain hlast hSE.2
          go_wp2_with fail
          refine (quantile_at _ _ pp q HQ.out _ heg hp1 hp2).mono ?_
          rintro e w8 ⟨rfl, he8, hb8⟩
          have he8' := he7.below hb8 he7.1.lt
          go_wp2_with fail
          refine (quantile_at _ _ pp q HQ2.out _ he8' hp1 hp2).mono ?_
          rintro e w9 ⟨rfl, he9', hb9⟩
          have he9 := he8.below hb9 he8.1.lt
          go_wp2_with fail
          refine (delay_at _ _ D1 HDe.out _ he9).mono ?_
          rintro e w10 ⟨rfl, he10, hb10⟩
          have he10' := he9'.below hb10 he9'.1.lt
          go_wp2_with fail
          refine (delay_at _ _ D1 HD2.out _ he10').mono ?_
          rintro e w11 ⟨rfl, he11', hb11⟩
          have he11 := he10.below hb11 he10.1.lt
          go_wp2_with fail
          refine (window_at _ _ W1 HWi.out _ he11).mono ?_
          rintro e w12 ⟨rfl, he12, hb12⟩
          have he12' := he11'.below hb12 he11'.1.lt
          go_wp2_with fail
          refine (window_at _ _ W1 HW2.out _ he12').mono ?_
          rintro e w13 ⟨rfl, he13', hb13⟩
          go_wp2_with fail
          refine (lives_any _).mono ?_
          rintro e w14 ⟨rfl, hb14⟩
          go_wp2_with fail
          go_ret
          exact ⟨rfl, chain (chain (chain (chain (chain (chain (chain hbe hb8) hb9) hb10) hb11) hb12) hb13) hb14⟩
      · have hcr' := hcr.symm
        have hdr3 := hdr2 hcr
        clear hdr' hdr2 hcr
        subst hcr'
        obtain rfl : rn = 16 := by omega
        go_region_held3 (fun W => Rd W wr.heap.size (some ⟨b, off, none⟩) ts ∧ Below w4.heap.size w4 W) (first | exact hS0 | exact hS1 | exact hS2 | exact hS3 | assumption) (first | (refine stp_appends rfl (.const (.slice none 0 0)) (.tmp 42) 22 rfl 3 Try.underlying22 int_info3 w4.heap.size _ [] (ts.drop 16) rfl (Own.nil _ _ _) _ 0 _ _ 0 hz0.out rfl hdl.out hdr3 (by intro h; cases h) (by simp only [List.length_nil]; omega) (by simp) ?_; intro A6 c6 w5 hown6 hb6; have hS1 : Rd w5 wr.heap.size (some ⟨b, off, none⟩) ts ∧ Below w4.heap.size w4 w5 := ⟨hS0.1.below hb6 hwr, hS0.2.trans hb6⟩; have hz1 := hb6.size) | (refine stp_appends rfl (.tmp 43) (.tmp 46) 22 rfl 3 Try.underlying22 int_info3 w4.heap.size _ _ (ts.take 16) rfl hown6.out _ 16 _ _ 16 hz6.out rfl htl'.out (hS1.1.take 16) (by intro h; cases h) hz7.out (by simpa using hz1) ?_; intro A7 c7 w6 hown7 hb7; have hS2 : Rd w6 wr.heap.size (some ⟨b, off, none⟩) ts ∧ Below w4.heap.size w4 w6 := ⟨hS1.1.below hb7 hwr, hS1.2.trans hb7⟩; have hz2 := hb7.size) | (go_at_call 21; refine (filled_ex A7 16 c7 _ hz8.out _ hown7.out.rd HBR.out (by omega)).mono ?_; rintro e w7 ⟨g2, rfl, hg2, he7, hb8⟩; have hS3 : Rd w7 wr.heap.size (some ⟨b, off, none⟩) ts ∧ Below w4.heap.size w4 w7 := ⟨hS2.1.below hb8 (by simp at hz1 hz2; omega), hS2.2.trans (hb8.mono (by simp at hz1 hz2; omega))⟩))
        all_goals
          rename (_ ∧ Below w4.heap.size w4 _) => hSE
          have heg := he4.below hSE.2 he4.1.lt
          have hbe := chain hlast hSE.2
          go_wp2_with fail
          refine (quantile_at _ _ pp q HQ.out _ heg hp1 hp2).mono ?_
          rintro e w8 ⟨rfl, he8, hb8⟩
          have he8' := he7.below hb8 he7.1.lt
          go_wp2_with fail
          refine (quantile_at _ _ pp q HQ2.out _ he8' hp1 hp2).mono ?_
          rintro e w9 ⟨rfl, he9', hb9⟩
          have he9 := he8.below hb9 he8.1.lt
          go_wp2_with fail
          refine (delay_at _ _ D1 HDe.out _ he9).mono ?_
          rintro e w10 ⟨rfl, he10, hb10⟩
          have he10' := he9'.below hb10 he9'.1.lt
          go_wp2_with fail
          refine (delay_at _ _ D1 HD2.out _ he10').mono ?_
          rintro e w11 ⟨rfl, he11', hb11⟩
          have he11 := he10.below hb11 he10.1.lt
          go_wp2_with fail
          refine (window_at _ _ W1 HWi.out _ he11).mono ?_
          rintro e w12 ⟨rfl, he12, hb12⟩
          have he12' := he11'.below hb12 he11'.1.lt
          go_wp2_with fail
          refine (window_at _ _ W1 HW2.out _ he12').mono ?_
          rintro e w13 ⟨rfl, he13', hb13⟩
          go_wp2_with fail
          refine (lives_any _).mono ?_
          rintro e w14 ⟨rfl, hb14⟩
          go_wp2_with fail
          go_ret
          exact ⟨rfl, chain (chain (chain (chain (chain (chain (chain hbe hb8) hb9) hb10) hb11) hb12) hb13) hb14⟩

end Go.Proofs.Ytmicmibffceiaaa
