/-
  Package visibility: Sees.
-/
import Derived.Test.YtfnoeolngdhjfaaVis6
import Derived.Test.YtfnoeolngdhjfaaAny
import Derived.Deep.DeepCutAuto
import Derived.Deep.CutBlock
namespace Go.Proofs.Ytfnoeolngdhjfaa
set_option linter.unusedVariables false
set_option linter.unusedSimpArgs false
set_option maxRecDepth 4000
open Go.RowKit

theorem band_of (mk bn g : Nat) (h8 : mk < 8) (h : mk / 2 ^ bn % 2 = g) : bits BinOp.and IntKind.u64 ((mk : Int) / 2 ^ bn) 1 = (g : Int) := by
  have e : ((mk : Int) / 2 ^ bn) = ((mk / 2 ^ bn : Nat) : Int) := by simp
  have hle : mk / 2 ^ bn ≤ mk := Nat.div_le_self _ _
  have := bits_and_u64_nat (mk / 2 ^ bn) 1 (by omega) (by omega)
  rw [e]
  refine this.trans ?_
  rw [Nat.and_one_is_mod, h]
theorem maskOf_and {ds : List (Int × Int)} {a : Int} (h : DoorsOk ds) (h0 : -1 ≤ a) (h3 : a < 3) (j : Nat) : maskOf ds a / 2 ^ j % 2 = if decide (0 ≤ a) && connD ds a (j : Int) then 1 else 0 := by
  unfold maskOf
  by_cases hn : a < 0
  · rw [if_pos hn, decide_eq_false (by omega)]; simp
  · rw [if_neg hn, decide_eq_true (by omega), Bool.true_and]; exact maskD_and h (by omega) j
theorem maskOf_lt {ds : List (Int × Int)} {a : Int} (h : DoorsOk ds) (h0 : -1 ≤ a) (h3 : a < 3) : maskOf ds a < 8 := by
  unfold maskOf
  split
  · omega
  · exact maskD_lt h (by omega) h3
theorem vec_info : (Try.prog.info? 47).map (·.size) = some 2 := by kernel_rfl
set_option maxHeartbeats 2000000 in
theorem sees_any (cs : Array Value) (s : Su) (m : SuM) (A : Option Addr) (N c B pl i : Nat) (zs : List Int) (r : Bool) (w : World) (hv : VisIn w B cs s m A N zs) (hpl : pl < s.players) (hi : i < m.nb) (hr : seesB s zs pl i = r) :
    Calls Try.prog 55 #[.agg cs, .slice A N c, .int .i64 (pl : Int), .int .i64 (i : Int)] w fun e w' => e = .returned (.bool r) ∧ Below w.heap.size w w' := by
  have HBS := Lib.hid (Blk.new w 49 cs)
  have HB0 : Hid (Below w.heap.size w (w.alloc (.cells cs 49))) := (Below.refl _ _).alloc (Nat.le_refl _) _
  have HV := Lib.hid hv
  have HRR := Lib.hid hr
  clear hv hr
  go_enter Try.func55, Try.ntmps55
  go_wp2_with (refine wpl_load_g rfl 49 _ rfl _ rfl 49 cs (0, 0) _ HBS.out Try.underlying49 rfl (su_info' HV.out.su.eq) ?_)
  refine (lplayer_any cs s m pl _ HV.out.su.eq HV.out.p8 hpl).mono ?_
  rintro e w1 ⟨rfl, hb1⟩
  have HB1 := Lib.hid (HB0.out.trans (hb1.mono HB0.out.size))
  have HBS1 := Lib.hid (HBS.out.below hb1 (by simp))
  obtain ⟨n1, hn1⟩ : ∃ n, n = 48 + 4 * pl := ⟨_, rfl⟩
  rw [← hn1]
  have hd1 : decide ((n1 : Int) < 0) = false := decide_eq_false (by omega)
  clear hb1 hn1
  go_wp2_with (refine wpl_load_g (by first | rfl | simp [Region.wanted, yielded]) 49 _ rfl _ rfl 49 cs (0, 0) _ HBS1.out Try.underlying49 rfl (su_info' HV.out.su.eq) ?_)
  refine (lbody_any cs s m i _ HV.out.su.eq HV.out.p8 HV.out.n8 hi).mono ?_
  rintro e w2 ⟨rfl, hb2⟩
  have HB2 := Lib.hid (HB1.out.trans (hb2.mono HB1.out.size))
  have HBS2 := Lib.hid (HBS1.out.below hb2 HBS1.out.lt)
  obtain ⟨n2, hn2⟩ : ∃ n, n = 48 + 4 * s.players + 8 * i := ⟨_, rfl⟩
  rw [← hn2]
  have hd2 : decide ((n2 : Int) < 0) = false := decide_eq_false (by omega)
  clear hb2 hn2
  by_cases heq : pl = i
  · have hrt : r = true := by rw [← HRR.out]; simp [seesB, heq]
    subst hrt heq
    go_wp2
    go_ret
    exact ⟨rfl, HB2.out⟩
  · have he : (pl == i) = false := by simp [heq]
    have hq : seesR s.doors s.fog (posX s.players zs pl) (posY s.players zs pl) (posX s.players zs i) (posY s.players zs i) = r := by
      rw [← HRR.out]; simp [seesB, heq]
    obtain ⟨hpx, hpy⟩ := HV.out.pos (show pl < m.nb by have := HV.out.pn; omega)
    obtain ⟨hqx, hqy⟩ := HV.out.pos hi
    obtain ⟨px, ex⟩ : ∃ x, x = posX s.players zs pl := ⟨_, rfl⟩
    obtain ⟨py, ey⟩ : ∃ x, x = posY s.players zs pl := ⟨_, rfl⟩
    obtain ⟨qx, fx⟩ : ∃ x, x = posX s.players zs i := ⟨_, rfl⟩
    obtain ⟨qy, fy⟩ : ∃ x, x = posY s.players zs i := ⟨_, rfl⟩
    rw [← ex, ← ey, ← fx, ← fy] at hq
    rw [← ex] at hpx
    rw [← ey] at hpy
    rw [← fx] at hqx
    rw [← fy] at hqy
    have EX := Lib.hid ex
    have EY := Lib.hid ey
    have FX := Lib.hid fx
    have FY := Lib.hid fy
    have HQ := Lib.hid hq
    have hplb : pl < m.nb := by have := HV.out.pn; omega
    have hi' := hi
    clear heq HRR hq ex ey fx fy
    go_upto_region 5 with (fail)
    go_cut [9, 10] (fun v9 v10 W => ∃ b9 b10, v9 = .pointer (some ⟨b9, 0, none⟩) ∧ v10 = .pointer (some ⟨b10, 0, none⟩) ∧ EqS w2 W ∧ Blk W b9 47 #[.int .i64 px, .int .i64 py] ∧ Blk W b10 47 #[.int .i64 qx, .int .i64 qy])
    case first =>
      go_wp2
      refine region_start ?_
      intro a0 ha0
      have hsz : a0.tmps.size = 58 := by rw [ha0]; rfl
      have q4 : a0.tmps[4]? = some (.pointer (some ⟨w.heap.size, 0, none⟩)) := by rw [ha0]; rfl
      have q1 : a0.tmps[1]? = some (.slice A N c) := by rw [ha0]; rfl
      have q2 : a0.tmps[2]? = some (.int .i64 (pl : Int)) := by rw [ha0]; rfl
      have q3 : a0.tmps[3]? = some (.int .i64 (i : Int)) := by rw [ha0]; rfl
      refine wp_region_inv (by kernel_rfl) (fun L a W => ∃ b9 b10 : Nat, Fr a0 [25, 26, 27, 28, 29, 30, 31, 32, 9, 10] a ∧ EqS w2 W ∧ (L 0 = true → a.tmps[25]? = some (.agg cs)) ∧ (L 1 = true → a.tmps[26]? = some (.slice A N c)) ∧ (L 2 = true → a.tmps[27]? = some (.int .i64 (pl : Int))) ∧ (L 3 = true → a.tmps[28]? = some (.agg #[.int .i64 px, .int .i64 py])) ∧ (L 4 = true → a.tmps[29]? = some (.agg cs)) ∧ (L 5 = true → a.tmps[30]? = some (.slice A N c)) ∧ (L 6 = true → a.tmps[31]? = some (.int .i64 (i : Int))) ∧ (L 7 = true → a.tmps[32]? = some (.agg #[.int .i64 qx, .int .i64 qy])) ∧ (L 8 = true → Bx a W 9 b9 47 2 w2.heap.size (fun cs => L 10 = true → cs = #[.int .i64 px, .int .i64 py])) ∧ (L 9 = true → Bx a W 10 b10 47 2 w2.heap.size (fun cs => L 11 = true → cs = #[.int .i64 qx, .int .i64 qy])) ∧ (L 8 = true → L 9 = true → b9 ≠ b10) ∧ (L 8 = true → b9 < W.heap.size) ∧ (L 9 = true → b10 < W.heap.size) ∧ (L 10 = true → L 8 = true) ∧ (L 11 = true → L 9 = true)) [[], [], [], [0, 1, 2], [], [], [], [3, 4, 5, 6], [], [], [3, 7, 8, 9], [7, 9, 10]] (by kernel_rfl) ?_ ?_ ?_
      · exact ⟨0, 0, Fr.refl _ _, EqS.drew (EqS.refl _), (fun h => by cases h), (fun h => by cases h), (fun h => by cases h), (fun h => by cases h), (fun h => by cases h), (fun h => by cases h), (fun h => by cases h), (fun h => by cases h), (fun h => by cases h), (fun h => by cases h), (fun h => by cases h), (fun h => by cases h), (fun h => by cases h), (fun h => by cases h), (fun h => by cases h)⟩
      · intro i' hi
        clear ha0
        match i', hi with
        | 0, _ =>
          rintro L a W ⟨b9, b10, hF, hE, h0, h1, h2, h3, h4, h5, h6, h7, h8, h9, n8_9, z8, z9, c8, c9⟩ hclo hL hd
          have x4 := (hF.same 4 (by decide)).trans q4
          refine wpOp_yes rfl rfl (fun K hK => wp_load_row 49 _ rfl w.heap.size (ev x4) 49 cs (0, 0) _ (HBS2.out.below hE HBS2.out.lt) Try.underlying49 rfl (su_info' HV.out.su.eq) (hK _ _ ?_))
          exact ⟨b9, b10, hF.put (by decide) _, hE, (fun _ => put_same (by rw [hF.size, hsz]; decide) _), (fun h => (put_other (by decide) _).trans (h1 h)), (fun h => (put_other (by decide) _).trans (h2 h)), (fun h => (put_other (by decide) _).trans (h3 h)), (fun h => (put_other (by decide) _).trans (h4 h)), (fun h => (put_other (by decide) _).trans (h5 h)), (fun h => (put_other (by decide) _).trans (h6 h)), (fun h => (put_other (by decide) _).trans (h7 h)), (fun h => (h8 h).put (by decide) _), (fun h => (h9 h).put (by decide) _), (fun h h' => n8_9 h h'), (fun h => z8 h), (fun h => z9 h), (fun h => c8 h), (fun h => c9 h)⟩
        | 1, _ =>
          rintro L a W ⟨b9, b10, hF, hE, h0, h1, h2, h3, h4, h5, h6, h7, h8, h9, n8_9, z8, z9, c8, c9⟩ hclo hL hd
          have x1 := (hF.same 1 (by decide)).trans q1
          refine wpOp_yes rfl rfl (fun K hK => ?_)
          go_simp
          refine hK _ _ ?_
          exact ⟨b9, b10, hF.put (by decide) _, hE, (fun h => (put_other (by decide) _).trans (h0 h)), (fun _ => put_same (by rw [hF.size, hsz]; decide) _), (fun h => (put_other (by decide) _).trans (h2 h)), (fun h => (put_other (by decide) _).trans (h3 h)), (fun h => (put_other (by decide) _).trans (h4 h)), (fun h => (put_other (by decide) _).trans (h5 h)), (fun h => (put_other (by decide) _).trans (h6 h)), (fun h => (put_other (by decide) _).trans (h7 h)), (fun h => (h8 h).put (by decide) _), (fun h => (h9 h).put (by decide) _), (fun h h' => n8_9 h h'), (fun h => z8 h), (fun h => z9 h), (fun h => c8 h), (fun h => c9 h)⟩
        | 2, _ =>
          rintro L a W ⟨b9, b10, hF, hE, h0, h1, h2, h3, h4, h5, h6, h7, h8, h9, n8_9, z8, z9, c8, c9⟩ hclo hL hd
          have x2 := (hF.same 2 (by decide)).trans q2
          refine wpOp_yes rfl rfl (fun K hK => ?_)
          go_simp
          refine hK _ _ ?_
          exact ⟨b9, b10, hF.put (by decide) _, hE, (fun h => (put_other (by decide) _).trans (h0 h)), (fun h => (put_other (by decide) _).trans (h1 h)), (fun _ => put_same (by rw [hF.size, hsz]; decide) _), (fun h => (put_other (by decide) _).trans (h3 h)), (fun h => (put_other (by decide) _).trans (h4 h)), (fun h => (put_other (by decide) _).trans (h5 h)), (fun h => (put_other (by decide) _).trans (h6 h)), (fun h => (put_other (by decide) _).trans (h7 h)), (fun h => (h8 h).put (by decide) _), (fun h => (h9 h).put (by decide) _), (fun h h' => n8_9 h h'), (fun h => z8 h), (fun h => z9 h), (fun h => c8 h), (fun h => c9 h)⟩
        | 3, _ =>
          rintro L a W ⟨b9, b10, hF, hE, h0, h1, h2, h3, h4, h5, h6, h7, h8, h9, n8_9, z8, z9, c8, c9⟩ hclo hL hd
          have x25 := h0 (all_mem hd (by decide))
          have x26 := h1 (all_mem hd (by decide))
          have x27 := h2 (all_mem hd (by decide))
          refine wpOp_yes rfl rfl (fun K hK => ?_)
          go_simp
          refine (pos_any cs s m A N c B pl zs _ HV.out.su.eq HV.out.p8 HV.out.n8 hplb HV.out.hN HV.out.len (HV.out.rd.below ((HB2.out.trans (hE.mono HB2.out.size)).mono HV.out.B) (Nat.le_refl _)) (Nat.le_trans HV.out.B (Nat.le_trans HB2.out.size hE.size))).mono ?_
          rintro e w5 ⟨rfl, hB'⟩
          rw [← EX.out, ← EY.out]
          refine hK _ _ ?_
          exact ⟨b9, b10, hF.put (by decide) _, hE.next hB', (fun h => (put_other (by decide) _).trans (h0 h)), (fun h => (put_other (by decide) _).trans (h1 h)), (fun h => (put_other (by decide) _).trans (h2 h)), (fun _ => put_same (by rw [hF.size, hsz]; decide) _), (fun h => (put_other (by decide) _).trans (h4 h)), (fun h => (put_other (by decide) _).trans (h5 h)), (fun h => (put_other (by decide) _).trans (h6 h)), (fun h => (put_other (by decide) _).trans (h7 h)), (fun h => ((h8 h).below hB').put (by decide) _), (fun h => ((h9 h).below hB').put (by decide) _), (fun h h' => n8_9 h h'), (fun h => Nat.lt_of_lt_of_le (z8 h) hB'.size), (fun h => Nat.lt_of_lt_of_le (z9 h) hB'.size), (fun h => c8 h), (fun h => c9 h)⟩
        | 4, _ =>
          rintro L a W ⟨b9, b10, hF, hE, h0, h1, h2, h3, h4, h5, h6, h7, h8, h9, n8_9, z8, z9, c8, c9⟩ hclo hL hd
          have x4 := (hF.same 4 (by decide)).trans q4
          refine wpOp_yes rfl rfl (fun K hK => wp_load_row 49 _ rfl w.heap.size (ev x4) 49 cs (0, 0) _ (HBS2.out.below hE HBS2.out.lt) Try.underlying49 rfl (su_info' HV.out.su.eq) (hK _ _ ?_))
          exact ⟨b9, b10, hF.put (by decide) _, hE, (fun h => (put_other (by decide) _).trans (h0 h)), (fun h => (put_other (by decide) _).trans (h1 h)), (fun h => (put_other (by decide) _).trans (h2 h)), (fun h => (put_other (by decide) _).trans (h3 h)), (fun _ => put_same (by rw [hF.size, hsz]; decide) _), (fun h => (put_other (by decide) _).trans (h5 h)), (fun h => (put_other (by decide) _).trans (h6 h)), (fun h => (put_other (by decide) _).trans (h7 h)), (fun h => (h8 h).put (by decide) _), (fun h => (h9 h).put (by decide) _), (fun h h' => n8_9 h h'), (fun h => z8 h), (fun h => z9 h), (fun h => c8 h), (fun h => c9 h)⟩
        | 5, _ =>
          rintro L a W ⟨b9, b10, hF, hE, h0, h1, h2, h3, h4, h5, h6, h7, h8, h9, n8_9, z8, z9, c8, c9⟩ hclo hL hd
          have x1 := (hF.same 1 (by decide)).trans q1
          refine wpOp_yes rfl rfl (fun K hK => ?_)
          go_simp
          refine hK _ _ ?_
          exact ⟨b9, b10, hF.put (by decide) _, hE, (fun h => (put_other (by decide) _).trans (h0 h)), (fun h => (put_other (by decide) _).trans (h1 h)), (fun h => (put_other (by decide) _).trans (h2 h)), (fun h => (put_other (by decide) _).trans (h3 h)), (fun h => (put_other (by decide) _).trans (h4 h)), (fun _ => put_same (by rw [hF.size, hsz]; decide) _), (fun h => (put_other (by decide) _).trans (h6 h)), (fun h => (put_other (by decide) _).trans (h7 h)), (fun h => (h8 h).put (by decide) _), (fun h => (h9 h).put (by decide) _), (fun h h' => n8_9 h h'), (fun h => z8 h), (fun h => z9 h), (fun h => c8 h), (fun h => c9 h)⟩
        | 6, _ =>
          rintro L a W ⟨b9, b10, hF, hE, h0, h1, h2, h3, h4, h5, h6, h7, h8, h9, n8_9, z8, z9, c8, c9⟩ hclo hL hd
          have x3 := (hF.same 3 (by decide)).trans q3
          refine wpOp_yes rfl rfl (fun K hK => ?_)
          go_simp
          refine hK _ _ ?_
          exact ⟨b9, b10, hF.put (by decide) _, hE, (fun h => (put_other (by decide) _).trans (h0 h)), (fun h => (put_other (by decide) _).trans (h1 h)), (fun h => (put_other (by decide) _).trans (h2 h)), (fun h => (put_other (by decide) _).trans (h3 h)), (fun h => (put_other (by decide) _).trans (h4 h)), (fun h => (put_other (by decide) _).trans (h5 h)), (fun _ => put_same (by rw [hF.size, hsz]; decide) _), (fun h => (put_other (by decide) _).trans (h7 h)), (fun h => (h8 h).put (by decide) _), (fun h => (h9 h).put (by decide) _), (fun h h' => n8_9 h h'), (fun h => z8 h), (fun h => z9 h), (fun h => c8 h), (fun h => c9 h)⟩
        | 7, _ =>
          rintro L a W ⟨b9, b10, hF, hE, h0, h1, h2, h3, h4, h5, h6, h7, h8, h9, n8_9, z8, z9, c8, c9⟩ hclo hL hd
          have x29 := h4 (all_mem hd (by decide))
          have x30 := h5 (all_mem hd (by decide))
          have x31 := h6 (all_mem hd (by decide))
          refine wpOp_yes rfl rfl (fun K hK => ?_)
          go_simp
          refine (pos_any cs s m A N c B i zs _ HV.out.su.eq HV.out.p8 HV.out.n8 hi' HV.out.hN HV.out.len (HV.out.rd.below ((HB2.out.trans (hE.mono HB2.out.size)).mono HV.out.B) (Nat.le_refl _)) (Nat.le_trans HV.out.B (Nat.le_trans HB2.out.size hE.size))).mono ?_
          rintro e w5 ⟨rfl, hB'⟩
          rw [← FX.out, ← FY.out]
          refine hK _ _ ?_
          exact ⟨b9, b10, hF.put (by decide) _, hE.next hB', (fun h => (put_other (by decide) _).trans (h0 h)), (fun h => (put_other (by decide) _).trans (h1 h)), (fun h => (put_other (by decide) _).trans (h2 h)), (fun h => (put_other (by decide) _).trans (h3 h)), (fun h => (put_other (by decide) _).trans (h4 h)), (fun h => (put_other (by decide) _).trans (h5 h)), (fun h => (put_other (by decide) _).trans (h6 h)), (fun _ => put_same (by rw [hF.size, hsz]; decide) _), (fun h => ((h8 h).below hB').put (by decide) _), (fun h => ((h9 h).below hB').put (by decide) _), (fun h h' => n8_9 h h'), (fun h => Nat.lt_of_lt_of_le (z8 h) hB'.size), (fun h => Nat.lt_of_lt_of_le (z9 h) hB'.size), (fun h => c8 h), (fun h => c9 h)⟩
        | 8, _ =>
          rintro L a W ⟨b9, b10, hF, hE, h0, h1, h2, h3, h4, h5, h6, h7, h8, h9, n8_9, z8, z9, c8, c9⟩ hclo hL hd
          refine wpOp_yes rfl rfl (fun K hK => ?_)
          go_simp
          refine hK _ _ ?_
          exact ⟨W.heap.size, b10, hF.put (by decide) _, Below.alloc hE hE.size _, (fun h => (put_other (by decide) _).trans (h0 h)), (fun h => (put_other (by decide) _).trans (h1 h)), (fun h => (put_other (by decide) _).trans (h2 h)), (fun h => (put_other (by decide) _).trans (h3 h)), (fun h => (put_other (by decide) _).trans (h4 h)), (fun h => (put_other (by decide) _).trans (h5 h)), (fun h => (put_other (by decide) _).trans (h6 h)), (fun h => (put_other (by decide) _).trans (h7 h)), (fun _ => Bx.new hE.size (by rw [hF.size, hsz]; decide) rfl (fun h => absurd (c8 h) (by rw [hL]; exact Bool.false_ne_true))), (fun h => ((h9 h).alloc _).put (by decide) _), (fun _ h => Nat.ne_of_gt (z9 h)), (fun _ => by simp), (fun h => by have := z9 h; simp; omega), (fun _ => rfl), (fun h => c9 h)⟩
        | 9, _ =>
          rintro L a W ⟨b9, b10, hF, hE, h0, h1, h2, h3, h4, h5, h6, h7, h8, h9, n8_9, z8, z9, c8, c9⟩ hclo hL hd
          refine wpOp_yes rfl rfl (fun K hK => ?_)
          go_simp
          refine hK _ _ ?_
          exact ⟨b9, W.heap.size, hF.put (by decide) _, Below.alloc hE hE.size _, (fun h => (put_other (by decide) _).trans (h0 h)), (fun h => (put_other (by decide) _).trans (h1 h)), (fun h => (put_other (by decide) _).trans (h2 h)), (fun h => (put_other (by decide) _).trans (h3 h)), (fun h => (put_other (by decide) _).trans (h4 h)), (fun h => (put_other (by decide) _).trans (h5 h)), (fun h => (put_other (by decide) _).trans (h6 h)), (fun h => (put_other (by decide) _).trans (h7 h)), (fun h => ((h8 h).alloc _).put (by decide) _), (fun _ => Bx.new hE.size (by rw [hF.size, hsz]; decide) rfl (fun h => absurd (c9 h) (by rw [hL]; exact Bool.false_ne_true))), (fun h _ => Nat.ne_of_lt (z8 h)), (fun h => by have := z8 h; simp; omega), (fun _ => by simp), (fun h => c8 h), (fun _ => rfl)⟩
        | 10, _ =>
          rintro L a W ⟨b9, b10, hF, hE, h0, h1, h2, h3, h4, h5, h6, h7, h8, h9, n8_9, z8, z9, c8, c9⟩ hclo hL hd
          have x9 := h8 (all_mem hd (by decide))
          have x28 := h3 (all_mem hd (by decide))
          obtain ⟨cs0, hb0, hs0, _⟩ := (x9).2.2
          refine wpOp_yes rfl rfl (fun K hK => wp_store_row 47 _ _ rfl rfl b9 (ev (x9).1) (ev x28) cs0 hb0 (vec_info) (by rw [hs0]; rfl) (by simp [Value.oneCell']) (hK _ _ ?_))
          exact ⟨b9, b10, hF, below_setRow hE (x9).2.1 _, (fun h => h0 h), (fun h => h1 h), (fun h => h2 h), (fun h => h3 h), (fun h => h4 h), (fun h => h5 h), (fun h => h6 h), (fun h => h7 h), (fun h => (h8 h).stored (cs' := #[.int .i64 px, .int .i64 py]) rfl (fun _ => rfl)), (fun h => (h9 h).far (n8_9 (all_mem hd (by decide)) h)), (fun h h' => n8_9 h h'), (fun h => by have := z8 h; simpa using this), (fun h => by have := z9 h; simpa using this), (fun _ => all_mem hd (by decide)), (fun h => c9 h)⟩
        | 11, _ =>
          rintro L a W ⟨b9, b10, hF, hE, h0, h1, h2, h3, h4, h5, h6, h7, h8, h9, n8_9, z8, z9, c8, c9⟩ hclo hL hd
          have x10 := h9 (all_mem hd (by decide))
          have x32 := h7 (all_mem hd (by decide))
          obtain ⟨cs0, hb0, hs0, _⟩ := (x10).2.2
          refine wpOp_yes rfl rfl (fun K hK => wp_store_row 47 _ _ rfl rfl b10 (ev (x10).1) (ev x32) cs0 hb0 (vec_info) (by rw [hs0]; rfl) (by simp [Value.oneCell']) (hK _ _ ?_))
          exact ⟨b9, b10, hF, below_setRow hE (x10).2.1 _, (fun h => h0 h), (fun h => h1 h), (fun h => h2 h), (fun h => h3 h), (fun h => h4 h), (fun h => h5 h), (fun h => h6 h), (fun h => h7 h), (fun h => (h8 h).far (fun e => n8_9 h (all_mem hd (by decide)) e.symm)), (fun h => (h9 h).stored (cs' := #[.int .i64 qx, .int .i64 qy]) rfl (fun _ => rfl)), (fun h h' => n8_9 h h'), (fun h => by have := z8 h; simpa using this), (fun h => by have := z9 h; simpa using this), (fun h => c8 h), (fun _ => all_mem hd (by decide))⟩
        | k + 12, h => exact absurd (show k + 12 < 12 from h) (by omega)
      · rintro L a W ⟨b9, b10, hF, hE, h0, h1, h2, h3, h4, h5, h6, h7, h8, h9, n8_9, z8, z9, c8, c9⟩ hall
        have hfa : a = fill a0 [(25, .agg cs), (26, .slice A N c), (27, .int .i64 (pl : Int)), (28, .agg #[.int .i64 px, .int .i64 py]), (29, .agg cs), (30, .slice A N c), (31, .int .i64 (i : Int)), (32, .agg #[.int .i64 qx, .int .i64 qy]), (9, .pointer (some ⟨b9, 0, none⟩)), (10, .pointer (some ⟨b10, 0, none⟩))] := fill_eq hF (FillOk.cons (by rw [hsz]; decide) (h0 (hall 0 (by decide))) (FillOk.cons (by rw [hsz]; decide) (h1 (hall 1 (by decide))) (FillOk.cons (by rw [hsz]; decide) (h2 (hall 2 (by decide))) (FillOk.cons (by rw [hsz]; decide) (h3 (hall 3 (by decide))) (FillOk.cons (by rw [hsz]; decide) (h4 (hall 4 (by decide))) (FillOk.cons (by rw [hsz]; decide) (h5 (hall 5 (by decide))) (FillOk.cons (by rw [hsz]; decide) (h6 (hall 6 (by decide))) (FillOk.cons (by rw [hsz]; decide) (h7 (hall 7 (by decide))) (FillOk.cons (by rw [hsz]; decide) (h8 (hall 8 (by decide))).1 (FillOk.cons (by rw [hsz]; decide) (h9 (hall 9 (by decide))).1 (FillOk.nil))))))))))) (by simp)
        rw [hfa, ha0]
        clear hfa ha0
        simp only [fill, List.foldl_cons, List.foldl_nil, List.setIfInBounds_toArray, List.set_cons_zero, List.set_cons_succ]
        obtain ⟨_, hge8, cs8, hbk8, _, hcs8⟩ := h8 (hall 8 (by decide))
        rw [hcs8 (hall 10 (by decide))] at hbk8
        obtain ⟨_, hge9, cs9, hbk9, _, hcs9⟩ := h9 (hall 9 (by decide))
        rw [hcs9 (hall 11 (by decide))] at hbk9
        go_wp2
        go_meet
        case rel => exact ⟨b9, b10, rfl, rfl, hE, hbk8, hbk9⟩
    case rest =>
      obtain ⟨b9, b10, rfl, rfl, hE3, hP3, hQ3⟩ := hcut
      rename World => w3
      have HB3 := Lib.hid (HB2.out.trans (hE3.mono HB2.out.size))
      have HBS3 := Lib.hid (HBS2.out.below hE3 HBS2.out.lt)
      have HP3 := Lib.hid hP3
      have HQ3 := Lib.hid hQ3
      have y0 : w3.cell? ⟨b10, 0, none⟩ = some (.int .i64 qx) := hQ3.cell 0
      have y1 : w3.cell? ⟨b10, 1, none⟩ = some (.int .i64 qy) := hQ3.cell 1
      clear hE3 hP3 hQ3
      go_wp2_with (refine wpl_load_g rfl 49 _ rfl _ rfl 49 cs (0, 0) _ HBS3.out Try.underlying49 rfl (su_info' HV.out.su.eq) ?_)
      refine (room_any cs s m B qx qy _ HV.out.su.eq HV.out.su.nr (HV.out.su.rooms.keep fun p hp => HB3.out.cell (by have := HV.out.B; omega)) (Nat.le_trans HV.out.B HB3.out.size)).mono ?_
      rintro e w4 ⟨rfl, hb4⟩
      have HB4 := Lib.hid (HB3.out.trans (hb4.mono HB3.out.size))
      have HBS4 := Lib.hid (HBS3.out.below hb4 HBS3.out.lt)
      have HP4 := Lib.hid (HP3.out.below hb4 HP3.out.lt)
      have HQ4 := Lib.hid (HQ3.out.below hb4 HQ3.out.lt)
      obtain ⟨ra, ha⟩ : ∃ a, a = roomFrom 0 px py := ⟨_, rfl⟩
      have hab := roomFrom_bd px py
      obtain ⟨b, hbb⟩ : ∃ b, b = roomFrom 0 qx qy := ⟨_, rfl⟩
      have hbb2 := roomFrom_bd qx qy
      have hr2 := HQ.out
      unfold seesR at hr2
      rw [← ha, ← hbb] at hr2
      rw [← ha] at hab
      rw [← hbb] at hbb2 ⊢
      have HA := Lib.hid ha
      have HBB := Lib.hid hbb
      clear hb4 y0 y1 ha hbb
      by_cases hb0 : b < 0
      · have hrr : r = false := by rw [← hr2, decide_eq_false (show ¬ 0 ≤ b by omega)]; simp
        have hd0 : decide (0 ≤ b) = false := decide_eq_false (by omega)
        subst hrr
        clear hr2
        go_wp2
        go_quiet (fail)
        go_wp2
        go_ret
        exact ⟨rfl, below_drewN HB4.out _⟩
      · obtain ⟨bn, rfl⟩ : ∃ bn : Nat, b = (bn : Int) := ⟨b.toNat, by omega⟩
        obtain ⟨n, hn⟩ : ∃ n, n = sq2 qx qy px py := ⟨_, rfl⟩
        have hn1 : (n : Int) = (qx - px) * (qx - px) + (qy - py) * (qy - py) := by rw [hn]; exact sq2_eq _ _ _ _
        have hn2 : n < 4611686018427387904 := by rw [hn]; exact sq2_lt hqx hqy hpx hpy
        obtain ⟨rt, hrt⟩ : ∃ rt, rt = rootN n := ⟨_, rfl⟩
        have HRT : Hid (∀ x, IsRoot n x → x = rt) := fun x hx => by rw [hrt]; exact hx.uniq (rootN_is n)
        obtain ⟨mk, hmk⟩ : ∃ mk, mk = maskOf s.doors ra := ⟨_, rfl⟩
        have hnear : nearB s.fog qx qy px py = decide ((rt : Int) ≤ s.fog) := by rw [hrt, hn]; rfl
        rw [hnear, decide_eq_true (show (0 : Int) ≤ (bn : Int) by omega), Bool.and_true] at hr2
        have hbit : mk / 2 ^ bn % 2 = if decide (0 ≤ ra) && connD s.doors ra (bn : Int) then 1 else 0 := by
          rw [hmk]
          exact maskOf_and HV.out.doors hab.1 hab.2 bn
        have hmk8 : mk < 8 := by rw [hmk]; exact maskOf_lt HV.out.doors hab.1 hab.2
        have HN1 := Lib.hid hn1
        have HN2 := Lib.hid hn2
        have HMK := Lib.hid hmk
        have HA1 := Lib.hid hab.1
        have HA2 := Lib.hid hab.2
        have hbs : (0 : Int) ≤ (bn : Int) ∧ (bn : Int) < 3 := by omega
        have hbn := hbs.2
        clear hn1 hn2 hn hrt hmk hnear hab hbs hb0
        by_cases hmu : (decide (0 ≤ ra) && connD s.doors ra (bn : Int)) = true
        · have hrr : decide ((rt : Int) ≤ s.fog) = r := by
            rw [← hr2]
            rw [Bool.and_eq_true] at hmu
            rw [hmu.1, hmu.2]; simp
          have HRR := Lib.hid hrr
          have HBAND : Hid (bits BinOp.and IntKind.u64 ((mk : Int) / 2 ^ bn) 1 = 1) := by
            rw [hmu, if_pos rfl] at hbit
            exact Lib.hid (band_of mk bn 1 hmk8 hbit)
          clear hr2 hrr hbit hmu hmk8
          go_upto_region 7 with (fail)
          refine region_start ?_
          intro a0 ha0
          have hsz : a0.tmps.size = 58 := by rw [ha0]; rfl
          have q4 : a0.tmps[4]? = some (.pointer (some ⟨w.heap.size, 0, none⟩)) := by rw [ha0]; rfl
          have q9 : a0.tmps[9]? = some (.pointer (some ⟨b9, 0, none⟩)) := by rw [ha0]; rfl
          have q10 : a0.tmps[10]? = some (.pointer (some ⟨b10, 0, none⟩)) := by rw [ha0]; rfl
          have q11 : a0.tmps[11]? = some (.int .i64 (bn : Int)) := by rw [ha0]; rfl
          refine wp_region_inv (by kernel_rfl) (fun L a W => Fr a0 [36, 37, 38, 39, 40, 41, 42, 43, 44, 45, 46, 47, 48, 49, 50, 51, 52, 53, 54, 55, 56, 57, 8] a ∧ EqS w4 W ∧ (L 0 = true → a.tmps[36]? = some (.int .i64 (bn : Int))) ∧ (L 1 = true → a.tmps[37]? = some (.bool true)) ∧ (L 2 = true → a.tmps[38]? = some (.bool true)) ∧ (L 3 = true → a.tmps[39]? = some (.agg cs)) ∧ (L 4 = true → a.tmps[40]? = some (.agg cs)) ∧ (L 5 = true → a.tmps[41]? = some (.agg #[.int .i64 px, .int .i64 py])) ∧ (L 6 = true → a.tmps[42]? = some (.int .i64 ra)) ∧ (L 7 = true → a.tmps[43]? = some (.int .u64 (mk : Int))) ∧ (L 8 = true → a.tmps[44]? = some (.int .i64 (bn : Int))) ∧ (L 9 = true → a.tmps[45]? = some (.int .u64 ((mk : Int) / 2 ^ bn))) ∧ (L 10 = true → a.tmps[46]? = some (.int .u64 1)) ∧ (L 11 = true → a.tmps[47]? = some (.bool true)) ∧ (L 12 = true → a.tmps[48]? = some (.bool true)) ∧ (L 13 = true → a.tmps[49]? = some (.bool true)) ∧ (L 14 = true → a.tmps[50]? = some (.agg #[.int .i64 qx, .int .i64 qy])) ∧ (L 15 = true → a.tmps[51]? = some (.agg #[.int .i64 px, .int .i64 py])) ∧ (L 16 = true → a.tmps[52]? = some (.agg #[.int .i64 (qx - px), .int .i64 (qy - py)])) ∧ (L 17 = true → a.tmps[53]? = some (.int .i64 (rt : Int))) ∧ (L 18 = true → a.tmps[54]? = some (.pointer (some ⟨w.heap.size, 8, none⟩))) ∧ (L 19 = true → a.tmps[55]? = some (.int .i64 s.fog)) ∧ (L 20 = true → a.tmps[56]? = some (.bool (decide ((rt : Int) ≤ s.fog)))) ∧ (L 21 = true → a.tmps[57]? = some (.bool (decide ((rt : Int) ≤ s.fog)))) ∧ (L 22 = true → a.tmps[8]? = some (.bool (decide ((rt : Int) ≤ s.fog))))) [[], [0], [1], [2], [2], [2], [2, 4, 5], [2, 3, 6], [2], [2, 7, 8], [2, 9], [2, 10], [2, 11], [12], [13], [13], [13, 14, 15], [13, 16], [13], [13, 18], [13, 17, 19], [13, 20], [21]] (by kernel_rfl) ?_ ?_ ?_
          · exact ⟨Fr.refl _ _, EqS.drew (EqS.refl _), (fun h => by cases h), (fun h => by cases h), (fun h => by cases h), (fun h => by cases h), (fun h => by cases h), (fun h => by cases h), (fun h => by cases h), (fun h => by cases h), (fun h => by cases h), (fun h => by cases h), (fun h => by cases h), (fun h => by cases h), (fun h => by cases h), (fun h => by cases h), (fun h => by cases h), (fun h => by cases h), (fun h => by cases h), (fun h => by cases h), (fun h => by cases h), (fun h => by cases h), (fun h => by cases h), (fun h => by cases h), (fun h => by cases h)⟩
          · intro i' hi
            clear ha0
            match i', hi with
            | 0, _ =>
              rintro L a W ⟨hF, hE, h0, h1, h2, h3, h4, h5, h6, h7, h8, h9, h10, h11, h12, h13, h14, h15, h16, h17, h18, h19, h20, h21, h22⟩ hclo hL hd
              have x11 := (hF.same 11 (by decide)).trans q11
              refine wpOp_yes rfl rfl (fun K hK => ?_)
              go_simp
              refine hK _ _ ?_
              exact ⟨hF.put (by decide) _, hE, (fun _ => put_same (by rw [hF.size, hsz]; decide) _), (fun h => (put_other (by decide) _).trans (h1 h)), (fun h => (put_other (by decide) _).trans (h2 h)), (fun h => (put_other (by decide) _).trans (h3 h)), (fun h => (put_other (by decide) _).trans (h4 h)), (fun h => (put_other (by decide) _).trans (h5 h)), (fun h => (put_other (by decide) _).trans (h6 h)), (fun h => (put_other (by decide) _).trans (h7 h)), (fun h => (put_other (by decide) _).trans (h8 h)), (fun h => (put_other (by decide) _).trans (h9 h)), (fun h => (put_other (by decide) _).trans (h10 h)), (fun h => (put_other (by decide) _).trans (h11 h)), (fun h => (put_other (by decide) _).trans (h12 h)), (fun h => (put_other (by decide) _).trans (h13 h)), (fun h => (put_other (by decide) _).trans (h14 h)), (fun h => (put_other (by decide) _).trans (h15 h)), (fun h => (put_other (by decide) _).trans (h16 h)), (fun h => (put_other (by decide) _).trans (h17 h)), (fun h => (put_other (by decide) _).trans (h18 h)), (fun h => (put_other (by decide) _).trans (h19 h)), (fun h => (put_other (by decide) _).trans (h20 h)), (fun h => (put_other (by decide) _).trans (h21 h)), (fun h => (put_other (by decide) _).trans (h22 h))⟩
            | 1, _ =>
              rintro L a W ⟨hF, hE, h0, h1, h2, h3, h4, h5, h6, h7, h8, h9, h10, h11, h12, h13, h14, h15, h16, h17, h18, h19, h20, h21, h22⟩ hclo hL hd
              have x36 := h0 (all_mem hd (by decide))
              refine wpOp_yes rfl rfl (fun K hK => ?_)
              go_simp
              refine hK _ _ ?_
              exact ⟨hF.put (by decide) _, hE, (fun h => (put_other (by decide) _).trans (h0 h)), (fun _ => put_same (by rw [hF.size, hsz]; decide) _), (fun h => (put_other (by decide) _).trans (h2 h)), (fun h => (put_other (by decide) _).trans (h3 h)), (fun h => (put_other (by decide) _).trans (h4 h)), (fun h => (put_other (by decide) _).trans (h5 h)), (fun h => (put_other (by decide) _).trans (h6 h)), (fun h => (put_other (by decide) _).trans (h7 h)), (fun h => (put_other (by decide) _).trans (h8 h)), (fun h => (put_other (by decide) _).trans (h9 h)), (fun h => (put_other (by decide) _).trans (h10 h)), (fun h => (put_other (by decide) _).trans (h11 h)), (fun h => (put_other (by decide) _).trans (h12 h)), (fun h => (put_other (by decide) _).trans (h13 h)), (fun h => (put_other (by decide) _).trans (h14 h)), (fun h => (put_other (by decide) _).trans (h15 h)), (fun h => (put_other (by decide) _).trans (h16 h)), (fun h => (put_other (by decide) _).trans (h17 h)), (fun h => (put_other (by decide) _).trans (h18 h)), (fun h => (put_other (by decide) _).trans (h19 h)), (fun h => (put_other (by decide) _).trans (h20 h)), (fun h => (put_other (by decide) _).trans (h21 h)), (fun h => (put_other (by decide) _).trans (h22 h))⟩
            | 2, _ =>
              rintro L a W ⟨hF, hE, h0, h1, h2, h3, h4, h5, h6, h7, h8, h9, h10, h11, h12, h13, h14, h15, h16, h17, h18, h19, h20, h21, h22⟩ hclo hL hd
              have x37 := h1 (all_mem hd (by decide))
              refine wpOp_yes rfl rfl (fun K hK => ?_)
              go_simp
              refine hK _ _ ?_
              exact ⟨hF.put (by decide) _, hE, (fun h => (put_other (by decide) _).trans (h0 h)), (fun h => (put_other (by decide) _).trans (h1 h)), (fun _ => put_same (by rw [hF.size, hsz]; decide) _), (fun h => (put_other (by decide) _).trans (h3 h)), (fun h => (put_other (by decide) _).trans (h4 h)), (fun h => (put_other (by decide) _).trans (h5 h)), (fun h => (put_other (by decide) _).trans (h6 h)), (fun h => (put_other (by decide) _).trans (h7 h)), (fun h => (put_other (by decide) _).trans (h8 h)), (fun h => (put_other (by decide) _).trans (h9 h)), (fun h => (put_other (by decide) _).trans (h10 h)), (fun h => (put_other (by decide) _).trans (h11 h)), (fun h => (put_other (by decide) _).trans (h12 h)), (fun h => (put_other (by decide) _).trans (h13 h)), (fun h => (put_other (by decide) _).trans (h14 h)), (fun h => (put_other (by decide) _).trans (h15 h)), (fun h => (put_other (by decide) _).trans (h16 h)), (fun h => (put_other (by decide) _).trans (h17 h)), (fun h => (put_other (by decide) _).trans (h18 h)), (fun h => (put_other (by decide) _).trans (h19 h)), (fun h => (put_other (by decide) _).trans (h20 h)), (fun h => (put_other (by decide) _).trans (h21 h)), (fun h => (put_other (by decide) _).trans (h22 h))⟩
            | 3, _ =>
              rintro L a W ⟨hF, hE, h0, h1, h2, h3, h4, h5, h6, h7, h8, h9, h10, h11, h12, h13, h14, h15, h16, h17, h18, h19, h20, h21, h22⟩ hclo hL hd
              have x4 := (hF.same 4 (by decide)).trans q4
              have x38 := h2 (all_mem hd (by decide))
              refine wpOp_yes rfl (by simp [Region.wanted, yielded, x38]) (fun K hK => wp_load_row 49 _ rfl w.heap.size (ev x4) 49 cs (0, 0) _ (HBS4.out.below hE HBS4.out.lt) Try.underlying49 rfl (su_info' HV.out.su.eq) (hK _ _ ?_))
              exact ⟨hF.put (by decide) _, hE, (fun h => (put_other (by decide) _).trans (h0 h)), (fun h => (put_other (by decide) _).trans (h1 h)), (fun h => (put_other (by decide) _).trans (h2 h)), (fun _ => put_same (by rw [hF.size, hsz]; decide) _), (fun h => (put_other (by decide) _).trans (h4 h)), (fun h => (put_other (by decide) _).trans (h5 h)), (fun h => (put_other (by decide) _).trans (h6 h)), (fun h => (put_other (by decide) _).trans (h7 h)), (fun h => (put_other (by decide) _).trans (h8 h)), (fun h => (put_other (by decide) _).trans (h9 h)), (fun h => (put_other (by decide) _).trans (h10 h)), (fun h => (put_other (by decide) _).trans (h11 h)), (fun h => (put_other (by decide) _).trans (h12 h)), (fun h => (put_other (by decide) _).trans (h13 h)), (fun h => (put_other (by decide) _).trans (h14 h)), (fun h => (put_other (by decide) _).trans (h15 h)), (fun h => (put_other (by decide) _).trans (h16 h)), (fun h => (put_other (by decide) _).trans (h17 h)), (fun h => (put_other (by decide) _).trans (h18 h)), (fun h => (put_other (by decide) _).trans (h19 h)), (fun h => (put_other (by decide) _).trans (h20 h)), (fun h => (put_other (by decide) _).trans (h21 h)), (fun h => (put_other (by decide) _).trans (h22 h))⟩
            | 4, _ =>
              rintro L a W ⟨hF, hE, h0, h1, h2, h3, h4, h5, h6, h7, h8, h9, h10, h11, h12, h13, h14, h15, h16, h17, h18, h19, h20, h21, h22⟩ hclo hL hd
              have x4 := (hF.same 4 (by decide)).trans q4
              have x38 := h2 (all_mem hd (by decide))
              refine wpOp_yes rfl (by simp [Region.wanted, yielded, x38]) (fun K hK => wp_load_row 49 _ rfl w.heap.size (ev x4) 49 cs (0, 0) _ (HBS4.out.below hE HBS4.out.lt) Try.underlying49 rfl (su_info' HV.out.su.eq) (hK _ _ ?_))
              exact ⟨hF.put (by decide) _, hE, (fun h => (put_other (by decide) _).trans (h0 h)), (fun h => (put_other (by decide) _).trans (h1 h)), (fun h => (put_other (by decide) _).trans (h2 h)), (fun h => (put_other (by decide) _).trans (h3 h)), (fun _ => put_same (by rw [hF.size, hsz]; decide) _), (fun h => (put_other (by decide) _).trans (h5 h)), (fun h => (put_other (by decide) _).trans (h6 h)), (fun h => (put_other (by decide) _).trans (h7 h)), (fun h => (put_other (by decide) _).trans (h8 h)), (fun h => (put_other (by decide) _).trans (h9 h)), (fun h => (put_other (by decide) _).trans (h10 h)), (fun h => (put_other (by decide) _).trans (h11 h)), (fun h => (put_other (by decide) _).trans (h12 h)), (fun h => (put_other (by decide) _).trans (h13 h)), (fun h => (put_other (by decide) _).trans (h14 h)), (fun h => (put_other (by decide) _).trans (h15 h)), (fun h => (put_other (by decide) _).trans (h16 h)), (fun h => (put_other (by decide) _).trans (h17 h)), (fun h => (put_other (by decide) _).trans (h18 h)), (fun h => (put_other (by decide) _).trans (h19 h)), (fun h => (put_other (by decide) _).trans (h20 h)), (fun h => (put_other (by decide) _).trans (h21 h)), (fun h => (put_other (by decide) _).trans (h22 h))⟩
            | 5, _ =>
              rintro L a W ⟨hF, hE, h0, h1, h2, h3, h4, h5, h6, h7, h8, h9, h10, h11, h12, h13, h14, h15, h16, h17, h18, h19, h20, h21, h22⟩ hclo hL hd
              have x9 := (hF.same 9 (by decide)).trans q9
              have x38 := h2 (all_mem hd (by decide))
              refine wpOp_yes rfl (by simp [Region.wanted, yielded, x38]) (fun K hK => wp_load_row 47 _ rfl b9 (ev x9) 47 #[.int .i64 px, .int .i64 py] (0, 0) _ (HP4.out.below hE HP4.out.lt) Try.underlying47 rfl (vec_info) (hK _ _ ?_))
              exact ⟨hF.put (by decide) _, hE, (fun h => (put_other (by decide) _).trans (h0 h)), (fun h => (put_other (by decide) _).trans (h1 h)), (fun h => (put_other (by decide) _).trans (h2 h)), (fun h => (put_other (by decide) _).trans (h3 h)), (fun h => (put_other (by decide) _).trans (h4 h)), (fun _ => put_same (by rw [hF.size, hsz]; decide) _), (fun h => (put_other (by decide) _).trans (h6 h)), (fun h => (put_other (by decide) _).trans (h7 h)), (fun h => (put_other (by decide) _).trans (h8 h)), (fun h => (put_other (by decide) _).trans (h9 h)), (fun h => (put_other (by decide) _).trans (h10 h)), (fun h => (put_other (by decide) _).trans (h11 h)), (fun h => (put_other (by decide) _).trans (h12 h)), (fun h => (put_other (by decide) _).trans (h13 h)), (fun h => (put_other (by decide) _).trans (h14 h)), (fun h => (put_other (by decide) _).trans (h15 h)), (fun h => (put_other (by decide) _).trans (h16 h)), (fun h => (put_other (by decide) _).trans (h17 h)), (fun h => (put_other (by decide) _).trans (h18 h)), (fun h => (put_other (by decide) _).trans (h19 h)), (fun h => (put_other (by decide) _).trans (h20 h)), (fun h => (put_other (by decide) _).trans (h21 h)), (fun h => (put_other (by decide) _).trans (h22 h))⟩
            | 6, _ =>
              rintro L a W ⟨hF, hE, h0, h1, h2, h3, h4, h5, h6, h7, h8, h9, h10, h11, h12, h13, h14, h15, h16, h17, h18, h19, h20, h21, h22⟩ hclo hL hd
              have x40 := h4 (all_mem hd (by decide))
              have x41 := h5 (all_mem hd (by decide))
              have x38 := h2 (all_mem hd (by decide))
              refine wpOp_yes rfl (by simp [Region.wanted, yielded, x38]) (fun K hK => ?_)
              go_simp
              refine (room_any cs s m B px py _ HV.out.su.eq HV.out.su.nr (HV.out.su.rooms.keep fun p hp => (HB4.out.trans (hE.mono HB4.out.size)).cell (by have := HV.out.B; omega)) (Nat.le_trans HV.out.B (HB4.out.trans (hE.mono HB4.out.size)).size)).mono ?_
              rintro e w5 ⟨rfl, hB'⟩
              rw [← HA.out]
              refine hK _ _ ?_
              exact ⟨hF.put (by decide) _, hE.next hB', (fun h => (put_other (by decide) _).trans (h0 h)), (fun h => (put_other (by decide) _).trans (h1 h)), (fun h => (put_other (by decide) _).trans (h2 h)), (fun h => (put_other (by decide) _).trans (h3 h)), (fun h => (put_other (by decide) _).trans (h4 h)), (fun h => (put_other (by decide) _).trans (h5 h)), (fun _ => put_same (by rw [hF.size, hsz]; decide) _), (fun h => (put_other (by decide) _).trans (h7 h)), (fun h => (put_other (by decide) _).trans (h8 h)), (fun h => (put_other (by decide) _).trans (h9 h)), (fun h => (put_other (by decide) _).trans (h10 h)), (fun h => (put_other (by decide) _).trans (h11 h)), (fun h => (put_other (by decide) _).trans (h12 h)), (fun h => (put_other (by decide) _).trans (h13 h)), (fun h => (put_other (by decide) _).trans (h14 h)), (fun h => (put_other (by decide) _).trans (h15 h)), (fun h => (put_other (by decide) _).trans (h16 h)), (fun h => (put_other (by decide) _).trans (h17 h)), (fun h => (put_other (by decide) _).trans (h18 h)), (fun h => (put_other (by decide) _).trans (h19 h)), (fun h => (put_other (by decide) _).trans (h20 h)), (fun h => (put_other (by decide) _).trans (h21 h)), (fun h => (put_other (by decide) _).trans (h22 h))⟩
            | 7, _ =>
              rintro L a W ⟨hF, hE, h0, h1, h2, h3, h4, h5, h6, h7, h8, h9, h10, h11, h12, h13, h14, h15, h16, h17, h18, h19, h20, h21, h22⟩ hclo hL hd
              have x39 := h3 (all_mem hd (by decide))
              have x42 := h6 (all_mem hd (by decide))
              have x38 := h2 (all_mem hd (by decide))
              refine wpOp_yes rfl (by simp [Region.wanted, yielded, x38]) (fun K hK => ?_)
              go_simp
              refine (mask_all cs s m B ra s.doors _ HV.out.su.eq (HV.out.su.doors.below ((HB4.out.trans (hE.mono HB4.out.size)).mono HV.out.B) (Nat.le_refl _)) HV.out.su.nd HV.out.nd HV.out.su.nr (Nat.le_trans HV.out.B (HB4.out.trans (hE.mono HB4.out.size)).size) HV.out.doors HA1.out HA2.out).mono ?_
              rintro e w5 ⟨rfl, hB'⟩
              rw [← HMK.out]
              refine hK _ _ ?_
              exact ⟨hF.put (by decide) _, hE.next hB', (fun h => (put_other (by decide) _).trans (h0 h)), (fun h => (put_other (by decide) _).trans (h1 h)), (fun h => (put_other (by decide) _).trans (h2 h)), (fun h => (put_other (by decide) _).trans (h3 h)), (fun h => (put_other (by decide) _).trans (h4 h)), (fun h => (put_other (by decide) _).trans (h5 h)), (fun h => (put_other (by decide) _).trans (h6 h)), (fun _ => put_same (by rw [hF.size, hsz]; decide) _), (fun h => (put_other (by decide) _).trans (h8 h)), (fun h => (put_other (by decide) _).trans (h9 h)), (fun h => (put_other (by decide) _).trans (h10 h)), (fun h => (put_other (by decide) _).trans (h11 h)), (fun h => (put_other (by decide) _).trans (h12 h)), (fun h => (put_other (by decide) _).trans (h13 h)), (fun h => (put_other (by decide) _).trans (h14 h)), (fun h => (put_other (by decide) _).trans (h15 h)), (fun h => (put_other (by decide) _).trans (h16 h)), (fun h => (put_other (by decide) _).trans (h17 h)), (fun h => (put_other (by decide) _).trans (h18 h)), (fun h => (put_other (by decide) _).trans (h19 h)), (fun h => (put_other (by decide) _).trans (h20 h)), (fun h => (put_other (by decide) _).trans (h21 h)), (fun h => (put_other (by decide) _).trans (h22 h))⟩
            | 8, _ =>
              rintro L a W ⟨hF, hE, h0, h1, h2, h3, h4, h5, h6, h7, h8, h9, h10, h11, h12, h13, h14, h15, h16, h17, h18, h19, h20, h21, h22⟩ hclo hL hd
              have x11 := (hF.same 11 (by decide)).trans q11
              have x38 := h2 (all_mem hd (by decide))
              refine wpOp_yes rfl (by simp [Region.wanted, yielded, x38]) (fun K hK => ?_)
              go_simp
              refine hK _ _ ?_
              exact ⟨hF.put (by decide) _, hE, (fun h => (put_other (by decide) _).trans (h0 h)), (fun h => (put_other (by decide) _).trans (h1 h)), (fun h => (put_other (by decide) _).trans (h2 h)), (fun h => (put_other (by decide) _).trans (h3 h)), (fun h => (put_other (by decide) _).trans (h4 h)), (fun h => (put_other (by decide) _).trans (h5 h)), (fun h => (put_other (by decide) _).trans (h6 h)), (fun h => (put_other (by decide) _).trans (h7 h)), (fun _ => put_same (by rw [hF.size, hsz]; decide) _), (fun h => (put_other (by decide) _).trans (h9 h)), (fun h => (put_other (by decide) _).trans (h10 h)), (fun h => (put_other (by decide) _).trans (h11 h)), (fun h => (put_other (by decide) _).trans (h12 h)), (fun h => (put_other (by decide) _).trans (h13 h)), (fun h => (put_other (by decide) _).trans (h14 h)), (fun h => (put_other (by decide) _).trans (h15 h)), (fun h => (put_other (by decide) _).trans (h16 h)), (fun h => (put_other (by decide) _).trans (h17 h)), (fun h => (put_other (by decide) _).trans (h18 h)), (fun h => (put_other (by decide) _).trans (h19 h)), (fun h => (put_other (by decide) _).trans (h20 h)), (fun h => (put_other (by decide) _).trans (h21 h)), (fun h => (put_other (by decide) _).trans (h22 h))⟩
            | 9, _ =>
              rintro L a W ⟨hF, hE, h0, h1, h2, h3, h4, h5, h6, h7, h8, h9, h10, h11, h12, h13, h14, h15, h16, h17, h18, h19, h20, h21, h22⟩ hclo hL hd
              have x43 := h7 (all_mem hd (by decide))
              have x44 := h8 (all_mem hd (by decide))
              have x38 := h2 (all_mem hd (by decide))
              refine wpOp_yes rfl (by simp [Region.wanted, yielded, x38]) (fun K hK => ?_)
              go_simp
              refine hK _ _ ?_
              exact ⟨hF.put (by decide) _, hE, (fun h => (put_other (by decide) _).trans (h0 h)), (fun h => (put_other (by decide) _).trans (h1 h)), (fun h => (put_other (by decide) _).trans (h2 h)), (fun h => (put_other (by decide) _).trans (h3 h)), (fun h => (put_other (by decide) _).trans (h4 h)), (fun h => (put_other (by decide) _).trans (h5 h)), (fun h => (put_other (by decide) _).trans (h6 h)), (fun h => (put_other (by decide) _).trans (h7 h)), (fun h => (put_other (by decide) _).trans (h8 h)), (fun _ => put_same (by rw [hF.size, hsz]; decide) _), (fun h => (put_other (by decide) _).trans (h10 h)), (fun h => (put_other (by decide) _).trans (h11 h)), (fun h => (put_other (by decide) _).trans (h12 h)), (fun h => (put_other (by decide) _).trans (h13 h)), (fun h => (put_other (by decide) _).trans (h14 h)), (fun h => (put_other (by decide) _).trans (h15 h)), (fun h => (put_other (by decide) _).trans (h16 h)), (fun h => (put_other (by decide) _).trans (h17 h)), (fun h => (put_other (by decide) _).trans (h18 h)), (fun h => (put_other (by decide) _).trans (h19 h)), (fun h => (put_other (by decide) _).trans (h20 h)), (fun h => (put_other (by decide) _).trans (h21 h)), (fun h => (put_other (by decide) _).trans (h22 h))⟩
            | 10, _ =>
              rintro L a W ⟨hF, hE, h0, h1, h2, h3, h4, h5, h6, h7, h8, h9, h10, h11, h12, h13, h14, h15, h16, h17, h18, h19, h20, h21, h22⟩ hclo hL hd
              have x45 := h9 (all_mem hd (by decide))
              have x38 := h2 (all_mem hd (by decide))
              refine wpOp_yes rfl (by simp [Region.wanted, yielded, x38]) (fun K hK => ?_)
              have hband := HBAND.out
              go_simp
              refine hK _ _ ?_
              exact ⟨hF.put (by decide) _, hE, (fun h => (put_other (by decide) _).trans (h0 h)), (fun h => (put_other (by decide) _).trans (h1 h)), (fun h => (put_other (by decide) _).trans (h2 h)), (fun h => (put_other (by decide) _).trans (h3 h)), (fun h => (put_other (by decide) _).trans (h4 h)), (fun h => (put_other (by decide) _).trans (h5 h)), (fun h => (put_other (by decide) _).trans (h6 h)), (fun h => (put_other (by decide) _).trans (h7 h)), (fun h => (put_other (by decide) _).trans (h8 h)), (fun h => (put_other (by decide) _).trans (h9 h)), (fun _ => put_same (by rw [hF.size, hsz]; decide) _), (fun h => (put_other (by decide) _).trans (h11 h)), (fun h => (put_other (by decide) _).trans (h12 h)), (fun h => (put_other (by decide) _).trans (h13 h)), (fun h => (put_other (by decide) _).trans (h14 h)), (fun h => (put_other (by decide) _).trans (h15 h)), (fun h => (put_other (by decide) _).trans (h16 h)), (fun h => (put_other (by decide) _).trans (h17 h)), (fun h => (put_other (by decide) _).trans (h18 h)), (fun h => (put_other (by decide) _).trans (h19 h)), (fun h => (put_other (by decide) _).trans (h20 h)), (fun h => (put_other (by decide) _).trans (h21 h)), (fun h => (put_other (by decide) _).trans (h22 h))⟩
            | 11, _ =>
              rintro L a W ⟨hF, hE, h0, h1, h2, h3, h4, h5, h6, h7, h8, h9, h10, h11, h12, h13, h14, h15, h16, h17, h18, h19, h20, h21, h22⟩ hclo hL hd
              have x46 := h10 (all_mem hd (by decide))
              have x38 := h2 (all_mem hd (by decide))
              refine wpOp_yes rfl (by simp [Region.wanted, yielded, x38]) (fun K hK => ?_)
              go_simp
              refine hK _ _ ?_
              exact ⟨hF.put (by decide) _, hE, (fun h => (put_other (by decide) _).trans (h0 h)), (fun h => (put_other (by decide) _).trans (h1 h)), (fun h => (put_other (by decide) _).trans (h2 h)), (fun h => (put_other (by decide) _).trans (h3 h)), (fun h => (put_other (by decide) _).trans (h4 h)), (fun h => (put_other (by decide) _).trans (h5 h)), (fun h => (put_other (by decide) _).trans (h6 h)), (fun h => (put_other (by decide) _).trans (h7 h)), (fun h => (put_other (by decide) _).trans (h8 h)), (fun h => (put_other (by decide) _).trans (h9 h)), (fun h => (put_other (by decide) _).trans (h10 h)), (fun _ => put_same (by rw [hF.size, hsz]; decide) _), (fun h => (put_other (by decide) _).trans (h12 h)), (fun h => (put_other (by decide) _).trans (h13 h)), (fun h => (put_other (by decide) _).trans (h14 h)), (fun h => (put_other (by decide) _).trans (h15 h)), (fun h => (put_other (by decide) _).trans (h16 h)), (fun h => (put_other (by decide) _).trans (h17 h)), (fun h => (put_other (by decide) _).trans (h18 h)), (fun h => (put_other (by decide) _).trans (h19 h)), (fun h => (put_other (by decide) _).trans (h20 h)), (fun h => (put_other (by decide) _).trans (h21 h)), (fun h => (put_other (by decide) _).trans (h22 h))⟩
            | 12, _ =>
              rintro L a W ⟨hF, hE, h0, h1, h2, h3, h4, h5, h6, h7, h8, h9, h10, h11, h12, h13, h14, h15, h16, h17, h18, h19, h20, h21, h22⟩ hclo hL hd
              have x38 := h2 (all_mem hd (by decide))
              have x47 := h11 (all_mem hd (by decide))
              refine wpOp_yes rfl rfl (fun K hK => ?_)
              go_simp
              refine hK _ _ ?_
              exact ⟨hF.put (by decide) _, hE, (fun h => (put_other (by decide) _).trans (h0 h)), (fun h => (put_other (by decide) _).trans (h1 h)), (fun h => (put_other (by decide) _).trans (h2 h)), (fun h => (put_other (by decide) _).trans (h3 h)), (fun h => (put_other (by decide) _).trans (h4 h)), (fun h => (put_other (by decide) _).trans (h5 h)), (fun h => (put_other (by decide) _).trans (h6 h)), (fun h => (put_other (by decide) _).trans (h7 h)), (fun h => (put_other (by decide) _).trans (h8 h)), (fun h => (put_other (by decide) _).trans (h9 h)), (fun h => (put_other (by decide) _).trans (h10 h)), (fun h => (put_other (by decide) _).trans (h11 h)), (fun _ => put_same (by rw [hF.size, hsz]; decide) _), (fun h => (put_other (by decide) _).trans (h13 h)), (fun h => (put_other (by decide) _).trans (h14 h)), (fun h => (put_other (by decide) _).trans (h15 h)), (fun h => (put_other (by decide) _).trans (h16 h)), (fun h => (put_other (by decide) _).trans (h17 h)), (fun h => (put_other (by decide) _).trans (h18 h)), (fun h => (put_other (by decide) _).trans (h19 h)), (fun h => (put_other (by decide) _).trans (h20 h)), (fun h => (put_other (by decide) _).trans (h21 h)), (fun h => (put_other (by decide) _).trans (h22 h))⟩
            | 13, _ =>
              rintro L a W ⟨hF, hE, h0, h1, h2, h3, h4, h5, h6, h7, h8, h9, h10, h11, h12, h13, h14, h15, h16, h17, h18, h19, h20, h21, h22⟩ hclo hL hd
              have x48 := h12 (all_mem hd (by decide))
              refine wpOp_yes rfl rfl (fun K hK => ?_)
              go_simp
              refine hK _ _ ?_
              exact ⟨hF.put (by decide) _, hE, (fun h => (put_other (by decide) _).trans (h0 h)), (fun h => (put_other (by decide) _).trans (h1 h)), (fun h => (put_other (by decide) _).trans (h2 h)), (fun h => (put_other (by decide) _).trans (h3 h)), (fun h => (put_other (by decide) _).trans (h4 h)), (fun h => (put_other (by decide) _).trans (h5 h)), (fun h => (put_other (by decide) _).trans (h6 h)), (fun h => (put_other (by decide) _).trans (h7 h)), (fun h => (put_other (by decide) _).trans (h8 h)), (fun h => (put_other (by decide) _).trans (h9 h)), (fun h => (put_other (by decide) _).trans (h10 h)), (fun h => (put_other (by decide) _).trans (h11 h)), (fun h => (put_other (by decide) _).trans (h12 h)), (fun _ => put_same (by rw [hF.size, hsz]; decide) _), (fun h => (put_other (by decide) _).trans (h14 h)), (fun h => (put_other (by decide) _).trans (h15 h)), (fun h => (put_other (by decide) _).trans (h16 h)), (fun h => (put_other (by decide) _).trans (h17 h)), (fun h => (put_other (by decide) _).trans (h18 h)), (fun h => (put_other (by decide) _).trans (h19 h)), (fun h => (put_other (by decide) _).trans (h20 h)), (fun h => (put_other (by decide) _).trans (h21 h)), (fun h => (put_other (by decide) _).trans (h22 h))⟩
            | 14, _ =>
              rintro L a W ⟨hF, hE, h0, h1, h2, h3, h4, h5, h6, h7, h8, h9, h10, h11, h12, h13, h14, h15, h16, h17, h18, h19, h20, h21, h22⟩ hclo hL hd
              have x10 := (hF.same 10 (by decide)).trans q10
              have x49 := h13 (all_mem hd (by decide))
              refine wpOp_yes rfl (by simp [Region.wanted, yielded, x49]) (fun K hK => wp_load_row 47 _ rfl b10 (ev x10) 47 #[.int .i64 qx, .int .i64 qy] (0, 0) _ (HQ4.out.below hE HQ4.out.lt) Try.underlying47 rfl (vec_info) (hK _ _ ?_))
              exact ⟨hF.put (by decide) _, hE, (fun h => (put_other (by decide) _).trans (h0 h)), (fun h => (put_other (by decide) _).trans (h1 h)), (fun h => (put_other (by decide) _).trans (h2 h)), (fun h => (put_other (by decide) _).trans (h3 h)), (fun h => (put_other (by decide) _).trans (h4 h)), (fun h => (put_other (by decide) _).trans (h5 h)), (fun h => (put_other (by decide) _).trans (h6 h)), (fun h => (put_other (by decide) _).trans (h7 h)), (fun h => (put_other (by decide) _).trans (h8 h)), (fun h => (put_other (by decide) _).trans (h9 h)), (fun h => (put_other (by decide) _).trans (h10 h)), (fun h => (put_other (by decide) _).trans (h11 h)), (fun h => (put_other (by decide) _).trans (h12 h)), (fun h => (put_other (by decide) _).trans (h13 h)), (fun _ => put_same (by rw [hF.size, hsz]; decide) _), (fun h => (put_other (by decide) _).trans (h15 h)), (fun h => (put_other (by decide) _).trans (h16 h)), (fun h => (put_other (by decide) _).trans (h17 h)), (fun h => (put_other (by decide) _).trans (h18 h)), (fun h => (put_other (by decide) _).trans (h19 h)), (fun h => (put_other (by decide) _).trans (h20 h)), (fun h => (put_other (by decide) _).trans (h21 h)), (fun h => (put_other (by decide) _).trans (h22 h))⟩
            | 15, _ =>
              rintro L a W ⟨hF, hE, h0, h1, h2, h3, h4, h5, h6, h7, h8, h9, h10, h11, h12, h13, h14, h15, h16, h17, h18, h19, h20, h21, h22⟩ hclo hL hd
              have x9 := (hF.same 9 (by decide)).trans q9
              have x49 := h13 (all_mem hd (by decide))
              refine wpOp_yes rfl (by simp [Region.wanted, yielded, x49]) (fun K hK => wp_load_row 47 _ rfl b9 (ev x9) 47 #[.int .i64 px, .int .i64 py] (0, 0) _ (HP4.out.below hE HP4.out.lt) Try.underlying47 rfl (vec_info) (hK _ _ ?_))
              exact ⟨hF.put (by decide) _, hE, (fun h => (put_other (by decide) _).trans (h0 h)), (fun h => (put_other (by decide) _).trans (h1 h)), (fun h => (put_other (by decide) _).trans (h2 h)), (fun h => (put_other (by decide) _).trans (h3 h)), (fun h => (put_other (by decide) _).trans (h4 h)), (fun h => (put_other (by decide) _).trans (h5 h)), (fun h => (put_other (by decide) _).trans (h6 h)), (fun h => (put_other (by decide) _).trans (h7 h)), (fun h => (put_other (by decide) _).trans (h8 h)), (fun h => (put_other (by decide) _).trans (h9 h)), (fun h => (put_other (by decide) _).trans (h10 h)), (fun h => (put_other (by decide) _).trans (h11 h)), (fun h => (put_other (by decide) _).trans (h12 h)), (fun h => (put_other (by decide) _).trans (h13 h)), (fun h => (put_other (by decide) _).trans (h14 h)), (fun _ => put_same (by rw [hF.size, hsz]; decide) _), (fun h => (put_other (by decide) _).trans (h16 h)), (fun h => (put_other (by decide) _).trans (h17 h)), (fun h => (put_other (by decide) _).trans (h18 h)), (fun h => (put_other (by decide) _).trans (h19 h)), (fun h => (put_other (by decide) _).trans (h20 h)), (fun h => (put_other (by decide) _).trans (h21 h)), (fun h => (put_other (by decide) _).trans (h22 h))⟩
            | 16, _ =>
              rintro L a W ⟨hF, hE, h0, h1, h2, h3, h4, h5, h6, h7, h8, h9, h10, h11, h12, h13, h14, h15, h16, h17, h18, h19, h20, h21, h22⟩ hclo hL hd
              have x50 := h14 (all_mem hd (by decide))
              have x51 := h15 (all_mem hd (by decide))
              have x49 := h13 (all_mem hd (by decide))
              refine wpOp_yes rfl (by simp [Region.wanted, yielded, x49]) (fun K hK => ?_)
              go_simp
              refine (sub_any _ _ _ _ _ (by omega) (by omega) (by omega) (by omega)).mono ?_
              rintro e w5 ⟨rfl, hB'⟩
              refine hK _ _ ?_
              exact ⟨hF.put (by decide) _, hE.next hB', (fun h => (put_other (by decide) _).trans (h0 h)), (fun h => (put_other (by decide) _).trans (h1 h)), (fun h => (put_other (by decide) _).trans (h2 h)), (fun h => (put_other (by decide) _).trans (h3 h)), (fun h => (put_other (by decide) _).trans (h4 h)), (fun h => (put_other (by decide) _).trans (h5 h)), (fun h => (put_other (by decide) _).trans (h6 h)), (fun h => (put_other (by decide) _).trans (h7 h)), (fun h => (put_other (by decide) _).trans (h8 h)), (fun h => (put_other (by decide) _).trans (h9 h)), (fun h => (put_other (by decide) _).trans (h10 h)), (fun h => (put_other (by decide) _).trans (h11 h)), (fun h => (put_other (by decide) _).trans (h12 h)), (fun h => (put_other (by decide) _).trans (h13 h)), (fun h => (put_other (by decide) _).trans (h14 h)), (fun h => (put_other (by decide) _).trans (h15 h)), (fun _ => put_same (by rw [hF.size, hsz]; decide) _), (fun h => (put_other (by decide) _).trans (h17 h)), (fun h => (put_other (by decide) _).trans (h18 h)), (fun h => (put_other (by decide) _).trans (h19 h)), (fun h => (put_other (by decide) _).trans (h20 h)), (fun h => (put_other (by decide) _).trans (h21 h)), (fun h => (put_other (by decide) _).trans (h22 h))⟩
            | 17, _ =>
              rintro L a W ⟨hF, hE, h0, h1, h2, h3, h4, h5, h6, h7, h8, h9, h10, h11, h12, h13, h14, h15, h16, h17, h18, h19, h20, h21, h22⟩ hclo hL hd
              have x52 := h16 (all_mem hd (by decide))
              have x49 := h13 (all_mem hd (by decide))
              refine wpOp_yes rfl (by simp [Region.wanted, yielded, x49]) (fun K hK => ?_)
              go_simp
              refine (len_any _ _ n _ HN1.out HN2.out).mono ?_
              rintro e w5 ⟨x, hx1, hx2, rfl, hB'⟩
              have hxr := HRT.out x hx1
              rw [hxr]
              refine hK _ _ ?_
              exact ⟨hF.put (by decide) _, hE.next hB', (fun h => (put_other (by decide) _).trans (h0 h)), (fun h => (put_other (by decide) _).trans (h1 h)), (fun h => (put_other (by decide) _).trans (h2 h)), (fun h => (put_other (by decide) _).trans (h3 h)), (fun h => (put_other (by decide) _).trans (h4 h)), (fun h => (put_other (by decide) _).trans (h5 h)), (fun h => (put_other (by decide) _).trans (h6 h)), (fun h => (put_other (by decide) _).trans (h7 h)), (fun h => (put_other (by decide) _).trans (h8 h)), (fun h => (put_other (by decide) _).trans (h9 h)), (fun h => (put_other (by decide) _).trans (h10 h)), (fun h => (put_other (by decide) _).trans (h11 h)), (fun h => (put_other (by decide) _).trans (h12 h)), (fun h => (put_other (by decide) _).trans (h13 h)), (fun h => (put_other (by decide) _).trans (h14 h)), (fun h => (put_other (by decide) _).trans (h15 h)), (fun h => (put_other (by decide) _).trans (h16 h)), (fun _ => put_same (by rw [hF.size, hsz]; decide) _), (fun h => (put_other (by decide) _).trans (h18 h)), (fun h => (put_other (by decide) _).trans (h19 h)), (fun h => (put_other (by decide) _).trans (h20 h)), (fun h => (put_other (by decide) _).trans (h21 h)), (fun h => (put_other (by decide) _).trans (h22 h))⟩
            | 18, _ =>
              rintro L a W ⟨hF, hE, h0, h1, h2, h3, h4, h5, h6, h7, h8, h9, h10, h11, h12, h13, h14, h15, h16, h17, h18, h19, h20, h21, h22⟩ hclo hL hd
              have x4 := (hF.same 4 (by decide)).trans q4
              have x49 := h13 (all_mem hd (by decide))
              refine wpOp_yes rfl (by simp [Region.wanted, yielded, x49]) (fun K hK => ?_)
              go_simp
              refine hK _ _ ?_
              exact ⟨hF.put (by decide) _, hE, (fun h => (put_other (by decide) _).trans (h0 h)), (fun h => (put_other (by decide) _).trans (h1 h)), (fun h => (put_other (by decide) _).trans (h2 h)), (fun h => (put_other (by decide) _).trans (h3 h)), (fun h => (put_other (by decide) _).trans (h4 h)), (fun h => (put_other (by decide) _).trans (h5 h)), (fun h => (put_other (by decide) _).trans (h6 h)), (fun h => (put_other (by decide) _).trans (h7 h)), (fun h => (put_other (by decide) _).trans (h8 h)), (fun h => (put_other (by decide) _).trans (h9 h)), (fun h => (put_other (by decide) _).trans (h10 h)), (fun h => (put_other (by decide) _).trans (h11 h)), (fun h => (put_other (by decide) _).trans (h12 h)), (fun h => (put_other (by decide) _).trans (h13 h)), (fun h => (put_other (by decide) _).trans (h14 h)), (fun h => (put_other (by decide) _).trans (h15 h)), (fun h => (put_other (by decide) _).trans (h16 h)), (fun h => (put_other (by decide) _).trans (h17 h)), (fun _ => put_same (by rw [hF.size, hsz]; decide) _), (fun h => (put_other (by decide) _).trans (h19 h)), (fun h => (put_other (by decide) _).trans (h20 h)), (fun h => (put_other (by decide) _).trans (h21 h)), (fun h => (put_other (by decide) _).trans (h22 h))⟩
            | 19, _ =>
              rintro L a W ⟨hF, hE, h0, h1, h2, h3, h4, h5, h6, h7, h8, h9, h10, h11, h12, h13, h14, h15, h16, h17, h18, h19, h20, h21, h22⟩ hclo hL hd
              have x54 := h18 (all_mem hd (by decide))
              have x49 := h13 (all_mem hd (by decide))
              refine wpOp_yes rfl (by simp [Region.wanted, yielded, x49]) (fun K hK => ?_)
              have c8 := (Below.cell (p := ⟨w.heap.size, 8, none⟩) hE HBS4.out.lt).trans ((HBS4.out.cell 8).trans (su_c8 HV.out.su.eq))
              go_simp
              refine hK _ _ ?_
              exact ⟨hF.put (by decide) _, hE, (fun h => (put_other (by decide) _).trans (h0 h)), (fun h => (put_other (by decide) _).trans (h1 h)), (fun h => (put_other (by decide) _).trans (h2 h)), (fun h => (put_other (by decide) _).trans (h3 h)), (fun h => (put_other (by decide) _).trans (h4 h)), (fun h => (put_other (by decide) _).trans (h5 h)), (fun h => (put_other (by decide) _).trans (h6 h)), (fun h => (put_other (by decide) _).trans (h7 h)), (fun h => (put_other (by decide) _).trans (h8 h)), (fun h => (put_other (by decide) _).trans (h9 h)), (fun h => (put_other (by decide) _).trans (h10 h)), (fun h => (put_other (by decide) _).trans (h11 h)), (fun h => (put_other (by decide) _).trans (h12 h)), (fun h => (put_other (by decide) _).trans (h13 h)), (fun h => (put_other (by decide) _).trans (h14 h)), (fun h => (put_other (by decide) _).trans (h15 h)), (fun h => (put_other (by decide) _).trans (h16 h)), (fun h => (put_other (by decide) _).trans (h17 h)), (fun h => (put_other (by decide) _).trans (h18 h)), (fun _ => put_same (by rw [hF.size, hsz]; decide) _), (fun h => (put_other (by decide) _).trans (h20 h)), (fun h => (put_other (by decide) _).trans (h21 h)), (fun h => (put_other (by decide) _).trans (h22 h))⟩
            | 20, _ =>
              rintro L a W ⟨hF, hE, h0, h1, h2, h3, h4, h5, h6, h7, h8, h9, h10, h11, h12, h13, h14, h15, h16, h17, h18, h19, h20, h21, h22⟩ hclo hL hd
              have x53 := h17 (all_mem hd (by decide))
              have x55 := h19 (all_mem hd (by decide))
              have x49 := h13 (all_mem hd (by decide))
              refine wpOp_yes rfl (by simp [Region.wanted, yielded, x49]) (fun K hK => ?_)
              go_simp
              refine hK _ _ ?_
              exact ⟨hF.put (by decide) _, hE, (fun h => (put_other (by decide) _).trans (h0 h)), (fun h => (put_other (by decide) _).trans (h1 h)), (fun h => (put_other (by decide) _).trans (h2 h)), (fun h => (put_other (by decide) _).trans (h3 h)), (fun h => (put_other (by decide) _).trans (h4 h)), (fun h => (put_other (by decide) _).trans (h5 h)), (fun h => (put_other (by decide) _).trans (h6 h)), (fun h => (put_other (by decide) _).trans (h7 h)), (fun h => (put_other (by decide) _).trans (h8 h)), (fun h => (put_other (by decide) _).trans (h9 h)), (fun h => (put_other (by decide) _).trans (h10 h)), (fun h => (put_other (by decide) _).trans (h11 h)), (fun h => (put_other (by decide) _).trans (h12 h)), (fun h => (put_other (by decide) _).trans (h13 h)), (fun h => (put_other (by decide) _).trans (h14 h)), (fun h => (put_other (by decide) _).trans (h15 h)), (fun h => (put_other (by decide) _).trans (h16 h)), (fun h => (put_other (by decide) _).trans (h17 h)), (fun h => (put_other (by decide) _).trans (h18 h)), (fun h => (put_other (by decide) _).trans (h19 h)), (fun _ => put_same (by rw [hF.size, hsz]; decide) _), (fun h => (put_other (by decide) _).trans (h21 h)), (fun h => (put_other (by decide) _).trans (h22 h))⟩
            | 21, _ =>
              rintro L a W ⟨hF, hE, h0, h1, h2, h3, h4, h5, h6, h7, h8, h9, h10, h11, h12, h13, h14, h15, h16, h17, h18, h19, h20, h21, h22⟩ hclo hL hd
              have x49 := h13 (all_mem hd (by decide))
              have x56 := h20 (all_mem hd (by decide))
              refine wpOp_yes rfl rfl (fun K hK => ?_)
              go_simp
              refine hK _ _ ?_
              exact ⟨hF.put (by decide) _, hE, (fun h => (put_other (by decide) _).trans (h0 h)), (fun h => (put_other (by decide) _).trans (h1 h)), (fun h => (put_other (by decide) _).trans (h2 h)), (fun h => (put_other (by decide) _).trans (h3 h)), (fun h => (put_other (by decide) _).trans (h4 h)), (fun h => (put_other (by decide) _).trans (h5 h)), (fun h => (put_other (by decide) _).trans (h6 h)), (fun h => (put_other (by decide) _).trans (h7 h)), (fun h => (put_other (by decide) _).trans (h8 h)), (fun h => (put_other (by decide) _).trans (h9 h)), (fun h => (put_other (by decide) _).trans (h10 h)), (fun h => (put_other (by decide) _).trans (h11 h)), (fun h => (put_other (by decide) _).trans (h12 h)), (fun h => (put_other (by decide) _).trans (h13 h)), (fun h => (put_other (by decide) _).trans (h14 h)), (fun h => (put_other (by decide) _).trans (h15 h)), (fun h => (put_other (by decide) _).trans (h16 h)), (fun h => (put_other (by decide) _).trans (h17 h)), (fun h => (put_other (by decide) _).trans (h18 h)), (fun h => (put_other (by decide) _).trans (h19 h)), (fun h => (put_other (by decide) _).trans (h20 h)), (fun _ => put_same (by rw [hF.size, hsz]; decide) _), (fun h => (put_other (by decide) _).trans (h22 h))⟩
            | 22, _ =>
              rintro L a W ⟨hF, hE, h0, h1, h2, h3, h4, h5, h6, h7, h8, h9, h10, h11, h12, h13, h14, h15, h16, h17, h18, h19, h20, h21, h22⟩ hclo hL hd
              have x57 := h21 (all_mem hd (by decide))
              refine wpOp_yes rfl rfl (fun K hK => ?_)
              go_simp
              refine hK _ _ ?_
              exact ⟨hF.put (by decide) _, hE, (fun h => (put_other (by decide) _).trans (h0 h)), (fun h => (put_other (by decide) _).trans (h1 h)), (fun h => (put_other (by decide) _).trans (h2 h)), (fun h => (put_other (by decide) _).trans (h3 h)), (fun h => (put_other (by decide) _).trans (h4 h)), (fun h => (put_other (by decide) _).trans (h5 h)), (fun h => (put_other (by decide) _).trans (h6 h)), (fun h => (put_other (by decide) _).trans (h7 h)), (fun h => (put_other (by decide) _).trans (h8 h)), (fun h => (put_other (by decide) _).trans (h9 h)), (fun h => (put_other (by decide) _).trans (h10 h)), (fun h => (put_other (by decide) _).trans (h11 h)), (fun h => (put_other (by decide) _).trans (h12 h)), (fun h => (put_other (by decide) _).trans (h13 h)), (fun h => (put_other (by decide) _).trans (h14 h)), (fun h => (put_other (by decide) _).trans (h15 h)), (fun h => (put_other (by decide) _).trans (h16 h)), (fun h => (put_other (by decide) _).trans (h17 h)), (fun h => (put_other (by decide) _).trans (h18 h)), (fun h => (put_other (by decide) _).trans (h19 h)), (fun h => (put_other (by decide) _).trans (h20 h)), (fun h => (put_other (by decide) _).trans (h21 h)), (fun _ => put_same (by rw [hF.size, hsz]; decide) _)⟩
            | k + 23, h => exact absurd (show k + 23 < 23 from h) (by omega)
          · rintro L a W ⟨hF, hE, h0, h1, h2, h3, h4, h5, h6, h7, h8, h9, h10, h11, h12, h13, h14, h15, h16, h17, h18, h19, h20, h21, h22⟩ hall
            have hfa : a = fill a0 [(36, .int .i64 (bn : Int)), (37, .bool true), (38, .bool true), (39, .agg cs), (40, .agg cs), (41, .agg #[.int .i64 px, .int .i64 py]), (42, .int .i64 ra), (43, .int .u64 (mk : Int)), (44, .int .i64 (bn : Int)), (45, .int .u64 ((mk : Int) / 2 ^ bn)), (46, .int .u64 1), (47, .bool true), (48, .bool true), (49, .bool true), (50, .agg #[.int .i64 qx, .int .i64 qy]), (51, .agg #[.int .i64 px, .int .i64 py]), (52, .agg #[.int .i64 (qx - px), .int .i64 (qy - py)]), (53, .int .i64 (rt : Int)), (54, .pointer (some ⟨w.heap.size, 8, none⟩)), (55, .int .i64 s.fog), (56, .bool (decide ((rt : Int) ≤ s.fog))), (57, .bool (decide ((rt : Int) ≤ s.fog))), (8, .bool (decide ((rt : Int) ≤ s.fog)))] := fill_eq hF (FillOk.cons (by rw [hsz]; decide) (h0 (hall 0 (by decide))) (FillOk.cons (by rw [hsz]; decide) (h1 (hall 1 (by decide))) (FillOk.cons (by rw [hsz]; decide) (h2 (hall 2 (by decide))) (FillOk.cons (by rw [hsz]; decide) (h3 (hall 3 (by decide))) (FillOk.cons (by rw [hsz]; decide) (h4 (hall 4 (by decide))) (FillOk.cons (by rw [hsz]; decide) (h5 (hall 5 (by decide))) (FillOk.cons (by rw [hsz]; decide) (h6 (hall 6 (by decide))) (FillOk.cons (by rw [hsz]; decide) (h7 (hall 7 (by decide))) (FillOk.cons (by rw [hsz]; decide) (h8 (hall 8 (by decide))) (FillOk.cons (by rw [hsz]; decide) (h9 (hall 9 (by decide))) (FillOk.cons (by rw [hsz]; decide) (h10 (hall 10 (by decide))) (FillOk.cons (by rw [hsz]; decide) (h11 (hall 11 (by decide))) (FillOk.cons (by rw [hsz]; decide) (h12 (hall 12 (by decide))) (FillOk.cons (by rw [hsz]; decide) (h13 (hall 13 (by decide))) (FillOk.cons (by rw [hsz]; decide) (h14 (hall 14 (by decide))) (FillOk.cons (by rw [hsz]; decide) (h15 (hall 15 (by decide))) (FillOk.cons (by rw [hsz]; decide) (h16 (hall 16 (by decide))) (FillOk.cons (by rw [hsz]; decide) (h17 (hall 17 (by decide))) (FillOk.cons (by rw [hsz]; decide) (h18 (hall 18 (by decide))) (FillOk.cons (by rw [hsz]; decide) (h19 (hall 19 (by decide))) (FillOk.cons (by rw [hsz]; decide) (h20 (hall 20 (by decide))) (FillOk.cons (by rw [hsz]; decide) (h21 (hall 21 (by decide))) (FillOk.cons (by rw [hsz]; decide) (h22 (hall 22 (by decide))) (FillOk.nil)))))))))))))))))))))))) (by simp)
            rw [hfa, ha0]
            clear hfa ha0
            simp only [fill, List.foldl_cons, List.foldl_nil, List.setIfInBounds_toArray, List.set_cons_zero, List.set_cons_succ]
            have HE := Lib.hid hE
            have HRR2 := HRR.out
            clear h0 h1 h2 h3 h4 h5 h6 h7 h8 h9 h10 h11 h12 h13 h14 h15 h16 h17 h18 h19 h20 h21 h22
            go_wp2
            go_ret
            exact ⟨ret_bool HRR.out, HB4.out.trans (HE.out.mono HB4.out.size)⟩
        · have hmu' : (decide (0 ≤ ra) && connD s.doors ra (bn : Int)) = false := by simpa using hmu
          have hrr : r = false := by
            rw [← hr2]
            cases h1 : decide (0 ≤ ra) with
            | false => simp
            | true => rw [h1] at hmu'; simp at hmu'; rw [hmu']; simp
          have HBAND : Hid (bits BinOp.and IntKind.u64 ((mk : Int) / 2 ^ bn) 1 = 0) := by
            rw [hmu', if_neg (by simp)] at hbit
            exact Lib.hid (band_of mk bn 0 hmk8 hbit)
          subst hrr
          clear hr2 hbit hmu hmu' hmk8
          go_upto_region 7 with (fail)
          refine region_start ?_
          intro a0 ha0
          have hsz : a0.tmps.size = 58 := by rw [ha0]; rfl
          have q4 : a0.tmps[4]? = some (.pointer (some ⟨w.heap.size, 0, none⟩)) := by rw [ha0]; rfl
          have q9 : a0.tmps[9]? = some (.pointer (some ⟨b9, 0, none⟩)) := by rw [ha0]; rfl
          have q10 : a0.tmps[10]? = some (.pointer (some ⟨b10, 0, none⟩)) := by rw [ha0]; rfl
          have q11 : a0.tmps[11]? = some (.int .i64 (bn : Int)) := by rw [ha0]; rfl
          refine wp_region_inv (by kernel_rfl) (fun L a W => Fr a0 [36, 37, 38, 39, 40, 41, 42, 43, 44, 45, 46, 47, 48, 49, 50, 51, 52, 53, 54, 55, 56, 57, 8] a ∧ EqS w4 W ∧ (L 0 = true → a.tmps[36]? = some (.int .i64 (bn : Int))) ∧ (L 1 = true → a.tmps[37]? = some (.bool true)) ∧ (L 2 = true → a.tmps[38]? = some (.bool true)) ∧ (L 3 = true → a.tmps[39]? = some (.agg cs)) ∧ (L 4 = true → a.tmps[40]? = some (.agg cs)) ∧ (L 5 = true → a.tmps[41]? = some (.agg #[.int .i64 px, .int .i64 py])) ∧ (L 6 = true → a.tmps[42]? = some (.int .i64 ra)) ∧ (L 7 = true → a.tmps[43]? = some (.int .u64 (mk : Int))) ∧ (L 8 = true → a.tmps[44]? = some (.int .i64 (bn : Int))) ∧ (L 9 = true → a.tmps[45]? = some (.int .u64 ((mk : Int) / 2 ^ bn))) ∧ (L 10 = true → a.tmps[46]? = some (.int .u64 0)) ∧ (L 11 = true → a.tmps[47]? = some (.bool false)) ∧ (L 12 = true → a.tmps[48]? = some (.bool false)) ∧ (L 13 = true → a.tmps[49]? = some (.bool false)) ∧ (L 14 = true → a.tmps[50]? = some (undef)) ∧ (L 15 = true → a.tmps[51]? = some (undef)) ∧ (L 16 = true → a.tmps[52]? = some (undef)) ∧ (L 17 = true → a.tmps[53]? = some (undef)) ∧ (L 18 = true → a.tmps[54]? = some (undef)) ∧ (L 19 = true → a.tmps[55]? = some (undef)) ∧ (L 20 = true → a.tmps[56]? = some (undef)) ∧ (L 21 = true → a.tmps[57]? = some (.bool false)) ∧ (L 22 = true → a.tmps[8]? = some (.bool false))) [[], [0], [1], [2], [2], [2], [2, 4, 5], [2, 3, 6], [2], [2, 7, 8], [2, 9], [2, 10], [2, 11], [12], [13], [13], [13], [13], [13], [13], [13], [13, 20], [21]] (by kernel_rfl) ?_ ?_ ?_
          · exact ⟨Fr.refl _ _, EqS.drew (EqS.refl _), (fun h => by cases h), (fun h => by cases h), (fun h => by cases h), (fun h => by cases h), (fun h => by cases h), (fun h => by cases h), (fun h => by cases h), (fun h => by cases h), (fun h => by cases h), (fun h => by cases h), (fun h => by cases h), (fun h => by cases h), (fun h => by cases h), (fun h => by cases h), (fun h => by cases h), (fun h => by cases h), (fun h => by cases h), (fun h => by cases h), (fun h => by cases h), (fun h => by cases h), (fun h => by cases h), (fun h => by cases h), (fun h => by cases h)⟩
          · intro i' hi
            clear ha0
            match i', hi with
            | 0, _ =>
              rintro L a W ⟨hF, hE, h0, h1, h2, h3, h4, h5, h6, h7, h8, h9, h10, h11, h12, h13, h14, h15, h16, h17, h18, h19, h20, h21, h22⟩ hclo hL hd
              have x11 := (hF.same 11 (by decide)).trans q11
              refine wpOp_yes rfl rfl (fun K hK => ?_)
              go_simp
              refine hK _ _ ?_
              exact ⟨hF.put (by decide) _, hE, (fun _ => put_same (by rw [hF.size, hsz]; decide) _), (fun h => (put_other (by decide) _).trans (h1 h)), (fun h => (put_other (by decide) _).trans (h2 h)), (fun h => (put_other (by decide) _).trans (h3 h)), (fun h => (put_other (by decide) _).trans (h4 h)), (fun h => (put_other (by decide) _).trans (h5 h)), (fun h => (put_other (by decide) _).trans (h6 h)), (fun h => (put_other (by decide) _).trans (h7 h)), (fun h => (put_other (by decide) _).trans (h8 h)), (fun h => (put_other (by decide) _).trans (h9 h)), (fun h => (put_other (by decide) _).trans (h10 h)), (fun h => (put_other (by decide) _).trans (h11 h)), (fun h => (put_other (by decide) _).trans (h12 h)), (fun h => (put_other (by decide) _).trans (h13 h)), (fun h => (put_other (by decide) _).trans (h14 h)), (fun h => (put_other (by decide) _).trans (h15 h)), (fun h => (put_other (by decide) _).trans (h16 h)), (fun h => (put_other (by decide) _).trans (h17 h)), (fun h => (put_other (by decide) _).trans (h18 h)), (fun h => (put_other (by decide) _).trans (h19 h)), (fun h => (put_other (by decide) _).trans (h20 h)), (fun h => (put_other (by decide) _).trans (h21 h)), (fun h => (put_other (by decide) _).trans (h22 h))⟩
            | 1, _ =>
              rintro L a W ⟨hF, hE, h0, h1, h2, h3, h4, h5, h6, h7, h8, h9, h10, h11, h12, h13, h14, h15, h16, h17, h18, h19, h20, h21, h22⟩ hclo hL hd
              have x36 := h0 (all_mem hd (by decide))
              refine wpOp_yes rfl rfl (fun K hK => ?_)
              go_simp
              refine hK _ _ ?_
              exact ⟨hF.put (by decide) _, hE, (fun h => (put_other (by decide) _).trans (h0 h)), (fun _ => put_same (by rw [hF.size, hsz]; decide) _), (fun h => (put_other (by decide) _).trans (h2 h)), (fun h => (put_other (by decide) _).trans (h3 h)), (fun h => (put_other (by decide) _).trans (h4 h)), (fun h => (put_other (by decide) _).trans (h5 h)), (fun h => (put_other (by decide) _).trans (h6 h)), (fun h => (put_other (by decide) _).trans (h7 h)), (fun h => (put_other (by decide) _).trans (h8 h)), (fun h => (put_other (by decide) _).trans (h9 h)), (fun h => (put_other (by decide) _).trans (h10 h)), (fun h => (put_other (by decide) _).trans (h11 h)), (fun h => (put_other (by decide) _).trans (h12 h)), (fun h => (put_other (by decide) _).trans (h13 h)), (fun h => (put_other (by decide) _).trans (h14 h)), (fun h => (put_other (by decide) _).trans (h15 h)), (fun h => (put_other (by decide) _).trans (h16 h)), (fun h => (put_other (by decide) _).trans (h17 h)), (fun h => (put_other (by decide) _).trans (h18 h)), (fun h => (put_other (by decide) _).trans (h19 h)), (fun h => (put_other (by decide) _).trans (h20 h)), (fun h => (put_other (by decide) _).trans (h21 h)), (fun h => (put_other (by decide) _).trans (h22 h))⟩
            | 2, _ =>
              rintro L a W ⟨hF, hE, h0, h1, h2, h3, h4, h5, h6, h7, h8, h9, h10, h11, h12, h13, h14, h15, h16, h17, h18, h19, h20, h21, h22⟩ hclo hL hd
              have x37 := h1 (all_mem hd (by decide))
              refine wpOp_yes rfl rfl (fun K hK => ?_)
              go_simp
              refine hK _ _ ?_
              exact ⟨hF.put (by decide) _, hE, (fun h => (put_other (by decide) _).trans (h0 h)), (fun h => (put_other (by decide) _).trans (h1 h)), (fun _ => put_same (by rw [hF.size, hsz]; decide) _), (fun h => (put_other (by decide) _).trans (h3 h)), (fun h => (put_other (by decide) _).trans (h4 h)), (fun h => (put_other (by decide) _).trans (h5 h)), (fun h => (put_other (by decide) _).trans (h6 h)), (fun h => (put_other (by decide) _).trans (h7 h)), (fun h => (put_other (by decide) _).trans (h8 h)), (fun h => (put_other (by decide) _).trans (h9 h)), (fun h => (put_other (by decide) _).trans (h10 h)), (fun h => (put_other (by decide) _).trans (h11 h)), (fun h => (put_other (by decide) _).trans (h12 h)), (fun h => (put_other (by decide) _).trans (h13 h)), (fun h => (put_other (by decide) _).trans (h14 h)), (fun h => (put_other (by decide) _).trans (h15 h)), (fun h => (put_other (by decide) _).trans (h16 h)), (fun h => (put_other (by decide) _).trans (h17 h)), (fun h => (put_other (by decide) _).trans (h18 h)), (fun h => (put_other (by decide) _).trans (h19 h)), (fun h => (put_other (by decide) _).trans (h20 h)), (fun h => (put_other (by decide) _).trans (h21 h)), (fun h => (put_other (by decide) _).trans (h22 h))⟩
            | 3, _ =>
              rintro L a W ⟨hF, hE, h0, h1, h2, h3, h4, h5, h6, h7, h8, h9, h10, h11, h12, h13, h14, h15, h16, h17, h18, h19, h20, h21, h22⟩ hclo hL hd
              have x4 := (hF.same 4 (by decide)).trans q4
              have x38 := h2 (all_mem hd (by decide))
              refine wpOp_yes rfl (by simp [Region.wanted, yielded, x38]) (fun K hK => wp_load_row 49 _ rfl w.heap.size (ev x4) 49 cs (0, 0) _ (HBS4.out.below hE HBS4.out.lt) Try.underlying49 rfl (su_info' HV.out.su.eq) (hK _ _ ?_))
              exact ⟨hF.put (by decide) _, hE, (fun h => (put_other (by decide) _).trans (h0 h)), (fun h => (put_other (by decide) _).trans (h1 h)), (fun h => (put_other (by decide) _).trans (h2 h)), (fun _ => put_same (by rw [hF.size, hsz]; decide) _), (fun h => (put_other (by decide) _).trans (h4 h)), (fun h => (put_other (by decide) _).trans (h5 h)), (fun h => (put_other (by decide) _).trans (h6 h)), (fun h => (put_other (by decide) _).trans (h7 h)), (fun h => (put_other (by decide) _).trans (h8 h)), (fun h => (put_other (by decide) _).trans (h9 h)), (fun h => (put_other (by decide) _).trans (h10 h)), (fun h => (put_other (by decide) _).trans (h11 h)), (fun h => (put_other (by decide) _).trans (h12 h)), (fun h => (put_other (by decide) _).trans (h13 h)), (fun h => (put_other (by decide) _).trans (h14 h)), (fun h => (put_other (by decide) _).trans (h15 h)), (fun h => (put_other (by decide) _).trans (h16 h)), (fun h => (put_other (by decide) _).trans (h17 h)), (fun h => (put_other (by decide) _).trans (h18 h)), (fun h => (put_other (by decide) _).trans (h19 h)), (fun h => (put_other (by decide) _).trans (h20 h)), (fun h => (put_other (by decide) _).trans (h21 h)), (fun h => (put_other (by decide) _).trans (h22 h))⟩
            | 4, _ =>
              rintro L a W ⟨hF, hE, h0, h1, h2, h3, h4, h5, h6, h7, h8, h9, h10, h11, h12, h13, h14, h15, h16, h17, h18, h19, h20, h21, h22⟩ hclo hL hd
              have x4 := (hF.same 4 (by decide)).trans q4
              have x38 := h2 (all_mem hd (by decide))
              refine wpOp_yes rfl (by simp [Region.wanted, yielded, x38]) (fun K hK => wp_load_row 49 _ rfl w.heap.size (ev x4) 49 cs (0, 0) _ (HBS4.out.below hE HBS4.out.lt) Try.underlying49 rfl (su_info' HV.out.su.eq) (hK _ _ ?_))
              exact ⟨hF.put (by decide) _, hE, (fun h => (put_other (by decide) _).trans (h0 h)), (fun h => (put_other (by decide) _).trans (h1 h)), (fun h => (put_other (by decide) _).trans (h2 h)), (fun h => (put_other (by decide) _).trans (h3 h)), (fun _ => put_same (by rw [hF.size, hsz]; decide) _), (fun h => (put_other (by decide) _).trans (h5 h)), (fun h => (put_other (by decide) _).trans (h6 h)), (fun h => (put_other (by decide) _).trans (h7 h)), (fun h => (put_other (by decide) _).trans (h8 h)), (fun h => (put_other (by decide) _).trans (h9 h)), (fun h => (put_other (by decide) _).trans (h10 h)), (fun h => (put_other (by decide) _).trans (h11 h)), (fun h => (put_other (by decide) _).trans (h12 h)), (fun h => (put_other (by decide) _).trans (h13 h)), (fun h => (put_other (by decide) _).trans (h14 h)), (fun h => (put_other (by decide) _).trans (h15 h)), (fun h => (put_other (by decide) _).trans (h16 h)), (fun h => (put_other (by decide) _).trans (h17 h)), (fun h => (put_other (by decide) _).trans (h18 h)), (fun h => (put_other (by decide) _).trans (h19 h)), (fun h => (put_other (by decide) _).trans (h20 h)), (fun h => (put_other (by decide) _).trans (h21 h)), (fun h => (put_other (by decide) _).trans (h22 h))⟩
            | 5, _ =>
              rintro L a W ⟨hF, hE, h0, h1, h2, h3, h4, h5, h6, h7, h8, h9, h10, h11, h12, h13, h14, h15, h16, h17, h18, h19, h20, h21, h22⟩ hclo hL hd
              have x9 := (hF.same 9 (by decide)).trans q9
              have x38 := h2 (all_mem hd (by decide))
              refine wpOp_yes rfl (by simp [Region.wanted, yielded, x38]) (fun K hK => wp_load_row 47 _ rfl b9 (ev x9) 47 #[.int .i64 px, .int .i64 py] (0, 0) _ (HP4.out.below hE HP4.out.lt) Try.underlying47 rfl (vec_info) (hK _ _ ?_))
              exact ⟨hF.put (by decide) _, hE, (fun h => (put_other (by decide) _).trans (h0 h)), (fun h => (put_other (by decide) _).trans (h1 h)), (fun h => (put_other (by decide) _).trans (h2 h)), (fun h => (put_other (by decide) _).trans (h3 h)), (fun h => (put_other (by decide) _).trans (h4 h)), (fun _ => put_same (by rw [hF.size, hsz]; decide) _), (fun h => (put_other (by decide) _).trans (h6 h)), (fun h => (put_other (by decide) _).trans (h7 h)), (fun h => (put_other (by decide) _).trans (h8 h)), (fun h => (put_other (by decide) _).trans (h9 h)), (fun h => (put_other (by decide) _).trans (h10 h)), (fun h => (put_other (by decide) _).trans (h11 h)), (fun h => (put_other (by decide) _).trans (h12 h)), (fun h => (put_other (by decide) _).trans (h13 h)), (fun h => (put_other (by decide) _).trans (h14 h)), (fun h => (put_other (by decide) _).trans (h15 h)), (fun h => (put_other (by decide) _).trans (h16 h)), (fun h => (put_other (by decide) _).trans (h17 h)), (fun h => (put_other (by decide) _).trans (h18 h)), (fun h => (put_other (by decide) _).trans (h19 h)), (fun h => (put_other (by decide) _).trans (h20 h)), (fun h => (put_other (by decide) _).trans (h21 h)), (fun h => (put_other (by decide) _).trans (h22 h))⟩
            | 6, _ =>
              rintro L a W ⟨hF, hE, h0, h1, h2, h3, h4, h5, h6, h7, h8, h9, h10, h11, h12, h13, h14, h15, h16, h17, h18, h19, h20, h21, h22⟩ hclo hL hd
              have x40 := h4 (all_mem hd (by decide))
              have x41 := h5 (all_mem hd (by decide))
              have x38 := h2 (all_mem hd (by decide))
              refine wpOp_yes rfl (by simp [Region.wanted, yielded, x38]) (fun K hK => ?_)
              go_simp
              refine (room_any cs s m B px py _ HV.out.su.eq HV.out.su.nr (HV.out.su.rooms.keep fun p hp => (HB4.out.trans (hE.mono HB4.out.size)).cell (by have := HV.out.B; omega)) (Nat.le_trans HV.out.B (HB4.out.trans (hE.mono HB4.out.size)).size)).mono ?_
              rintro e w5 ⟨rfl, hB'⟩
              rw [← HA.out]
              refine hK _ _ ?_
              exact ⟨hF.put (by decide) _, hE.next hB', (fun h => (put_other (by decide) _).trans (h0 h)), (fun h => (put_other (by decide) _).trans (h1 h)), (fun h => (put_other (by decide) _).trans (h2 h)), (fun h => (put_other (by decide) _).trans (h3 h)), (fun h => (put_other (by decide) _).trans (h4 h)), (fun h => (put_other (by decide) _).trans (h5 h)), (fun _ => put_same (by rw [hF.size, hsz]; decide) _), (fun h => (put_other (by decide) _).trans (h7 h)), (fun h => (put_other (by decide) _).trans (h8 h)), (fun h => (put_other (by decide) _).trans (h9 h)), (fun h => (put_other (by decide) _).trans (h10 h)), (fun h => (put_other (by decide) _).trans (h11 h)), (fun h => (put_other (by decide) _).trans (h12 h)), (fun h => (put_other (by decide) _).trans (h13 h)), (fun h => (put_other (by decide) _).trans (h14 h)), (fun h => (put_other (by decide) _).trans (h15 h)), (fun h => (put_other (by decide) _).trans (h16 h)), (fun h => (put_other (by decide) _).trans (h17 h)), (fun h => (put_other (by decide) _).trans (h18 h)), (fun h => (put_other (by decide) _).trans (h19 h)), (fun h => (put_other (by decide) _).trans (h20 h)), (fun h => (put_other (by decide) _).trans (h21 h)), (fun h => (put_other (by decide) _).trans (h22 h))⟩
            | 7, _ =>
              rintro L a W ⟨hF, hE, h0, h1, h2, h3, h4, h5, h6, h7, h8, h9, h10, h11, h12, h13, h14, h15, h16, h17, h18, h19, h20, h21, h22⟩ hclo hL hd
              have x39 := h3 (all_mem hd (by decide))
              have x42 := h6 (all_mem hd (by decide))
              have x38 := h2 (all_mem hd (by decide))
              refine wpOp_yes rfl (by simp [Region.wanted, yielded, x38]) (fun K hK => ?_)
              go_simp
              refine (mask_all cs s m B ra s.doors _ HV.out.su.eq (HV.out.su.doors.below ((HB4.out.trans (hE.mono HB4.out.size)).mono HV.out.B) (Nat.le_refl _)) HV.out.su.nd HV.out.nd HV.out.su.nr (Nat.le_trans HV.out.B (HB4.out.trans (hE.mono HB4.out.size)).size) HV.out.doors HA1.out HA2.out).mono ?_
              rintro e w5 ⟨rfl, hB'⟩
              rw [← HMK.out]
              refine hK _ _ ?_
              exact ⟨hF.put (by decide) _, hE.next hB', (fun h => (put_other (by decide) _).trans (h0 h)), (fun h => (put_other (by decide) _).trans (h1 h)), (fun h => (put_other (by decide) _).trans (h2 h)), (fun h => (put_other (by decide) _).trans (h3 h)), (fun h => (put_other (by decide) _).trans (h4 h)), (fun h => (put_other (by decide) _).trans (h5 h)), (fun h => (put_other (by decide) _).trans (h6 h)), (fun _ => put_same (by rw [hF.size, hsz]; decide) _), (fun h => (put_other (by decide) _).trans (h8 h)), (fun h => (put_other (by decide) _).trans (h9 h)), (fun h => (put_other (by decide) _).trans (h10 h)), (fun h => (put_other (by decide) _).trans (h11 h)), (fun h => (put_other (by decide) _).trans (h12 h)), (fun h => (put_other (by decide) _).trans (h13 h)), (fun h => (put_other (by decide) _).trans (h14 h)), (fun h => (put_other (by decide) _).trans (h15 h)), (fun h => (put_other (by decide) _).trans (h16 h)), (fun h => (put_other (by decide) _).trans (h17 h)), (fun h => (put_other (by decide) _).trans (h18 h)), (fun h => (put_other (by decide) _).trans (h19 h)), (fun h => (put_other (by decide) _).trans (h20 h)), (fun h => (put_other (by decide) _).trans (h21 h)), (fun h => (put_other (by decide) _).trans (h22 h))⟩
            | 8, _ =>
              rintro L a W ⟨hF, hE, h0, h1, h2, h3, h4, h5, h6, h7, h8, h9, h10, h11, h12, h13, h14, h15, h16, h17, h18, h19, h20, h21, h22⟩ hclo hL hd
              have x11 := (hF.same 11 (by decide)).trans q11
              have x38 := h2 (all_mem hd (by decide))
              refine wpOp_yes rfl (by simp [Region.wanted, yielded, x38]) (fun K hK => ?_)
              go_simp
              refine hK _ _ ?_
              exact ⟨hF.put (by decide) _, hE, (fun h => (put_other (by decide) _).trans (h0 h)), (fun h => (put_other (by decide) _).trans (h1 h)), (fun h => (put_other (by decide) _).trans (h2 h)), (fun h => (put_other (by decide) _).trans (h3 h)), (fun h => (put_other (by decide) _).trans (h4 h)), (fun h => (put_other (by decide) _).trans (h5 h)), (fun h => (put_other (by decide) _).trans (h6 h)), (fun h => (put_other (by decide) _).trans (h7 h)), (fun _ => put_same (by rw [hF.size, hsz]; decide) _), (fun h => (put_other (by decide) _).trans (h9 h)), (fun h => (put_other (by decide) _).trans (h10 h)), (fun h => (put_other (by decide) _).trans (h11 h)), (fun h => (put_other (by decide) _).trans (h12 h)), (fun h => (put_other (by decide) _).trans (h13 h)), (fun h => (put_other (by decide) _).trans (h14 h)), (fun h => (put_other (by decide) _).trans (h15 h)), (fun h => (put_other (by decide) _).trans (h16 h)), (fun h => (put_other (by decide) _).trans (h17 h)), (fun h => (put_other (by decide) _).trans (h18 h)), (fun h => (put_other (by decide) _).trans (h19 h)), (fun h => (put_other (by decide) _).trans (h20 h)), (fun h => (put_other (by decide) _).trans (h21 h)), (fun h => (put_other (by decide) _).trans (h22 h))⟩
            | 9, _ =>
              rintro L a W ⟨hF, hE, h0, h1, h2, h3, h4, h5, h6, h7, h8, h9, h10, h11, h12, h13, h14, h15, h16, h17, h18, h19, h20, h21, h22⟩ hclo hL hd
              have x43 := h7 (all_mem hd (by decide))
              have x44 := h8 (all_mem hd (by decide))
              have x38 := h2 (all_mem hd (by decide))
              refine wpOp_yes rfl (by simp [Region.wanted, yielded, x38]) (fun K hK => ?_)
              go_simp
              refine hK _ _ ?_
              exact ⟨hF.put (by decide) _, hE, (fun h => (put_other (by decide) _).trans (h0 h)), (fun h => (put_other (by decide) _).trans (h1 h)), (fun h => (put_other (by decide) _).trans (h2 h)), (fun h => (put_other (by decide) _).trans (h3 h)), (fun h => (put_other (by decide) _).trans (h4 h)), (fun h => (put_other (by decide) _).trans (h5 h)), (fun h => (put_other (by decide) _).trans (h6 h)), (fun h => (put_other (by decide) _).trans (h7 h)), (fun h => (put_other (by decide) _).trans (h8 h)), (fun _ => put_same (by rw [hF.size, hsz]; decide) _), (fun h => (put_other (by decide) _).trans (h10 h)), (fun h => (put_other (by decide) _).trans (h11 h)), (fun h => (put_other (by decide) _).trans (h12 h)), (fun h => (put_other (by decide) _).trans (h13 h)), (fun h => (put_other (by decide) _).trans (h14 h)), (fun h => (put_other (by decide) _).trans (h15 h)), (fun h => (put_other (by decide) _).trans (h16 h)), (fun h => (put_other (by decide) _).trans (h17 h)), (fun h => (put_other (by decide) _).trans (h18 h)), (fun h => (put_other (by decide) _).trans (h19 h)), (fun h => (put_other (by decide) _).trans (h20 h)), (fun h => (put_other (by decide) _).trans (h21 h)), (fun h => (put_other (by decide) _).trans (h22 h))⟩
            | 10, _ =>
              rintro L a W ⟨hF, hE, h0, h1, h2, h3, h4, h5, h6, h7, h8, h9, h10, h11, h12, h13, h14, h15, h16, h17, h18, h19, h20, h21, h22⟩ hclo hL hd
              have x45 := h9 (all_mem hd (by decide))
              have x38 := h2 (all_mem hd (by decide))
              refine wpOp_yes rfl (by simp [Region.wanted, yielded, x38]) (fun K hK => ?_)
              have hband := HBAND.out
              go_simp
              refine hK _ _ ?_
              exact ⟨hF.put (by decide) _, hE, (fun h => (put_other (by decide) _).trans (h0 h)), (fun h => (put_other (by decide) _).trans (h1 h)), (fun h => (put_other (by decide) _).trans (h2 h)), (fun h => (put_other (by decide) _).trans (h3 h)), (fun h => (put_other (by decide) _).trans (h4 h)), (fun h => (put_other (by decide) _).trans (h5 h)), (fun h => (put_other (by decide) _).trans (h6 h)), (fun h => (put_other (by decide) _).trans (h7 h)), (fun h => (put_other (by decide) _).trans (h8 h)), (fun h => (put_other (by decide) _).trans (h9 h)), (fun _ => put_same (by rw [hF.size, hsz]; decide) _), (fun h => (put_other (by decide) _).trans (h11 h)), (fun h => (put_other (by decide) _).trans (h12 h)), (fun h => (put_other (by decide) _).trans (h13 h)), (fun h => (put_other (by decide) _).trans (h14 h)), (fun h => (put_other (by decide) _).trans (h15 h)), (fun h => (put_other (by decide) _).trans (h16 h)), (fun h => (put_other (by decide) _).trans (h17 h)), (fun h => (put_other (by decide) _).trans (h18 h)), (fun h => (put_other (by decide) _).trans (h19 h)), (fun h => (put_other (by decide) _).trans (h20 h)), (fun h => (put_other (by decide) _).trans (h21 h)), (fun h => (put_other (by decide) _).trans (h22 h))⟩
            | 11, _ =>
              rintro L a W ⟨hF, hE, h0, h1, h2, h3, h4, h5, h6, h7, h8, h9, h10, h11, h12, h13, h14, h15, h16, h17, h18, h19, h20, h21, h22⟩ hclo hL hd
              have x46 := h10 (all_mem hd (by decide))
              have x38 := h2 (all_mem hd (by decide))
              refine wpOp_yes rfl (by simp [Region.wanted, yielded, x38]) (fun K hK => ?_)
              go_simp
              refine hK _ _ ?_
              exact ⟨hF.put (by decide) _, hE, (fun h => (put_other (by decide) _).trans (h0 h)), (fun h => (put_other (by decide) _).trans (h1 h)), (fun h => (put_other (by decide) _).trans (h2 h)), (fun h => (put_other (by decide) _).trans (h3 h)), (fun h => (put_other (by decide) _).trans (h4 h)), (fun h => (put_other (by decide) _).trans (h5 h)), (fun h => (put_other (by decide) _).trans (h6 h)), (fun h => (put_other (by decide) _).trans (h7 h)), (fun h => (put_other (by decide) _).trans (h8 h)), (fun h => (put_other (by decide) _).trans (h9 h)), (fun h => (put_other (by decide) _).trans (h10 h)), (fun _ => put_same (by rw [hF.size, hsz]; decide) _), (fun h => (put_other (by decide) _).trans (h12 h)), (fun h => (put_other (by decide) _).trans (h13 h)), (fun h => (put_other (by decide) _).trans (h14 h)), (fun h => (put_other (by decide) _).trans (h15 h)), (fun h => (put_other (by decide) _).trans (h16 h)), (fun h => (put_other (by decide) _).trans (h17 h)), (fun h => (put_other (by decide) _).trans (h18 h)), (fun h => (put_other (by decide) _).trans (h19 h)), (fun h => (put_other (by decide) _).trans (h20 h)), (fun h => (put_other (by decide) _).trans (h21 h)), (fun h => (put_other (by decide) _).trans (h22 h))⟩
            | 12, _ =>
              rintro L a W ⟨hF, hE, h0, h1, h2, h3, h4, h5, h6, h7, h8, h9, h10, h11, h12, h13, h14, h15, h16, h17, h18, h19, h20, h21, h22⟩ hclo hL hd
              have x38 := h2 (all_mem hd (by decide))
              have x47 := h11 (all_mem hd (by decide))
              refine wpOp_yes rfl rfl (fun K hK => ?_)
              go_simp
              refine hK _ _ ?_
              exact ⟨hF.put (by decide) _, hE, (fun h => (put_other (by decide) _).trans (h0 h)), (fun h => (put_other (by decide) _).trans (h1 h)), (fun h => (put_other (by decide) _).trans (h2 h)), (fun h => (put_other (by decide) _).trans (h3 h)), (fun h => (put_other (by decide) _).trans (h4 h)), (fun h => (put_other (by decide) _).trans (h5 h)), (fun h => (put_other (by decide) _).trans (h6 h)), (fun h => (put_other (by decide) _).trans (h7 h)), (fun h => (put_other (by decide) _).trans (h8 h)), (fun h => (put_other (by decide) _).trans (h9 h)), (fun h => (put_other (by decide) _).trans (h10 h)), (fun h => (put_other (by decide) _).trans (h11 h)), (fun _ => put_same (by rw [hF.size, hsz]; decide) _), (fun h => (put_other (by decide) _).trans (h13 h)), (fun h => (put_other (by decide) _).trans (h14 h)), (fun h => (put_other (by decide) _).trans (h15 h)), (fun h => (put_other (by decide) _).trans (h16 h)), (fun h => (put_other (by decide) _).trans (h17 h)), (fun h => (put_other (by decide) _).trans (h18 h)), (fun h => (put_other (by decide) _).trans (h19 h)), (fun h => (put_other (by decide) _).trans (h20 h)), (fun h => (put_other (by decide) _).trans (h21 h)), (fun h => (put_other (by decide) _).trans (h22 h))⟩
            | 13, _ =>
              rintro L a W ⟨hF, hE, h0, h1, h2, h3, h4, h5, h6, h7, h8, h9, h10, h11, h12, h13, h14, h15, h16, h17, h18, h19, h20, h21, h22⟩ hclo hL hd
              have x48 := h12 (all_mem hd (by decide))
              refine wpOp_yes rfl rfl (fun K hK => ?_)
              go_simp
              refine hK _ _ ?_
              exact ⟨hF.put (by decide) _, hE, (fun h => (put_other (by decide) _).trans (h0 h)), (fun h => (put_other (by decide) _).trans (h1 h)), (fun h => (put_other (by decide) _).trans (h2 h)), (fun h => (put_other (by decide) _).trans (h3 h)), (fun h => (put_other (by decide) _).trans (h4 h)), (fun h => (put_other (by decide) _).trans (h5 h)), (fun h => (put_other (by decide) _).trans (h6 h)), (fun h => (put_other (by decide) _).trans (h7 h)), (fun h => (put_other (by decide) _).trans (h8 h)), (fun h => (put_other (by decide) _).trans (h9 h)), (fun h => (put_other (by decide) _).trans (h10 h)), (fun h => (put_other (by decide) _).trans (h11 h)), (fun h => (put_other (by decide) _).trans (h12 h)), (fun _ => put_same (by rw [hF.size, hsz]; decide) _), (fun h => (put_other (by decide) _).trans (h14 h)), (fun h => (put_other (by decide) _).trans (h15 h)), (fun h => (put_other (by decide) _).trans (h16 h)), (fun h => (put_other (by decide) _).trans (h17 h)), (fun h => (put_other (by decide) _).trans (h18 h)), (fun h => (put_other (by decide) _).trans (h19 h)), (fun h => (put_other (by decide) _).trans (h20 h)), (fun h => (put_other (by decide) _).trans (h21 h)), (fun h => (put_other (by decide) _).trans (h22 h))⟩
            | 14, _ =>
              rintro L a W ⟨hF, hE, h0, h1, h2, h3, h4, h5, h6, h7, h8, h9, h10, h11, h12, h13, h14, h15, h16, h17, h18, h19, h20, h21, h22⟩ hclo hL hd
              have x49 := h13 (all_mem hd (by decide))
              refine wpOp_no rfl (by simp [Region.wanted, yielded, x49]) ?_
              exact ⟨hF.put (by decide) _, hE, (fun h => (put_other (by decide) _).trans (h0 h)), (fun h => (put_other (by decide) _).trans (h1 h)), (fun h => (put_other (by decide) _).trans (h2 h)), (fun h => (put_other (by decide) _).trans (h3 h)), (fun h => (put_other (by decide) _).trans (h4 h)), (fun h => (put_other (by decide) _).trans (h5 h)), (fun h => (put_other (by decide) _).trans (h6 h)), (fun h => (put_other (by decide) _).trans (h7 h)), (fun h => (put_other (by decide) _).trans (h8 h)), (fun h => (put_other (by decide) _).trans (h9 h)), (fun h => (put_other (by decide) _).trans (h10 h)), (fun h => (put_other (by decide) _).trans (h11 h)), (fun h => (put_other (by decide) _).trans (h12 h)), (fun h => (put_other (by decide) _).trans (h13 h)), (fun _ => put_same (by rw [hF.size, hsz]; decide) _), (fun h => (put_other (by decide) _).trans (h15 h)), (fun h => (put_other (by decide) _).trans (h16 h)), (fun h => (put_other (by decide) _).trans (h17 h)), (fun h => (put_other (by decide) _).trans (h18 h)), (fun h => (put_other (by decide) _).trans (h19 h)), (fun h => (put_other (by decide) _).trans (h20 h)), (fun h => (put_other (by decide) _).trans (h21 h)), (fun h => (put_other (by decide) _).trans (h22 h))⟩
            | 15, _ =>
              rintro L a W ⟨hF, hE, h0, h1, h2, h3, h4, h5, h6, h7, h8, h9, h10, h11, h12, h13, h14, h15, h16, h17, h18, h19, h20, h21, h22⟩ hclo hL hd
              have x49 := h13 (all_mem hd (by decide))
              refine wpOp_no rfl (by simp [Region.wanted, yielded, x49]) ?_
              exact ⟨hF.put (by decide) _, hE, (fun h => (put_other (by decide) _).trans (h0 h)), (fun h => (put_other (by decide) _).trans (h1 h)), (fun h => (put_other (by decide) _).trans (h2 h)), (fun h => (put_other (by decide) _).trans (h3 h)), (fun h => (put_other (by decide) _).trans (h4 h)), (fun h => (put_other (by decide) _).trans (h5 h)), (fun h => (put_other (by decide) _).trans (h6 h)), (fun h => (put_other (by decide) _).trans (h7 h)), (fun h => (put_other (by decide) _).trans (h8 h)), (fun h => (put_other (by decide) _).trans (h9 h)), (fun h => (put_other (by decide) _).trans (h10 h)), (fun h => (put_other (by decide) _).trans (h11 h)), (fun h => (put_other (by decide) _).trans (h12 h)), (fun h => (put_other (by decide) _).trans (h13 h)), (fun h => (put_other (by decide) _).trans (h14 h)), (fun _ => put_same (by rw [hF.size, hsz]; decide) _), (fun h => (put_other (by decide) _).trans (h16 h)), (fun h => (put_other (by decide) _).trans (h17 h)), (fun h => (put_other (by decide) _).trans (h18 h)), (fun h => (put_other (by decide) _).trans (h19 h)), (fun h => (put_other (by decide) _).trans (h20 h)), (fun h => (put_other (by decide) _).trans (h21 h)), (fun h => (put_other (by decide) _).trans (h22 h))⟩
            | 16, _ =>
              rintro L a W ⟨hF, hE, h0, h1, h2, h3, h4, h5, h6, h7, h8, h9, h10, h11, h12, h13, h14, h15, h16, h17, h18, h19, h20, h21, h22⟩ hclo hL hd
              have x49 := h13 (all_mem hd (by decide))
              refine wpOp_no rfl (by simp [Region.wanted, yielded, x49]) ?_
              exact ⟨hF.put (by decide) _, hE, (fun h => (put_other (by decide) _).trans (h0 h)), (fun h => (put_other (by decide) _).trans (h1 h)), (fun h => (put_other (by decide) _).trans (h2 h)), (fun h => (put_other (by decide) _).trans (h3 h)), (fun h => (put_other (by decide) _).trans (h4 h)), (fun h => (put_other (by decide) _).trans (h5 h)), (fun h => (put_other (by decide) _).trans (h6 h)), (fun h => (put_other (by decide) _).trans (h7 h)), (fun h => (put_other (by decide) _).trans (h8 h)), (fun h => (put_other (by decide) _).trans (h9 h)), (fun h => (put_other (by decide) _).trans (h10 h)), (fun h => (put_other (by decide) _).trans (h11 h)), (fun h => (put_other (by decide) _).trans (h12 h)), (fun h => (put_other (by decide) _).trans (h13 h)), (fun h => (put_other (by decide) _).trans (h14 h)), (fun h => (put_other (by decide) _).trans (h15 h)), (fun _ => put_same (by rw [hF.size, hsz]; decide) _), (fun h => (put_other (by decide) _).trans (h17 h)), (fun h => (put_other (by decide) _).trans (h18 h)), (fun h => (put_other (by decide) _).trans (h19 h)), (fun h => (put_other (by decide) _).trans (h20 h)), (fun h => (put_other (by decide) _).trans (h21 h)), (fun h => (put_other (by decide) _).trans (h22 h))⟩
            | 17, _ =>
              rintro L a W ⟨hF, hE, h0, h1, h2, h3, h4, h5, h6, h7, h8, h9, h10, h11, h12, h13, h14, h15, h16, h17, h18, h19, h20, h21, h22⟩ hclo hL hd
              have x49 := h13 (all_mem hd (by decide))
              refine wpOp_no rfl (by simp [Region.wanted, yielded, x49]) ?_
              exact ⟨hF.put (by decide) _, hE, (fun h => (put_other (by decide) _).trans (h0 h)), (fun h => (put_other (by decide) _).trans (h1 h)), (fun h => (put_other (by decide) _).trans (h2 h)), (fun h => (put_other (by decide) _).trans (h3 h)), (fun h => (put_other (by decide) _).trans (h4 h)), (fun h => (put_other (by decide) _).trans (h5 h)), (fun h => (put_other (by decide) _).trans (h6 h)), (fun h => (put_other (by decide) _).trans (h7 h)), (fun h => (put_other (by decide) _).trans (h8 h)), (fun h => (put_other (by decide) _).trans (h9 h)), (fun h => (put_other (by decide) _).trans (h10 h)), (fun h => (put_other (by decide) _).trans (h11 h)), (fun h => (put_other (by decide) _).trans (h12 h)), (fun h => (put_other (by decide) _).trans (h13 h)), (fun h => (put_other (by decide) _).trans (h14 h)), (fun h => (put_other (by decide) _).trans (h15 h)), (fun h => (put_other (by decide) _).trans (h16 h)), (fun _ => put_same (by rw [hF.size, hsz]; decide) _), (fun h => (put_other (by decide) _).trans (h18 h)), (fun h => (put_other (by decide) _).trans (h19 h)), (fun h => (put_other (by decide) _).trans (h20 h)), (fun h => (put_other (by decide) _).trans (h21 h)), (fun h => (put_other (by decide) _).trans (h22 h))⟩
            | 18, _ =>
              rintro L a W ⟨hF, hE, h0, h1, h2, h3, h4, h5, h6, h7, h8, h9, h10, h11, h12, h13, h14, h15, h16, h17, h18, h19, h20, h21, h22⟩ hclo hL hd
              have x49 := h13 (all_mem hd (by decide))
              refine wpOp_no rfl (by simp [Region.wanted, yielded, x49]) ?_
              exact ⟨hF.put (by decide) _, hE, (fun h => (put_other (by decide) _).trans (h0 h)), (fun h => (put_other (by decide) _).trans (h1 h)), (fun h => (put_other (by decide) _).trans (h2 h)), (fun h => (put_other (by decide) _).trans (h3 h)), (fun h => (put_other (by decide) _).trans (h4 h)), (fun h => (put_other (by decide) _).trans (h5 h)), (fun h => (put_other (by decide) _).trans (h6 h)), (fun h => (put_other (by decide) _).trans (h7 h)), (fun h => (put_other (by decide) _).trans (h8 h)), (fun h => (put_other (by decide) _).trans (h9 h)), (fun h => (put_other (by decide) _).trans (h10 h)), (fun h => (put_other (by decide) _).trans (h11 h)), (fun h => (put_other (by decide) _).trans (h12 h)), (fun h => (put_other (by decide) _).trans (h13 h)), (fun h => (put_other (by decide) _).trans (h14 h)), (fun h => (put_other (by decide) _).trans (h15 h)), (fun h => (put_other (by decide) _).trans (h16 h)), (fun h => (put_other (by decide) _).trans (h17 h)), (fun _ => put_same (by rw [hF.size, hsz]; decide) _), (fun h => (put_other (by decide) _).trans (h19 h)), (fun h => (put_other (by decide) _).trans (h20 h)), (fun h => (put_other (by decide) _).trans (h21 h)), (fun h => (put_other (by decide) _).trans (h22 h))⟩
            | 19, _ =>
              rintro L a W ⟨hF, hE, h0, h1, h2, h3, h4, h5, h6, h7, h8, h9, h10, h11, h12, h13, h14, h15, h16, h17, h18, h19, h20, h21, h22⟩ hclo hL hd
              have x49 := h13 (all_mem hd (by decide))
              refine wpOp_no rfl (by simp [Region.wanted, yielded, x49]) ?_
              exact ⟨hF.put (by decide) _, hE, (fun h => (put_other (by decide) _).trans (h0 h)), (fun h => (put_other (by decide) _).trans (h1 h)), (fun h => (put_other (by decide) _).trans (h2 h)), (fun h => (put_other (by decide) _).trans (h3 h)), (fun h => (put_other (by decide) _).trans (h4 h)), (fun h => (put_other (by decide) _).trans (h5 h)), (fun h => (put_other (by decide) _).trans (h6 h)), (fun h => (put_other (by decide) _).trans (h7 h)), (fun h => (put_other (by decide) _).trans (h8 h)), (fun h => (put_other (by decide) _).trans (h9 h)), (fun h => (put_other (by decide) _).trans (h10 h)), (fun h => (put_other (by decide) _).trans (h11 h)), (fun h => (put_other (by decide) _).trans (h12 h)), (fun h => (put_other (by decide) _).trans (h13 h)), (fun h => (put_other (by decide) _).trans (h14 h)), (fun h => (put_other (by decide) _).trans (h15 h)), (fun h => (put_other (by decide) _).trans (h16 h)), (fun h => (put_other (by decide) _).trans (h17 h)), (fun h => (put_other (by decide) _).trans (h18 h)), (fun _ => put_same (by rw [hF.size, hsz]; decide) _), (fun h => (put_other (by decide) _).trans (h20 h)), (fun h => (put_other (by decide) _).trans (h21 h)), (fun h => (put_other (by decide) _).trans (h22 h))⟩
            | 20, _ =>
              rintro L a W ⟨hF, hE, h0, h1, h2, h3, h4, h5, h6, h7, h8, h9, h10, h11, h12, h13, h14, h15, h16, h17, h18, h19, h20, h21, h22⟩ hclo hL hd
              have x49 := h13 (all_mem hd (by decide))
              refine wpOp_no rfl (by simp [Region.wanted, yielded, x49]) ?_
              exact ⟨hF.put (by decide) _, hE, (fun h => (put_other (by decide) _).trans (h0 h)), (fun h => (put_other (by decide) _).trans (h1 h)), (fun h => (put_other (by decide) _).trans (h2 h)), (fun h => (put_other (by decide) _).trans (h3 h)), (fun h => (put_other (by decide) _).trans (h4 h)), (fun h => (put_other (by decide) _).trans (h5 h)), (fun h => (put_other (by decide) _).trans (h6 h)), (fun h => (put_other (by decide) _).trans (h7 h)), (fun h => (put_other (by decide) _).trans (h8 h)), (fun h => (put_other (by decide) _).trans (h9 h)), (fun h => (put_other (by decide) _).trans (h10 h)), (fun h => (put_other (by decide) _).trans (h11 h)), (fun h => (put_other (by decide) _).trans (h12 h)), (fun h => (put_other (by decide) _).trans (h13 h)), (fun h => (put_other (by decide) _).trans (h14 h)), (fun h => (put_other (by decide) _).trans (h15 h)), (fun h => (put_other (by decide) _).trans (h16 h)), (fun h => (put_other (by decide) _).trans (h17 h)), (fun h => (put_other (by decide) _).trans (h18 h)), (fun h => (put_other (by decide) _).trans (h19 h)), (fun _ => put_same (by rw [hF.size, hsz]; decide) _), (fun h => (put_other (by decide) _).trans (h21 h)), (fun h => (put_other (by decide) _).trans (h22 h))⟩
            | 21, _ =>
              rintro L a W ⟨hF, hE, h0, h1, h2, h3, h4, h5, h6, h7, h8, h9, h10, h11, h12, h13, h14, h15, h16, h17, h18, h19, h20, h21, h22⟩ hclo hL hd
              have x49 := h13 (all_mem hd (by decide))
              have x56 := h20 (all_mem hd (by decide))
              refine wpOp_yes rfl rfl (fun K hK => ?_)
              go_simp
              refine hK _ _ ?_
              exact ⟨hF.put (by decide) _, hE, (fun h => (put_other (by decide) _).trans (h0 h)), (fun h => (put_other (by decide) _).trans (h1 h)), (fun h => (put_other (by decide) _).trans (h2 h)), (fun h => (put_other (by decide) _).trans (h3 h)), (fun h => (put_other (by decide) _).trans (h4 h)), (fun h => (put_other (by decide) _).trans (h5 h)), (fun h => (put_other (by decide) _).trans (h6 h)), (fun h => (put_other (by decide) _).trans (h7 h)), (fun h => (put_other (by decide) _).trans (h8 h)), (fun h => (put_other (by decide) _).trans (h9 h)), (fun h => (put_other (by decide) _).trans (h10 h)), (fun h => (put_other (by decide) _).trans (h11 h)), (fun h => (put_other (by decide) _).trans (h12 h)), (fun h => (put_other (by decide) _).trans (h13 h)), (fun h => (put_other (by decide) _).trans (h14 h)), (fun h => (put_other (by decide) _).trans (h15 h)), (fun h => (put_other (by decide) _).trans (h16 h)), (fun h => (put_other (by decide) _).trans (h17 h)), (fun h => (put_other (by decide) _).trans (h18 h)), (fun h => (put_other (by decide) _).trans (h19 h)), (fun h => (put_other (by decide) _).trans (h20 h)), (fun _ => put_same (by rw [hF.size, hsz]; decide) _), (fun h => (put_other (by decide) _).trans (h22 h))⟩
            | 22, _ =>
              rintro L a W ⟨hF, hE, h0, h1, h2, h3, h4, h5, h6, h7, h8, h9, h10, h11, h12, h13, h14, h15, h16, h17, h18, h19, h20, h21, h22⟩ hclo hL hd
              have x57 := h21 (all_mem hd (by decide))
              refine wpOp_yes rfl rfl (fun K hK => ?_)
              go_simp
              refine hK _ _ ?_
              exact ⟨hF.put (by decide) _, hE, (fun h => (put_other (by decide) _).trans (h0 h)), (fun h => (put_other (by decide) _).trans (h1 h)), (fun h => (put_other (by decide) _).trans (h2 h)), (fun h => (put_other (by decide) _).trans (h3 h)), (fun h => (put_other (by decide) _).trans (h4 h)), (fun h => (put_other (by decide) _).trans (h5 h)), (fun h => (put_other (by decide) _).trans (h6 h)), (fun h => (put_other (by decide) _).trans (h7 h)), (fun h => (put_other (by decide) _).trans (h8 h)), (fun h => (put_other (by decide) _).trans (h9 h)), (fun h => (put_other (by decide) _).trans (h10 h)), (fun h => (put_other (by decide) _).trans (h11 h)), (fun h => (put_other (by decide) _).trans (h12 h)), (fun h => (put_other (by decide) _).trans (h13 h)), (fun h => (put_other (by decide) _).trans (h14 h)), (fun h => (put_other (by decide) _).trans (h15 h)), (fun h => (put_other (by decide) _).trans (h16 h)), (fun h => (put_other (by decide) _).trans (h17 h)), (fun h => (put_other (by decide) _).trans (h18 h)), (fun h => (put_other (by decide) _).trans (h19 h)), (fun h => (put_other (by decide) _).trans (h20 h)), (fun h => (put_other (by decide) _).trans (h21 h)), (fun _ => put_same (by rw [hF.size, hsz]; decide) _)⟩
            | k + 23, h => exact absurd (show k + 23 < 23 from h) (by omega)
          · rintro L a W ⟨hF, hE, h0, h1, h2, h3, h4, h5, h6, h7, h8, h9, h10, h11, h12, h13, h14, h15, h16, h17, h18, h19, h20, h21, h22⟩ hall
            have hfa : a = fill a0 [(36, .int .i64 (bn : Int)), (37, .bool true), (38, .bool true), (39, .agg cs), (40, .agg cs), (41, .agg #[.int .i64 px, .int .i64 py]), (42, .int .i64 ra), (43, .int .u64 (mk : Int)), (44, .int .i64 (bn : Int)), (45, .int .u64 ((mk : Int) / 2 ^ bn)), (46, .int .u64 0), (47, .bool false), (48, .bool false), (49, .bool false), (50, undef), (51, undef), (52, undef), (53, undef), (54, undef), (55, undef), (56, undef), (57, .bool false), (8, .bool false)] := fill_eq hF (FillOk.cons (by rw [hsz]; decide) (h0 (hall 0 (by decide))) (FillOk.cons (by rw [hsz]; decide) (h1 (hall 1 (by decide))) (FillOk.cons (by rw [hsz]; decide) (h2 (hall 2 (by decide))) (FillOk.cons (by rw [hsz]; decide) (h3 (hall 3 (by decide))) (FillOk.cons (by rw [hsz]; decide) (h4 (hall 4 (by decide))) (FillOk.cons (by rw [hsz]; decide) (h5 (hall 5 (by decide))) (FillOk.cons (by rw [hsz]; decide) (h6 (hall 6 (by decide))) (FillOk.cons (by rw [hsz]; decide) (h7 (hall 7 (by decide))) (FillOk.cons (by rw [hsz]; decide) (h8 (hall 8 (by decide))) (FillOk.cons (by rw [hsz]; decide) (h9 (hall 9 (by decide))) (FillOk.cons (by rw [hsz]; decide) (h10 (hall 10 (by decide))) (FillOk.cons (by rw [hsz]; decide) (h11 (hall 11 (by decide))) (FillOk.cons (by rw [hsz]; decide) (h12 (hall 12 (by decide))) (FillOk.cons (by rw [hsz]; decide) (h13 (hall 13 (by decide))) (FillOk.cons (by rw [hsz]; decide) (h14 (hall 14 (by decide))) (FillOk.cons (by rw [hsz]; decide) (h15 (hall 15 (by decide))) (FillOk.cons (by rw [hsz]; decide) (h16 (hall 16 (by decide))) (FillOk.cons (by rw [hsz]; decide) (h17 (hall 17 (by decide))) (FillOk.cons (by rw [hsz]; decide) (h18 (hall 18 (by decide))) (FillOk.cons (by rw [hsz]; decide) (h19 (hall 19 (by decide))) (FillOk.cons (by rw [hsz]; decide) (h20 (hall 20 (by decide))) (FillOk.cons (by rw [hsz]; decide) (h21 (hall 21 (by decide))) (FillOk.cons (by rw [hsz]; decide) (h22 (hall 22 (by decide))) (FillOk.nil)))))))))))))))))))))))) (by simp)
            rw [hfa, ha0]
            clear hfa ha0
            simp only [fill, List.foldl_cons, List.foldl_nil, List.setIfInBounds_toArray, List.set_cons_zero, List.set_cons_succ]
            have HE := Lib.hid hE
            clear h0 h1 h2 h3 h4 h5 h6 h7 h8 h9 h10 h11 h12 h13 h14 h15 h16 h17 h18 h19 h20 h21 h22
            go_wp2
            go_ret
            exact ⟨rfl, HB4.out.trans (HE.out.mono HB4.out.size)⟩
end Go.Proofs.Ytfnoeolngdhjfaa
