/-
  Law SnapshotViews.
-/
import Derived.Test.YtfnoeolngdhjfaaVis12
import Derived.Test.YtfnoeolngdhjfaaSet2
import Derived.Test.YtfnoeolngdhjfaaSnL1
import Derived.Deep.WholeRow
namespace Go.Proofs.Ytfnoeolngdhjfaa
set_option linter.unusedVariables false
set_option linter.unusedSimpArgs false
set_option maxRecDepth 4000
open Go.RowKit

theorem su_one {cs : Array Value} {s : Su} {m : SuM} (h : cs = suVals s m) : cs.all (·.oneCell') = true := by rw [h]; simp [suVals, Value.oneCell']
theorem wpl_store_row {ops : Array Oper} {rest : List Oper} {o : Oper} {a : Act} {W : World} {Q : Exit → Act → World → Prop} (hgd : o.guard = none) (ty : TypeId) (x y : Operand) (ho : o.op = .store ty x y) (hd : o.dst = none)
    (g : Nat) (hx : a.eval x = .pointer (some ⟨g, 0, none⟩)) {cells : Array Value} (hy : a.eval y = .agg cells) (old : Array Value) {t : TypeId} (hg : Blk W g t old)
    (hi : (Try.prog.info? ty).map (·.size) = some cells.size) (hs : old.size = cells.size) (h1 : cells.all (·.oneCell') = true) (h : wpList Try.prog ops Q rest a (W.setRow g cells)) : wpList Try.prog ops Q (o :: rest) a W :=
  wpList_plain hgd fun _ hK => wp_store_row ty x y ho hd g hx hy old hg hi hs h1 (hK _ _ h)
/-- A setup made from numbers is as it should be. -/
theorem mkSetup_p8 (l : List Int) : (mkSetup l).players ≤ 100 ∧ 0 < (mkSetup l).players ∧ (mkSetup l).players ≤ (mkSetup l).bodies.length ∧ (mkSetup l).bodies.length ≤ 5 := by
  have h1 := plN_bd l
  have h2 := bdN_bd l
  refine ⟨?_, ?_, ?_, ?_⟩
  · show plN l ≤ 100; omega
  · show 0 < plN l; omega
  · show plN l ≤ (bodiesOf l (bdN l)).length; rw [bodiesOf_len]; omega
  · show (bodiesOf l (bdN l)).length ≤ 5; rw [bodiesOf_len]; omega
theorem mkSetup_ok (l : List Int) : ∀ b ∈ (mkSetup l).bodies, BdOk b := bodiesOf_ok l _
theorem mkSetup_doors (l : List Int) : DoorsOk (mkSetup l).doors ∧ (mkSetup l).doors.length ≤ 100 := by
  refine ⟨doorsOf_ok _, ?_⟩
  show (doorsOf (kAt l 3)).length ≤ 100
  unfold doorsOf
  split
  · simp
  · split <;> simp
/-- What the functions of visibility take, out of the generators' results. -/
theorem visIn_of {w : World} {B : Nat} {cs : Array Value} {l : List Int} {m : SuM} {A : Option Addr} {N c : Nat} {zs : List Int} (h : SuV w B cs (mkSetup l) m) (hN : szOf (mkSetup l) = N) (hl : zs.length = N) (hr : Rd w B A zs) (hok : OkC (mkSetup l).players zs) (hB : B ≤ w.heap.size) : VisIn w B cs (mkSetup l) m A N zs := by
  obtain ⟨h1, h2, h3, h4⟩ := mkSetup_p8 l
  obtain ⟨h5, h6⟩ := mkSetup_doors l
  have hnb := h.nb
  have hnd := h.nd
  exact ⟨h, h1, by omega, by omega, h2, by rw [← hN]; unfold szOf; rw [hnb], hl, hr, hok, by omega, h5, hB⟩

theorem viewL_len (s : Su) (zs : List Int) (pl nb : Nat) : (viewL s zs pl nb).length ≤ 5 + 8 * nb := by
  unfold viewL
  rw [List.length_append, List.length_append, cellsFrom_len, cellsFrom_len, bodiesC_len]
  have := seenN_len s zs pl nb
  omega
set_option maxHeartbeats 4000000 in
theorem views_walk (A1 : Option Addr) (n1 c1 : Nat) (xs : List Int) (A2 : Option Addr) (n2 c2 : Nat) (ys : List Int) (w : World) (h1 : In w A1 n1 xs) (h2 : In w A2 n2 ys) :
    Calls Try.prog 7 #[.slice A1 n1 c1, .slice A2 n2 c2] w fun e w' => e = .returned (.bool true) ∧ Below w.heap.size w w' := by
  have H1 := Lib.hid h1
  have H2 := Lib.hid h2
  clear h1 h2
  go_enter Try.func7, Try.ntmps7
  go_wp2_with fail
  refine (setup_any A1 n1 c1 xs w H1.out.len H1.out.rd H1.out.bd H1.out.max).mono ?_
  rintro e w1 ⟨cs, m, rfl, hsu, hb1⟩
  have HSU := Lib.hid hsu
  have HB1 := Lib.hid hb1
  clear hsu hb1
  have HBN := Lib.hid (Blk.new w1 49 cs)
  obtain ⟨hp1, hp2, hp3, hp4⟩ := mkSetup_p8 xs
  have hnb : m.nb ≤ 5 := by have := HSU.out.nb; omega
  have hnb0 : 0 < m.nb := by have := HSU.out.nb; omega
  go_wp2_with (first
    | (refine wpl_store_row rfl 49 _ _ rfl rfl w1.heap.size rfl rfl su0 (Blk.new _ _ _) (su_info' HSU.out.eq) (by rw [su_size HSU.out.eq]; rfl) (su_one HSU.out.eq) ?_; rw [World.setRow_alloc_new])
    | (refine wpl_load_g rfl 49 _ rfl _ rfl 49 cs (0, 0) _ HBN.out Try.underlying49 rfl (su_info' HSU.out.eq) ?_))
  obtain ⟨N, hN⟩ : ∃ N, szOf (mkSetup xs) = N := ⟨_, rfl⟩
  have HB2 : Hid (Below w.heap.size w (w1.alloc (.cells cs 49))) := HB1.out.alloc HB1.out.size _
  refine (state_any cs (mkSetup xs) m w1.heap.size N A2 n2 c2 ys _ (HSU.out.below ((Below.refl _ _).alloc (Nat.le_refl _) _) (Nat.le_refl _)) hp1 (by omega) hnb0 (by simp) hN (mkSetup_ok xs) H2.out.len ((H2.out.rd.below HB2.out (Nat.le_refl _)).more HB2.out.size) H2.out.bd H2.out.max).mono ?_
  rintro e w2 ⟨A3, c3, zs, rfl, hzl, hown, hok, hb2⟩
  have HB3 := Lib.hid (HB2.out.trans (hb2.mono HB2.out.size))
  have HBS := Lib.hid (HBN.out.below hb2 (by simp))
  have HV0 := Lib.hid (visIn_of (c := c3) ((HSU.out.below ((Below.refl _ _).alloc (Nat.le_refl _) _) (Nat.le_refl _)).below (hb2.mono (by simp)) (Nat.le_trans (by simp) hb2.size)) hN hzl hown.rd hok (Nat.le_refl _))
  obtain ⟨b5, hb5⟩ : ∃ b5, b5 = w1.heap.size := ⟨_, rfl⟩
  rw [← hb5] at HBS ⊢
  obtain ⟨s, hs⟩ : ∃ s, s = mkSetup xs := ⟨_, rfl⟩
  rw [← hs] at HV0 hp1 hp2 hp3
  have hc0 := su_c0 HV0.out.su.eq
  clear hN hb2 hown hok hzl hs hb5
  have HP := Lib.hid hp1
  go_wp2
  go_loopw [7] (fun i W => ∃ p : Nat, p ≤ s.players ∧ i = .int .i64 (p : Int) ∧ EqS w2 W) (fun i _ => s.players - (intOf i).toNat)
  case atStart => exact ⟨0, by omega, rfl, EqS.refl _⟩
  case round =>
    obtain ⟨p, hp, rfl, heq⟩ := hrel
    have HE := Lib.hid heq
    have hcell : wr.cell? ⟨b5, 0, none⟩ = some (.int .i64 (s.players : Int)) := ((HBS.out.below heq HBS.out.lt).cell 0).trans hc0
    clear heq
    by_cases hlt : p < s.players
    · have hbr := Lib.hid (HBS.out.below HE.out HBS.out.lt)
      have hvr := Lib.hid (HV0.out.below HE.out)
      have HNB : Hid (m.nb ≤ 5) := hnb
      go_upto_region 6 with (fail)
      refine region_start ?_
      intro a0 ha0
      have hsz : a0.tmps.size = 30 := by rw [ha0]; rfl
      have q5 : a0.tmps[5]? = some (.pointer (some ⟨b5, 0, none⟩)) := by rw [ha0]; rfl
      have q6 : a0.tmps[6]? = some (.slice A3 N c3) := by rw [ha0]; rfl
      have q7 : a0.tmps[7]? = some (.int .i64 (p : Int)) := by rw [ha0]; rfl
      refine wp_region_inv (by kernel_rfl) (fun L a W => ∃ A7 : Option Addr, ∃ n7 : Nat, ∃ c7 : Nat, ∃ A8 : Option Addr, ∃ n8 : Nat, ∃ c8 : Nat, Fr a0 [19, 20, 21, 22, 23, 24, 25, 26, 27, 28] a ∧ (EqS wr W ∧ (L 3 = true → OwnP W wr.heap.size (.slice A7 n7 c7) (viewL s zs p m.nb)) ∧ (L 7 = true → OwnP W wr.heap.size (.slice A8 n8 c8) (viewL s zs p m.nb))) ∧ (L 0 = true → a.tmps[19]? = some (.agg cs)) ∧ (L 1 = true → a.tmps[20]? = some (.slice A3 N c3)) ∧ (L 2 = true → a.tmps[21]? = some (.int .i64 (p : Int))) ∧ (L 3 = true → a.tmps[22]? = some (.slice A7 n7 c7)) ∧ (L 4 = true → a.tmps[23]? = some (.agg cs)) ∧ (L 5 = true → a.tmps[24]? = some (.slice A3 N c3)) ∧ (L 6 = true → a.tmps[25]? = some (.int .i64 (p : Int))) ∧ (L 7 = true → a.tmps[26]? = some (.slice A8 n8 c8)) ∧ (L 8 = true → a.tmps[27]? = some (.bool true)) ∧ (L 9 = true → a.tmps[28]? = some (.bool false))) [[], [], [], [0, 1, 2], [], [], [], [3, 4, 5, 6], [3, 7], [8]] (by kernel_rfl) ?_ ?_ ?_
      · exact ⟨none, 0, 0, none, 0, 0, Fr.refl _ _, ⟨EqS.drew (EqS.refl _), (fun h => by cases h), (fun h => by cases h)⟩, (fun h => by cases h), (fun h => by cases h), (fun h => by cases h), (fun h => by cases h), (fun h => by cases h), (fun h => by cases h), (fun h => by cases h), (fun h => by cases h), (fun h => by cases h), (fun h => by cases h)⟩
      · intro i hi
        clear ha0
        match i, hi with
        | 0, _ =>
          rintro L a W ⟨A7, n7, c7, A8, n8, c8, hF, hE, h0, h1, h2, h3, h4, h5, h6, h7, h8, h9⟩ hclo hL hd
          have x5 := (hF.same 5 (by decide)).trans q5
          refine wpOp_yes rfl rfl (fun K hK => wp_load_row 49 _ rfl b5 (ev x5) 49 cs (0, 0) _ (hbr.out.below hE.1 hbr.out.lt) Try.underlying49 rfl (su_info' HSU.out.eq) (hK _ _ ?_))
          exact ⟨A7, n7, c7, A8, n8, c8, hF.put (by decide) _, hE, (fun _ => put_same (by rw [hF.size, hsz]; decide) _), (fun h => (put_other (by decide) _).trans (h1 h)), (fun h => (put_other (by decide) _).trans (h2 h)), (fun h => (put_other (by decide) _).trans (h3 h)), (fun h => (put_other (by decide) _).trans (h4 h)), (fun h => (put_other (by decide) _).trans (h5 h)), (fun h => (put_other (by decide) _).trans (h6 h)), (fun h => (put_other (by decide) _).trans (h7 h)), (fun h => (put_other (by decide) _).trans (h8 h)), (fun h => (put_other (by decide) _).trans (h9 h))⟩
        | 1, _ =>
          rintro L a W ⟨A7, n7, c7, A8, n8, c8, hF, hE, h0, h1, h2, h3, h4, h5, h6, h7, h8, h9⟩ hclo hL hd
          have x6 := (hF.same 6 (by decide)).trans q6
          refine wpOp_yes rfl rfl (fun K hK => ?_)
          go_simp
          refine hK _ _ ?_
          exact ⟨A7, n7, c7, A8, n8, c8, hF.put (by decide) _, hE, (fun h => (put_other (by decide) _).trans (h0 h)), (fun _ => put_same (by rw [hF.size, hsz]; decide) _), (fun h => (put_other (by decide) _).trans (h2 h)), (fun h => (put_other (by decide) _).trans (h3 h)), (fun h => (put_other (by decide) _).trans (h4 h)), (fun h => (put_other (by decide) _).trans (h5 h)), (fun h => (put_other (by decide) _).trans (h6 h)), (fun h => (put_other (by decide) _).trans (h7 h)), (fun h => (put_other (by decide) _).trans (h8 h)), (fun h => (put_other (by decide) _).trans (h9 h))⟩
        | 2, _ =>
          rintro L a W ⟨A7, n7, c7, A8, n8, c8, hF, hE, h0, h1, h2, h3, h4, h5, h6, h7, h8, h9⟩ hclo hL hd
          have x7 := (hF.same 7 (by decide)).trans q7
          refine wpOp_yes rfl rfl (fun K hK => ?_)
          go_simp
          refine hK _ _ ?_
          exact ⟨A7, n7, c7, A8, n8, c8, hF.put (by decide) _, hE, (fun h => (put_other (by decide) _).trans (h0 h)), (fun h => (put_other (by decide) _).trans (h1 h)), (fun _ => put_same (by rw [hF.size, hsz]; decide) _), (fun h => (put_other (by decide) _).trans (h3 h)), (fun h => (put_other (by decide) _).trans (h4 h)), (fun h => (put_other (by decide) _).trans (h5 h)), (fun h => (put_other (by decide) _).trans (h6 h)), (fun h => (put_other (by decide) _).trans (h7 h)), (fun h => (put_other (by decide) _).trans (h8 h)), (fun h => (put_other (by decide) _).trans (h9 h))⟩
        | 3, _ =>
          rintro L a W ⟨A7, n7, c7, A8, n8, c8, hF, hE, h0, h1, h2, h3, h4, h5, h6, h7, h8, h9⟩ hclo hL hd
          have x19 := h0 (all_mem hd (by decide))
          have x20 := h1 (all_mem hd (by decide))
          have x21 := h2 (all_mem hd (by decide))
          refine wpOp_yes rfl rfl (fun K hK => ?_)
          go_simp
          refine (view_any cs s m A3 N c3 _ p zs _ (hvr.out.below (hE.1.mono hvr.out.B)) hlt).mono ?_
          rintro e w5 ⟨A9, n9, c9, rfl, hO9, hB'⟩
          refine hK _ _ ?_
          exact ⟨A9, n9, c9, A8, n8, c8, hF.put (by decide) _, ⟨hE.1.next hB', (fun _ => ownsRow_lower hO9 hE.1.size), (fun h => (hE.2.2 h).below hB')⟩, (fun h => (put_other (by decide) _).trans (h0 h)), (fun h => (put_other (by decide) _).trans (h1 h)), (fun h => (put_other (by decide) _).trans (h2 h)), (fun _ => put_same (by rw [hF.size, hsz]; decide) _), (fun h => (put_other (by decide) _).trans (h4 h)), (fun h => (put_other (by decide) _).trans (h5 h)), (fun h => (put_other (by decide) _).trans (h6 h)), (fun h => (put_other (by decide) _).trans (h7 h)), (fun h => (put_other (by decide) _).trans (h8 h)), (fun h => (put_other (by decide) _).trans (h9 h))⟩
        | 4, _ =>
          rintro L a W ⟨A7, n7, c7, A8, n8, c8, hF, hE, h0, h1, h2, h3, h4, h5, h6, h7, h8, h9⟩ hclo hL hd
          have x5 := (hF.same 5 (by decide)).trans q5
          refine wpOp_yes rfl rfl (fun K hK => wp_load_row 49 _ rfl b5 (ev x5) 49 cs (0, 0) _ (hbr.out.below hE.1 hbr.out.lt) Try.underlying49 rfl (su_info' HSU.out.eq) (hK _ _ ?_))
          exact ⟨A7, n7, c7, A8, n8, c8, hF.put (by decide) _, hE, (fun h => (put_other (by decide) _).trans (h0 h)), (fun h => (put_other (by decide) _).trans (h1 h)), (fun h => (put_other (by decide) _).trans (h2 h)), (fun h => (put_other (by decide) _).trans (h3 h)), (fun _ => put_same (by rw [hF.size, hsz]; decide) _), (fun h => (put_other (by decide) _).trans (h5 h)), (fun h => (put_other (by decide) _).trans (h6 h)), (fun h => (put_other (by decide) _).trans (h7 h)), (fun h => (put_other (by decide) _).trans (h8 h)), (fun h => (put_other (by decide) _).trans (h9 h))⟩
        | 5, _ =>
          rintro L a W ⟨A7, n7, c7, A8, n8, c8, hF, hE, h0, h1, h2, h3, h4, h5, h6, h7, h8, h9⟩ hclo hL hd
          have x6 := (hF.same 6 (by decide)).trans q6
          refine wpOp_yes rfl rfl (fun K hK => ?_)
          go_simp
          refine hK _ _ ?_
          exact ⟨A7, n7, c7, A8, n8, c8, hF.put (by decide) _, hE, (fun h => (put_other (by decide) _).trans (h0 h)), (fun h => (put_other (by decide) _).trans (h1 h)), (fun h => (put_other (by decide) _).trans (h2 h)), (fun h => (put_other (by decide) _).trans (h3 h)), (fun h => (put_other (by decide) _).trans (h4 h)), (fun _ => put_same (by rw [hF.size, hsz]; decide) _), (fun h => (put_other (by decide) _).trans (h6 h)), (fun h => (put_other (by decide) _).trans (h7 h)), (fun h => (put_other (by decide) _).trans (h8 h)), (fun h => (put_other (by decide) _).trans (h9 h))⟩
        | 6, _ =>
          rintro L a W ⟨A7, n7, c7, A8, n8, c8, hF, hE, h0, h1, h2, h3, h4, h5, h6, h7, h8, h9⟩ hclo hL hd
          have x7 := (hF.same 7 (by decide)).trans q7
          refine wpOp_yes rfl rfl (fun K hK => ?_)
          go_simp
          refine hK _ _ ?_
          exact ⟨A7, n7, c7, A8, n8, c8, hF.put (by decide) _, hE, (fun h => (put_other (by decide) _).trans (h0 h)), (fun h => (put_other (by decide) _).trans (h1 h)), (fun h => (put_other (by decide) _).trans (h2 h)), (fun h => (put_other (by decide) _).trans (h3 h)), (fun h => (put_other (by decide) _).trans (h4 h)), (fun h => (put_other (by decide) _).trans (h5 h)), (fun _ => put_same (by rw [hF.size, hsz]; decide) _), (fun h => (put_other (by decide) _).trans (h7 h)), (fun h => (put_other (by decide) _).trans (h8 h)), (fun h => (put_other (by decide) _).trans (h9 h))⟩
        | 7, _ =>
          rintro L a W ⟨A7, n7, c7, A8, n8, c8, hF, hE, h0, h1, h2, h3, h4, h5, h6, h7, h8, h9⟩ hclo hL hd
          have x23 := h4 (all_mem hd (by decide))
          have x24 := h5 (all_mem hd (by decide))
          have x25 := h6 (all_mem hd (by decide))
          refine wpOp_yes rfl rfl (fun K hK => ?_)
          go_simp
          refine (rview_any cs s m A3 N c3 _ p zs _ (hvr.out.below (hE.1.mono hvr.out.B)) hlt).mono ?_
          rintro e w5 ⟨A9, n9, c9, rfl, hO9, hB'⟩
          refine hK _ _ ?_
          exact ⟨A7, n7, c7, A9, n9, c9, hF.put (by decide) _, ⟨hE.1.next hB', (fun h => (hE.2.1 h).below hB'), (fun _ => ownsRow_lower hO9 hE.1.size)⟩, (fun h => (put_other (by decide) _).trans (h0 h)), (fun h => (put_other (by decide) _).trans (h1 h)), (fun h => (put_other (by decide) _).trans (h2 h)), (fun h => (put_other (by decide) _).trans (h3 h)), (fun h => (put_other (by decide) _).trans (h4 h)), (fun h => (put_other (by decide) _).trans (h5 h)), (fun h => (put_other (by decide) _).trans (h6 h)), (fun _ => put_same (by rw [hF.size, hsz]; decide) _), (fun h => (put_other (by decide) _).trans (h8 h)), (fun h => (put_other (by decide) _).trans (h9 h))⟩
        | 8, _ =>
          rintro L a W ⟨A7, n7, c7, A8, n8, c8, hF, hE, h0, h1, h2, h3, h4, h5, h6, h7, h8, h9⟩ hclo hL hd
          have x22 := h3 (all_mem hd (by decide))
          have x26 := h7 (all_mem hd (by decide))
          refine wpOp_yes rfl rfl (fun K hK => ?_)
          go_simp
          have o1 := hE.2.1 (all_mem hd (by decide))
          have o2 := hE.2.2 (all_mem hd (by decide))
          have hvl := viewL_len s zs p m.nb
          have hnb5 := HNB.out
          refine (req_any A7 n7 c7 (viewL s zs p m.nb) A8 n8 c8 (viewL s zs p m.nb) true _ _ _ o1.len o2.len o1.rd o2.rd (by have := o1.len; omega) (by have := o2.len; omega) (by simp) (Nat.le_refl _) (Nat.le_refl _)).mono ?_
          rintro e w5 ⟨rfl, hB'⟩
          refine hK _ _ ?_
          exact ⟨A7, n7, c7, A8, n8, c8, hF.put (by decide) _, ⟨hE.1.next hB', (fun h => (hE.2.1 h).below hB'), (fun h => (hE.2.2 h).below hB')⟩, (fun h => (put_other (by decide) _).trans (h0 h)), (fun h => (put_other (by decide) _).trans (h1 h)), (fun h => (put_other (by decide) _).trans (h2 h)), (fun h => (put_other (by decide) _).trans (h3 h)), (fun h => (put_other (by decide) _).trans (h4 h)), (fun h => (put_other (by decide) _).trans (h5 h)), (fun h => (put_other (by decide) _).trans (h6 h)), (fun h => (put_other (by decide) _).trans (h7 h)), (fun _ => put_same (by rw [hF.size, hsz]; decide) _), (fun h => (put_other (by decide) _).trans (h9 h))⟩
        | 9, _ =>
          rintro L a W ⟨A7, n7, c7, A8, n8, c8, hF, hE, h0, h1, h2, h3, h4, h5, h6, h7, h8, h9⟩ hclo hL hd
          have x27 := h8 (all_mem hd (by decide))
          refine wpOp_yes rfl rfl (fun K hK => ?_)
          go_simp
          refine hK _ _ ?_
          exact ⟨A7, n7, c7, A8, n8, c8, hF.put (by decide) _, hE, (fun h => (put_other (by decide) _).trans (h0 h)), (fun h => (put_other (by decide) _).trans (h1 h)), (fun h => (put_other (by decide) _).trans (h2 h)), (fun h => (put_other (by decide) _).trans (h3 h)), (fun h => (put_other (by decide) _).trans (h4 h)), (fun h => (put_other (by decide) _).trans (h5 h)), (fun h => (put_other (by decide) _).trans (h6 h)), (fun h => (put_other (by decide) _).trans (h7 h)), (fun h => (put_other (by decide) _).trans (h8 h)), (fun _ => put_same (by rw [hF.size, hsz]; decide) _)⟩
        | k + 10, h => exact absurd (show k + 10 < 10 from h) (by omega)
      · rintro L a W ⟨A7, n7, c7, A8, n8, c8, hF, hE, h0, h1, h2, h3, h4, h5, h6, h7, h8, h9⟩ hall
        have hfa : a = fill a0 [(19, .agg cs), (20, .slice A3 N c3), (21, .int .i64 (p : Int)), (22, .slice A7 n7 c7), (23, .agg cs), (24, .slice A3 N c3), (25, .int .i64 (p : Int)), (26, .slice A8 n8 c8), (27, .bool true), (28, .bool false)] := fill_eq hF (FillOk.cons (by rw [hsz]; decide) (h0 (hall 0 (by decide))) (FillOk.cons (by rw [hsz]; decide) (h1 (hall 1 (by decide))) (FillOk.cons (by rw [hsz]; decide) (h2 (hall 2 (by decide))) (FillOk.cons (by rw [hsz]; decide) (h3 (hall 3 (by decide))) (FillOk.cons (by rw [hsz]; decide) (h4 (hall 4 (by decide))) (FillOk.cons (by rw [hsz]; decide) (h5 (hall 5 (by decide))) (FillOk.cons (by rw [hsz]; decide) (h6 (hall 6 (by decide))) (FillOk.cons (by rw [hsz]; decide) (h7 (hall 7 (by decide))) (FillOk.cons (by rw [hsz]; decide) (h8 (hall 8 (by decide))) (FillOk.cons (by rw [hsz]; decide) (h9 (hall 9 (by decide))) (FillOk.nil))))))))))) (by simp)
        rw [hfa, ha0]
        clear hfa ha0
        simp only [fill, List.foldl_cons, List.foldl_nil, List.setIfInBounds_toArray, List.set_cons_zero, List.set_cons_succ]
        have HE2 := Lib.hid hE.1
        clear hE h0 h1 h2 h3 h4 h5 h6 h7 h8 h9
        go_wp2
        go_roundw
        case rel => exact ⟨p + 1, by omega, by go_num, HE.out.trans (HE2.out.mono HE.out.size)⟩
        case measure => simp [intOf]; omega
    · have hd : decide (p < s.players) = false := decide_eq_false hlt
      clear hlt
      go_wp2_with fail
      refine (lives_any wr).mono ?_
      rintro e w9 ⟨rfl, hb9⟩
      have HB9 := Lib.hid (HB3.out.trans ((HE.out.trans (hb9.mono HE.out.size)).mono HB3.out.size))
      clear hb9
      go_wp2
      go_ret
      exact ⟨rfl, HB9.out⟩
end Go.Proofs.Ytfnoeolngdhjfaa
