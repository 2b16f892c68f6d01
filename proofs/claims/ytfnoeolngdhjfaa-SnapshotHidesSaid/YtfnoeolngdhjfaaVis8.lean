/-
  Package visibility: Seen; package arenanetref27: Seen.
-/
import Derived.Test.YtfnoeolngdhjfaaVis7
namespace Go.Proofs.Ytfnoeolngdhjfaa
set_option linter.unusedVariables false
set_option linter.unusedSimpArgs false
set_option maxRecDepth 4000
open Go.RowKit

/-- The first n bodies that player pl sees. -/
def seenN (s : Su) (zs : List Int) (pl : Nat) (n : Nat) : List Nat := (List.range n).filter (seesB s zs pl)
def seenL (s : Su) (zs : List Int) (pl : Nat) (n : Nat) : List Int := (seenN s zs pl n).map fun i : Nat => (i : Int)
theorem seenL_yes {s : Su} {zs : List Int} {pl n : Nat} (h : seesB s zs pl n = true) : seenL s zs pl (n + 1) = seenL s zs pl n ++ [(n : Int)] := by
  unfold seenL seenN; rw [List.range_succ, List.filter_append, List.map_append]; simp [h]
theorem seenL_no {s : Su} {zs : List Int} {pl n : Nat} (h : seesB s zs pl n = false) : seenL s zs pl (n + 1) = seenL s zs pl n := by
  unfold seenL seenN; rw [List.range_succ, List.filter_append, List.map_append]; simp [h]
theorem seenL_len (s : Su) (zs : List Int) (pl n : Nat) : (seenL s zs pl n).length ≤ n := by
  unfold seenL seenN; rw [List.length_map]; exact Nat.le_trans (List.length_filter_le _ _) (by simp)
theorem slice_cell {w : World} {g : Nat} {A : Option Addr} {N c : Nat} (h : Blk w g 22 #[.slice A N c]) : w.cell? ⟨g, 0, none⟩ = some (.slice A N c) := h.cell 0
set_option maxHeartbeats 2000000 in
theorem seen1_any (cs : Array Value) (s : Su) (m : SuM) (A : Option Addr) (N c B pl i bs bc : Nat) (zs : List Int) (r : Bool) (w : World) (hv : VisIn w B cs s m A N zs) (hpl : pl < s.players) (hi : i < m.nb) (hr : seesB s zs pl i = r)
    (hbs : Blk w bs 49 cs) (hbc : Blk w bc 22 #[.slice A N c]) :
    Calls Try.prog 54 #[.int .i64 (pl : Int), .int .i64 (i : Int), .pointer (some ⟨bs, 0, none⟩), .pointer (some ⟨bc, 0, none⟩)] w fun e w' => e = .returned (.bool r) ∧ Below w.heap.size w w' := by
  have HV := Lib.hid hv
  have HBS := Lib.hid hbs
  have hsl := slice_cell hbc
  have HR := Lib.hid hr
  clear hv hr hbs hbc
  go_enter Try.func54, Try.ntmps54
  go_wp2_with (refine wpl_load_g rfl 49 _ rfl _ rfl 49 cs (0, 0) _ HBS.out Try.underlying49 rfl (su_info' HV.out.su.eq) ?_)
  refine (sees_any cs s m A N c B pl i zs r _ HV.out hpl hi HR.out).mono ?_
  rintro e w1 ⟨rfl, hb1⟩
  go_wp2
  go_ret
  exact ⟨rfl, hb1⟩
set_option maxHeartbeats 2000000 in
theorem filter_any (cs : Array Value) (s : Su) (m : SuM) (A : Option Addr) (N c B pl bs bc n : Nat) (zs : List Int) (w : World) (hv : VisIn w B cs s m A N zs) (hpl : pl < s.players) (hn : n ≤ m.nb)
    (hbs : Blk w bs 49 cs) (hbc : Blk w bc 22 #[.slice A N c]) :
    Calls Try.prog 53 #[.int .i64 (n : Int), .int .i64 (pl : Int), .func (.func 54) #[] #[.pointer (some ⟨bs, 0, none⟩), .pointer (some ⟨bc, 0, none⟩)]] w fun e w' => ∃ A' n' c', e = .returned (.slice A' n' c') ∧ Own 3 w' w.heap.size (.slice A' n' c') (seenL s zs pl n) ∧ Below w.heap.size w w' := by
  have HV := Lib.hid hv
  have HBS := Lib.hid hbs
  have HBC := Lib.hid hbc
  clear hv hbs hbc
  go_enter Try.func53, Try.ntmps53
  go_wp2
  go_loopw [7, 10] (fun o i wr => ∃ k : Nat, k ≤ n ∧ i = .int .i64 (k : Int) ∧ (∃ A' n' c', o = .slice A' n' c' ∧ Hid (Own 3 wr w.heap.size (.slice A' n' c') (seenL s zs pl k))) ∧ Below w.heap.size w wr) (fun _ i _ => n - (intOf i).toNat)
  case atStart => exact ⟨0, by omega, rfl, ⟨none, 0, 0, rfl, Lib.hid (Own.nil _ _ _)⟩, Below.refl _ _⟩
  case round =>
    obtain ⟨k, hk, rfl, ⟨A1, n1, c1, rfl, HO⟩, hb⟩ := hrel
    have hln := HO.out.len
    have hl2 := seenL_len s zs pl k
    by_cases hlt : k < n
    · have hvr := HV.out.below (hb.mono HV.out.B)
      have HVR := Lib.hid hvr
      have hn8 := HV.out.n8
      have hnn : n1 + 1 < 1000000 := by omega
      have HLN := Lib.hid hln
      clear hvr hln
      go_wp2_with fail
      cases hsee : seesB s zs pl k with
      | true =>
        have HS := Lib.hid (seenL_yes hsee)
        refine (seen1_any cs s m A N c B pl k bs bc zs true _ HVR.out hpl (by omega) hsee (HBS.out.below hb HBS.out.lt) (HBC.out.below hb HBC.out.lt)).mono ?_
        rintro e w1 ⟨rfl, hb1⟩
        have HO1 := Lib.hid (HO.out.below hb1)
        have hb2 := hb.trans (hb1.mono hb.size)
        clear hb1 hsee
        go_wp2_with (at_builtin; refine wpl_append1 rfl (.tmp 17) (.tmp 19) 22 rfl 3 Try.underlying22 int_info3 w.heap.size _ _ rfl (HO1.out.alloc _) ⟨w1.heap.size, 0, none⟩ 1 (k : Int) (n1 + 1) (by rw [HLN.out]) rfl (int_one _ _) (by rw [HLN.out]; omega) (by have := hb2.size; simp; omega) ?_; intro A3 c3 w3 hown' hb')
        go_roundw
        case rel => exact ⟨k + 1, by omega, by go_num, ⟨A3, n1 + 1, c3, rfl, by rw [HS.out]; exact hown'⟩, (hb2.alloc hb2.size _).trans hb'⟩
        case measure => simp [intOf]; omega
      | false =>
        have HS := Lib.hid (seenL_no hsee)
        refine (seen1_any cs s m A N c B pl k bs bc zs false _ HVR.out hpl (by omega) hsee (HBS.out.below hb HBS.out.lt) (HBC.out.below hb HBC.out.lt)).mono ?_
        rintro e w1 ⟨rfl, hb1⟩
        have HO1 := Lib.hid (HO.out.below hb1)
        have hb2 := hb.trans (hb1.mono hb.size)
        clear hb1 hsee
        go_wp2
        go_roundw
        case rel => exact ⟨k + 1, by omega, by go_num, ⟨A1, n1, c1, rfl, by rw [HS.out]; exact HO1⟩, hb2⟩
        case measure => simp [intOf]; omega
    · have hkn : k = n := by omega
      have hd : decide (k < n) = false := decide_eq_false hlt
      have HK := Lib.hid hkn
      clear hlt hkn hln
      go_wp2
      go_ret
      exact ⟨A1, n1, c1, rfl, by rw [← HK.out]; exact HO.out, hb⟩
set_option maxHeartbeats 2000000 in
theorem seen_any (cs : Array Value) (s : Su) (m : SuM) (A : Option Addr) (N c B pl : Nat) (zs : List Int) (w : World) (hv : VisIn w B cs s m A N zs) (hpl : pl < s.players) :
    Calls Try.prog 24 #[.agg cs, .slice A N c, .int .i64 (pl : Int)] w fun e w' => ∃ A' n' c', e = .returned (.slice A' n' c') ∧ Own 3 w' w.heap.size (.slice A' n' c') (seenL s zs pl m.nb) ∧ Below w.heap.size w w' := by
  have hc1 := su_c1 hv.su.eq
  have HBS := Lib.hid ((Blk.new w 49 cs).alloc (.cells #[.slice A N c] 22))
  have HB0 : Hid (Below w.heap.size w ((w.alloc (.cells cs 49)).alloc (.cells #[.slice A N c] 22))) := ((Below.refl _ _).alloc (Nat.le_refl _) _).alloc (by simp) _
  have HBC : Hid (Blk ((w.alloc (.cells cs 49)).alloc (.cells #[.slice A N c] 22)) (w.heap.size + 1) 22 #[.slice A N c]) := by
    have h := Blk.new (w.alloc (.cells cs 49)) 22 #[.slice A N c]
    rw [World.size_alloc] at h
    exact h
  have HV := Lib.hid hv
  clear hv
  go_enter Try.func24, Try.ntmps24
  go_wp2_with fail
  refine (filter_any cs s m A N c B pl w.heap.size (w.heap.size + 1) m.nb zs _ (HV.out.below (HB0.out.mono HV.out.B)) hpl (Nat.le_refl _) HBS.out HBC.out).mono ?_
  rintro e w1 ⟨A1, n1, c1, rfl, ho1, hb1⟩
  have HO := Lib.hid (ho1.lower (B' := w.heap.size) (by simp; omega))
  have HB1 := Lib.hid (HB0.out.trans (hb1.mono HB0.out.size))
  clear ho1 hb1
  go_wp2
  go_ret
  exact ⟨A1, n1, c1, rfl, HO.out, HB1.out⟩
set_option maxHeartbeats 2000000 in
theorem rseen_any (cs : Array Value) (s : Su) (m : SuM) (A : Option Addr) (N c B pl : Nat) (zs : List Int) (w : World) (hv : VisIn w B cs s m A N zs) (hpl : pl < s.players) :
    Calls Try.prog 52 #[.agg cs, .slice A N c, .int .i64 (pl : Int)] w fun e w' => ∃ A' n' c', e = .returned (.slice A' n' c') ∧ Own 3 w' w.heap.size (.slice A' n' c') (seenL s zs pl m.nb) ∧ Below w.heap.size w w' := by
  have HC1 := Lib.hid (su_c1 hv.su.eq)
  have HBS := Lib.hid (Blk.new w 49 cs)
  have HB0 : Hid (Below w.heap.size w (w.alloc (.cells cs 49))) := (Below.refl _ _).alloc (Nat.le_refl _) _
  have HV := Lib.hid hv
  clear hv
  go_enter Try.func52, Try.ntmps52
  go_wp2
  go_loopw [7, 8] (fun o i wr => ∃ k : Nat, k ≤ m.nb ∧ i = .int .i64 (k : Int) ∧ (∃ A' n' c', o = .slice A' n' c' ∧ Hid (Own 3 wr (w.heap.size + 1) (.slice A' n' c') (seenL s zs pl k))) ∧ Below w.heap.size w wr ∧ Hid (Blk wr w.heap.size 49 cs)) (fun _ i _ => m.nb - (intOf i).toNat)
  case atStart => exact ⟨0, by omega, rfl, ⟨none, 0, 0, rfl, Lib.hid (Own.nil _ _ _)⟩, HB0.out, HBS⟩
  case round =>
    obtain ⟨k, hk, rfl, ⟨A1, n1, c1, rfl, HO⟩, hb, HBR⟩ := hrel
    have hln := HO.out.len
    have hl2 := seenL_len s zs pl k
    have hc1 : wr.cell? ⟨w.heap.size, 1, none⟩ = some (.slice m.Ab m.nb m.cb) := (HBR.out.cell 1).trans HC1.out
    have hwz := HBR.out.lt
    by_cases hlt : k < m.nb
    · have hvr := HV.out.below (hb.mono HV.out.B)
      have HVR := Lib.hid hvr
      have hn8 := HV.out.n8
      have hnn : n1 + 1 < 1000000 := by omega
      have HLN := Lib.hid hln
      clear hvr hln
      go_wp2_with (refine wpl_load_g rfl 49 _ rfl _ rfl 49 cs (0, 0) _ HBR.out Try.underlying49 rfl (su_info' HV.out.su.eq) ?_)
      cases hsee : seesB s zs pl k with
      | true =>
        have HS := Lib.hid (seenL_yes hsee)
        refine (rsees_any cs s m A N c B pl k zs true _ HVR.out hpl hlt hsee).mono ?_
        rintro e w1 ⟨rfl, hb1⟩
        have HO1 := Lib.hid (HO.out.below hb1)
        have HB2 := Lib.hid (hb.trans (hb1.mono hb.size))
        have HBR1 := Lib.hid (HBR.out.below hb1 hwz)
        have hz1 := hb1.size
        clear hb1 hsee
        go_wp2_with (at_builtin; refine wpl_append1 rfl (.tmp 23) (.tmp 25) 22 rfl 3 Try.underlying22 int_info3 (w.heap.size + 1) _ _ rfl (HO1.out.alloc _) ⟨w1.heap.size, 0, none⟩ 1 (k : Int) (n1 + 1) (by rw [HLN.out]) rfl (int_one _ _) (by rw [HLN.out]; omega) (by simp; omega) ?_; intro A3 c3 w3 hown' hb')
        go_roundw
        case rel => exact ⟨k + 1, by omega, by go_num, ⟨A3, n1 + 1, c3, rfl, by rw [HS.out]; exact hown'⟩, (HB2.out.alloc HB2.out.size _).trans (hb'.mono (by omega)), Lib.hid ((HBR1.out.alloc _).below hb' (by omega))⟩
        case measure => simp [intOf]; omega
      | false =>
        have HS := Lib.hid (seenL_no hsee)
        refine (rsees_any cs s m A N c B pl k zs false _ HVR.out hpl hlt hsee).mono ?_
        rintro e w1 ⟨rfl, hb1⟩
        have HO1 := Lib.hid (HO.out.below hb1)
        have HB2 := Lib.hid (hb.trans (hb1.mono hb.size))
        have HBR1 := Lib.hid (HBR.out.below hb1 hwz)
        clear hb1 hsee
        go_wp2
        go_roundw
        case rel => exact ⟨k + 1, by omega, by go_num, ⟨A1, n1, c1, rfl, by rw [HS.out]; exact HO1⟩, HB2.out, HBR1⟩
        case measure => simp [intOf]; omega
    · have hkn : k = m.nb := by omega
      have hd : decide (k < m.nb) = false := decide_eq_false hlt
      have HK := Lib.hid hkn
      clear hlt hkn hln
      go_wp2
      go_ret
      exact ⟨A1, n1, c1, rfl, by rw [← HK.out]; exact HO.out.lower (Nat.le_succ _), hb⟩
end Go.Proofs.Ytfnoeolngdhjfaa
