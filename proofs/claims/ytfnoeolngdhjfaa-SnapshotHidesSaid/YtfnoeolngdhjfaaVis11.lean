/-
  Package snapshot: View.
-/
import Derived.Test.YtfnoeolngdhjfaaVis10
namespace Go.Proofs.Ytfnoeolngdhjfaa
set_option linter.unusedVariables false
set_option linter.unusedSimpArgs false
set_option maxRecDepth 4000
open Go.RowKit

/-- The cells of the bodies on a list. -/
def bodiesC (p : Nat) (zs : List Int) (l : List Nat) : List (Int × Int) := l.flatMap fun i => cellsFrom zs (48 + 4 * p + 8 * i) 8
/-- A player's view of a state. -/
def viewL (s : Su) (zs : List Int) (pl nb : Nat) : List (Int × Int) := cellsFrom zs 0 1 ++ cellsFrom zs (48 + 4 * pl) 4 ++ bodiesC s.players zs (seenN s zs pl nb)
theorem bodiesC_snoc (p : Nat) (zs : List Int) (l : List Nat) (i : Nat) : bodiesC p zs (l ++ [i]) = bodiesC p zs l ++ cellsFrom zs (48 + 4 * p + 8 * i) 8 := by
  unfold bodiesC; rw [List.flatMap_append]; simp
theorem bodiesC_len (p : Nat) (zs : List Int) (l : List Nat) : (bodiesC p zs l).length = 8 * l.length := by
  induction l with
  | nil => rfl
  | cons a t ih =>
    have : bodiesC p zs (a :: t) = cellsFrom zs (48 + 4 * p + 8 * a) 8 ++ bodiesC p zs t := rfl
    rw [this, List.length_append, ih, cellsFrom_len, List.length_cons]; omega
theorem seenN_sorted (s : Su) (zs : List Int) (pl n : Nat) : (seenN s zs pl n).Pairwise (· < ·) := (List.pairwise_lt_range (n := n)).filter _
theorem seenL_sorted (s : Su) (zs : List Int) (pl n : Nat) : (seenL s zs pl n).Pairwise (· ≤ ·) := by
  unfold seenL
  rw [List.pairwise_map]
  exact (seenN_sorted s zs pl n).imp fun h => by omega
theorem seenN_lt {s : Su} {zs : List Int} {pl n i : Nat} (h : i ∈ seenN s zs pl n) : i < n := List.mem_range.1 (List.mem_filter.1 h).1
theorem seenN_len (s : Su) (zs : List Int) (pl n : Nat) : (seenN s zs pl n).length ≤ n := Nat.le_trans (List.length_filter_le _ _) (by simp)
theorem ix_seenL {s : Su} {zs : List Int} {pl n k : Nat} (h : k < (seenN s zs pl n).length) : ix (seenL s zs pl n) k = (((seenN s zs pl n)[k] : Nat) : Int) := by
  rw [ix_get (by unfold seenL; rw [List.length_map]; exact h)]
  simp [seenL]

/-- What a call of the closure takes and leaves, from a world W0 on. -/
structure VS (W0 W : World) (ob Bq : Nat) (r : Option Nat) (A : Option Addr) (n c : Nat) (es : List (Int × Int)) : Prop where
  out : Blk W ob 23 #[.slice A n c]
  own : OwnP W Bq (.slice A n c) es
  but : But ob r (Value.slice A n c).ownBlock W0 W
theorem VS.below {W0 W W' : World} {ob Bq : Nat} {r : Option Nat} {A : Option Addr} {n c : Nat} {es : List (Int × Int)} (h : VS W0 W ob Bq r A n c es) (hb : Below W.heap.size W W') : VS W0 W' ob Bq r A n c es :=
  ⟨h.out.below hb h.out.lt, ownsRow_below h.own hb, h.but.trans (But.ofBelow hb)⟩
theorem VS.start {W0 : World} {ob Bq : Nat} {A : Option Addr} {n c : Nat} {es : List (Int × Int)} (h1 : Blk W0 ob 23 #[.slice A n c]) (h2 : OwnP W0 Bq (.slice A n c) es) : VS W0 W0 ob Bq (Value.slice A n c).ownBlock A n c es := ⟨h1, h2, But.refl _ _ _⟩
theorem OwnP.rowLt {w : World} {B : Nat} {v : Value} {es : List (Int × Int)} (h : OwnP w B v es) : ∀ r, v.ownBlock = some r → r < w.heap.size := by
  intro r hr
  rcases h.2 with ⟨h', _⟩ | ⟨g', cap', cur', h', hb, hh', _⟩
  · rw [h'] at hr; simp [Value.ownBlock] at hr
  · rw [h'] at hr
    have e : g' = r := by simpa [Value.ownBlock] using hr
    subst e
    exact (Array.getElem?_eq_some_iff.1 hh').1
/-- The closure, called. -/
theorem vs_step {w W0 W : World} (A : Option Addr) (N c B first n ob bc Bq : Nat) (zs : List Int) (A0 : Option Addr) (n0 c0 : Nat) (es : List (Int × Int)) (r : Option Nat) (h : VS W0 W ob Bq r A0 n0 c0 es) (hl : zs.length = N) (hr : Rd w B A zs) (hN : N < 2000) (hfn : first + n ≤ N)
    (hb0 : Below B w W0) (hbc : Blk W0 bc 22 #[.slice A N c]) (k1 : bc < Bq) (k2 : ob < Bq) (k3 : B ≤ W0.heap.size) (k4 : Bq ≤ W0.heap.size) (k5 : bc ≠ ob) (k6 : B ≤ ob) (k7 : ∀ k, r = some k → Bq ≤ k) (hes : n0 ≤ 1000000) :
    Calls Try.prog 49 #[.int .i64 (first : Int), .int .i64 (n : Int), .pointer (some ⟨ob, 0, none⟩), .pointer (some ⟨bc, 0, none⟩)] W fun e w' => e = .returned (.tuple #[]) ∧ ∃ A' c', VS W0 w' ob Bq r A' (n0 + n) c' (es ++ cellsFrom zs first n) := by
  have hcell : ∀ p : Addr, p.block < B → W.cell? p = w.cell? p := fun p hp => (h.but.cell (p := p) (by omega) (by omega) (fun e => by have := k7 _ e; omega)).trans (hb0.cell hp)
  refine (view1_any A N c B first n ob bc Bq zs A0 n0 c0 es W hl (hr.keep hcell) hN hfn ((h.but.block bc (by omega) k5 (fun e => by have := k7 _ e; omega)).trans hbc) h.out h.own k1 k2 (by omega) (Nat.le_trans k4 h.but.size) k5 k6 hes).mono ?_
  rintro e w' ⟨rfl, A', c', h1, h2, h3⟩
  exact ⟨rfl, A', c', h1, h2, h.but.trans h3⟩
set_option maxHeartbeats 2000000 in
theorem view_any (cs : Array Value) (s : Su) (m : SuM) (A : Option Addr) (N c B pl : Nat) (zs : List Int) (w : World) (hv : VisIn w B cs s m A N zs) (hpl : pl < s.players) :
    Calls Try.prog 22 #[.agg cs, .slice A N c, .int .i64 (pl : Int)] w fun e w' => ∃ A' n' c', e = .returned (.slice A' n' c') ∧ OwnP w' w.heap.size (.slice A' n' c') (viewL s zs pl m.nb) ∧ Below w.heap.size w w' := by
  obtain ⟨W0, hW0⟩ : ∃ W0, W0 = ((w.alloc (.cells cs 49)).alloc (.cells #[.slice A N c] 22)).alloc (.cells #[.slice none 0 0] 23) := ⟨_, rfl⟩
  obtain ⟨ob, hob⟩ : ∃ ob, ob = w.heap.size + 1 + 1 := ⟨_, rfl⟩
  obtain ⟨bc, hbc⟩ : ∃ bc, bc = w.heap.size + 1 := ⟨_, rfl⟩
  have hz0 : W0.heap.size = ob + 1 := by rw [hW0, hob]; simp
  have hb0 : Below w.heap.size w W0 := by rw [hW0]; exact (((Below.refl _ _).alloc (Nat.le_refl _) _).alloc (by simp) _).alloc (by simp; omega) _
  have k1 : Blk W0 w.heap.size 49 cs := by rw [hW0]; exact ((Blk.new _ _ _).alloc _).alloc _
  have k2 : Blk W0 bc 22 #[.slice A N c] := by
    rw [hW0, hbc]
    have := (Blk.new (w.alloc (.cells cs 49)) 22 #[.slice A N c]).alloc (.cells #[.slice none 0 0] 23)
    rwa [World.size_alloc] at this
  have k3 : Blk W0 ob 23 #[.slice none 0 0] := by
    rw [hW0, hob]
    have := Blk.new ((w.alloc (.cells cs 49)).alloc (.cells #[.slice A N c] 22)) 23 #[.slice none 0 0]
    rwa [World.size_alloc, World.size_alloc] at this
  have HW0 := Lib.hid hW0
  have HZ0 := Lib.hid hz0
  have HB0 := Lib.hid hb0
  have K1 := Lib.hid k1
  have K2 := Lib.hid k2
  have HOB := Lib.hid hob
  have HBC := Lib.hid hbc
  have V0 := Lib.hid (VS.start (Bq := ob + 1) k3 (OwnP.nil W0 (ob + 1)))
  have HV := Lib.hid hv
  have hBw := hv.B
  have hN := hv.hN
  have hp8 := hv.p8
  have hn8 := hv.n8
  have hpn := hv.pn
  have HL := Lib.hid hv.len
  have HN := Lib.hid hN
  have hN2 : N < 2000 := by omega
  have hN3 : 48 + 4 * pl + 4 ≤ N := by omega
  have e1 : w.heap.size < ob := by omega
  have e2 : bc < ob := by omega
  have e3 : w.heap.size < bc := by omega
  have HST : Hid (∀ (first n : Nat) (A0 : Option Addr) (n0 c0 : Nat) (es : List (Int × Int)) (W : World), VS W0 W ob (ob + 1) none A0 n0 c0 es → first + n ≤ N → n0 ≤ 1000000 → Calls Try.prog 49 #[.int .i64 (first : Int), .int .i64 (n : Int), .pointer (some ⟨ob, 0, none⟩), .pointer (some ⟨bc, 0, none⟩)] W fun e w' => e = .returned (.tuple #[]) ∧ ∃ A' c', VS W0 w' ob (ob + 1) none A' (n0 + n) c' (es ++ cellsFrom zs first n)) :=
    fun first n A0 n0 c0 es W h h1 h2 => vs_step A N c B first n ob bc (ob + 1) zs A0 n0 c0 es none h HL.out HV.out.rd hN2 h1 (HB0.out.mono hBw) K2.out (by omega) (by omega) (by rw [HZ0.out]; omega) (by rw [HZ0.out]; omega) (by omega) (by omega) (fun k e => by cases e) h2
  have HVW : Hid (∀ (A0 : Option Addr) (n0 c0 : Nat) (es : List (Int × Int)) (W : World), VS W0 W ob (ob + 1) none A0 n0 c0 es → Blk W w.heap.size 49 cs ∧ Blk W bc 22 #[.slice A N c] ∧ Below w.heap.size w W) := fun A0 n0 c0 es W h =>
    ⟨(h.but.block _ K1.out.lt (by omega) (fun e => by cases e)).trans K1.out, (h.but.block _ K2.out.lt (by omega) (fun e => by cases e)).trans K2.out, HB0.out.trans (h.but.below (by omega) (fun k e => by cases e) (by rw [HZ0.out]; omega))⟩
  clear hv hW0 hz0 hb0 k1 k2 k3 hN hob hbc
  go_enter Try.func22, Try.ntmps22
  go_wp2_with fail
  rw [← HW0.out, ← HOB.out, ← HBC.out]
  refine (show Calls Try.prog 49 #[.int .i64 0, .int .i64 1, _, _] _ _ from HST.out 0 1 none 0 0 [] W0 V0.out (by omega) (by omega)).mono ?_
  rintro e w1 ⟨rfl, A1, c1, hv1⟩
  have V1 := Lib.hid hv1
  obtain ⟨hk1, _, _⟩ := HVW.out _ _ _ _ _ hv1
  have KS1 := Lib.hid hk1
  clear hv1 hk1
  go_wp2_with (refine wpl_load_g rfl 49 _ rfl _ rfl 49 cs (0, 0) _ KS1.out Try.underlying49 rfl (su_info' HV.out.su.eq) ?_)
  refine (lplayer_any cs s m pl _ HV.out.su.eq hp8 hpl).mono ?_
  rintro e w2 ⟨rfl, hb2⟩
  obtain ⟨f1, hf1⟩ : ∃ f1, f1 = 48 + 4 * pl := ⟨_, rfl⟩
  have V2 := Lib.hid (V1.out.below hb2)
  have HF1 := Lib.hid hf1
  rw [← hf1] at hN3 ⊢
  clear hb2 hf1
  go_wp2_with fail
  refine (show Calls Try.prog 49 #[.int .i64 (f1 : Int), .int .i64 4, _, _] _ _ from HST.out f1 4 A1 (0 + 1) c1 _ w2 V2.out hN3 (by omega)).mono ?_
  rintro e w3 ⟨rfl, A3, c3, hv3⟩
  have V3 := Lib.hid hv3
  obtain ⟨hk3, hkc3, hb3⟩ := HVW.out _ _ _ _ _ hv3
  have KS3 := Lib.hid hk3
  have d3 : w3.cell? ⟨bc, 0, none⟩ = some (.slice A N c) := hkc3.cell 0
  have HB3 := Lib.hid hb3
  clear hv3 hk3 hkc3 hb3
  go_wp2_with (refine wpl_load_g rfl 49 _ rfl _ rfl 49 cs (0, 0) _ KS3.out Try.underlying49 rfl (su_info' HV.out.su.eq) ?_)
  refine (seen_any cs s m A N c B pl zs _ (HV.out.below (HB3.out.mono hBw)) hpl).mono ?_
  rintro e w4 ⟨A4, n4, c4, rfl, ho4, hb4⟩
  have V4 := Lib.hid (V3.out.below hb4)
  have HO4 := Lib.hid ho4
  clear hb4 ho4
  go_wp2_with fail
  refine (values_any A4 n4 c4 w4).mono ?_
  rintro e w5 ⟨rfl, hw5⟩
  have V5 : Hid (VS W0 w5 ob (ob + 1) none A3 (0 + 1 + 4) c3 ([] ++ cellsFrom zs 0 1 ++ cellsFrom zs f1 4)) := by rw [hw5]; exact Lib.hid (V4.out.below ((Below.refl _ _).alloc (Nat.le_refl _) _))
  have hs5 : w4.heap.size < w5.heap.size := by rw [hw5]; simp
  have h50 : w5.cell? ⟨w4.heap.size, 0, none⟩ = some (.slice A4 n4 c4) := by rw [hw5]; exact (Blk.new w4 22 #[.slice A4 n4 c4]).cell 0
  have hn4 : n4 ≤ 100 := by have := HO4.out.len; have := seenL_len s zs pl m.nb; omega
  have HR5 : Hid (Rd w5 w5.heap.size A4 (seenL s zs pl m.nb)) := by rw [hw5]; exact Lib.hid (((HO4.out.rd).alloc (Nat.le_refl _) _).more (by simp))
  have H50 := Lib.hid h50
  clear hw5 h50
  go_wp2_with fail
  refine (sortedV_any w4.heap.size A4 n4 c4 (seenL s zs pl m.nb) w5 hs5 H50.out HO4.out.len HR5.out (by omega)).mono ?_
  rintro e w6 ⟨A6, c6, rfl, ho6, hb6⟩
  rw [mergeSort_id (seenL_sorted s zs pl m.nb)] at ho6
  have V6 := Lib.hid (V5.out.below hb6)
  have HO6 := Lib.hid ho6
  have hz6 := hb6.size
  have HRW : Hid (∀ r, (Value.slice A3 (0 + 1 + 4) c3).ownBlock = some r → r < w5.heap.size) := V5.out.own.rowLt
  clear ho6 hb6
  obtain ⟨L, hL⟩ : ∃ L, L = seenN s zs pl m.nb := ⟨_, rfl⟩
  have hLlt : ∀ i, i ∈ L → i < m.nb := fun i hi => seenN_lt (by rw [← hL]; exact hi)
  have hLix : ∀ k (h : k < L.length), ix (seenL s zs pl m.nb) k = ((L[k] : Nat) : Int) := by subst hL; exact fun k h => ix_seenL h
  have hLn : L.length = n4 := by rw [hL, ← HO4.out.len]; simp [seenL]
  obtain ⟨r6, hr6⟩ : ∃ r6, r6 = (Value.slice A3 (0 + 1 + 4) c3).ownBlock := ⟨_, rfl⟩
  have V66 := Lib.hid (VS.start V6.out.out V6.out.own)
  have h7 : ∀ k, r6 = some k → ob + 1 ≤ k ∧ k < w5.heap.size := by rw [hr6]; exact fun k e => ⟨V6.out.own.base k e, HRW.out k e⟩
  rw [← hr6] at V66
  obtain ⟨hk6, hkc6, hb6⟩ := HVW.out _ _ _ _ _ V6.out
  have KS6 := Lib.hid hk6
  have KC6 := Lib.hid hkc6
  have HB6 := Lib.hid hb6
  have H7 := Lib.hid h7
  have hz06 : W0.heap.size ≤ w6.heap.size := V6.out.but.size
  have HZ06 := Lib.hid hz06
  have HST6 : Hid (∀ (first n : Nat) (A0 : Option Addr) (n0 c0 : Nat) (es : List (Int × Int)) (W : World), VS w6 W ob (ob + 1) r6 A0 n0 c0 es → first + n ≤ N → n0 ≤ 1000000 → Calls Try.prog 49 #[.int .i64 (first : Int), .int .i64 (n : Int), .pointer (some ⟨ob, 0, none⟩), .pointer (some ⟨bc, 0, none⟩)] W fun e w' => e = .returned (.tuple #[]) ∧ ∃ A' c', VS w6 w' ob (ob + 1) r6 A' (n0 + n) c' (es ++ cellsFrom zs first n)) :=
    fun first n A0 n0 c0 es W h h1 h2 => vs_step A N c B first n ob bc (ob + 1) zs A0 n0 c0 es r6 h HL.out HV.out.rd hN2 h1 (HB6.out.mono hBw) KC6.out (by omega) (by omega) (by have := HZ0.out; have := HZ06.out; omega) (by have := HZ0.out; have := HZ06.out; omega) (by omega) (by omega) (fun k e => (H7.out k e).1) h2
  have HLL := Lib.hid hLlt
  have HLI := Lib.hid hLix
  have HLN := Lib.hid hLn
  have HLE := Lib.hid hL
  have HRR := Lib.hid hr6
  have hsl := HO6.out
  clear hk6 hkc6 hb6 h7 hz06 hLlt hLix hLn hL hr6 hz6 hs5 hsl
  go_wp2_with fail
  go_loopw [26] (fun i W => ∃ k : Nat, k ≤ n4 ∧ i = .int .i64 (k : Int) ∧ ∃ A' n' c', n' = 5 + 8 * k ∧ Hid (VS w6 W ob (ob + 1) r6 A' n' c' ([] ++ cellsFrom zs 0 1 ++ cellsFrom zs f1 4 ++ bodiesC s.players zs (L.take k)))) (fun i _ => n4 - (intOf i).toNat)
  case atStart => exact ⟨0, by omega, rfl, A3, _, c3, rfl, by simpa [bodiesC] using V66⟩
  case round =>
    obtain ⟨k, hk, rfl, A7, n7, c7, hn7, HVS⟩ := hrel
    have hn7b : n7 ≤ 1000000 := by omega
    have HN7 := Lib.hid hn7
    clear hn7
    by_cases hlt : k < n4
    · have hkL : k < L.length := by rw [HLN.out]; exact hlt
      obtain ⟨g, hA6, hg1, hg2, hgc, _⟩ := HO6.out.open_ (by omega)
      have hgne : g ≠ ob ∧ r6 ≠ some g := ⟨by have := HZ0.out; have := V5.out.but.size; omega, fun e => by have := (H7.out g e).2; omega⟩
      have hcg : wr.cell? ⟨g, k, none⟩ = some (.int .i64 (ix (seenL s zs pl m.nb) k)) := (HVS.out.but.cell (p := ⟨g, k, none⟩) hg2 hgne.1 hgne.2).trans (hgc k hlt)
      rw [HLI.out k hkL] at hcg
      obtain ⟨bi, hbi⟩ : ∃ bi, bi = L[k] := ⟨_, rfl⟩
      rw [← hbi] at hcg
      have hbm : bi < m.nb := by rw [hbi]; exact HLL.out _ (List.getElem_mem hkL)
      have htk : L.take (k + 1) = L.take k ++ [bi] := by rw [List.take_succ_eq_append_getElem hkL, hbi]
      have HKS := Lib.hid ((HVS.out.but.block _ KS6.out.lt (by omega) (fun e => by have := (H7.out _ e).1; omega)).trans KS6.out)
      have HTK := Lib.hid htk
      subst hA6
      clear hgc hbi htk hg1 hg2 hgne
      go_wp2_with (refine wpl_load_g rfl 49 _ rfl _ rfl 49 cs (0, 0) _ HKS.out Try.underlying49 rfl (su_info' HV.out.su.eq) ?_)
      refine (lbody_any cs s m bi _ HV.out.su.eq hp8 hn8 hbm).mono ?_
      rintro e w8 ⟨rfl, hb8⟩
      have HV8 := Lib.hid (HVS.out.below hb8)
      obtain ⟨f2, hf2⟩ : ∃ f2, f2 = 48 + 4 * s.players + 8 * bi := ⟨_, rfl⟩
      rw [← hf2]
      have hf2N : f2 + 8 ≤ N := by have := HN.out; omega
      have HF2 := Lib.hid hf2
      clear hb8 hf2
      go_wp2_with fail
      refine (show Calls Try.prog 49 #[.int .i64 (f2 : Int), .int .i64 8, _, _] _ _ from HST6.out f2 8 A7 n7 c7 _ w8 HV8.out hf2N hn7b).mono ?_
      rintro e w9 ⟨rfl, A9, c9, hv9⟩
      have HV9 : Hid (VS w6 w9 ob (ob + 1) r6 A9 (n7 + 8) c9 ([] ++ cellsFrom zs 0 1 ++ cellsFrom zs f1 4 ++ bodiesC s.players zs (L.take (k + 1)))) := by
        rw [HTK.out, bodiesC_snoc, ← List.append_assoc, ← HF2.out]
        exact Lib.hid hv9
      clear hv9
      go_wp2
      go_roundw
      case rel => exact ⟨k + 1, by omega, by go_num, A9, n7 + 8, c9, by have := HN7.out; omega, HV9⟩
      case measure => simp [intOf]; omega
    · have hkn : k = n4 := by omega
      have hd : decide (k < n4) = false := decide_eq_false hlt
      have hco : wr.cell? ⟨ob, 0, none⟩ = some (.slice A7 n7 c7) := HVS.out.out.cell 0
      have HK := Lib.hid hkn
      clear hlt hkn
      go_wp2
      go_ret
      refine ⟨A7, n7, c7, rfl, ?_, ?_⟩
      · have := HVS.out.own
        rw [List.take_of_length_le (by rw [HLN.out, HK.out]; exact Nat.le_refl _), HLE.out, List.nil_append, HF1.out] at this
        exact ownsRow_lower this (by omega)
      · exact HB6.out.trans (HVS.out.but.below (by omega) (fun k e => by have := (H7.out k e).1; omega) (by have := HZ0.out; have := HZ06.out; omega))
end Go.Proofs.Ytfnoeolngdhjfaa
