/-
  Package unionfind: the law UnionfindPlays, walked.
-/
import Derived.Test.YtglfmchddbaceaaUfL1
namespace Go.Proofs.Ytglfmchddbaceaa
set_option linter.unusedVariables false
set_option linter.unusedSimpArgs false
open Go.RowKit

theorem rowP_far {w w' : World} {B gp n : Nat} {e : TypeId} {size : Nat} {v : Value} {xs : List Value} (h : w.ownsRow B e size v n xs) (hg : w.grownBy w' (some gp)) (hne : gp < B) : w'.ownsRow B e size v n xs := by
  refine ⟨h.1, ?_⟩
  rcases h.2 with h0 | ⟨g, cap, cur, hv, hb, hh, hr⟩
  · exact .inl h0
  · exact .inr ⟨g, cap, cur, hv, hb, (hg.block g (Array.getElem?_eq_some_iff.1 hh).1 (by intro e; injection e; omega)).trans hh, hr⟩
theorem Rd.farG {w w' : World} {gp : Nat} {A : Option Addr} {zs : List Int} (h : Rd w w.heap.size A zs) (hn : ∀ b off, A = some ⟨b, off, none⟩ → b ≠ gp) (hg : w.grownBy w' (some gp)) : Rd w' w'.heap.size A zs := fun hp => by
  obtain ⟨b, off, e, hb, hc⟩ := h hp
  refine ⟨b, off, e, Nat.lt_of_lt_of_le hb hg.size, fun i hi => ?_⟩
  have hbl := hg.block b hb (by intro e2; injection e2 with e2; exact hn b off e e2)
  have := hc i hi
  rw [← this]
  simp only [World.cell?, hbl]
/-- The edges of the play, beside the forest. -/
structure PlE (w : World) (z : Nat) (A3 : Option Addr) (m c3 : Nat) (es : List (Int × Int)) (W : World) : Prop where
  own : OwnP W z (.slice A3 m c3) es
  sz : z ≤ W.heap.size
  bel : Below w.heap.size w W
section
variable {w W W' : World} {z gp m c3 : Nat} {A3 : Option Addr} {es : List (Int × Int)}
theorem PlE.below (h : PlE w z A3 m c3 es W) (hw : w.heap.size ≤ W.heap.size) (hb : Below W.heap.size W W') : PlE w z A3 m c3 es W' :=
  ⟨ownsRow_below h.own hb, Nat.le_trans h.sz hb.size, h.bel.trans (hb.mono hw)⟩
theorem PlE.only (h : PlE w z A3 m c3 es W) (hz : gp < z) (hg : w.heap.size ≤ gp) (ho : OnlyP gp W W') : PlE w z A3 m c3 es W' :=
  ⟨rowP_far h.own ho.1 hz, by rw [ho.2]; exact h.sz, OnlyP.below h.bel ho h.bel.size hg⟩
theorem PlE.drew (h : PlE w z A3 m c3 es W) : PlE w z A3 m c3 es W.drew := h.below h.bel.size (Below.drew (Below.refl _ _))
theorem PlE.cells (h : PlE w z A3 m c3 es W) (hp : 0 < es.length) : ∃ b off, A3 = some ⟨b, off, none⟩ ∧ ∀ i, i < es.length → W.cell? ⟨b, off + i * 2, none⟩ = some (.int .i64 (ea es i)) ∧ W.cell? ⟨b, off + i * 2 + 1, none⟩ = some (.int .i64 (eb es i)) := by
  obtain ⟨b, off, e, _, hc⟩ := h.own.rd hp
  exact ⟨b, off, e, hc⟩
end
/-- The play between two calls. -/
structure PlB (w : World) (z : Nat) (A3 : Option Addr) (m c3 : Nat) (es : List (Int × Int)) (g gp k : Nat) (r lab : Nat → Nat) (A4 : Option Addr) (W : World) : Prop where
  e : PlE w z A3 m c3 es W
  sets : IsSets W g gp k r
  rd : Rd W W.heap.size A4 (labs lab k)
  far : ∀ b off, A4 = some ⟨b, off, none⟩ → b ≠ gp
section
variable {w W W' : World} {z g gp k m c3 : Nat} {A3 A4 : Option Addr} {es : List (Int × Int)} {r r' lab : Nat → Nat}
theorem PlB.below (h : PlB w z A3 m c3 es g gp k r lab A4 W) (hb : Below W.heap.size W W') : PlB w z A3 m c3 es g gp k r lab A4 W' :=
  ⟨h.e.below h.e.bel.size hb, IsSets.below h.sets hb h.sets.lt.1 h.sets.lt.2, (h.rd.below hb (Nat.le_refl _)).more hb.size, h.far⟩
theorem PlB.drew (h : PlB w z A3 m c3 es g gp k r lab A4 W) : PlB w z A3 m c3 es g gp k r lab A4 W.drew := h.below (Below.drew (Below.refl _ _))
theorem PlB.only (h : PlB w z A3 m c3 es g gp k r lab A4 W) (hz : gp < z) (hg : w.heap.size ≤ gp) (hs : IsSets W' g gp k r') (ho : OnlyP gp W W') : PlB w z A3 m c3 es g gp k r' lab A4 W' :=
  ⟨h.e.only hz hg ho, hs, h.rd.farG h.far ho.1, h.far⟩
end

set_option maxRecDepth 4000 in
set_option maxHeartbeats 4000000 in
theorem plays_walk (n : Int) (A : Option Addr) (len c : Nat) (xs : List Int) (a b : Int) (w : World) (hl : xs.length = len) (hr : Rd w w.heap.size A xs) (hx : ∀ x ∈ xs, -9223372036854775808 ≤ x ∧ x ≤ 9223372036854775807) (hm : len ≤ maxLen) (h1 : -9223372036854775808 ≤ n) (h2 : n ≤ 9223372036854775807) :
    Calls Try.prog 8 #[.int .i64 n, .slice A len c, .int .i64 a, .int .i64 b] w fun e w' => e = .returned (.bool true) ∧ Below w.heap.size w w' := by
  have ha1 := around_lo (n := n) (m := 15) (by omega)
  have ha2 := around_hi (n := n) (m := 15) (by omega)
  obtain ⟨k, hk⟩ : ∃ k : Nat, (k : Int) = around n 15 := ⟨(around n 15).toNat, by omega⟩
  rw [← hk] at ha1 ha2
  have hk15 : k < 15 := by omega
  obtain ⟨es, hes⟩ : ∃ es, es = mkEdges xs := ⟨_, rfl⟩
  obtain ⟨m, hm2⟩ : ∃ m, es.length = m := ⟨_, rfl⟩
  have hm30 : m ≤ 30 := by rw [← hm2, hes]; exact mkEdges_len xs
  have HS := Lib.hid (size_any n w h1 h2 k hk)
  have HED := Lib.hid (fun w' (hr' : Rd w' w'.heap.size A xs) => edges_any A len c xs w' hl hr' hx hm m es hes hm2)
  have HM := Lib.hid hm2
  have HRX := Lib.hid hr
  clear hl hx hm hes hm2 hk ha1 ha2 hr
  go_enter Try.func8, Try.ntmps8
  go_wp2_with fail
  refine HS.out.mono ?_
  rintro e w1 ⟨rfl, rfl⟩
  go_wp2_with fail
  refine (new_any k w (by omega)).mono ?_
  rintro e w2 ⟨g, gp, rfl, hg2, hgp2, hs2, hb2⟩
  have hsz2 := hb2.size
  have hlt2 := hs2.lt
  go_wp2_with fail
  refine (rnew_any k w2 (by omega)).mono ?_
  rintro e w3 ⟨A4, c4, rfl, hr4, hb3, hfar⟩
  have hsz3 := hb3.size
  have hs3 := IsSets.below hs2 hb3 hlt2.1 hlt2.2
  have HB3 := Lib.hid (hb2.trans (hb3.mono hsz2))
  have HR4 := Lib.hid hr4
  have HS3 := Lib.hid hs3
  have HFAR := Lib.hid hfar
  have hlt3 := hs3.lt
  clear hb2 hb3 hs2 hs3 hr4 hfar
  go_wp2_with fail
  refine (HED.out w3 (HRX.out.below HB3.out (Nat.le_refl _) |>.more (by omega))).mono ?_
  rintro e w5 ⟨A3, c3, rfl, ho3, _, hb5⟩
  have hpl : PlB w w3.heap.size A3 m c3 es g gp k id id A4 w5 :=
    ⟨⟨ho3, hb5.size, HB3.out.trans (hb5.mono (by omega))⟩, IsSets.below HS3.out hb5 hlt3.1 hlt3.2, (HR4.out.below hb5 (Nat.le_refl _)).more hb5.size, fun bb off e h => by have := HFAR.out bb off e; omega⟩
  have HPL := Lib.hid hpl
  have hgz : gp < w3.heap.size := hlt3.2
  clear ho3 hb5 hpl
  go_wp2_with fail
  go_loopw [11, 13, 14, 15, 16] (fun l i _ _ _ wr => ∃ q : Nat, q ≤ m ∧ i = .int .i64 q ∧ ∃ A4 c4, l = .slice A4 k c4 ∧ PlB w w3.heap.size A3 m c3 es g gp k (runE k (es.take q)) (refR k (es.take q)) A4 wr) (fun _ i _ _ _ _ => m - (intOf i).toNat)
  case atStart => exact ⟨0, Nat.zero_le _, rfl, A4, c4, rfl, HPL.out⟩
  case round =>
    obtain ⟨q, hq, rfl, A4, c4, rfl, hpb⟩ := hrel
    by_cases hqm : q < m
    · have hqe : q < es.length := by rw [HM.out]; exact hqm
      obtain ⟨bb, off, rfl, hc⟩ := hpb.e.cells (by omega)
      obtain ⟨ca, cb⟩ := hc q hqe
      have HRE := Lib.hid (runE_take (n := k) hqe)
      have hker := Ker.run k (es.take q)
      obtain ⟨v, hv⟩ : ∃ v, joins k (runE k (es.take q)) (ea es q, eb es q) = v := ⟨_, rfl⟩
      have HV := Lib.hid hv
      have HV2 : Hid (joins k (refR k (es.take q)) (ea es q, eb es q) = v) := (hker.joins _).trans hv
      have hker2 := Ker.run k (es.take (q + 1))
      obtain ⟨r', hr'⟩ : ∃ r', r' = runE k (es.take (q + 1)) := ⟨_, rfl⟩
      obtain ⟨l', hl'⟩ : ∃ l', l' = refR k (es.take (q + 1)) := ⟨_, rfl⟩
      rw [← hr', ← hl'] at hker2
      have HRR : Hid (l' = refE k (refR k (es.take q)) (ea es q, eb es q)) := by show _ = _; rw [hl', take_snoc_pair hqe, refR_snoc]
      have mkS : ∀ W, PlE w w3.heap.size (some ⟨bb, off, none⟩) m c3 es W → W.cell? ⟨bb, off + q * 2, none⟩ = some (.int .i64 (ea es q)) ∧ W.cell? ⟨bb, off + q * 2 + 1, none⟩ = some (.int .i64 (eb es q)) ∧ PlE w w3.heap.size (some ⟨bb, off, none⟩) m c3 es W := fun W h => by
        obtain ⟨b', off', e', hc'⟩ := h.cells (by omega)
        cases e'
        exact ⟨(hc' q hqe).1, (hc' q hqe).2, h⟩
      have MKS := Lib.hid mkS
      have HKER := Lib.hid hker2
      have hS0 := mkS wr hpb.e
      have hS0d := mkS _ hpb.e.drew
      have HPB := Lib.hid hpb
      clear hc hv hker hker2 mkS hpb
      go_wp2
      go_region_held3 (fun W => W.cell? ⟨bb, off + q * 2, none⟩ = some (.int .i64 (ea es q)) ∧ W.cell? ⟨bb, off + q * 2 + 1, none⟩ = some (.int .i64 (eb es q)) ∧ PlE w w3.heap.size (some ⟨bb, off, none⟩) m c3 es W) (first | exact hS0 | exact hS0d | assumption) (first | (go_at_call 24; refine (runion_any A4 k c4 (refR k (es.take q)) _ _ _ _ _ (by omega) HPB.out.drew.rd HRR.out HV2.out).mono ?_; rintro e w6 ⟨A6, c6, rfl, hr6, hb6, hf6⟩; have hp6 : PlB w w3.heap.size (some ⟨bb, off, none⟩) m c3 es g gp k (runE k (es.take q)) l' A6 w6 := ⟨HPB.out.drew.e.below HPB.out.drew.e.bel.size hb6, IsSets.below HPB.out.drew.sets hb6 HPB.out.sets.lt.1 HPB.out.sets.lt.2, hr6, (by rcases hf6 with rfl | h; exact HPB.out.far; exact fun b' o' e h' => by have := h b' o' e; have := HPB.out.sets.lt.2; simp at *; omega)⟩; have hS1 := MKS.out _ hp6.e))
      rename (PlB _ _ _ _ _ _ _ _ _ _ _ _ _) => hp6
      have HP6 := Lib.hid hp6
      have HPD := Lib.hid hp6.drew
      have hS2 := MKS.out _ hp6.e
      have hS2d := MKS.out _ hp6.drew.e
      obtain ⟨va, hva⟩ : ∃ va, va = sames k r' a b := ⟨_, rfl⟩
      have HVA : Hid (sames k r' a b = va) := hva.symm
      have HVB : Hid (sames k l' a b = va) := (HKER.out.sames a b).trans hva.symm
      rw [← hr'] at HRE
      have HRE2 := Lib.hid HRE.out
      have HLL := Lib.hid hl'
      have HR' := Lib.hid hr'
      clear hS0 hS0d hp6 hva hr' hl'
      go_wp2
      go_region_held3 (fun W => W.cell? ⟨bb, off + q * 2, none⟩ = some (.int .i64 (ea es q)) ∧ W.cell? ⟨bb, off + q * 2 + 1, none⟩ = some (.int .i64 (eb es q)) ∧ PlE w w3.heap.size (some ⟨bb, off, none⟩) m c3 es W) (first | exact hS2 | exact hS2d | assumption) (first | (go_at_call 25; refine (union_s g gp k _ _ _ _ _ _ HPD.out.sets HRE2.out HV.out).mono ?_; rintro e w7 ⟨rfl, hs7, ho7⟩; have hp7 := HPD.out.only hgz hgp2 hs7 ho7; have hS1 := MKS.out _ hp7.e) | (go_at_call 26; rename (PlB _ _ _ _ _ _ _ _ _ _ _ _ _) => hB; refine (same_s g gp k r' a b va _ hB.sets HVA.out).mono ?_; rintro e w7 ⟨rfl, hs7, ho7⟩; have hp7 := hB.only hgz hgp2 hs7 ho7; have hS1 := MKS.out _ hp7.e) | (go_at_call 27; rename (PlB _ _ _ _ _ _ _ _ _ _ _ _ _) => hB; refine (rsame_any _ k _ _ a b va _ _ (by omega) hB.rd HVB.out).mono ?_; rintro e w7 ⟨rfl, hb7⟩; have hp7 := hB.below hb7; have hS1 := MKS.out _ hp7.e))
      all_goals
        rename (PlB _ _ _ _ _ _ _ _ _ _ _ _ _) => hp7
        clear hS2 hS2d
        go_wp2
        go_loopw [16] (fun i wr => ∃ t : Nat, t ≤ k + 2 ∧ i = .int .i64 ((t : Int) - 1) ∧ PlB w w3.heap.size (some ⟨bb, off, none⟩) m c3 es g gp k r' l' A6 wr) (fun i _ => ((k : Int) + 1 - intOf i).toNat)
        case atStart => exact ⟨0, by omega, rfl, hp7⟩
        case round =>
          clear hp7
          obtain ⟨t, ht, rfl, hpb⟩ := hrel
          by_cases htk : t < k + 2
          · obtain ⟨x, hx⟩ : ∃ x : Int, x = (t : Int) - 1 := ⟨_, rfl⟩
            rw [← hx]
            have hx1 : -1 ≤ x := by omega
            have hx2 : x ≤ (k : Int) := by omega
            have HX := Lib.hid hx
            have HPB := Lib.hid hpb
            have HPD := Lib.hid hpb.drew
            have hS2 := MKS.out _ hpb.e
            have hS2d := MKS.out _ hpb.drew.e
            obtain ⟨vx, hvx⟩ : ∃ vx, vx = sames k r' x (ea es q) := ⟨_, rfl⟩
            have HVA : Hid (sames k r' x (ea es q) = vx) := hvx.symm
            have HVB : Hid (sames k l' x (ea es q) = vx) := (HKER.out.sames x (ea es q)).trans hvx.symm
            have hpd := hpb.drew
            clear hvx hx hpb
            go_wp2
            go_region_held3 (fun W => W.cell? ⟨bb, off + q * 2, none⟩ = some (.int .i64 (ea es q)) ∧ W.cell? ⟨bb, off + q * 2 + 1, none⟩ = some (.int .i64 (eb es q)) ∧ PlE w w3.heap.size (some ⟨bb, off, none⟩) m c3 es W) (first | exact hS2 | exact hS2d | assumption) (first | (go_at_call 26; rename (PlB _ _ _ _ _ _ _ _ _ _ _ _ _) => hB; refine (same_s g gp k r' x (ea es q) vx _ hB.sets HVA.out).mono ?_; rintro e w7 ⟨rfl, hs7, ho7⟩; have hp7 := hB.only hgz hgp2 hs7 ho7; have hS1 := MKS.out _ hp7.e) | (go_at_call 27; rename (PlB _ _ _ _ _ _ _ _ _ _ _ _ _) => hB; refine (rsame_any _ k _ _ x (ea es q) vx _ _ (by omega) hB.rd HVB.out).mono ?_; rintro e w7 ⟨rfl, hb7⟩; have hp7 := hB.below hb7; have hS1 := MKS.out _ hp7.e))
            all_goals
              rename (PlB _ _ _ _ _ _ _ _ _ _ _ _ _) => hp7
              clear hS2 hS2d
              go_wp2
              go_roundw
              case rel => exact ⟨t + 1, by omega, by rw [HX.out]; go_num, hp7⟩
              case measure => simp [intOf]; omega
          · obtain rfl : t = k + 2 := by omega
            have e1 : ((k + 2 : Nat) : Int) - 1 = (k : Int) + 1 := by omega
            rw [e1]
            have HPB := Lib.hid hpb
            clear hpb e1
            go_wp2
            go_roundw
            case rel => exact ⟨q + 1, by omega, by go_num, A6, c6, rfl, by rw [← HR'.out, ← HLL.out]; exact HPB.out⟩
            case measure => simp [intOf]; omega
    · obtain rfl : q = m := by omega
      have hte : es.take q = es := List.take_of_length_le (by rw [HM.out]; exact Nat.le_refl _)
      rw [hte] at hpb
      obtain ⟨gs, hgs⟩ : ∃ gs, gs = groups (runE k es) k := ⟨_, rfl⟩
      have hgs2 : gs = rgK (refR k es) k k := by rw [hgs, rgK_groups (Ker.run k es) (RtOk.run k es)]
      obtain ⟨j, hj⟩ : ∃ j, gs.length = j := ⟨_, rfl⟩
      have hj15 : j ≤ 15 := by rw [← hj, hgs]; have := groups_len_le (runE k es) k; omega
      have hin : ∀ g ∈ gs, g.length ≤ 1000000 := fun g hg => by rw [hgs] at hg; have := groups_inner _ _ g hg; omega
      have HGS := Lib.hid hgs
      have HGS2 := Lib.hid hgs2
      have HJ := Lib.hid hj
      have HIN := Lib.hid hin
      have HPB := Lib.hid hpb
      clear hte hgs hgs2 hj hin hpb
      go_wp2_with fail
      refine (groups_any g gp k (runE k es) wr HPB.out.sets).mono ?_
      rintro e w6 ⟨A6, c6, rfl, ho6, hs6, hog6⟩
      rw [← HGS.out, HJ.out] at ho6 ⊢
      have HR6 := Lib.hid ho6.rd
      have HL6 := Lib.hid (HPB.out.rd.farG HPB.out.far hog6)
      have HB6 := Lib.hid (HPB.out.e.bel.trans (hog6.below HPB.out.e.bel.size hgp2))
      have hsz6 := HB6.out.size
      clear ho6 hs6 hog6
      go_wp2_with fail
      refine (rgroups_any A4 k c4 (refR k es) w6 (by omega) HL6.out gs j HGS2.out HJ.out).mono ?_
      rintro e w7 ⟨A7, c7, rfl, ho7, hb7⟩
      have HR7 := Lib.hid ho7.rd
      have HP7 := Lib.hid (HR6.out.below hb7 (Nat.le_refl _) |>.more hb7.size)
      have HB7 := Lib.hid (HB6.out.trans (hb7.mono hsz6))
      have hsz7 := HB7.out.size
      clear ho7 hb7
      go_wp2_with fail
      refine (equal_any A6 j c6 gs A7 j c7 gs true w7 HJ.out HJ.out HP7.out HR7.out (by omega) (by omega) HIN.out HIN.out (by simp)).mono ?_
      rintro e w8 ⟨rfl, hb8⟩
      have HB8 := Lib.hid (HB7.out.trans (hb8.mono hsz7))
      have hsz8 := HB8.out.size
      clear hb8
      go_wp2_with fail
      refine (lives_any w8).mono ?_
      rintro e w9 ⟨rfl, hb9⟩
      have HB9 := Lib.hid (HB8.out.trans (hb9.mono hsz8))
      clear hb9
      go_wp2
      go_ret
      exact ⟨rfl, HB9.out⟩

end Go.Proofs.Ytglfmchddbaceaa
