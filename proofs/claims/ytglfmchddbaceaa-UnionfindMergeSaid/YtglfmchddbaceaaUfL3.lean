/-
  Package unionfind: the law UnionfindPartition, walked.
-/
import Derived.Test.YtglfmchddbaceaaUfP1
namespace Go.Proofs.Ytglfmchddbaceaa
set_option linter.unusedVariables false
set_option linter.unusedSimpArgs false
open Go.RowKit

theorem Rd.cells {w : World} {B : Nat} {A : Option Addr} {zs : List Int} (h : Rd w B A zs) (hp : 0 < zs.length) : ∃ b off, A = some ⟨b, off, none⟩ ∧ b < B ∧ ∀ k, k < zs.length → w.cell? ⟨b, off + k, none⟩ = some (.int .i64 (ix zs k)) := h hp
theorem RdM.at {w : World} {B : Nat} {A : Option Addr} {gs : List (List Int)} (h : RdM w B A gs) (hp : 0 < gs.length) : ∃ b off, A = some ⟨b, off, none⟩ ∧ b < B ∧ ∀ j, j < gs.length → ∃ A' c', w.cell? ⟨b, off + j, none⟩ = some (.slice A' (gx gs j).length c') ∧ Rd w B A' (gx gs j) := h hp

theorem ownsRow_far {w w' : World} {B gp n : Nat} {e : TypeId} {size : Nat} {v : Value} {xs : List Value} (h : w.ownsRow B e size v n xs) (hg : w.grownBy w' (some gp)) (hne : gp < B) : w'.ownsRow B e size v n xs := by
  refine ⟨h.1, ?_⟩
  rcases h.2 with h0 | ⟨g, cap, cur, hv, hb, hh, hr⟩
  · exact .inl h0
  · exact .inr ⟨g, cap, cur, hv, hb, (hg.block g (Array.getElem?_eq_some_iff.1 hh).1 (by intro e; injection e; omega)).trans hh, hr⟩
theorem OwnP.only {w w' : World} {B gp : Nat} {v : Value} {es : List (Int × Int)} (h : OwnP w B v es) (hg : OnlyP gp w w') (hne : gp < B) : OwnP w' B v es := ownsRow_far h hg.1 hne
theorem Own.only {T : TypeId} {w w' : World} {B gp : Nat} {v : Value} {zs : List Int} (h : Own T w B v zs) (hg : OnlyP gp w w') (hne : gp < B) : Own T w' B v zs := ownsRow_far h hg.1 hne
theorem OnlyG.stepZ {gp : Nat} {a b c : World} (h : OnlyG gp a b) (k : Below a.heap.size b c) : OnlyG gp a c := ⟨k.os.trans h.os, k.tape.trans h.tape, k.output.trans h.output, Nat.le_trans h.size k.size, fun i hi hne => (k.block i hi).trans (h.block i hi hne)⟩
theorem OnlyG.stepP {gp : Nat} {a b c : World} (h : OnlyG gp a b) (k : OnlyP gp b c) : OnlyG gp a c := World.grownBy.trans h k.1

set_option maxRecDepth 4000 in
set_option maxHeartbeats 4000000 in
theorem part_walk (n : Int) (A : Option Addr) (len c : Nat) (xs : List Int) (w : World) (hl : xs.length = len) (hr : Rd w w.heap.size A xs) (hx : ∀ x ∈ xs, -9223372036854775808 ≤ x ∧ x ≤ 9223372036854775807) (hm : len ≤ maxLen) (h1 : -9223372036854775808 ≤ n) (h2 : n ≤ 9223372036854775807) :
    Calls Try.prog 10 #[.int .i64 n, .slice A len c] w fun e w' => e = .returned (.bool true) ∧ Below w.heap.size w w' := by
  have ha1 := around_lo (n := n) (m := 15) (by omega)
  have ha2 := around_hi (n := n) (m := 15) (by omega)
  obtain ⟨k, hk⟩ : ∃ k : Nat, (k : Int) = around n 15 := ⟨(around n 15).toNat, by omega⟩
  rw [← hk] at ha1 ha2
  have hk15 : k < 15 := by omega
  obtain ⟨es, hes⟩ : ∃ es, es = mkEdges xs := ⟨_, rfl⟩
  obtain ⟨m, hm2⟩ : ∃ m, es.length = m := ⟨_, rfl⟩
  have hm30 : m ≤ 30 := by rw [← hm2, hes]; exact mkEdges_len xs
  have HS := Lib.hid (size_any n w h1 h2 k hk)
  have HED := Lib.hid (fun w' (hr' : Rd w' w'.heap.size A xs) => edges_any A len c xs w' hl hr' hx hm m es hes hm2)
  have HM := Lib.hid hm2
  have HRX := Lib.hid hr
  clear hl hx hm hes hm2 hk ha1 ha2 hr
  go_enter Try.func10, Try.ntmps10
  go_wp2_with fail
  refine HS.out.mono ?_
  rintro e w1 ⟨rfl, rfl⟩
  go_wp2_with fail
  refine (new_any k w (by omega)).mono ?_
  rintro e w2 ⟨g, gp, rfl, hg2, hgp2, hs2, hb2⟩
  have hsz2 := hb2.size
  have hlt2 := hs2.lt
  go_wp2_with fail
  refine (HED.out w2 (HRX.out.below hb2 (Nat.le_refl _) |>.more hsz2)).mono ?_
  rintro e w3 ⟨A3, c3, rfl, ho3, _, hb3⟩
  have HP3 := Lib.hid ho3.rd
  have HB3 := Lib.hid (hb2.trans (hb3.mono hsz2))
  have HS3 := Lib.hid (IsSets.below hs2 hb3 hlt2.1 hlt2.2)
  have HPB : Hid (∀ ww, OnlyP gp w3 ww → RdP ww ww.heap.size A3 es) := fun ww ho => (ho3.only ho hlt2.2).rd
  have hsz3 := hb3.size
  clear hb2 hb3 hs2 ho3
  go_wp2_with fail
  go_loopw [8, 9] (fun l i wr => ∃ q L : Nat, q ≤ m ∧ i = .int .i64 q ∧ l = .int .i64 (L : Int) ∧ L ≤ 15 ∧ (roots (runE k (es.take q)) k).length = L ∧ IsSets wr g gp k (runE k (es.take q)) ∧ OnlyP gp w3 wr) (fun _ i _ => m - (intOf i).toNat)
  case atStart => exact ⟨0, k, Nat.zero_le _, rfl, rfl, by omega, roots_new k, HS3.out, OnlyP.refl _ _⟩
  case round =>
    obtain ⟨q, L, hq, rfl, rfl, hL15, hL, hs, ho⟩ := hrel
    have HL := Lib.hid hL
    clear hL
    by_cases hqm : q < m
    · have hqe : q < es.length := by rw [HM.out]; exact hqm
      obtain ⟨b, off, rfl, hbb, hc⟩ := HPB.out wr ho (by omega)
      obtain ⟨ca, cb⟩ := hc q hqe
      have HR := Lib.hid (runE_take (n := k) hqe)
      obtain ⟨v, hv⟩ : ∃ v, joins k (runE k (es.take q)) (ea es q, eb es q) = v := ⟨_, rfl⟩
      have hcnt := roots_uni (RtOk.run k (es.take q)) (ea es q, eb es q)
      rw [HL.out, ← HR.out, hv] at hcnt
      have HV := Lib.hid hv
      have hS0 : wr.cell? ⟨b, off + q * 2, none⟩ = some (.int .i64 (ea es q)) ∧ wr.cell? ⟨b, off + q * 2 + 1, none⟩ = some (.int .i64 (eb es q)) ∧ OnlyP gp w3 wr := ⟨ca, cb, ho⟩
      have HSS := Lib.hid hs.drew
      clear hc hs hv
      go_wp2
      go_region_held3 (fun W => W.cell? ⟨b, off + q * 2, none⟩ = some (.int .i64 (ea es q)) ∧ W.cell? ⟨b, off + q * 2 + 1, none⟩ = some (.int .i64 (eb es q)) ∧ OnlyP gp w3 W) (first | exact hS0 | exact ⟨hS0.1, hS0.2.1, OnlyP.drew ho⟩ | assumption) (first | (go_at_call 25; refine (union_s g gp k (runE k (es.take q)) _ _ _ _ _ HSS.out HR.out HV.out).mono ?_; rintro e w4 ⟨rfl, hs4, ho4⟩; have ho5 := (OnlyP.drew ho).trans ho4; have hS1 : w4.cell? ⟨b, off + q * 2, none⟩ = some (.int .i64 (ea es q)) ∧ w4.cell? ⟨b, off + q * 2 + 1, none⟩ = some (.int .i64 (eb es q)) ∧ OnlyP gp w3 w4 := (by obtain ⟨b', off', e', _, hc'⟩ := HPB.out w4 ho5 (by omega); cases e'; exact ⟨(hc' q hqe).1, (hc' q hqe).2, ho5⟩)))
      rename (IsSets _ g gp k (runE k (es.take (q + 1)))) => hs4
      rename (_ ∧ _ ∧ OnlyP gp w3 _) => hE
      cases v
      · go_wp2
        go_roundw
        case rel => exact ⟨q + 1, L, by omega, by go_num, rfl, hL15, by simpa using hcnt, hs4, hE.2.2⟩
        case measure => simp [intOf]; omega
      · have hL1 : (roots (runE k (es.take (q + 1))) k).length = L - 1 ∧ 1 ≤ L := by simp at hcnt; omega
        go_wp2
        go_roundw
        case rel => exact ⟨q + 1, L - 1, by omega, by go_num, by go_num, by omega, hL1.1, hs4, hE.2.2⟩
        case measure => simp [intOf]; omega
    · obtain rfl : q = m := by omega
      have hte : es.take q = es := List.take_of_length_le (by rw [HM.out]; exact Nat.le_refl _)
      rw [hte] at HL hs
      have hok := RtOk.run k es
      obtain ⟨r, hrr⟩ : ∃ r, r = runE k es := ⟨_, rfl⟩
      rw [← hrr] at HL hs hok
      obtain ⟨gs, hgs⟩ : ∃ gs, gs = groups r k := ⟨_, rfl⟩
      have hgl : gs.length = L := by rw [hgs, groups_length, HL.out]
      have hin : ∀ p, p < L → (gx gs p).length ≤ 15 := fun p hp => by rw [hgs]; have := groups_inner r k _ (gx_mem (j := p) (by rw [← hgs, hgl]; exact hp)); omega
      have HOK := Lib.hid hok
      have HGL := Lib.hid hgl
      have HGS := Lib.hid hgs
      have HSQ := Lib.hid hs
      have hzr := ho.2
      have hz0 := hlt2
      have HBO := Lib.hid (OnlyP.below HB3.out ho (by omega) hgp2)
      clear hte hok hgs hgl hrr hs
      go_wp2_with fail
      refine (groups_any g gp k r wr HSQ.out).mono ?_
      rintro e w4 ⟨A5, c5, rfl, ho5, hs5, hog5⟩
      rw [← HGS.out, HGL.out] at ho5 ⊢
      obtain ⟨z, hz⟩ : ∃ z, z = wr.heap.size := ⟨_, rfl⟩
      rw [← hz] at ho5
      have hgz : gp < z := by omega
      have hgz2 : g < z := by omega
      have hz4 : z ≤ w4.heap.size := by rw [hz]; exact hog5.size
      have HW4 := Lib.hid (HBO.out.trans (hog5.below (B := w.heap.size) (by omega) hgp2))
      have HS5 := Lib.hid hs5
      have HO5 := Lib.hid ho5
      have hwz : w.heap.size ≤ w4.heap.size := by omega
      have hgz4 : gp < w4.heap.size := by omega
      clear ho5 hs5 hog5 hz hzr hz0 ho HBO
      go_wp2_with fail
      go_loopw [11, 12, 13, 14] (fun l i _ _ wx => ∃ p t : Nat, p ≤ L ∧ i = .int .i64 p ∧ t ≤ 15 * p ∧ (∃ A6 c6, l = .slice A6 t c6 ∧ Own 3 wx w4.heap.size (.slice A6 t c6) (gs.take p).flatten) ∧ IsSets wx g gp k r ∧ OnlyG gp w4 wx) (fun _ i _ _ _ => L - (intOf i).toNat)
      case atStart => exact ⟨0, 0, Nat.zero_le _, rfl, Nat.zero_le _, ⟨none, 0, rfl, Own.nil _ _ _⟩, HS5.out, OnlyG.refl _ _⟩
      case round =>
        obtain ⟨p, t, hp, rfl, ht, ⟨A6, c6, rfl, hoa⟩, hs, hog⟩ := hrel
        by_cases hpl : p < L
        · have hpg : p < gs.length := by rw [HGL.out]; exact hpl
          obtain ⟨b, off, rfl, hbb, hc⟩ := RdM.at (HO5.out.grown hog hgz hgz).rd (by omega)
          obtain ⟨A7, c7, cq, rq⟩ := hc p hpg
          have hpos : 0 < (gx gs p).length := by rw [HGS.out]; exact part_pos HOK.out (by rw [← HGS.out]; exact hpg)
          obtain ⟨b7, off7, rfl, hb7, hc7⟩ := Rd.cells rq hpos
          have c70 := hc7 0 hpos
          rw [Nat.add_zero] at c70
          obtain ⟨x0, hx0⟩ : ∃ x0, x0 = ix (gx gs p) 0 := ⟨_, rfl⟩
          rw [← hx0] at c70
          have HX0 := Lib.hid hx0
          obtain ⟨l7, hl7⟩ : ∃ l7, l7 = (gx gs p).length := ⟨_, rfl⟩
          have hl15 := hin p hpl
          rw [← hl7] at cq hpos hl15
          have HL7 := Lib.hid hl7
          have hd7 : decide (l7 = 0) = false := decide_eq_false (by omega)
          have hd7' : ((l7 : Int) == 0) = false := beq_eq_false_iff_ne.2 (by omega)
          have HOA := Lib.hid hoa
          have HSI := Lib.hid hs
          have HOG := Lib.hid hog
          clear hc7 rq hl7 hoa hs hog hx0
          rcases Nat.eq_zero_or_pos p with hp0 | hp0
          case' inl =>
            have hdp : decide (0 < p) = false := decide_eq_false (by omega)
            have hpi : (p : Int) < (L : Int) := by omega
            clear hc hp0
            go_wp2
            go_quiet (fail)
            go_wp2
          case' inr =>
            obtain ⟨p', hpp⟩ : ∃ p', p' + 1 = p := ⟨p - 1, by omega⟩
            have hw1 : IntKind.i64.wrap ((p : Int) - 1) = (p' : Int) := by rw [IntWalk.i64_in _ (by omega)]; omega
            have hdp : decide (0 < p) = true := decide_eq_true hp0
            have hpi : (p : Int) < (L : Int) := by omega
            have hpi' : (p' : Int) < (L : Int) := by omega
            obtain ⟨A8, c8, cq8, rq8⟩ := hc p' (by omega)
            have hpos8 : 0 < (gx gs p').length := by rw [HGS.out]; exact part_pos HOK.out (by rw [← HGS.out]; omega)
            obtain ⟨b8, off8, rfl, hb8, hc8⟩ := Rd.cells rq8 hpos8
            have c80 := hc8 0 hpos8
            rw [Nat.add_zero] at c80
            obtain ⟨x8, hx8⟩ : ∃ x8, x8 = ix (gx gs p') 0 := ⟨_, rfl⟩
            rw [← hx8] at c80
            obtain ⟨l8, hl8⟩ : ∃ l8, l8 = (gx gs p').length := ⟨_, rfl⟩
            rw [← hl8] at cq8 hpos8
            have hhd : ix (gx gs p') 0 < ix (gx gs p) 0 := by rw [HGS.out, ← hpp]; exact part_head HOK.out (by rw [← HGS.out, hpp]; exact hpg)
            rw [← hx8, ← HX0.out] at hhd
            have hhd2 : decide (x0 ≤ x8) = false := decide_eq_false (by omega)
            clear hc hc8 rq8 hl8 hx8
            go_wp2
            go_quiet (fail)
            go_wp2
            clear hw1 hpi' cq8 hpos8 c80 hhd hhd2 hp0
          all_goals
            clear cq c70 hb7 hd7 hd7' hdp hpi
            go_loopw [11, 13, 14] (fun l i _ wx => ∃ s t : Nat, s ≤ l7 ∧ i = .int .i64 s ∧ t ≤ 15 * p + s ∧ (∃ A6 c6, l = .slice A6 t c6 ∧ Own 3 wx w4.heap.size (.slice A6 t c6) ((gs.take p).flatten ++ (gx gs p).take s)) ∧ IsSets wx g gp k r ∧ OnlyG gp w4 wx) (fun _ i _ _ => l7 - (intOf i).toNat)
            case atStart =>
              refine ⟨0, t, Nat.zero_le _, rfl, by omega, ⟨A6, c6, rfl, ?_⟩, IsSets.below HSI.out (below_drewN (Below.refl _ _) _) HSI.out.lt.1 HSI.out.lt.2, HOG.out.stepZ (below_drewN (Below.refl _ _) _ |>.mono (HOG.out.size))⟩
              rw [List.take_zero, List.append_nil]; exact HOA.out.below (below_drewN (Below.refl _ _) _)
            case round =>
              obtain ⟨s, t, hs7, rfl, ht, ⟨A6, c6, rfl, hoa⟩, hs, hog⟩ := hrel
              obtain ⟨b', off', e', hbb', hc⟩ := RdM.at (HO5.out.grown hog hgz hgz).rd (by omega)
              cases e'
              obtain ⟨A7, c7, cq, rq⟩ := hc p hpg
              obtain ⟨b7, off7, rfl, hb7, hc7⟩ := Rd.cells rq (by rw [← HL7.out]; exact hpos)
              rw [← HL7.out] at cq
              have HAL := Lib.hid hoa.len
              clear hc rq
              by_cases hsl : s < l7
              · obtain ⟨y, hy1, hy2, hy3⟩ := part_in (n := k) (r := r) (q := p) (j := s) (by rw [← HGS.out]; exact hpg) (by rw [← HGS.out, ← HL7.out]; exact hsl)
                have hnew := part_new (n := k) (r := r) (q := p) (j := s) (by rw [← HGS.out]; exact hpg) (by rw [← HGS.out, ← HL7.out]; exact hsl)
                have hsame := part_same HOK.out (q := p) (j := s) (by rw [← HGS.out]; exact hpg) (by rw [← HGS.out, ← HL7.out]; exact hsl)
                rw [← HGS.out] at hnew hsame hy2
                rw [hy2] at hnew hsame
                have HNEW := Lib.hid (decide_eq_false hnew)
                have HSAME := Lib.hid hsame
                have HY2 := Lib.hid hy2
                have cs := hc7 s (by rw [← HL7.out]; exact hsl)
                have c0 := hc7 0 (by rw [← HL7.out]; omega)
                rw [Nat.add_zero] at c0
                have cs' : wr.cell? ⟨b7, off7 + s, none⟩ = some (.int .i64 (y : Int)) := by rw [cs, HY2.out]
                obtain ⟨y0, hy0⟩ : ∃ y0, y0 = ix (gx gs p) 0 := ⟨_, rfl⟩
                rw [← hy0] at c0
                have HY0 := Lib.hid hy0
                have hyk : (y : Int) < (k : Int) := by omega
                have HRDA := Lib.hid hoa.rd
                have HOA := Lib.hid hoa
                have HSI := Lib.hid hs
                have HOG := Lib.hid hog
                have hsi : (s : Int) < (l7 : Int) := by omega
                have hpi : (p : Int) < (L : Int) := by omega
                rw [← HY0.out] at HSAME
                clear hnew hsame hy2 hy3 cs hy0 hoa hs hog
                rcases Nat.eq_zero_or_pos s with hs0 | hs0
                case' inl =>
                  have hds : decide (0 < s) = false := decide_eq_false (by omega)
                  clear hc7 hs0
                case' inr =>
                  obtain ⟨s', hss⟩ : ∃ s', s' + 1 = s := ⟨s - 1, by omega⟩
                  have hds : decide (0 < s) = true := decide_eq_true hs0
                  have hw1 : IntKind.i64.wrap ((s : Int) - 1) = (s' : Int) := by rw [IntWalk.i64_in _ (by omega)]; omega
                  have hsi' : (s' : Int) < (l7 : Int) := by omega
                  have hup := part_up (n := k) (r := r) (q := p) (j := s') (by rw [← HGS.out]; exact hpg) (by rw [← HGS.out, ← HL7.out]; omega)
                  rw [← HGS.out, hss, HY2.out] at hup
                  have c1 := hc7 s' (by rw [← HL7.out]; omega)
                  obtain ⟨x1, hx1⟩ : ∃ x1, x1 = ix (gx gs p) s' := ⟨_, rfl⟩
                  rw [← hx1] at hup
                  have c1' : wr.cell? ⟨b7, off7 + s', none⟩ = some (.int .i64 x1) := by rw [c1, hx1]
                  have hd1 : decide ((y : Int) ≤ x1) = false := decide_eq_false (by omega)
                  clear c1 hx1 hc7
                all_goals
                  go_wp2_with fail
                  refine (hasInt_any A6 t c6 _ y false _ wr HAL.out HRDA.out (by omega) HNEW.out).mono ?_
                  rintro e w6 ⟨rfl, rfl⟩
                  go_wp2_with fail
                  refine (same_s g gp k r y y0 true _ HSI.out HSAME.out).mono ?_
                  rintro e w7 ⟨rfl, hs7', ho7⟩
                  have hoa7 := HOA.out.only ho7 hgz4
                  have hln : ((gs.take p).flatten ++ (gx gs p).take s).length < 1000000000000 := by rw [HAL.out]; omega
                  have hln2 : Hid (((gs.take p).flatten ++ (gx gs p).take s).length + 1 = t + 1) := by show _ = _; rw [HAL.out]
                  have hsz7 : w4.heap.size ≤ w7.heap.size := (HOG.out.stepP ho7).size
                  go_wp2_with (at_builtin; refine wpl_append1 rfl (.tmp 132) (.tmp 134) 22 rfl 3 Try.underlying22 int_info3 w4.heap.size _ _ rfl (hoa7.alloc _) ⟨w7.heap.size, 0, none⟩ 1 (y : Int) (t + 1) hln2.out rfl (int_one _ _) hln (by simp; omega) ?_; intro A9 c9 w9 hoa9 hb9)
                  go_roundw
                  case rel =>
                    refine ⟨s + 1, t + 1, by omega, by go_num, by omega, ⟨A9, c9, rfl, ?_⟩, ?_, ?_⟩
                    · rw [take_snoc_ix (by rw [← HL7.out]; exact hsl), HY2.out, ← List.append_assoc]; exact hoa9.out
                    · exact IsSets.below (IsSets.below hs7' ((Below.refl w7.heap.size _).alloc (Nat.le_refl _) _) hs7'.lt.1 hs7'.lt.2) hb9 (by omega) (by omega)
                    · exact ((HOG.out.stepP ho7).stepZ ((Below.refl _ _).alloc hsz7 _)).stepZ hb9
                  case measure => simp [intOf]; omega
              · obtain rfl : s = l7 := by omega
                have HFL : Hid ((gs.take (p + 1)).flatten = (gs.take p).flatten ++ (gx gs p).take s) := by
                  show _ = _
                  rw [List.take_succ_eq_append_getElem hpg, List.flatten_append, HL7.out, List.take_length]
                  simp [gx, List.getD, List.getElem?_eq_getElem hpg]
                have HOA := Lib.hid hoa
                clear hoa hc7
                go_wp2
                go_roundw
                case rel => exact ⟨p + 1, t, by omega, by go_num, by omega, ⟨A6, c6, rfl, by rw [HFL.out]; exact HOA.out⟩, hs, hog⟩
                case measure => simp [intOf]; omega
        · obtain rfl : p = L := by omega
          have htk : t = k := by
            rw [← hoa.len, List.take_of_length_le (by rw [HGL.out]; exact Nat.le_refl _), HGS.out]
            exact part_all HOK.out
          subst htk
          have hws : Below w.heap.size w wr := HW4.out.trans (hog.below hwz hgp2)
          have HWS := Lib.hid hws
          have hszr := hws.size
          clear hoa hs hog hws
          go_wp2_with fail
          refine (lives_any _).mono ?_
          rintro e w9 ⟨rfl, hb9⟩
          have HY := Lib.hid (HWS.out.trans (hb9.mono hszr))
          clear hb9
          go_wp2
          go_ret
          exact ⟨rfl, HY.out⟩

end Go.Proofs.Ytglfmchddbaceaa
