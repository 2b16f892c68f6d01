/-
  Package unionfind: the law UnionfindOrder, walked.
-/
import Derived.Test.YtglfmchddbaceaaUfP2
namespace Go.Proofs.Ytglfmchddbaceaa
set_option linter.unusedVariables false
set_option linter.unusedSimpArgs false
open Go.RowKit

set_option maxRecDepth 4000 in
set_option maxHeartbeats 4000000 in
theorem order_walk (n : Int) (A : Option Addr) (len c : Nat) (xs : List Int) (turn : Int) (w : World) (hl : xs.length = len) (hr : Rd w w.heap.size A xs) (hx : ∀ x ∈ xs, -9223372036854775808 ≤ x ∧ x ≤ 9223372036854775807) (hm : len ≤ maxLen) (h1 : -9223372036854775808 ≤ n) (h2 : n ≤ 9223372036854775807) (h3 : -9223372036854775808 ≤ turn) (h4 : turn ≤ 9223372036854775807) :
    Calls Try.prog 4 #[.int .i64 n, .slice A len c, .int .i64 turn] w fun e w' => e = .returned (.bool true) ∧ Below w.heap.size w w' := by
  have ha1 := around_lo (n := n) (m := 15) (by omega)
  have ha2 := around_hi (n := n) (m := 15) (by omega)
  obtain ⟨k, hk⟩ : ∃ k : Nat, (k : Int) = around n 15 := ⟨(around n 15).toNat, by omega⟩
  rw [← hk] at ha1 ha2
  have hk15 : k < 15 := by omega
  obtain ⟨es, hes⟩ : ∃ es, es = mkEdges xs := ⟨_, rfl⟩
  obtain ⟨m, hm2⟩ : ∃ m, es.length = m := ⟨_, rfl⟩
  have hm30 : m ≤ 30 := by rw [← hm2, hes]; exact mkEdges_len xs
  have hb1 := around_lo (n := turn) (m := (m : Int) + 1) (by omega)
  have hb2 := around_hi (n := turn) (m := (m : Int) + 1) (by omega)
  obtain ⟨cut, hcut⟩ : ∃ cut : Nat, (cut : Int) = around turn ((m : Int) + 1) := ⟨(around turn ((m : Int) + 1)).toNat, by omega⟩
  have hcm : cut ≤ m := by omega
  have HCUT : Hid (∀ ww, Calls Try.prog 17 #[.int .i64 turn, .int .i64 ((m : Int) + 1)] ww fun e w' => e = .returned (.int .i64 (cut : Int)) ∧ ww = w') := fun ww => by
    rw [hcut]; exact around_any _ _ ww h3 h4 (by omega) (by omega)
  obtain ⟨gs, hgs⟩ : ∃ gs, gs = groups (runE k es) k := ⟨_, rfl⟩
  have hgs2 : gs = groups (runE k (swaps es m (m - cut) ++ twice (es.take cut))) k := by rw [hgs, ← hm2]; exact order_same k es cut (by omega)
  obtain ⟨j, hj⟩ : ∃ j, gs.length = j := ⟨_, rfl⟩
  have hj15 : j ≤ 15 := by rw [← hj, hgs]; have := groups_len_le (runE k es) k; omega
  have hin : ∀ g ∈ gs, g.length ≤ 1000000 := fun g hg => by rw [hgs] at hg; have := groups_inner _ _ g hg; omega
  have HS := Lib.hid (size_any n w h1 h2 k hk)
  have HED := Lib.hid (edges_any A len c xs w hl hr hx hm m es hes hm2)
  have HM := Lib.hid hm2
  have HGS := Lib.hid hgs
  have HGS2 := Lib.hid hgs2
  have HJ := Lib.hid hj
  have HIN := Lib.hid hin
  clear hl hx hm hes hm2 hgs hgs2 hj hin hk ha1 ha2 hb1 hb2 hcut hr h3 h4
  go_enter Try.func4, Try.ntmps4
  go_wp2_with fail
  refine HS.out.mono ?_
  rintro e w1 ⟨rfl, rfl⟩
  go_wp2_with fail
  refine HED.out.mono ?_
  rintro e w2 ⟨A2, c2, rfl, ho2, _, hb2⟩
  have HR2 := Lib.hid ho2.rd
  have hsz2 := hb2.size
  clear ho2
  go_wp2_with fail
  refine (HCUT.out w2).mono ?_
  rintro e w3 ⟨rfl, rfl⟩
  go_wp2_with fail
  go_loopw [10, 11] (fun l i wr => ∃ p : Nat, cut ≤ p ∧ p ≤ m ∧ i = .int .i64 ((p : Int) - 1) ∧ (∃ A3 c3, l = .slice A3 (m - p) c3 ∧ OwnP wr w2.heap.size (.slice A3 (m - p) c3) (swaps es m (m - p))) ∧ Below w2.heap.size w2 wr) (fun _ i _ => (intOf i + 1).toNat)
  case atStart => exact ⟨m, hcm, Nat.le_refl _, rfl, ⟨none, 0, by rw [Nat.sub_self], by rw [Nat.sub_self]; exact OwnP.nil _ _⟩, Below.refl _ _⟩
  case round =>
    obtain ⟨p, hp1, hp2, rfl, ⟨A3, c3, rfl, ho⟩, hb⟩ := hrel
    by_cases hpc : cut < p
    · obtain ⟨p', rfl⟩ : ∃ p', p = p' + 1 := ⟨p - 1, by omega⟩
      have e1 : ((p' + 1 : Nat) : Int) - 1 = (p' : Int) := by omega
      rw [e1]
      obtain ⟨b, off, rfl, hbb, hc⟩ := HR2.out (by rw [HM.out]; omega)
      have ca := (hb.cell (p := ⟨b, off + p' * 2, none⟩) hbb).trans (hc p' (by rw [HM.out]; omega)).1
      have cb := (hb.cell (p := ⟨b, off + p' * 2 + 1, none⟩) hbb).trans (hc p' (by rw [HM.out]; omega)).2
      obtain ⟨q, hq⟩ : ∃ q, q = m - (p' + 1) := ⟨_, rfl⟩
      rw [← hq] at ho ⊢
      have HQ : Hid (m - p' = q + 1) := by show _ = _; omega
      have HSN : Hid (swaps es m (q + 1) = swaps es m q ++ [(eb es p', ea es p')]) := by show _ = _; rw [swaps_snoc, show m - 1 - q = p' from by omega]
      have hln : (swaps es m q).length + 1 < 1000000000 := by rw [swaps_len]; omega
      have hln2 : Hid ((swaps es m q).length + 1 = q + 1) := by show _ = _; rw [swaps_len]
      have hsz := hb.size
      have HO := Lib.hid ho
      have hcp : (cut : Int) ≤ (p' : Int) := by omega
      have hpm : (p' : Int) < (m : Int) := by omega
      have hz0 := (hc p' (by rw [HM.out]; omega))
      have mkS : ∀ W, EqS w2 W → W.cell? ⟨b, off + p' * 2, none⟩ = some (.int .i64 (ea es p')) ∧ W.cell? ⟨b, off + p' * 2 + 1, none⟩ = some (.int .i64 (eb es p')) ∧ EqS w2 W := fun W h => ⟨(Below.cell (p := ⟨b, off + p' * 2, none⟩) h hbb).trans hz0.1, (Below.cell (p := ⟨b, off + p' * 2 + 1, none⟩) h hbb).trans hz0.2, h⟩
      have MKS := Lib.hid mkS
      have hS0 := mkS wr hb
      have hsd : w2.heap.size ≤ wr.drew.heap.size := hsz
      clear hc ho hq e1 hz0 mkS
      go_wp2
      go_region_held3 (fun W => W.cell? ⟨b, off + p' * 2, none⟩ = some (.int .i64 (ea es p')) ∧ W.cell? ⟨b, off + p' * 2 + 1, none⟩ = some (.int .i64 (eb es p')) ∧ EqS w2 W) (first | exact hS0 | exact MKS.out _ (Below.drew hb) | exact MKS.out _ ((Below.drew hb).alloc hsd _) | assumption) (first | (refine stp_append_pairs rfl (.tmp 30) (.tmp 42) rfl w2.heap.size _ _ [(eb es p', ea es p')] rfl (OwnP.alloc HO.out _) _ 1 _ _ (q + 1) hln2.out rfl rfl (pairs1_rd _ _ _) (by intro h; cases h) hln (by simp; omega) ?_; intro A4 c4 w4 ho4 hb4; have hb5 := ((Below.drew hb).alloc hsd _).trans hb4; have hS1 := MKS.out _ hb5))
      rename (Hid (OwnP _ _ _ _)) => ho4
      rename (_ ∧ _ ∧ EqS w2 _) => hE
      go_wp2
      go_roundw
      case rel =>
        refine ⟨p', by omega, by omega, by go_num, ⟨A4, c4, by rw [HQ.out], ?_⟩, hE.2.2⟩
        rw [HQ.out, HSN.out]; exact ho4.out
      case measure => simp [intOf]
    · obtain rfl : p = cut := by omega
      have HO := Lib.hid ho
      have hsz := hb.size
      clear ho
      go_wp2
      go_loopw [10, 12] (fun l i wr => ∃ q : Nat, q ≤ p ∧ i = .int .i64 q ∧ (∃ A3 c3, l = .slice A3 (m - p + q * 2) c3 ∧ OwnP wr w2.heap.size (.slice A3 (m - p + q * 2) c3) (swaps es m (m - p) ++ twice (es.take q))) ∧ Below w2.heap.size w2 wr) (fun _ i _ => p - (intOf i).toNat)
      case atStart => exact ⟨0, Nat.zero_le _, rfl, ⟨A3, c3, rfl, by rw [List.take_zero]; show OwnP _ _ _ (_ ++ []); rw [List.append_nil]; exact HO.out⟩, hb⟩
      case round =>
        clear hb HO hsz
        obtain ⟨q, hq, rfl, ⟨A3, c3, rfl, ho⟩, hb⟩ := hrel
        have hsz := hb.size
        by_cases hqp : q < p
        · have hqe : q < es.length := by rw [HM.out]; omega
          obtain ⟨b, off, rfl, hbb, hc⟩ := HR2.out (by omega)
          have HO := Lib.hid ho
          obtain ⟨l0, hl0⟩ : ∃ l0, l0 = m - p + q * 2 := ⟨_, rfl⟩
          have HL : Hid (m - p + (q + 1) * 2 = l0 + 2) := by show _ = _; omega
          have HSN : Hid (twice (es.take (q + 1)) = twice (es.take q) ++ [(ea es q, eb es q), (ea es q, eb es q)]) := by show _ = _; rw [take_snoc_pair hqe, twice_snoc]
          have hll : (swaps es m (m - p) ++ twice (es.take q)).length = l0 := by rw [List.length_append, swaps_len, twice_len, List.length_take, hl0]; omega
          have hln : (swaps es m (m - p) ++ twice (es.take q)).length + 2 < 1000000000 := by rw [hll]; omega
          have hln2 : Hid ((swaps es m (m - p) ++ twice (es.take q)).length + 2 = l0 + 2) := by show _ = _; rw [hll]
          have hpm : (q : Int) < (m : Int) := by omega
          have hz0 := hc q hqe
          have mkS : ∀ W, EqS w2 W → W.cell? ⟨b, off + q * 2, none⟩ = some (.int .i64 (ea es q)) ∧ W.cell? ⟨b, off + q * 2 + 1, none⟩ = some (.int .i64 (eb es q)) ∧ EqS w2 W := fun W h => ⟨(Below.cell (p := ⟨b, off + q * 2, none⟩) h hbb).trans hz0.1, (Below.cell (p := ⟨b, off + q * 2 + 1, none⟩) h hbb).trans hz0.2, h⟩
          have MKS := Lib.hid mkS
          have hS0 := mkS wr hb
          have hsd : w2.heap.size ≤ wr.drew.heap.size := hsz
          rw [← hl0] at HO ⊢
          clear hc ho hl0 hz0 mkS hll
          go_wp2
          go_region_held3 (fun W => W.cell? ⟨b, off + q * 2, none⟩ = some (.int .i64 (ea es q)) ∧ W.cell? ⟨b, off + q * 2 + 1, none⟩ = some (.int .i64 (eb es q)) ∧ EqS w2 W) (first | exact hS0 | exact MKS.out _ (Below.drew hb) | exact MKS.out _ ((Below.drew hb).alloc hsd _) | assumption) (first | (refine stp_append_pairs rfl (.tmp 49) (.tmp 58) rfl w2.heap.size _ _ [(ea es q, eb es q), (ea es q, eb es q)] rfl (OwnP.alloc HO.out _) _ 2 _ _ (l0 + 2) hln2.out rfl rfl (pairs2_rd _ _ _ _ _) (by intro h; cases h) hln (by simp; omega) ?_; intro A4 c4 w4 ho4 hb4; have hb5 := ((Below.drew hb).alloc hsd _).trans hb4; have hS1 := MKS.out _ hb5))
          rename (Hid (OwnP _ _ _ _)) => ho4
          rename (_ ∧ _ ∧ EqS w2 _) => hE
          go_wp2
          go_roundw
          case rel =>
            refine ⟨q + 1, by omega, by go_num, ⟨A4, c4, by rw [HL.out], ?_⟩, hE.2.2⟩
            rw [HL.out, HSN.out, ← List.append_assoc]; exact ho4.out
          case measure => simp [intOf]; omega
        · obtain rfl : q = p := by omega
          have hll : (swaps es m (m - q) ++ twice (es.take q)).length = m - q + q * 2 := by rw [List.length_append, swaps_len, twice_len, List.length_take, HM.out]; omega
          have HLL := Lib.hid hll
          have hl60 : m - q + q * 2 ≤ 60 := by omega
          obtain ⟨l0, hl0⟩ : ∃ l0, l0 = m - q + q * 2 := ⟨_, rfl⟩
          rw [← hl0] at ho hl60 HLL ⊢
          have HR3 := Lib.hid ho.rd
          have HRE := Lib.hid (HR2.out.below hb (Nat.le_refl _) |>.more hsz)
          have HB := Lib.hid (hb2.trans (hb.mono hsz2))
          clear ho hll hl0 hb hb2
          go_wp2_with fail
          refine (islands_any k A2 m c2 es _ HM.out HRE.out (by omega) (by omega) j gs HGS.out HJ.out).mono ?_
          rintro e w5 ⟨A5, c5, rfl, ho5, hb5⟩
          have hsz5 := hb5.size
          have HB5 := Lib.hid (HB.out.trans (hb5.mono (by omega)))
          have HR5 := Lib.hid ho5.rd
          have HP5 := Lib.hid (HR3.out.below hb5 (Nat.le_refl _) |>.more hsz5)
          clear ho5 hb5
          go_wp2_with fail
          refine (islands_any k A3 l0 c3 _ w5 HLL.out HP5.out (by omega) (by omega) j gs HGS2.out HJ.out).mono ?_
          rintro e w6 ⟨A6, c6, rfl, ho6, hb6⟩
          have hsz6 := hb6.size
          have HB6 := Lib.hid (HB5.out.trans (hb6.mono (by omega)))
          have HR6 := Lib.hid ho6.rd
          have HP6 := Lib.hid (HR5.out.below hb6 (Nat.le_refl _) |>.more hsz6)
          clear ho6 hb6
          go_wp2_with fail
          refine (equal_any A5 j c5 gs A6 j c6 gs true w6 HJ.out HJ.out HP6.out HR6.out (by omega) (by omega) HIN.out HIN.out (by simp)).mono ?_
          rintro e w7 ⟨rfl, hb7⟩
          have hsz7 := hb7.size
          have HB7 := Lib.hid (HB6.out.trans (hb7.mono (by omega)))
          clear hb7
          go_wp2_with fail
          refine (lives_any w7).mono ?_
          rintro e w8 ⟨rfl, hb8⟩
          have HB8 := Lib.hid (HB7.out.trans (hb8.mono (by omega)))
          clear hb8
          go_wp2
          go_ret
          exact ⟨rfl, HB8.out⟩

end Go.Proofs.Ytglfmchddbaceaa
