/-
  Package snapshot's reference: Diff, called.
-/
import Derived.Test.YtfnoeolngdhjfaaSnW2
import Derived.Test.YtfnoeolngdhjfaaSnDif
namespace Go.Proofs.Ytfnoeolngdhjfaa
set_option linter.unusedVariables false
set_option linter.unusedSimpArgs false
set_option maxRecDepth 4000
open Go.RowKit

theorem goneD_snoc (l new : Vw) (p : Int × Int) : goneD (l ++ [p]) new = goneD l new ++ if (findD new p.1).isNone then [p.1] else [] := by
  unfold goneD
  rw [List.filter_append, List.map_append]
  congr 1
  by_cases h : (findD new p.1).isNone = true <;> simp [h]
theorem setD_snoc (old l : Vw) (p : Int × Int) : setD old (l ++ [p]) = setD old l ++ if findD old p.1 ≠ some p.2 then [p] else [] := by
  unfold setD
  rw [List.filter_append]
  congr 1
  by_cases h : findD old p.1 = some p.2 <;> simp [h]
theorem goneD_len (l new : Vw) : (goneD l new).length ≤ l.length := by
  unfold goneD; rw [List.length_map]; exact List.length_filter_le _ _
theorem setD_len (old l : Vw) : (setD old l).length ≤ l.length := List.length_filter_le _ _
theorem find_split (l : Vw) (i : Int) : ∃ v is, findD l i = (if is = true then some v else none) ∧ (is = false → v = 0) ∧ v = (findD l i).getD 0 := by
  cases h : findD l i with
  | none => exact ⟨0, false, by simp, fun _ => rfl, rfl⟩
  | some v => exact ⟨v, true, by simp, fun h => by simp at h, rfl⟩

theorem lastI_take (d : Int) (l : List Int) (q : Nat) (h : q ≤ l.length) : lastI d (l.take q) = if q = 0 then d else ix l (q - 1) := by
  match q, h with
  | 0, _ => rfl
  | q + 1, h => rw [take_snoc_ix (by omega), lastI_snoc]; simp
theorem last_lt {l : List Int} (hs : l.Pairwise (· < ·)) (h0 : ∀ x ∈ l, 0 ≤ x) {q : Nat} (hq : q < l.length) : lastI (-1) (l.take q) < ix l q ∧ -1 ≤ lastI (-1) (l.take q) := by
  rw [lastI_take _ _ _ (by omega)]
  split
  · have := h0 _ (ix_mem hq); omega
  · have h1 := h0 _ (ix_mem (show q - 1 < l.length by omega))
    have : ix l (q - 1) < ix l q := by
      rw [ix_get (show q - 1 < l.length by omega), ix_get hq]
      exact List.pairwise_iff_getElem.1 hs _ _ _ _ (by omega)
    omega
theorem goneD_up {old : Vw} (h : IsV old) (new : Vw) : (goneD old new).Pairwise (· < ·) ∧ ∀ x ∈ goneD old new, 0 ≤ x ∧ x ≤ 2147483647 := by
  unfold goneD
  refine ⟨List.pairwise_map.2 (h.up.filter _), fun x hx => ?_⟩
  obtain ⟨p, hp, rfl⟩ := List.mem_map.1 hx
  have := h.bd p (List.mem_filter.1 hp).1
  omega
set_option maxHeartbeats 4000000 in
theorem rdiff_any (A : Option Addr) (n c : Nat) (old : Vw) (A' : Option Addr) (n' c' : Nat) (new : Vw) (w : World) (hl : old.length = n) (hl' : new.length = n') (hr : RdP w w.heap.size A old) (hr' : RdP w w.heap.size A' new) (hn : n ≤ 1000) (hn' : n' ≤ 1000) (hv : IsV old) (hv' : IsV new) (out : List Int) (m : Nat) (ho : out = difD old new) (hm : out.length = m) :
    Calls Try.prog 13 #[.slice A n c, .slice A' n' c'] w fun e w' => ∃ A2 c2, e = .returned (.slice A2 m c2) ∧ OwnU 5 w' w.heap.size (.slice A2 m c2) out ∧ Below w.heap.size w w' := by
  subst hl hl'
  have HO := Lib.hid ho
  have HM := Lib.hid hm
  have HV := Lib.hid hv
  have HV' := Lib.hid hv'
  have HR' := Lib.hid hr'
  clear ho hm hv hv' hr'
  go_enter Try.func13, Try.ntmps13
  go_wp2
  go_loopw [5, 6, 7, 8] (fun o i _ _ wr => ∃ (k t : Nat), k ≤ old.length ∧ i = .int .i64 k ∧ (goneD (old.take k) new).length = t ∧ t ≤ k ∧ (∃ A2 c2, o = .slice A2 t c2 ∧ Own 3 wr w.heap.size (.slice A2 t c2) (goneD (old.take k) new)) ∧ Below w.heap.size w wr) (fun _ i _ _ _ => old.length - (intOf i).toNat)
  case atStart => exact ⟨0, 0, Nat.zero_le _, rfl, rfl, by omega, ⟨none, 0, rfl, Own.nil _ _ _⟩, Below.refl _ _⟩
  case round =>
    obtain ⟨k, t, hk, rfl, ht, htk, ⟨A2, c2, rfl, hown⟩, hb⟩ := hrel
    have HT := Lib.hid ht
    clear ht
    have hsz := hb.size
    by_cases hlt : k < old.length
    · obtain ⟨b, off, rfl, hbb, hc⟩ := rdp_at hr (by omega)
      have d1 := (hb.cell (p := ⟨b, off + k * 2, none⟩) hbb).trans (hc k hlt).1
      obtain ⟨a, ha⟩ : ∃ a, a = ea old k := ⟨_, rfl⟩
      rw [← ha] at d1
      obtain ⟨v, is, f1, f2, _⟩ := find_split new a
      have HSN : Hid (goneD (old.take (k + 1)) new = goneD (old.take k) new ++ if (findD new a).isNone then [a] else []) := by show _ = _; rw [take_snoc_pair hlt, goneD_snoc, ha]
      have HF1 := Lib.hid f1
      have HF2 := Lib.hid f2
      clear hc ha f1 f2
      go_wp2_with fail
      refine (find_any A' _ c' new a v is _ wr rfl (HR'.out.below hb (Nat.le_refl _)) (by omega) HF1.out HF2.out).mono ?_
      rintro e w1 ⟨rfl, rfl⟩
      cases is
      · have HS2 : Hid (goneD (old.take (k + 1)) new = goneD (old.take k) new ++ [a]) := by show _ = _; rw [HSN.out, HF1.out]; rfl
        have HL2 : Hid ((goneD (old.take (k + 1)) new).length = t + 1) := by show _ = _; rw [HS2.out, List.length_append, HT.out]; rfl
        have hln : (goneD (old.take k) new).length < 1000000000000 := by rw [HT.out]; omega
        have hln2 : Hid ((goneD (old.take k) new).length + 1 = t + 1) := by show _ = _; rw [HT.out]
        go_wp2_with (first | (at_builtin; refine wpl_append1 rfl (.tmp 37) (.tmp 43) 22 rfl 3 Try.underlying22 int_info3 w.heap.size _ _ rfl (hown.alloc _) ⟨wr.heap.size, 0, none⟩ 1 a (t + 1) hln2.out rfl (int_one _ _) hln (by simp; omega) ?_; intro A3 c3 w2 hown2 hb2))
        go_roundw
        case rel => exact ⟨k + 1, t + 1, by omega, by go_num, HL2.out, by omega, ⟨A3, c3, rfl, by rw [HS2.out]; exact hown2.out⟩, (hb.alloc hsz _).trans hb2⟩
        case measure => simp [intOf]; omega
      · have HS2 : Hid (goneD (old.take (k + 1)) new = goneD (old.take k) new) := by show _ = _; rw [HSN.out, HF1.out]; simp
        go_wp2
        go_roundw
        case rel => exact ⟨k + 1, t, by omega, by go_num, by rw [HS2.out]; exact HT.out, by omega, ⟨A2, c2, rfl, by rw [HS2.out]; exact hown⟩, hb⟩
        case measure => simp [intOf]; omega
    · have hte : old.take k = old := List.take_of_length_le (by omega)
      rw [hte] at HT hown
      obtain ⟨gn, hgn⟩ : ∃ gn, gn = goneD old new := ⟨_, rfl⟩
      rw [← hgn] at HT hown
      have HGN := Lib.hid hgn
      obtain ⟨w1, hw1⟩ : ∃ w1, w1 = wr := ⟨_, rfl⟩
      have HB1 : Hid (Below w.heap.size w w1) := by rw [hw1]; exact hb
      have HG1 : Hid (Rd w1 w1.heap.size A2 gn) := by rw [hw1]; exact hown.rd
      have hz1 : w.heap.size ≤ w1.heap.size := HB1.out.size
      obtain ⟨e0, he0⟩ : ∃ e0, e0 = enc t := ⟨_, rfl⟩
      obtain ⟨l0, hl0⟩ : ∃ l0, e0.length = l0 := ⟨_, rfl⟩
      have HE0 := Lib.hid he0
      have HL0 := Lib.hid hl0
      clear hte hgn hown hb he0 hl0 hsz
      rw [← hw1]
      clear hw1
      go_wp2_with fail
      refine (varint_any t w1 (by omega) e0 l0 HE0.out HL0.out).mono ?_
      rintro e w2 ⟨A4, c4, rfl, ho4, hb4⟩
      have hup := goneD_up HV.out new
      rw [← HGN.out] at hup
      have HUP := Lib.hid hup
      have hl0b : l0 ≤ 10 := by rw [← HL0.out, HE0.out]; exact enc_len10 (by omega)
      have HB2 := Lib.hid (HB1.out.trans (hb4.mono hz1))
      have HG2 := Lib.hid (HG1.out.below hb4 (Nat.le_refl _))
      have hz2 := hb4.size
      clear hup
      go_wp2_with fail
      go_loopw [9, 10, 11] (fun o la i wr => ∃ (q s : Nat) (L : Int), q ≤ t ∧ i = .int .i64 q ∧ la = .int .i64 L ∧ L = lastI (-1) (gn.take q) ∧ (e0 ++ gapsB (-1) (gn.take q)).length = s ∧ s ≤ 10 + 10 * q ∧ (∃ A5 c5, o = .slice A5 s c5 ∧ OwnU 5 wr w1.heap.size (.slice A5 s c5) (e0 ++ gapsB (-1) (gn.take q))) ∧ Below w1.heap.size w1 wr) (fun _ _ i _ => t - (intOf i).toNat)
      case atStart => exact ⟨0, l0, -1, Nat.zero_le _, rfl, rfl, rfl, by simp [gapsB, HL0.out], by omega, ⟨A4, c4, rfl, by simpa [gapsB] using ho4⟩, hb4⟩
      case round =>
        clear ho4 hb4 hz2
        obtain ⟨q, s, L, hq, rfl, rfl, hL, hs, hsb, ⟨A5, c5, rfl, ho5⟩, hb5⟩ := hrel
        have HS := Lib.hid hs
        have HLL := Lib.hid hL
        have hsz5 := hb5.size
        clear hs hL
        by_cases hqt : q < t
        · have hqg : q < gn.length := by rw [HT.out]; exact hqt
          obtain ⟨b, off, rfl, hbb, hc⟩ := (show ∃ b off, A2 = some ⟨b, off, none⟩ ∧ b < w1.heap.size ∧ ∀ j, j < gn.length → w1.cell? ⟨b, off + j, none⟩ = some (.int .i64 (ix gn j)) from HG1.out (by omega))
          have d1 := (hb5.cell (p := ⟨b, off + q, none⟩) hbb).trans (hc q hqg)
          have hlt2 := last_lt HUP.out.1 (fun x hx => (HUP.out.2 x hx).1) hqg
          have hxb := HUP.out.2 _ (ix_mem hqg)
          obtain ⟨x, hx⟩ : ∃ x, x = ix gn q := ⟨_, rfl⟩
          rw [← hx] at d1 hlt2 hxb
          rw [← HLL.out] at hlt2
          obtain ⟨g, hg⟩ : ∃ g : Nat, x - L - 1 = (g : Int) := ⟨(x - L - 1).toNat, by omega⟩
          have HSN : Hid (e0 ++ gapsB (-1) (gn.take (q + 1)) = e0 ++ gapsB (-1) (gn.take q) ++ enc g) := by
            show _ = _
            rw [take_snoc_ix hqg, gapsB_snoc, ← HLL.out, ← hx, hg, Int.toNat_natCast, List.append_assoc]
          have HLN : Hid (x = lastI (-1) (gn.take (q + 1))) := by show _ = _; rw [take_snoc_ix hqg, lastI_snoc, hx]
          obtain ⟨e1, he1⟩ : ∃ e1, e1 = enc g := ⟨_, rfl⟩
          obtain ⟨l1, hl1⟩ : ∃ l1, e1.length = l1 := ⟨_, rfl⟩
          have hgl : g < 18446744073709551616 := by omega
          have hl1b : l1 ≤ 10 := by rw [← hl1, he1]; exact enc_len10 hgl
          have HE1 := Lib.hid he1
          have HL1 := Lib.hid hl1
          have hqi : (q : Int) < (t : Int) := by omega
          clear hc hx he1 hl1
          go_wp2_with fail
          refine (varint_any g wr hgl e1 l1 HE1.out HL1.out).mono ?_
          rintro e w6 ⟨A6, c6, rfl, ho6, hb6⟩
          have d2 := (hb6.cell (p := ⟨b, off + q, none⟩) (by show b < _; omega)).trans d1
          have ho5' := ownsRow_below ho5 hb6
          have hsz6 := hb6.size
          have hln2 : Hid ((e0 ++ gapsB (-1) (gn.take q)).length + l1 = s + l1) := by show _ = _; rw [HS.out]
          have hln : (e0 ++ gapsB (-1) (gn.take q)).length + l1 < 1000000000000 := by rw [HS.out]; omega
          have hbb2 : Below w1.heap.size w1 w6 := hb5.trans (hb6.mono hsz5)
          have hrd6 := ho6.rd
          have hnc6 := ho6.nilcap
          have hs1 : w1.heap.size ≤ w6.heap.size := by omega
          go_wp2_with (first | (at_builtin; refine wpl_appendsU rfl (.tmp 55) (.tmp 64) 26 rfl 5 Try.underlying26 u8_info w1.heap.size _ _ e1 rfl ho5' A6 l1 c6 _ (s + l1) hln2.out rfl HL1.out hrd6 hnc6 hln hs1 ?_; intro A7 c7 w7 ho7 hg7 hb7; have d3 := (hb7.cell (p := ⟨b, off + q, none⟩) (by show b < _; omega)).trans d2))
          go_roundw
          case rel =>
            refine ⟨q + 1, s + l1, x, by omega, by go_num, rfl, HLN.out, ?_, by omega, ⟨A7, c7, rfl, ?_⟩, hbb2.trans hb7⟩
            · rw [HSN.out, List.length_append, HS.out, ← HE1.out, HL1.out]
            · rw [HSN.out, ← HE1.out]; exact ho7.out
          case measure => simp [intOf]; omega
        · obtain rfl : q = t := by omega
          have htg : gn.take q = gn := List.take_of_length_le (by rw [HT.out]; exact Nat.le_refl _)
          rw [htg] at HS ho5
          obtain ⟨o1, ho1⟩ : ∃ o1, o1 = e0 ++ gapsB (-1) gn := ⟨_, rfl⟩
          rw [← ho1] at HS ho5
          have HO1 := Lib.hid ho1
          have hB3 := HB1.out.trans (hb5.mono hz1)
          obtain ⟨w3, hw3⟩ : ∃ w3, w3 = wr := ⟨_, rfl⟩
          have HB3 : Hid (Below w.heap.size w w3) := by rw [hw3]; exact hB3
          have HO3 : Hid (OwnU 5 w3 w1.heap.size (.slice A5 s c5) o1) := by rw [hw3]; exact ho5
          have HR3 : Hid (RdP w3 w.heap.size A old) := by rw [hw3]; exact hr.below hB3 (Nat.le_refl _)
          have HR3' : Hid (RdP w3 w.heap.size A' new) := by rw [hw3]; exact HR'.out.below hB3 (Nat.le_refl _)
          have hz3 : w1.heap.size ≤ w3.heap.size := by rw [hw3]; exact hsz5
          clear htg ho1 hB3 ho5 hb5 hsz5 HLL
          rw [← hw3]
          clear hw3
          go_wp2
          go_loopw [12, 13, 14, 15] (fun o i _ _ wr => ∃ (k t : Nat), k ≤ new.length ∧ i = .int .i64 k ∧ (setD old (new.take k)).length = t ∧ t ≤ k ∧ (∃ A6 c6, o = .slice A6 t c6 ∧ OwnP wr w3.heap.size (.slice A6 t c6) (setD old (new.take k))) ∧ Below w3.heap.size w3 wr) (fun _ i _ _ _ => new.length - (intOf i).toNat)
          case atStart => exact ⟨0, 0, Nat.zero_le _, rfl, rfl, by omega, ⟨none, 0, rfl, OwnP.nil _ _⟩, Below.refl _ _⟩
          case round =>
            obtain ⟨k, t2, hk2, rfl, ht2, htk2, ⟨A6, c6, rfl, hown6⟩, hb6⟩ := hrel
            have HT2 := Lib.hid ht2
            clear ht2
            have hsz6 := hb6.size
            by_cases hlt2 : k < new.length
            · obtain ⟨b, off, rfl, hbb, hc⟩ := rdp_at HR3'.out (by omega)
              have d1 := (hb6.cell (p := ⟨b, off + k * 2, none⟩) (by show b < _; omega)).trans (hc k hlt2).1
              have d2 := (hb6.cell (p := ⟨b, off + k * 2 + 1, none⟩) (by show b < _; omega)).trans (hc k hlt2).2
              obtain ⟨a, ha⟩ : ∃ a, a = ea new k := ⟨_, rfl⟩
              obtain ⟨u, hu⟩ : ∃ u, u = eb new k := ⟨_, rfl⟩
              rw [← ha] at d1
              rw [← hu] at d2
              obtain ⟨v, is, f1, f2, _⟩ := find_split old a
              have HSN : Hid (setD old (new.take (k + 1)) = setD old (new.take k) ++ if findD old a ≠ some u then [(a, u)] else []) := by show _ = _; rw [take_snoc_pair hlt2, setD_snoc, ha, hu]
              have HF1 := Lib.hid f1
              have HF2 := Lib.hid f2
              have hln : (setD old (new.take k)).length < 1000000000 := by rw [HT2.out]; omega
              have hln2 : Hid ((setD old (new.take k)).length + 1 = t2 + 1) := by show _ = _; rw [HT2.out]
              clear hc ha hu f1 f2
              go_wp2_with fail
              refine (find_any A _ c old a v is _ wr rfl (HR3.out.below hb6 (by omega)) (by omega) HF1.out HF2.out).mono ?_
              rintro e w7 ⟨rfl, rfl⟩
              have hcase : (is = false ∨ (is = true ∧ v ≠ u)) ∨ (is = true ∧ v = u) := by
                cases is
                · exact .inl (.inl rfl)
                · by_cases h : v = u
                  · exact .inr ⟨rfl, h⟩
                  · exact .inl (.inr ⟨rfl, h⟩)
              rcases hcase with hcase | ⟨rfl, rfl⟩
              · have hne : findD old a ≠ some u := by
                  rw [HF1.out]
                  rcases hcase with rfl | ⟨rfl, h⟩
                  · simp
                  · simpa using h
                have HS2 : Hid (setD old (new.take (k + 1)) = setD old (new.take k) ++ [(a, u)]) := by show _ = _; rw [HSN.out, if_pos hne]
                have HL2 : Hid ((setD old (new.take (k + 1))).length = t2 + 1) := by show _ = _; rw [HS2.out, List.length_append, HT2.out]; rfl
                clear hne
                rcases hcase with rfl | ⟨rfl, h⟩
                case' inr => have hvu : (v == u) = false := beq_eq_false_iff_ne.2 h
                case' inr => clear h
                all_goals
                  go_wp2_with (first | (at_builtin; refine wpl_append_pair rfl (.tmp 97) (.tmp 102) rfl w3.heap.size _ _ rfl (OwnP.alloc hown6 _) ⟨wr.heap.size, 0, none⟩ 1 (a, u) (t2 + 1) hln2.out rfl (pair_cells (a, u) _).1 (pair_cells (a, u) _).2 hln (by simp; omega) ?_; intro A7 c7 w8 hown8 hb8))
                  go_roundw
                  case rel => exact ⟨k + 1, t2 + 1, by omega, by go_num, HL2.out, by omega, ⟨A7, c7, rfl, by rw [HS2.out]; exact hown8.out⟩, (hb6.alloc hsz6 _).trans hb8⟩
                  case measure => simp [intOf]; omega
              · have HS2 : Hid (setD old (new.take (k + 1)) = setD old (new.take k)) := by show _ = _; rw [HSN.out, HF1.out]; simp
                go_wp2
                go_roundw
                case rel => exact ⟨k + 1, t2, by omega, by go_num, by rw [HS2.out]; exact HT2.out, by omega, ⟨A6, c6, rfl, by rw [HS2.out]; exact hown6⟩, hb6⟩
                case measure => simp [intOf]; omega
            · have hte : new.take k = new := List.take_of_length_le (by omega)
              rw [hte] at HT2 hown6
              obtain ⟨sn, hsn⟩ : ∃ sn, sn = setD old new := ⟨_, rfl⟩
              rw [← hsn] at HT2 hown6
              have HSN := Lib.hid hsn
              clear hte hsn
              have hsup : (sn.map (·.1)).Pairwise (· < ·) ∧ ∀ p ∈ sn, 0 ≤ p.1 ∧ p.1 ≤ 2147483647 ∧ -9223372036854775808 ≤ p.2 ∧ p.2 ≤ 9223372036854775807 := by
                rw [HSN.out]
                exact ⟨List.pairwise_map.2 (HV'.out.up.filter _), fun p hp => HV'.out.bd p (List.mem_filter.1 hp).1⟩
              have HSUP := Lib.hid hsup
              obtain ⟨w4, hw4⟩ : ∃ w4, w4 = wr := ⟨_, rfl⟩
              have HO4 : Hid (OwnU 5 w4 w1.heap.size (.slice A5 s c5) o1) := by rw [hw4]; exact HO3.out.below hb6
              have HP4 : Hid (OwnP w4 w3.heap.size (.slice A6 t2 c6) sn) := by rw [hw4]; exact hown6
              have HB4 : Hid (Below w.heap.size w w4) := by rw [hw4]; exact HB3.out.trans (hb6.mono (by omega))
              have hz4 : w3.heap.size ≤ w4.heap.size := by rw [hw4]; exact hsz6
              have HR4 : Hid (RdP w4 w.heap.size A old) := by rw [hw4]; exact HR3.out.below hb6 (by omega)
              clear hsup hown6 hb6 hsz6
              rw [← hw4]
              clear hw4
              obtain ⟨e2, he2⟩ : ∃ e2, e2 = enc t2 := ⟨_, rfl⟩
              obtain ⟨l2, hl2⟩ : ∃ l2, e2.length = l2 := ⟨_, rfl⟩
              have hl2b : l2 ≤ 10 := by rw [← hl2, he2]; exact enc_len10 (by omega)
              have HE2 := Lib.hid he2
              have HL2 := Lib.hid hl2
              clear he2 hl2
              go_wp2_with fail
              refine (varint_any t2 w4 (by omega) e2 l2 HE2.out HL2.out).mono ?_
              rintro e w5 ⟨A7, c7, rfl, ho7, hb7⟩
              have hsz7 := hb7.size
              have hrd7 := ho7.rd
              have hnc7 := ho7.nilcap
              have ho4' := HO4.out.below hb7
              have hln2 : Hid (o1.length + l2 = s + l2) := by show _ = _; rw [HS.out]
              have hln : o1.length + l2 < 1000000000000 := by rw [HS.out]; omega
              have hs1 : w1.heap.size ≤ w5.heap.size := by omega
              go_wp2_with (first | (at_builtin; refine wpl_appendsU rfl (.tmp 104) (.tmp 108) 26 rfl 5 Try.underlying26 u8_info w1.heap.size _ _ e2 rfl ho4' A7 l2 c7 _ (s + l2) hln2.out rfl HL2.out hrd7 hnc7 hln hs1 ?_; intro A8 c8 w6 ho8 hg8 hb8))
              have hp6 : OwnP w6 w3.heap.size (.slice A6 t2 c6) sn := OwnP.apartU (by decide) (ownsRow_below HP4.out hb7) ho4' hg8.out
              have hb46 : Below w1.heap.size w4 w6 := (hb7.mono (by omega)).trans hb8
              clear ho7 hb7 hb8 hg8 ho4' hrd7 hnc7
              go_loopw [9, 10, 16, 17, 18] (fun o la i _ _ wr => ∃ (q z : Nat) (L : Int), q ≤ t2 ∧ i = .int .i64 q ∧ la = .int .i64 L ∧ L = lastP (-1) (sn.take q) ∧ (o1 ++ e2 ++ setB old (-1) (sn.take q)).length = z ∧ z ≤ s + l2 + 20 * q ∧ (∃ A9 c9, o = .slice A9 z c9 ∧ OwnU 5 wr w1.heap.size (.slice A9 z c9) (o1 ++ e2 ++ setB old (-1) (sn.take q))) ∧ OwnP wr w3.heap.size (.slice A6 t2 c6) sn ∧ Below w1.heap.size w4 wr) (fun _ _ i _ _ _ => t2 - (intOf i).toNat)
              case atStart => exact ⟨0, s + l2, -1, Nat.zero_le _, rfl, rfl, rfl, by simp [setB, HS.out, HL2.out], by omega, ⟨A8, c8, rfl, by simpa [setB] using ho8.out⟩, hp6, hb46⟩
              case round =>
                clear ho8 hp6 hb46
                obtain ⟨q, z, L, hq, rfl, rfl, hL, hz, hzb, ⟨A9, c9, rfl, ho9⟩, hp9, hb9⟩ := hrel
                have HZ := Lib.hid hz
                have HLL := Lib.hid hL
                have hsz9 := hb9.size
                clear hz hL
                by_cases hqt : q < t2
                · have hqg : q < sn.length := by rw [HT2.out]; exact hqt
                  obtain ⟨b, off, rfl, hbb, hc⟩ := rdp_at hp9.rd (by omega)
                  have HC : Hid (∀ W, OwnP W w3.heap.size (.slice (some ⟨b, off, none⟩) t2 c6) sn → W.cell? ⟨b, off + q * 2, none⟩ = some (.int .i64 (ea sn q)) ∧ W.cell? ⟨b, off + q * 2 + 1, none⟩ = some (.int .i64 (eb sn q))) := fun W h => by
                    obtain ⟨b', off', e', _, hc'⟩ := rdp_at h.rd (by omega)
                    cases e'
                    exact hc' q hqg
                  obtain ⟨a, ha⟩ : ∃ a, a = ea sn q := ⟨_, rfl⟩
                  obtain ⟨u, hu⟩ : ∃ u, u = eb sn q := ⟨_, rfl⟩
                  rw [← ha, ← hu] at HC
                  obtain ⟨d1, d2⟩ := HC.out wr hp9
                  have hlt3 := last_lt HSUP.out.1 (fun x hx => by obtain ⟨p, hp, rfl⟩ := List.mem_map.1 hx; exact (HSUP.out.2 p hp).1) (show q < (sn.map (·.1)).length by rw [List.length_map]; exact hqg)
                  have hix : ix (sn.map (·.1)) q = a := by rw [ha, ix_get (by rw [List.length_map]; exact hqg)]; simp [ea, List.getD, List.getElem?_eq_getElem hqg]
                  have hlp : lastI (-1) ((sn.map (·.1)).take q) = L := by rw [HLL.out]; unfold lastP; rw [List.map_take]
                  rw [hix, hlp] at hlt3
                  have hab := HSUP.out.2 _ (pair_mem hqg)
                  rw [← ha, ← hu] at hab
                  obtain ⟨g, hg⟩ : ∃ g : Nat, a - L - 1 = (g : Int) := ⟨(a - L - 1).toNat, by omega⟩
                  obtain ⟨v, is, f1, f2, f3⟩ := find_split old a
                  obtain ⟨dd, hdd⟩ : ∃ dd, dd = w64 (u - v) := ⟨_, rfl⟩
                  have hdb := w64_bd (u - v)
                  rw [← hdd] at hdb
                  have hwr : IntKind.i64.wrap (u - v) = dd := hdd.symm
                  have hgl : g < 18446744073709551616 := by omega
                  have hzl := zig_lt hdb.1 hdb.2
                  obtain ⟨zz, hzz⟩ : ∃ zz, zz = zig dd := ⟨_, rfl⟩
                  rw [← hzz] at hzl
                  obtain ⟨e3, he3⟩ : ∃ e3, e3 = enc g := ⟨_, rfl⟩
                  obtain ⟨l3, hl3⟩ : ∃ l3, e3.length = l3 := ⟨_, rfl⟩
                  have hl3b : l3 ≤ 10 := by rw [← hl3, he3]; exact enc_len10 hgl
                  obtain ⟨e4, he4⟩ : ∃ e4, e4 = enc zz := ⟨_, rfl⟩
                  obtain ⟨l4, hl4⟩ : ∃ l4, e4.length = l4 := ⟨_, rfl⟩
                  have hl4b : l4 ≤ 10 := by rw [← hl4, he4]; exact enc_len10 hzl
                  have HSN2 : Hid (o1 ++ e2 ++ setB old (-1) (sn.take (q + 1)) = o1 ++ e2 ++ setB old (-1) (sn.take q) ++ e3 ++ e4) := by
                    show _ = _
                    rw [take_snoc_pair hqg, setB_snoc, ← HLL.out, ← ha, ← hu, hg, Int.toNat_natCast, ← f3, ← hdd, ← hzz, ← he3, ← he4]
                    simp only [List.append_assoc]
                  have HLN2 : Hid (a = lastP (-1) (sn.take (q + 1))) := by show _ = _; rw [take_snoc_pair hqg, lastP_snoc, ha]
                  have HZG : Hid (∀ W, Calls Try.prog 36 #[.int .i64 dd] W fun e w' => e = .returned (.int .u64 (zz : Int)) ∧ W = w') := fun W => by rw [hzz]; exact zigr_any dd W hdb.1 hdb.2
                  have HE3 := Lib.hid he3
                  have HL3 := Lib.hid hl3
                  have HE4 := Lib.hid he4
                  have HL4 := Lib.hid hl4
                  have HF1 := Lib.hid f1
                  have HF2 := Lib.hid f2
                  have hqi : (q : Int) < (t2 : Int) := by omega
                  have hroO : Hid (RdP wr w.heap.size A old) := HR4.out.below hb9 (by omega)
                  obtain ⟨pz, hpz⟩ : ∃ pz, pz = o1 ++ e2 ++ setB old (-1) (sn.take q) := ⟨_, rfl⟩
                  rw [← hpz] at HSN2 HZ ho9
                  clear hc ha hu hix hlp hdd hzz he3 hl3 he4 hl4 f1 f2 f3 hpz
                  go_wp2_with fail
                  refine (find_any A _ c old a v is _ wr rfl hroO.out (by omega) HF1.out HF2.out).mono ?_
                  rintro e w7 ⟨rfl, rfl⟩
                  go_wp2_with fail
                  refine (varint_any g wr hgl e3 l3 HE3.out HL3.out).mono ?_
                  rintro e w7 ⟨A10, c10, rfl, ho10, hb10⟩
                  have hsz10 := hb10.size
                  have hrd10 := ho10.rd
                  have hnc10 := ho10.nilcap
                  have ho9' := ho9.below hb10
                  have hp9' := ownsRow_below hp9 hb10
                  have hln2 : Hid (pz.length + l3 = z + l3) := by show _ = _; rw [HZ.out]
                  have hln : pz.length + l3 < 1000000000000 := by rw [HZ.out]; omega
                  have hln4 : Hid ((pz ++ e3).length + l4 = z + l3 + l4) := by show _ = _; rw [List.length_append, HZ.out, HL3.out]
                  have hln3 : (pz ++ e3).length + l4 < 1000000000000 := by rw [List.length_append, HZ.out, HL3.out]; omega
                  have hs2 : w1.heap.size ≤ w7.heap.size := by omega
                  clear ho9 hp9 d1 d2 ho10
                  go_wp2_with (first | (at_builtin; refine wpl_appendsU rfl (.tmp 126) (.tmp 136) 26 rfl 5 Try.underlying26 u8_info w1.heap.size _ _ e3 rfl ho9' A10 l3 c10 _ (z + l3) hln2.out rfl HL3.out hrd10 hnc10 hln hs2 ?_; intro A11 c11 w8 ho11 hg11 hb11; have hp11 := OwnP.apartU (T := 5) (by decide) hp9' ho9' hg11.out; obtain ⟨k1, k2⟩ := HC.out w8 hp11) | fail)
                  refine (HZG.out w8).mono ?_
                  rintro e w9 ⟨rfl, rfl⟩
                  go_wp2_with fail
                  refine (varint_any zz w8 hzl e4 l4 HE4.out HL4.out).mono ?_
                  rintro e w9 ⟨A12, c12, rfl, ho12, hb12⟩
                  have hsz12 := hb12.size
                  have hrd12 := ho12.rd
                  have hnc12 := ho12.nilcap
                  have ho11' := ho11.out.below hb12
                  have hp11' := ownsRow_below hp11 hb12
                  have hsz11 := hb11.size
                  have hs3 : w1.heap.size ≤ w9.heap.size := by omega
                  have hB49 : Below w1.heap.size w4 w9 := (hb9.trans ((hb10.mono (by omega)).trans hb11)).trans (hb12.mono (by omega))
                  clear k1 k2 ho11 hp11 ho12
                  go_wp2_with (first | (at_builtin; refine wpl_appendsU rfl (.tmp 138) (.tmp 147) 26 rfl 5 Try.underlying26 u8_info w1.heap.size _ _ e4 rfl ho11' A12 l4 c12 _ (z + l3 + l4) hln4.out rfl HL4.out hrd12 hnc12 hln3 hs3 ?_; intro A13 c13 w10 ho13 hg13 hb13; have hp13 := OwnP.apartU (T := 5) (by decide) hp11' ho11' hg13.out; obtain ⟨k1, k2⟩ := HC.out w10 hp13) | fail)
                  go_roundw
                  case rel =>
                    refine ⟨q + 1, z + l3 + l4, a, by omega, by go_num, rfl, HLN2.out, ?_, by omega, ⟨A13, c13, rfl, ?_⟩, hp13, hB49.trans hb13⟩
                    · rw [HSN2.out, List.length_append, List.length_append, HZ.out, HL3.out, HL4.out]
                    · rw [HSN2.out]; exact ho13.out
                  case measure => simp [intOf]; omega
                · obtain rfl : q = t2 := by omega
                  have htg : sn.take q = sn := List.take_of_length_le (by rw [HT2.out]; exact Nat.le_refl _)
                  rw [htg] at HZ ho9
                  have hov : out = o1 ++ e2 ++ setB old (-1) sn := by
                    rw [HO.out, HO1.out, HE0.out, HE2.out]; unfold difD
                    rw [← HGN.out, ← HSN.out, HT.out, HT2.out]
                  have hmz : m = z := by rw [← HM.out, hov, HZ.out]
                  subst hmz
                  have HOV := Lib.hid hov
                  clear htg hov
                  go_wp2
                  go_ret
                  exact ⟨A9, c9, rfl, by rw [HOV.out]; exact ho9.lower hz1, HB4.out.trans (hb9.mono hz1)⟩

end Go.Proofs.Ytfnoeolngdhjfaa
