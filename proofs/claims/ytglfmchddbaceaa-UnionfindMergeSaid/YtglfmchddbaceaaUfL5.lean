/-
  Package unionfind: the law UnionfindMerge, walked.
-/
import Derived.Test.YtglfmchddbaceaaUfP3
import Derived.Test.YtglfmchddbaceaaUfP2
import Derived.Test.YtglfmchddbaceaaUfL3
namespace Go.Proofs.Ytglfmchddbaceaa
set_option linter.unusedVariables false
set_option linter.unusedSimpArgs false
open Go.RowKit

theorem gx_none {gs : List (List Int)} {i : Nat} (h : ¬ i < gs.length) : gx gs i = [] := by
  unfold gx List.getD; rw [List.getElem?_eq_none (Nat.le_of_not_lt h)]; rfl
theorem OwnP.lit (w : World) (B : Nat) (hB : B ≤ w.heap.size) : OwnP (w.alloc (.cells #[] 32)) B (.slice (some ⟨w.heap.size, 0, none⟩) 0 0) [] :=
  ⟨by simp [flat], .inr ⟨w.heap.size, 0, #[], rfl, hB, heap_alloc_new w _, Nat.le_refl _, by decide, rfl, rfl⟩⟩
theorem lost_snoc {gs hs : List (List Int)} {i : Nat} (h : i < gs.length) : lost (gs.take (i + 1)) hs = lost (gs.take i) hs ++ if gx gs i ∈ hs then [] else [gx gs i] := by
  unfold lost
  rw [List.take_succ_eq_append_getElem h, List.filter_append]
  congr 1
  have e : gx gs i = gs[i] := by simp [gx, List.getD, List.getElem?_eq_getElem h]
  rw [← e]
  by_cases hc : gx gs i ∈ hs
  · rw [if_pos hc, List.filter_eq_nil_iff.2 (fun g hg => by rw [List.mem_singleton] at hg; subst hg; simpa using hc)]
  · rw [if_neg hc, List.filter_eq_self.2 (fun g hg => by rw [List.mem_singleton] at hg; subst hg; simpa using hc)]

set_option maxRecDepth 4000 in
set_option maxHeartbeats 4000000 in
theorem merge_walk (n : Int) (A : Option Addr) (len c : Nat) (xs : List Int) (x0 y0 : Int) (w : World) (hl : xs.length = len) (hr : Rd w w.heap.size A xs) (hx : ∀ x ∈ xs, -9223372036854775808 ≤ x ∧ x ≤ 9223372036854775807) (hm : len ≤ maxLen) (h1 : -9223372036854775808 ≤ n) (h2 : n ≤ 9223372036854775807) (h3 : -9223372036854775808 ≤ x0) (h4 : x0 ≤ 9223372036854775807) (h5 : -9223372036854775808 ≤ y0) (h6 : y0 ≤ 9223372036854775807) :
    Calls Try.prog 6 #[.int .i64 n, .slice A len c, .int .i64 x0, .int .i64 y0] w fun e w' => e = .returned (.bool true) ∧ Below w.heap.size w w' := by
  have ha1 := around_lo (n := n) (m := 15) (by omega)
  have ha2 := around_hi (n := n) (m := 15) (by omega)
  obtain ⟨k, hk⟩ : ∃ k : Nat, (k : Int) = around n 15 := ⟨(around n 15).toNat, by omega⟩
  rw [← hk] at ha1 ha2
  have hk15 : k < 15 := by omega
  obtain ⟨es, hes⟩ : ∃ es, es = mkEdges xs := ⟨_, rfl⟩
  obtain ⟨m, hm2⟩ : ∃ m, es.length = m := ⟨_, rfl⟩
  have hm30 : m ≤ 30 := by rw [← hm2, hes]; exact mkEdges_len xs
  obtain ⟨x, hxx⟩ : ∃ x, x = around x0 15 := ⟨_, rfl⟩
  obtain ⟨y, hyy⟩ : ∃ y, y = around y0 15 := ⟨_, rfl⟩
  have HXA : Hid (∀ ww, Calls Try.prog 17 #[.int .i64 x0, .int .i64 15] ww fun e w' => e = .returned (.int .i64 x) ∧ ww = w') := fun ww => by rw [hxx]; exact around_any _ _ ww h3 h4 (by omega) (by omega)
  have HYA : Hid (∀ ww, Calls Try.prog 17 #[.int .i64 y0, .int .i64 15] ww fun e w' => e = .returned (.int .i64 y) ∧ ww = w') := fun ww => by rw [hyy]; exact around_any _ _ ww h5 h6 (by omega) (by omega)
  obtain ⟨gs, hgs⟩ : ∃ gs, gs = groups (runE k es) k := ⟨_, rfl⟩
  obtain ⟨hs, hhs⟩ : ∃ hs, hs = groups (runE k (es ++ [(x, y)])) k := ⟨_, rfl⟩
  have hmo : MergeOk gs hs x y := by rw [hgs, hhs, runE_snoc]; exact merge_ok (RtOk.run k es) (x, y)
  obtain ⟨j, hj⟩ : ∃ j, gs.length = j := ⟨_, rfl⟩
  obtain ⟨j', hj'⟩ : ∃ j', hs.length = j' := ⟨_, rfl⟩
  have hj15 : j ≤ 15 := by rw [← hj, hgs]; have := groups_len_le (runE k es) k; omega
  have hj15' : j' ≤ 15 := by rw [← hj', hhs]; have := groups_len_le (runE k (es ++ [(x, y)])) k; omega
  have hin : ∀ i, (gx gs i).length ≤ 15 := fun i => by
    by_cases hi : i < gs.length
    · have := gx_mem hi; rw [hgs] at this; have := groups_inner _ _ _ this; rw [hgs]; omega
    · rw [gx_none hi]; exact Nat.zero_le _
  have hin' : ∀ i, (gx hs i).length ≤ 15 := fun i => by
    by_cases hi : i < hs.length
    · have := gx_mem hi; rw [hhs] at this; have := groups_inner _ _ _ this; rw [hhs]; omega
    · rw [gx_none hi]; exact Nat.zero_le _
  have HS := Lib.hid (size_any n w h1 h2 k hk)
  have HED := Lib.hid (edges_any A len c xs w hl hr hx hm m es hes hm2)
  have HM := Lib.hid hm2
  have HGS := Lib.hid hgs
  have HHS := Lib.hid hhs
  have HMO := Lib.hid hmo
  have HJ := Lib.hid hj
  have HJ' := Lib.hid hj'
  clear hl hx hm hes hm2 hgs hhs hmo hj hj' hk ha1 ha2 hr h3 h4 h5 h6 hxx hyy
  go_enter Try.func6, Try.ntmps6
  go_wp2_with fail
  refine HS.out.mono ?_
  rintro e w1 ⟨rfl, rfl⟩
  go_wp2_with fail
  refine HED.out.mono ?_
  rintro e w2 ⟨A2, c2, rfl, ho2, hnc2, hb2⟩
  have HR2 := Lib.hid ho2.rd
  have HNC2 := Lib.hid hnc2
  have hsz2 := hb2.size
  clear ho2 hnc2
  go_wp2_with fail
  refine (HXA.out w2).mono ?_
  rintro e w3 ⟨rfl, rfl⟩
  go_wp2_with fail
  refine (HYA.out w2).mono ?_
  rintro e w3 ⟨rfl, rfl⟩
  go_wp2_with fail
  refine (islands_any k A2 m c2 es w2 HM.out HR2.out (by omega) (by omega) j gs HGS.out HJ.out).mono ?_
  rintro e w3 ⟨A3, c3, rfl, ho3, hb3⟩
  have hsz3 := hb3.size
  have HR3 := Lib.hid ho3.rd
  have HB3 := Lib.hid (hb2.trans (hb3.mono hsz2))
  have HP3 := Lib.hid (HR2.out.below hb3 (Nat.le_refl _) |>.more hsz3)
  clear ho3 hb3 hb2
  have hsa : w3.heap.size ≤ (w3.alloc (.cells #[] 32)).heap.size := by simp
  have HPA := Lib.hid (HP3.out.below ((Below.refl w3.heap.size w3).alloc (Nat.le_refl _) (.cells #[] 32)) (Nat.le_refl _))
  have hln : ([] : List (Int × Int)).length + m < 1000000000 := by simp; omega
  have hln2 : ([] : List (Int × Int)).length + m = m := by simp
  have HL1 : Hid (es.length + 1 = m + 1) := by show _ = _; rw [HM.out]
  have hes9 : es.length < 1000000000 := by rw [HM.out]; omega
  go_wp2_with (first
    | (at_builtin; refine wpl_append_pairs rfl (.tmp 31) (.tmp 32) rfl w3.heap.size _ [] es rfl (OwnP.lit w3 _ (Nat.le_refl _)) A2 m c2 _ m hln2 rfl HM.out HPA.out HNC2.out hln hsa ?_; intro A4 c4 w4 ho4 hb4; have hz4 := hb4.size)
    | (at_builtin; refine wpl_append_pair rfl (.tmp 33) (.tmp 37) rfl w3.heap.size _ es rfl (OwnP.alloc ho4.out _) ⟨w4.heap.size, 0, none⟩ 1 (x, y) (m + 1) HL1.out rfl (pair_cells (x, y) _).1 (pair_cells (x, y) _).2 hes9 (by simp; omega) ?_; intro A5 c5 w5 ho5 hb5)
    | fail)
  have hb35 := (((Below.refl w3.heap.size w3).alloc (Nat.le_refl _) (.cells #[] 32)).trans hb4 |>.alloc (by simp at hz4; omega) (.cells #[.int .i64 x, .int .i64 y] 32)).trans hb5
  have hsz5 := hb35.size
  have HB5 := Lib.hid (HB3.out.trans (hb35.mono (by omega)))
  have HR5 := Lib.hid ho5.out.rd
  have HG5 := Lib.hid (HR3.out.below hb35 (Nat.le_refl _) |>.more hsz5)
  have HLE : Hid ((es ++ [(x, y)]).length = m + 1) := by show _ = _; rw [List.length_append, HM.out]; rfl
  clear ho4 ho5 hb4 hb5 hb35
  refine (islands_any k A5 (m + 1) c5 (es ++ [(x, y)]) w5 HLE.out HR5.out (by omega) (by omega) j' hs HHS.out HJ'.out).mono ?_
  rintro e w6 ⟨A6, c6, rfl, ho6, hb6⟩
  have hsz6 := hb6.size
  have HB6 := Lib.hid (HB5.out.trans (hb6.mono (by omega)))
  have HRb := Lib.hid ho6.rd
  have HRa := Lib.hid (HG5.out.below hb6 (Nat.le_refl _) |>.more hsz6)
  have hw6 : w.heap.size ≤ w6.heap.size := by omega
  clear ho6 hb6
  go_wp2_with fail
  go_loopw [15, 16, 17, 18] (fun jn i _ _ wr => ∃ q J : Nat, q ≤ j ∧ i = .int .i64 q ∧ jn = .int .i64 (J : Int) ∧ (lost (gs.take q) hs).length = J ∧ J ≤ q ∧ Below w6.heap.size w6 wr) (fun _ i _ _ _ => j - (intOf i).toNat)
  case atStart => exact ⟨0, 0, Nat.zero_le _, rfl, rfl, rfl, Nat.le_refl _, Below.refl _ _⟩
  case round =>
    obtain ⟨q, J, hq, rfl, rfl, hJ, hJq, hb⟩ := hrel
    have HJJ := Lib.hid hJ
    clear hJ
    by_cases hqj : q < j
    · have hqg : q < gs.length := by rw [HJ.out]; exact hqj
      obtain ⟨b, off, rfl, hbb, hc⟩ := RdM.at HRa.out (by omega)
      obtain ⟨A7, c7, cq, rq⟩ := hc q hqg
      have hl7 := hin q
      obtain ⟨l7, hl7e⟩ : ∃ l7, l7 = (gx gs q).length := ⟨_, rfl⟩
      rw [← hl7e] at cq hl7
      have HL7 := Lib.hid hl7e.symm
      have HRQ := Lib.hid rq
      have HCQ := Lib.hid cq
      have hqi : (q : Int) < (j : Int) := by omega
      clear hc cq rq hl7e
      go_wp2
      go_loopw [17, 18] (fun fv i wr => ∃ (p : Nat) (f : Bool), p ≤ j' ∧ i = .int .i64 p ∧ fv = .bool f ∧ decide (gx gs q ∈ hs.take p) = f ∧ Below w6.heap.size w6 wr) (fun _ i _ => j' - (intOf i).toNat)
      case atStart => exact ⟨0, false, Nat.zero_le _, rfl, rfl, by simp, hb⟩
      case round =>
        clear hb
        obtain ⟨p, f, hp, rfl, rfl, hf, hb⟩ := hrel
        have HF := Lib.hid hf
        clear hf
        have cq := (hb.cell (p := ⟨b, off + q, none⟩) hbb).trans HCQ.out
        by_cases hpj : p < j'
        · have hpg : p < hs.length := by rw [HJ'.out]; exact hpj
          have hmem : ∀ v, decide (gx gs q = gx hs p) = v → decide (gx gs q ∈ hs.take (p + 1)) = (f || v) := fun v hv => by
            rw [List.take_succ_eq_append_getElem hpg, ← hv, ← HF.out]
            have e : gx hs p = hs[p] := by simp [gx, List.getD, List.getElem?_eq_getElem hpg]
            rw [← e]
            rw [Bool.eq_iff_iff]
            simp [List.mem_append]
          have HMEM := Lib.hid hmem
          clear hmem
          cases f
          · obtain ⟨b', off', rfl, hbb', hc'⟩ := RdM.at HRb.out (by omega)
            obtain ⟨A8, c8, cp, rp⟩ := hc' p hpg
            have hl8 := hin' p
            obtain ⟨l8, hl8e⟩ : ∃ l8, l8 = (gx hs p).length := ⟨_, rfl⟩
            rw [← hl8e] at cp hl8
            have HL8 := Lib.hid hl8e.symm
            have HRP := Lib.hid rp
            have hpi : (p : Int) < (j' : Int) := by omega
            have hsz := hb.size
            have mkS : ∀ W, EqS w6 W → W.cell? ⟨b, off + q, none⟩ = some (.slice A7 l7 c7) ∧ W.cell? ⟨b', off' + p, none⟩ = some (.slice A8 l8 c8) ∧ EqS w6 W := fun W h => ⟨(Below.cell (p := ⟨b, off + q, none⟩) h hbb).trans HCQ.out, (Below.cell (p := ⟨b', off' + p, none⟩) h hbb').trans cp, h⟩
            have MKS := Lib.hid mkS
            have hS0 := mkS wr hb
            clear hc' cp rp hl8e mkS cq
            by_cases heq : gx gs q = gx hs p
            · have HD := Lib.hid (decide_eq_true heq)
              have HV := Lib.hid (HMEM.out true (decide_eq_true heq))
              clear heq
              go_wp2
              go_region_held3 (fun W => W.cell? ⟨b, off + q, none⟩ = some (.slice A7 l7 c7) ∧ W.cell? ⟨b', off' + p, none⟩ = some (.slice A8 l8 c8) ∧ EqS w6 W) (first | exact hS0 | exact MKS.out _ (Below.drew hb) | assumption) (first | (go_at_call 19; rename (_ ∧ _ ∧ EqS w6 _) => hSS; refine (sameInts_any A7 l7 c7 _ A8 l8 c8 _ true _ _ _ HL7.out HL8.out (HRQ.out.below hSS.2.2 (Nat.le_refl _)) (HRP.out.below hSS.2.2 (Nat.le_refl _)) (by omega) (by omega) HD.out).mono ?_; rintro e w7 ⟨rfl, hb7⟩; have hS1 := MKS.out _ (Below.trans hSS.2.2 (hb7.mono (Below.size hSS.2.2)))))
              rename (_ ∧ _ ∧ EqS w6 _) => hE
              go_wp2
              go_roundw
              case rel => exact ⟨p + 1, true, by omega, by go_num, rfl, HV.out, hE.2.2⟩
              case measure => simp [intOf]; omega
            · have HD := Lib.hid (decide_eq_false heq)
              have HV := Lib.hid (HMEM.out false (decide_eq_false heq))
              clear heq
              go_wp2
              go_region_held3 (fun W => W.cell? ⟨b, off + q, none⟩ = some (.slice A7 l7 c7) ∧ W.cell? ⟨b', off' + p, none⟩ = some (.slice A8 l8 c8) ∧ EqS w6 W) (first | exact hS0 | exact MKS.out _ (Below.drew hb) | assumption) (first | (go_at_call 19; rename (_ ∧ _ ∧ EqS w6 _) => hSS; refine (sameInts_any A7 l7 c7 _ A8 l8 c8 _ false _ _ _ HL7.out HL8.out (HRQ.out.below hSS.2.2 (Nat.le_refl _)) (HRP.out.below hSS.2.2 (Nat.le_refl _)) (by omega) (by omega) HD.out).mono ?_; rintro e w7 ⟨rfl, hb7⟩; have hS1 := MKS.out _ (Below.trans hSS.2.2 (hb7.mono (Below.size hSS.2.2)))))
              rename (_ ∧ _ ∧ EqS w6 _) => hE
              go_wp2
              go_roundw
              case rel => exact ⟨p + 1, false, by omega, by go_num, rfl, HV.out, hE.2.2⟩
              case measure => simp [intOf]; omega
          · have HV : Hid (decide (gx gs q ∈ hs.take (p + 1)) = true) := HMEM.out _ rfl
            go_wp2
            go_quiet (fail)
            go_wp2
            go_roundw
            case rel => exact ⟨p + 1, true, by omega, by go_num, rfl, HV.out, below_drewN hb _⟩
            case measure => simp [intOf]; omega
        · obtain rfl : p = j' := by omega
          have htk : hs.take p = hs := List.take_of_length_le (by rw [HJ'.out]; exact Nat.le_refl _)
          rw [htk] at HF
          clear htk
          cases f
          · have hnm : gx gs q ∉ hs := of_decide_eq_false HF.out
            have hxy := HMO.out.one _ (gx_mem hqg) hnm
            have HJ2 : Hid ((lost (gs.take (q + 1)) hs).length = J + 1) := by show _ = _; rw [lost_snoc hqg, if_neg hnm, List.length_append, HJJ.out]; rfl
            have hsz := hb.size
            have mkS : ∀ W, EqS w6 W → W.cell? ⟨b, off + q, none⟩ = some (.slice A7 l7 c7) ∧ EqS w6 W := fun W h => ⟨(Below.cell (p := ⟨b, off + q, none⟩) h hbb).trans HCQ.out, h⟩
            have MKS := Lib.hid mkS
            have hS0 := mkS wr hb
            clear mkS cq hnm
            obtain ⟨F, hF⟩ : ∃ F : Int → Bool, F = fun z => decide (z ∈ gx gs q) := ⟨_, rfl⟩
            have HCF : Hid (∀ z W, EqS w6 W → Calls Try.prog 18 #[.slice A7 l7 c7, .int .i64 z] W fun e w' => e = .returned (.bool (F z)) ∧ W = w') := fun z W hW =>
              hasInt_any A7 l7 c7 _ z (F z) _ W HL7.out (HRQ.out.below hW (Nat.le_refl _)) (by omega) (by rw [hF])
            have hFF : (F x = true ∧ F y = false) ∨ (F x = false ∧ F y = true) := by
              rw [hF]
              by_cases hxm : x ∈ gx gs q
              · exact .inl ⟨decide_eq_true hxm, decide_eq_false (hxy.1 hxm)⟩
              · exact .inr ⟨decide_eq_false hxm, decide_eq_true (Classical.not_not.1 (fun hy => hxm (hxy.2 hy)))⟩
            clear hF hxy
            rcases hFF with ⟨hFx, hFy⟩ | ⟨hFx, hFy⟩
            all_goals
              go_wp2
              go_region_held3 (fun W => W.cell? ⟨b, off + q, none⟩ = some (.slice A7 l7 c7) ∧ EqS w6 W) (first | exact hS0 | exact MKS.out _ (Below.drew hb) | assumption) (first | (go_at_call 18; rename (_ ∧ EqS w6 _) => hSS; refine (HCF.out _ _ hSS.2).mono ?_; rintro e w7 ⟨rfl, rfl⟩))
              all_goals
                rename (_ ∧ EqS w6 _) => hE
                go_wp2
                go_roundw
                case rel => exact ⟨q + 1, J + 1, by omega, by go_num, by go_num, HJ2.out, by omega, hE.2⟩
                case measure => simp [intOf]; omega
          · have hmm : gx gs q ∈ hs := of_decide_eq_true HF.out
            have HJ2 : Hid ((lost (gs.take (q + 1)) hs).length = J) := by show _ = _; rw [lost_snoc hqg, if_pos hmm, List.append_nil, HJJ.out]
            clear hmm
            go_wp2
            go_roundw
            case rel => exact ⟨q + 1, J, by omega, by go_num, rfl, HJ2.out, by omega, hb⟩
            case measure => simp [intOf]; omega
    · obtain rfl : q = j := by omega
      have htk : gs.take q = gs := List.take_of_length_le (by rw [HJ.out]; exact Nat.le_refl _)
      rw [htk] at HJJ
      have hnum := HMO.out.num
      rw [HJJ.out, HJ.out, HJ'.out] at hnum
      have HB := Lib.hid (HB6.out.trans (hb.mono hw6))
      have hszb := HB.out.size
      clear htk hb
      rcases hnum with ⟨rfl, rfl⟩ | ⟨rfl, hjj⟩
      · go_wp2_with fail
        refine (lives_any _).mono ?_
        rintro e w8 ⟨rfl, hb8⟩
        have HB8 := Lib.hid (HB.out.trans (hb8.mono hszb))
        clear hb8
        go_wp2
        go_ret
        exact ⟨rfl, HB8.out⟩
      · have hw1 : IntKind.i64.wrap ((q : Int) - 1) = (j' : Int) := by rw [IntWalk.i64_in _ (by omega)]; omega
        go_wp2_with fail
        refine (lives_any _).mono ?_
        rintro e w8 ⟨rfl, hb8⟩
        have HB8 := Lib.hid (HB.out.trans (hb8.mono hszb))
        clear hb8
        go_wp2
        go_ret
        exact ⟨rfl, HB8.out⟩

end Go.Proofs.Ytglfmchddbaceaa
