/-
  Package unionfind: the law UnionfindPaths, walked.
-/
import Derived.Test.YtglfmchddbaceaaUfP4
namespace Go.Proofs.Ytglfmchddbaceaa
set_option linter.unusedVariables false
set_option linter.unusedSimpArgs false
open Go.RowKit

theorem rd_cells {w : World} {B : Nat} {A : Option Addr} {zs : List Int} (h : Rd w B A zs) (hp : 0 < zs.length) : ∃ b off, A = some ⟨b, off, none⟩ ∧ b < B ∧ ∀ k, k < zs.length → w.cell? ⟨b, off + k, none⟩ = some (.int .i64 (ix zs k)) := h hp
theorem rdm_at {w : World} {B : Nat} {A : Option Addr} {gs : List (List Int)} (h : RdM w B A gs) (hp : 0 < gs.length) : ∃ b off, A = some ⟨b, off, none⟩ ∧ b < B ∧ ∀ j, j < gs.length → ∃ A' c', w.cell? ⟨b, off + j, none⟩ = some (.slice A' (gx gs j).length c') ∧ Rd w B A' (gx gs j) := h hp
theorem Own.lit1 (w : World) (B : Nat) (hB : B ≤ w.heap.size) (z : Int) : Own 3 (w.alloc (.cells #[.int .i64 z] 3)) B (.slice (some ⟨w.heap.size, 0, none⟩) 1 1) [z] :=
  ⟨by simp, .inr ⟨w.heap.size, 1, #[.int .i64 z], rfl, hB, heap_alloc_new w _, Nat.le_refl _, by decide, rfl, rfl⟩⟩
theorem groups_zero : groups (runE 0 []) 0 = [] := rfl

set_option maxRecDepth 4000 in
set_option maxHeartbeats 8000000 in
theorem paths_walk (n : Int) (A : Option Addr) (len c : Nat) (xs : List Int) (from_ : Int) (w : World) (hl : xs.length = len) (hr : Rd w w.heap.size A xs) (hx : ∀ x ∈ xs, -9223372036854775808 ≤ x ∧ x ≤ 9223372036854775807) (hm : len ≤ maxLen) (h1 : -9223372036854775808 ≤ n) (h2 : n ≤ 9223372036854775807) (h3 : -9223372036854775808 ≤ from_) (h4 : from_ ≤ 9223372036854775807) :
    Calls Try.prog 5 #[.int .i64 n, .slice A len c, .int .i64 from_] w fun e w' => e = .returned (.bool true) ∧ Below w.heap.size w w' := by
  have ha1 := around_lo (n := n) (m := 15) (by omega)
  have ha2 := around_hi (n := n) (m := 15) (by omega)
  obtain ⟨k, hk⟩ : ∃ k : Nat, (k : Int) = around n 15 := ⟨(around n 15).toNat, by omega⟩
  rw [← hk] at ha1 ha2
  have hk15 : k < 15 := by omega
  rcases Nat.eq_zero_or_pos k with hk0 | hk0
  · subst hk0
    have HS := Lib.hid (size_any n w h1 h2 0 hk)
    have HI := Lib.hid (islands_any 0 none 0 0 [] w rfl (fun h => absurd h (by simp)) (by omega) (by omega) 0 [] groups_zero.symm rfl)
    clear hl hr hx hm hk ha1 ha2
    go_enter Try.func5, Try.ntmps5
    go_wp2_with fail
    refine HS.out.mono ?_
    rintro e w1 ⟨rfl, rfl⟩
    go_wp2_with fail
    refine HI.out.mono ?_
    rintro e w2 ⟨A2, c2, rfl, ho, hb⟩
    have hsz := hb.size
    have HB := Lib.hid hb
    clear ho hb
    go_wp2_with fail
    refine (lives_any w2).mono ?_
    rintro e w3 ⟨rfl, hb3⟩
    have HB3 := Lib.hid (HB.out.trans (hb3.mono hsz))
    clear hb3
    go_wp2
    go_ret
    exact ⟨rfl, HB3.out⟩
  · obtain ⟨es, hes⟩ : ∃ es, es = mkEdges xs := ⟨_, rfl⟩
    obtain ⟨m, hm2⟩ : ∃ m, es.length = m := ⟨_, rfl⟩
    have hm30 : m ≤ 30 := by rw [← hm2, hes]; exact mkEdges_len xs
    have hb1 := around_lo (n := from_) (m := (k : Int)) (by omega)
    have hb2 := around_hi (n := from_) (m := (k : Int)) (by omega)
    obtain ⟨s, hs⟩ : ∃ s : Nat, (s : Int) = around from_ (k : Int) := ⟨(around from_ (k : Int)).toNat, by omega⟩
    have hsk : s < k := by omega
    have HCUT : Hid (∀ ww, Calls Try.prog 17 #[.int .i64 from_, .int .i64 (k : Int)] ww fun e w' => e = .returned (.int .i64 (s : Int)) ∧ ww = w') := fun ww => by
      rw [hs]; exact around_any _ _ ww h3 h4 (by omega) (by omega)
    obtain ⟨r, hrr⟩ : ∃ r, r = runE k es := ⟨_, rfl⟩
    have hok : RtOk k r := by rw [hrr]; exact RtOk.run k es
    have hjn : ∀ e ∈ es, Ins k e → r e.1.toNat = r e.2.toNat := by rw [hrr]; exact run_joins k es
    obtain ⟨gs, hgs⟩ : ∃ gs, gs = groups r k := ⟨_, rfl⟩
    have hgs2 : gs = groups (runE k es) k := by rw [hgs, hrr]
    obtain ⟨j, hj⟩ : ∃ j, gs.length = j := ⟨_, rfl⟩
    have hj15 : j ≤ 15 := by rw [← hj, hgs]; have := groups_len_le r k; omega
    have HS := Lib.hid (size_any n w h1 h2 k hk)
    have HED := Lib.hid (edges_any A len c xs w hl hr hx hm m es hes hm2)
    have HM := Lib.hid hm2
    have HR := Lib.hid hrr
    have HOK := Lib.hid hok
    have HJN := Lib.hid hjn
    have HGS := Lib.hid hgs
    have HGS2 := Lib.hid hgs2
    have HJ := Lib.hid hj
    have hkne : decide (k = 0) = false := decide_eq_false (by omega)
    have hkne' : ((k : Int) == 0) = false := beq_eq_false_iff_ne.2 (by omega)
    clear hl hr hx hm hes hm2 hrr hok hjn hgs hgs2 hj hk ha1 ha2 hb1 hb2 hs h3 h4
    go_enter Try.func5, Try.ntmps5
    go_wp2_with fail
    refine HS.out.mono ?_
    rintro e w1 ⟨rfl, rfl⟩
    go_wp2_with fail
    refine HED.out.mono ?_
    rintro e w2 ⟨A2, c2, rfl, ho2, _, hb2⟩
    have HR2 := Lib.hid ho2.rd
    have hsz2 := hb2.size
    clear ho2
    go_wp2_with fail
    refine (HCUT.out w2).mono ?_
    rintro e w3 ⟨rfl, rfl⟩
    go_wp2_with fail
    go_loopw [10, 11, 12, 13, 14] (fun l i _ _ _ wr => ∃ (p t : Nat) (L : List Int), L.length = t ∧ p ≤ t ∧ i = .int .i64 p ∧ Srch es k r s L p 0 0 ∧ (∃ A3 c3, l = .slice A3 t c3 ∧ Own 3 wr w2.heap.size (.slice A3 t c3) L) ∧ Below w2.heap.size w2 wr) (fun _ i _ _ _ _ => k - (intOf i).toNat)
    case atStart => exact ⟨0, 1, [(s : Int)], rfl, by omega, rfl, Srch.start hsk, ⟨_, _, rfl, Own.lit1 w2 _ (Nat.le_refl _) _⟩, (Below.refl _ _).alloc (Nat.le_refl _) _⟩
    case round =>
      obtain ⟨p, t, L, hLt, hp, rfl, hsr, ⟨A3, c3, rfl, ho⟩, hb⟩ := hrel
      have htk : t ≤ k := by rw [← hLt]; exact hsr.rch.len
      by_cases hpt : p < t
      · have HSR := Lib.hid hsr
        have HLT := Lib.hid hLt
        have HO := Lib.hid ho
        clear hsr hLt ho
        go_wp2
        go_loopw [10, 12, 13, 14] (fun l i _ _ wr => ∃ (q t : Nat) (L : List Int), L.length = t ∧ p < t ∧ q ≤ m ∧ i = .int .i64 q ∧ Srch es k r s L p q 0 ∧ (∃ A3 c3, l = .slice A3 t c3 ∧ Own 3 wr w2.heap.size (.slice A3 t c3) L) ∧ Below w2.heap.size w2 wr) (fun _ i _ _ _ => m - (intOf i).toNat)
        case atStart => exact ⟨0, t, L, HLT.out, hpt, Nat.zero_le _, rfl, HSR.out, ⟨A3, c3, rfl, HO.out⟩, hb⟩
        case round =>
          clear hb HSR HLT HO htk hp hpt
          obtain ⟨q, t, L, hLt, hpt, hq, rfl, hsr, ⟨A3, c3, rfl, ho⟩, hb⟩ := hrel
          have htk : t ≤ k := by rw [← hLt]; exact hsr.rch.len
          have HSR := Lib.hid hsr
          have HLT := Lib.hid hLt
          have HO := Lib.hid ho
          clear hsr hLt ho
          by_cases hqm : q < m
          · go_wp2
            go_loopw [10, 13, 14] (fun l i _ wr => ∃ (d t : Nat) (L : List Int), L.length = t ∧ p < t ∧ d ≤ 2 ∧ i = .int .i64 d ∧ Srch es k r s L p q d ∧ (∃ A3 c3, l = .slice A3 t c3 ∧ Own 3 wr w2.heap.size (.slice A3 t c3) L) ∧ Below w2.heap.size w2 wr) (fun _ i _ _ => 2 - (intOf i).toNat)
            case atStart => exact ⟨0, t, L, HLT.out, hpt, Nat.zero_le _, rfl, HSR.out, ⟨A3, c3, rfl, HO.out⟩, hb⟩
            case round =>
              clear hb HSR HLT HO htk hpt
              obtain ⟨d, t, L, hLt, hpt, hd, rfl, hsr, ⟨A3, c3, rfl, ho⟩, hb⟩ := hrel
              have htk : t ≤ k := by rw [← hLt]; exact hsr.rch.len
              have HSR := Lib.hid hsr
              have HLT := Lib.hid hLt
              have HO := Lib.hid ho
              have hqe : q < es.length := by rw [HM.out]; exact hqm
              clear hsr hLt ho
              by_cases hd2 : d < 2
              · obtain ⟨b, off, rfl, hbb, hc⟩ := HR2.out (by omega)
                have ca := (hb.cell (p := ⟨b, off + q * 2, none⟩) hbb).trans (hc q hqe).1
                have cb := (hb.cell (p := ⟨b, off + q * 2 + 1, none⟩) hbb).trans (hc q hqe).2
                obtain ⟨b3, off3, rfl, hb3, hc3⟩ := rd_cells HO.out.rd (by rw [HLT.out]; omega)
                have cp := hc3 p (by rw [HLT.out]; exact hpt)
                obtain ⟨y, hy1, hy2, hy3⟩ := HSR.out.rch.el _ (ix_mem (show p < L.length by rw [HLT.out]; exact hpt))
                rw [hy1] at cp
                have HY := Lib.hid hy1
                have hjq := HJN.out _ (pair_mem hqe)
                obtain ⟨a, ha⟩ : ∃ a, a = ea es q := ⟨_, rfl⟩
                obtain ⟨e, he⟩ : ∃ e, e = eb es q := ⟨_, rfl⟩
                rw [← ha, ← he] at hjq
                rw [← ha] at ca
                rw [← he] at cb
                have HA := Lib.hid ha
                have HE := Lib.hid he
                have HQ := Lib.hid hjq
                have hpi : (p : Int) < (t : Int) := by omega
                have hqi : (q : Int) < (m : Int) := by omega
                clear hc hc3 hy1 ha he hjq
                rcases (by omega : d = 0 ∨ d = 1) with rfl | rfl
                · have hcl : ∀ L', (a = (y : Int) → 0 ≤ e → e < k → e ∈ L') → Cl es L' k (ix L p) q 0 := fun L' h => by unfold Cl; rw [if_pos rfl, HY.out, ← HA.out, ← HE.out]; exact h
                  have HCL := Lib.hid hcl
                  clear hcl
                  by_cases huy : a = (y : Int)
                  · have hcl2 := HCL.out
                    subst huy
                    by_cases hx0 : 0 ≤ e
                    · by_cases hxk : e < (k : Int)
                      · obtain ⟨v, rfl⟩ : ∃ v : Nat, e = (v : Int) := ⟨e.toNat, by omega⟩
                        have hvr : r v = r s := by rw [← hy3]; have hq2 := HQ.out (⟨by omega, by omega, by omega, by omega⟩); simp only [Int.toNat_natCast] at hq2; exact hq2.symm
                        by_cases hxm : (v : Int) ∈ L
                        · have HCN : Hid (Srch es k r s L p q (0 + 1)) := HSR.out.stay (hcl2 L (fun _ _ _ => hxm))
                          have HD := Lib.hid (decide_eq_true hxm)
                          have HH : Hid (∀ N, Calls Try.prog 18 #[.slice (some ⟨b3, off3, none⟩) t c3, .int .i64 (v : Int)] (wr.drewN N) fun e w'' => e = .returned (.bool true) ∧ ∃ m, w'' = wr.drewN m) := fun N =>
                            (hasInt_any _ t c3 L (v : Int) true _ _ HLT.out (HO.out.rd.drewN N) (by omega) HD.out).mono (fun _ _ h => ⟨h.1, N, h.2.symm⟩)
                          clear hcl2 hxm hvr
                          go_wp2
                          go_quiet (first | (go_at_call 18; exact HH.out _))
                          go_wp2
                          go_roundw
                          case rel => exact ⟨0 + 1, t, L, HLT.out, hpt, by omega, by go_num, HCN.out, ⟨_, _, rfl, HO.out.below (below_drewN (Below.refl _ _) _)⟩, below_drewN hb _⟩
                          case measure => simp [intOf]
                        · have HCN : Hid (Srch es k r s (L ++ [(v : Int)]) p q (0 + 1)) := HSR.out.grow (by rw [HLT.out]; exact hpt) (by omega) hvr hxm (hcl2 _ (fun _ _ _ => List.mem_append_right _ (List.mem_singleton.2 rfl)))
                          have HD := Lib.hid (decide_eq_false hxm)
                          have HH : Hid (∀ N, Calls Try.prog 18 #[.slice (some ⟨b3, off3, none⟩) t c3, .int .i64 (v : Int)] (wr.drewN N) fun e w'' => e = .returned (.bool false) ∧ ∃ m, w'' = wr.drewN m) := fun N =>
                            (hasInt_any _ t c3 L (v : Int) false _ _ HLT.out (HO.out.rd.drewN N) (by omega) HD.out).mono (fun _ _ h => ⟨h.1, N, h.2.symm⟩)
                          have hln : L.length < 1000000000000 := by rw [HLT.out]; omega
                          have hln2 : Hid (L.length + 1 = t + 1) := by show _ = _; rw [HLT.out]
                          have hln3 : Hid ((L ++ [(v : Int)]).length = t + 1) := by show _ = _; rw [List.length_append, HLT.out]; rfl
                          have hsz := hb.size
                          clear hcl2 hxm hvr
                          go_wp2
                          go_quiet (first | (go_at_call 18; exact HH.out _))
                          have hod := Lib.hid (HO.out.below (below_drewN (Below.refl wr.heap.size wr) nq))
                          go_wp2_with (at_builtin; refine wpl_append1 rfl (.tmp 84) (.tmp 86) 22 rfl 3 Try.underlying22 int_info3 w2.heap.size _ _ rfl (hod.out.alloc _) ⟨wr.heap.size, 0, none⟩ 1 (v : Int) (t + 1) hln2.out rfl (int_one _ _) hln (by simp; omega) ?_; intro A4 c4 w4 ho4 hb4)
                          go_roundw
                          case rel => exact ⟨0 + 1, t + 1, _, hln3.out, by omega, by omega, by go_num, HCN.out, ⟨_, _, rfl, ho4.out⟩, ((below_drewN hb _).alloc (by simp; omega) _).trans hb4⟩
                          case measure => simp [intOf]
                      · have HCN : Hid (Srch es k r s L p q (0 + 1)) := HSR.out.stay (hcl2 L (fun _ _ h => absurd h hxk))
                        have hd0 : decide (e < (k : Int)) = false := decide_eq_false hxk
                        clear hxk
                        clear hcl2
                        go_wp2
                        go_quiet (fail)
                        go_wp2
                        go_roundw
                        case rel => exact ⟨0 + 1, t, L, HLT.out, hpt, by omega, by go_num, HCN.out, ⟨_, _, rfl, HO.out.below (below_drewN (Below.refl _ _) _)⟩, below_drewN hb _⟩
                        case measure => simp [intOf]
                    · have HCN : Hid (Srch es k r s L p q (0 + 1)) := HSR.out.stay (hcl2 L (fun _ h _ => absurd h hx0))
                      have hd0 : decide (0 ≤ e) = false := decide_eq_false hx0
                      clear hx0
                      clear hcl2
                      go_wp2
                      go_quiet (fail)
                      go_wp2
                      go_roundw
                      case rel => exact ⟨0 + 1, t, L, HLT.out, hpt, by omega, by go_num, HCN.out, ⟨_, _, rfl, HO.out.below (below_drewN (Below.refl _ _) _)⟩, below_drewN hb _⟩
                      case measure => simp [intOf]
                  · have HCN : Hid (Srch es k r s L p q (0 + 1)) := HSR.out.stay (HCL.out L (fun h => absurd h huy))
                    have hne : (a == (y : Int)) = false := beq_eq_false_iff_ne.2 huy
                    clear huy
                    go_wp2
                    go_quiet (fail)
                    go_wp2
                    go_roundw
                    case rel => exact ⟨0 + 1, t, L, HLT.out, hpt, by omega, by go_num, HCN.out, ⟨_, _, rfl, HO.out.below (below_drewN (Below.refl _ _) _)⟩, below_drewN hb _⟩
                    case measure => simp [intOf]
                · have hcl : ∀ L', (e = (y : Int) → 0 ≤ a → a < k → a ∈ L') → Cl es L' k (ix L p) q 1 := fun L' h => by unfold Cl; rw [if_neg (by omega), HY.out, ← HA.out, ← HE.out]; exact h
                  have HCL := Lib.hid hcl
                  clear hcl
                  by_cases huy : e = (y : Int)
                  · have hcl2 := HCL.out
                    subst huy
                    by_cases hx0 : 0 ≤ a
                    · by_cases hxk : a < (k : Int)
                      · obtain ⟨v, rfl⟩ : ∃ v : Nat, a = (v : Int) := ⟨a.toNat, by omega⟩
                        have hvr : r v = r s := by rw [← hy3]; have hq2 := HQ.out (⟨by omega, by omega, by omega, by omega⟩); simp only [Int.toNat_natCast] at hq2; exact hq2
                        by_cases hxm : (v : Int) ∈ L
                        · have HCN : Hid (Srch es k r s L p q (1 + 1)) := HSR.out.stay (hcl2 L (fun _ _ _ => hxm))
                          have HD := Lib.hid (decide_eq_true hxm)
                          have HH : Hid (∀ N, Calls Try.prog 18 #[.slice (some ⟨b3, off3, none⟩) t c3, .int .i64 (v : Int)] (wr.drewN N) fun e w'' => e = .returned (.bool true) ∧ ∃ m, w'' = wr.drewN m) := fun N =>
                            (hasInt_any _ t c3 L (v : Int) true _ _ HLT.out (HO.out.rd.drewN N) (by omega) HD.out).mono (fun _ _ h => ⟨h.1, N, h.2.symm⟩)
                          clear hcl2 hxm hvr
                          go_wp2
                          go_quiet (first | (go_at_call 18; exact HH.out _))
                          go_wp2
                          go_roundw
                          case rel => exact ⟨1 + 1, t, L, HLT.out, hpt, by omega, by go_num, HCN.out, ⟨_, _, rfl, HO.out.below (below_drewN (Below.refl _ _) _)⟩, below_drewN hb _⟩
                          case measure => simp [intOf]
                        · have HCN : Hid (Srch es k r s (L ++ [(v : Int)]) p q (1 + 1)) := HSR.out.grow (by rw [HLT.out]; exact hpt) (by omega) hvr hxm (hcl2 _ (fun _ _ _ => List.mem_append_right _ (List.mem_singleton.2 rfl)))
                          have HD := Lib.hid (decide_eq_false hxm)
                          have HH : Hid (∀ N, Calls Try.prog 18 #[.slice (some ⟨b3, off3, none⟩) t c3, .int .i64 (v : Int)] (wr.drewN N) fun e w'' => e = .returned (.bool false) ∧ ∃ m, w'' = wr.drewN m) := fun N =>
                            (hasInt_any _ t c3 L (v : Int) false _ _ HLT.out (HO.out.rd.drewN N) (by omega) HD.out).mono (fun _ _ h => ⟨h.1, N, h.2.symm⟩)
                          have hln : L.length < 1000000000000 := by rw [HLT.out]; omega
                          have hln2 : Hid (L.length + 1 = t + 1) := by show _ = _; rw [HLT.out]
                          have hln3 : Hid ((L ++ [(v : Int)]).length = t + 1) := by show _ = _; rw [List.length_append, HLT.out]; rfl
                          have hsz := hb.size
                          clear hcl2 hxm hvr
                          go_wp2
                          go_quiet (first | (go_at_call 18; exact HH.out _))
                          have hod := Lib.hid (HO.out.below (below_drewN (Below.refl wr.heap.size wr) nq))
                          go_wp2_with (at_builtin; refine wpl_append1 rfl (.tmp 84) (.tmp 86) 22 rfl 3 Try.underlying22 int_info3 w2.heap.size _ _ rfl (hod.out.alloc _) ⟨wr.heap.size, 0, none⟩ 1 (v : Int) (t + 1) hln2.out rfl (int_one _ _) hln (by simp; omega) ?_; intro A4 c4 w4 ho4 hb4)
                          go_roundw
                          case rel => exact ⟨1 + 1, t + 1, _, hln3.out, by omega, by omega, by go_num, HCN.out, ⟨_, _, rfl, ho4.out⟩, ((below_drewN hb _).alloc (by simp; omega) _).trans hb4⟩
                          case measure => simp [intOf]
                      · have HCN : Hid (Srch es k r s L p q (1 + 1)) := HSR.out.stay (hcl2 L (fun _ _ h => absurd h hxk))
                        have hd0 : decide (a < (k : Int)) = false := decide_eq_false hxk
                        clear hxk
                        clear hcl2
                        go_wp2
                        go_quiet (fail)
                        go_wp2
                        go_roundw
                        case rel => exact ⟨1 + 1, t, L, HLT.out, hpt, by omega, by go_num, HCN.out, ⟨_, _, rfl, HO.out.below (below_drewN (Below.refl _ _) _)⟩, below_drewN hb _⟩
                        case measure => simp [intOf]
                    · have HCN : Hid (Srch es k r s L p q (1 + 1)) := HSR.out.stay (hcl2 L (fun _ h _ => absurd h hx0))
                      have hd0 : decide (0 ≤ a) = false := decide_eq_false hx0
                      clear hx0
                      clear hcl2
                      go_wp2
                      go_quiet (fail)
                      go_wp2
                      go_roundw
                      case rel => exact ⟨1 + 1, t, L, HLT.out, hpt, by omega, by go_num, HCN.out, ⟨_, _, rfl, HO.out.below (below_drewN (Below.refl _ _) _)⟩, below_drewN hb _⟩
                      case measure => simp [intOf]
                  · have HCN : Hid (Srch es k r s L p q (1 + 1)) := HSR.out.stay (HCL.out L (fun h => absurd h huy))
                    have hne : (e == (y : Int)) = false := beq_eq_false_iff_ne.2 huy
                    clear huy
                    go_wp2
                    go_quiet (fail)
                    go_wp2
                    go_roundw
                    case rel => exact ⟨1 + 1, t, L, HLT.out, hpt, by omega, by go_num, HCN.out, ⟨_, _, rfl, HO.out.below (below_drewN (Below.refl _ _) _)⟩, below_drewN hb _⟩
                    case measure => simp [intOf]
              · obtain rfl : d = 2 := by omega
                go_wp2
                go_roundw
                case rel => exact ⟨q + 1, t, L, HLT.out, hpt, by omega, by go_num, HSR.out.nextEdge, ⟨A3, c3, rfl, HO.out⟩, hb⟩
                case measure => simp [intOf]; omega
          · obtain rfl : q = m := by omega
            have HSN : Hid (Srch es k r s L (p + 1) 0 0) := Srch.nextNode (by rw [HM.out]; exact HSR.out)
            go_wp2
            go_roundw
            case rel => exact ⟨p + 1, t, L, HLT.out, by omega, by go_num, HSN.out, ⟨A3, c3, rfl, HO.out⟩, hb⟩
            case measure => simp [intOf]; omega
      · obtain rfl : p = t := by omega
        have hfin : Srch es k (runE k es) s L L.length 0 0 := by rw [hLt, ← HR.out]; exact hsr
        have hil := hfin.island hsk
        rw [← HR.out, hLt] at hil
        have HIL := Lib.hid hil
        have HLT := Lib.hid hLt
        have HO := Lib.hid ho
        have HEL : Hid (∀ y ∈ L, ∃ v : Nat, y = (v : Int) ∧ v < k) := fun y hy => by obtain ⟨v, v1, v2, _⟩ := hsr.rch.el y hy; exact ⟨v, v1, v2⟩
        have HP := Lib.hid (HR2.out.below hb (Nat.le_refl _) |>.more hb.size)
        have HB := Lib.hid (hb2.trans (hb.mono hsz2))
        have hsz := hb.size
        clear hsr hLt ho hfin hil hb hb2
        go_wp2_with fail
        refine (islands_any k A2 m c2 es wr HM.out HP.out (by omega) (by omega) j gs HGS2.out HJ.out).mono ?_
        rintro e w5 ⟨A5, c5, rfl, ho5, hb5⟩
        have hsz5 := hb5.size
        have HG := Lib.hid ho5.rd
        have HL := Lib.hid (HO.out.below hb5).rd
        have HB5 := Lib.hid (HB.out.trans (hb5.mono (by omega)))
        have hw5 : w.heap.size ≤ w5.heap.size := by omega
        clear ho5 hb5
        go_wp2_with fail
        go_loopw [16, 17] (fun i _ wr => ∃ q : Nat, q ≤ j ∧ i = .int .i64 q ∧ (∀ q', q' < q → (s : Int) ∉ gx gs q') ∧ Below w5.heap.size w5 wr) (fun i _ _ => j - (intOf i).toNat)
        case atStart => exact ⟨0, Nat.zero_le _, rfl, fun _ h => absurd h (by omega), Below.refl _ _⟩
        case round =>
          obtain ⟨q, hq, rfl, hno, hb⟩ := hrel
          have HNO := Lib.hid hno
          clear hno
          by_cases hqj : q < j
          · have hqg : q < gs.length := by rw [HJ.out]; exact hqj
            obtain ⟨b, off, rfl, hbb, hc⟩ := rdm_at HG.out (by omega)
            obtain ⟨A7, c7, cq0, rq⟩ := hc q hqg
            have hinn : (gx gs q).length ≤ k := by rw [HGS.out]; exact groups_inner r k _ (gx_mem (by rw [← HGS.out]; exact hqg))
            obtain ⟨l7, hl7⟩ : ∃ l7, l7 = (gx gs q).length := ⟨_, rfl⟩
            rw [← hl7] at cq0 hinn
            have HL7 := Lib.hid hl7.symm
            have HRQ := Lib.hid rq
            have HCQ := Lib.hid cq0
            have cq := (hb.cell (p := ⟨b, off + q, none⟩) hbb).trans cq0
            have hst := start_at HOK.out hsk (q := q) (by rw [← HGS.out]; exact hqg)
            rw [← HGS.out] at hst
            have hqi : (q : Int) < (j : Int) := by omega
            clear hc cq0 rq hl7
            by_cases hsm : (s : Int) ∈ gx gs q
            · have hge := hst.1 hsm
              have hll : l7 = p := by rw [← HL7.out, hge]; exact HIL.out.1
              have HSUB : Hid (∀ y ∈ L, y ∈ gx gs q) := by show ∀ y ∈ L, y ∈ gx gs q; rw [hge]; exact HIL.out.2
              have HD := Lib.hid (decide_eq_true hsm)
              subst hll
              clear hst hsm hge
              go_wp2_with fail
              refine (hasInt_any A7 l7 c7 _ (s : Int) true _ wr HL7.out (HRQ.out.below hb (Nat.le_refl _)) (by omega) HD.out).mono ?_
              rintro e w7 ⟨rfl, rfl⟩
              go_wp2_with fail
              go_loopw [17] (fun i wx => ∃ d : Nat, d ≤ l7 ∧ i = .int .i64 d ∧ Below w5.heap.size w5 wx) (fun i _ => l7 - (intOf i).toNat)
              case atStart => exact ⟨0, Nat.zero_le _, rfl, hb⟩
              case round =>
                clear hb cq
                obtain ⟨d, hd, rfl, hb⟩ := hrel
                by_cases hdl : d < l7
                · obtain ⟨b3, off3, rfl, hb3, hc3⟩ := rd_cells HL.out (by rw [HLT.out]; omega)
                  have hdL : d < L.length := by rw [HLT.out]; exact hdl
                  have cd := (hb.cell (p := ⟨b3, off3 + d, none⟩) hb3).trans (hc3 d hdL)
                  have cq := (hb.cell (p := ⟨b, off + q, none⟩) hbb).trans HCQ.out
                  obtain ⟨v, v1, v2⟩ := HEL.out _ (ix_mem hdL)
                  have hvm := HSUB.out _ (ix_mem hdL)
                  rw [v1] at cd hvm
                  have HD2 := Lib.hid (decide_eq_true hvm)
                  have HH : Hid (∀ N, Calls Try.prog 18 #[.slice A7 l7 c7, .int .i64 (v : Int)] (wr.drewN N) fun e w'' => e = .returned (.bool true) ∧ ∃ m, w'' = wr.drewN m) := fun N =>
                    (hasInt_any A7 l7 c7 _ (v : Int) true _ _ HL7.out (HRQ.out.below (below_drewN hb N) (Nat.le_refl _)) (by omega) HD2.out).mono (fun _ _ h => ⟨h.1, N, h.2.symm⟩)
                  have hdi : (d : Int) < (l7 : Int) := by omega
                  clear hc3 v1 hvm
                  go_wp2
                  go_quiet (first | (go_at_call 18; exact HH.out _))
                  go_wp2
                  go_roundw
                  case rel => exact ⟨d + 1, by omega, by go_num, below_drewN hb _⟩
                  case measure => simp [intOf]; omega
                · have HBX := Lib.hid (HB5.out.trans (hb.mono hw5))
                  have hszx := HBX.out.size
                  clear hb
                  go_wp2_with fail
                  refine (lives_any wr).mono ?_
                  rintro e w9 ⟨rfl, hb9⟩
                  have HB9 := Lib.hid (HBX.out.trans (hb9.mono hszx))
                  clear hb9
                  go_wp2
                  go_ret
                  exact ⟨rfl, HB9.out⟩
            · have HD := Lib.hid (decide_eq_false hsm)
              have HN2 : Hid (∀ q', q' < q + 1 → (s : Int) ∉ gx gs q') := fun q' hq' => by
                rcases Nat.lt_succ_iff_lt_or_eq.1 hq' with h | rfl
                · exact HNO.out q' h
                · exact hsm
              clear hst hsm
              go_wp2_with fail
              refine (hasInt_any A7 l7 c7 _ (s : Int) false _ wr HL7.out (HRQ.out.below hb (Nat.le_refl _)) (by omega) HD.out).mono ?_
              rintro e w7 ⟨rfl, rfl⟩
              go_wp2
              go_roundw
              case rel => exact ⟨q + 1, by omega, by go_num, HN2.out, hb⟩
              case measure => simp [intOf]; omega
          · exfalso
            obtain ⟨q', hq', hm'⟩ := start_in HOK.out hsk
            rw [← HGS.out] at hq' hm'
            rw [HJ.out] at hq'
            exact HNO.out q' (by omega) hm'

end Go.Proofs.Ytglfmchddbaceaa
