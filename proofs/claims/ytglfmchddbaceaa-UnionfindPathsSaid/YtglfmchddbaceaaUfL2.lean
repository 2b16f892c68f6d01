/-
  Package unionfind: the law UnionfindEquivalence, walked.
-/
import Derived.Test.YtglfmchddbaceaaUfL1
namespace Go.Proofs.Ytglfmchddbaceaa
set_option linter.unusedVariables false
set_option linter.unusedSimpArgs false
open Go.RowKit

def Ins (n : Nat) (e : Int × Int) : Prop := 0 ≤ e.1 ∧ e.1 < n ∧ 0 ≤ e.2 ∧ e.2 < n
theorem joinR_at {r : Nat → Nat} {a b i : Nat} : joinR r a b i = if r i = max a b then min a b else r i := rfl
/-- What the edges joined stays joined. -/
theorem uni_keeps {n : Nat} {r : Nat → Nat} (e : Int × Int) {i j : Nat} (h : r i = r j) : uniE n r e i = uniE n r e j := by
  unfold uniE
  split
  · rw [joinR_at, joinR_at, h]
  · exact h
theorem uni_joins {n : Nat} {r : Nat → Nat} {e : Int × Int} (h : Ins n e) : uniE n r e e.1.toNat = uniE n r e e.2.toNat := by
  unfold Ins at h
  unfold uniE
  rw [if_pos h, joinR_at, joinR_at]
  split <;> split <;> omega
theorem run_joins (n : Nat) (es : List (Int × Int)) : ∀ e ∈ es, Ins n e → runE n es e.1.toNat = runE n es e.2.toNat := by
  induction es using snoc_ind with
  | h0 => intro e h; cases h
  | h1 l x ih =>
    intro e he hi
    rw [runE_snoc]
    rcases List.mem_append.1 he with h | h
    · exact uni_keeps x (ih e h hi)
    · rw [List.mem_singleton] at h; subst h; exact uni_joins hi
theorem uni_same {n : Nat} {r : Nat → Nat} {e : Int × Int} (h : Ins n e → r e.1.toNat = r e.2.toNat) : uniE n r e = r := by
  unfold uniE
  split
  · rename_i ho
    rw [h ho]
    funext i
    rw [joinR_at]
    split <;> omega
  · rfl
theorem joins_same {n : Nat} {r : Nat → Nat} {e : Int × Int} (h : Ins n e → r e.1.toNat = r e.2.toNat) : joins n r e = false := by
  unfold joins
  by_cases ho : 0 ≤ e.1 ∧ e.1 < n ∧ 0 ≤ e.2 ∧ e.2 < n
  · simp [h ho]
  · rw [decide_eq_false ho]; rfl
theorem sames_in {n : Nat} {r : Nat → Nat} {a b : Nat} (ha : a < n) (hb : b < n) : sames n r (a : Int) (b : Int) = decide (r a = r b) := by
  unfold sames
  rw [decide_eq_true (by omega : 0 ≤ (a : Int) ∧ (a : Int) < n ∧ 0 ≤ (b : Int) ∧ (b : Int) < n)]; simp
theorem sames_out {n : Nat} {r : Nat → Nat} {a b : Int} (h : ¬ (0 ≤ a ∧ a < n ∧ 0 ≤ b ∧ b < n)) : sames n r a b = false := by
  unfold sames; rw [decide_eq_false h]; rfl

set_option maxRecDepth 4000 in
set_option maxHeartbeats 4000000 in
theorem equiv_walk (n : Int) (A : Option Addr) (len c : Nat) (xs : List Int) (w : World) (hl : xs.length = len) (hr : Rd w w.heap.size A xs) (hx : ∀ x ∈ xs, -9223372036854775808 ≤ x ∧ x ≤ 9223372036854775807) (hm : len ≤ maxLen) (h1 : -9223372036854775808 ≤ n) (h2 : n ≤ 9223372036854775807) :
    Calls Try.prog 9 #[.int .i64 n, .slice A len c] w fun e w' => e = .returned (.bool true) ∧ Below w.heap.size w w' := by
  have ha1 := around_lo (n := n) (m := 15) (by omega)
  have ha2 := around_hi (n := n) (m := 15) (by omega)
  obtain ⟨k, hk⟩ : ∃ k : Nat, (k : Int) = around n 15 := ⟨(around n 15).toNat, by omega⟩
  rw [← hk] at ha1 ha2
  have hk15 : k < 15 := by omega
  obtain ⟨es, hes⟩ : ∃ es, es = mkEdges xs := ⟨_, rfl⟩
  obtain ⟨m, hm2⟩ : ∃ m, es.length = m := ⟨_, rfl⟩
  have hm30 : m ≤ 30 := by rw [← hm2, hes]; exact mkEdges_len xs
  have hbd : ∀ e ∈ es, -1 ≤ e.1 ∧ e.1 ≤ 14 ∧ 0 ≤ e.2 ∧ e.2 ≤ 14 := by rw [hes]; exact mkEdges_bd xs
  obtain ⟨r, hrr⟩ : ∃ r, r = runE k es := ⟨_, rfl⟩
  have hjn : ∀ e ∈ es, Ins k e → r e.1.toNat = r e.2.toNat := by rw [hrr]; exact run_joins k es
  have HS := Lib.hid (size_any n w h1 h2 k hk)
  have HED := Lib.hid (edges_any A len c xs w hl hr hx hm m es hes hm2)
  have HM := Lib.hid hm2
  have HR := Lib.hid hrr
  have HBD := Lib.hid hbd
  have HJN := Lib.hid hjn
  clear hl hx hm hes hm2 hk ha1 ha2 hbd hjn hrr hr
  go_enter Try.func9, Try.ntmps9
  go_wp2_with fail
  refine HS.out.mono ?_
  rintro e w1 ⟨rfl, rfl⟩
  go_wp2_with fail
  refine HED.out.mono ?_
  rintro e w2 ⟨A2, c2, rfl, ho2, _, hb2⟩
  have HP2 := Lib.hid ho2.rd
  have hsz2 := hb2.size
  clear ho2
  go_wp2_with fail
  refine (merged_any k A2 m c2 es w2 HM.out HP2.out (by omega) (by omega)).mono ?_
  rintro e w3 ⟨g, gp, rfl, hg3, hgp3, hs3, hb3⟩
  rw [← HR.out] at hs3
  have HP3 := Lib.hid (HP2.out.below hb3 (Nat.le_refl _))
  have HB3 := Lib.hid (hb2.trans (hb3.mono hsz2))
  have HS3 := Lib.hid hs3
  have hsz3 := hb3.size
  have hz : w.heap.size ≤ gp := by omega
  clear hb2 hb3 hs3
  go_wp2_with fail
  go_loopw [8, 9, 10, 11] (fun i _ _ _ wr => ∃ q : Nat, q ≤ m ∧ i = .int .i64 q ∧ IsSets wr g gp k r ∧ OnlyP gp w3 wr) (fun i _ _ _ _ => m - (intOf i).toNat)
  case atStart => exact ⟨0, Nat.zero_le _, rfl, HS3.out, OnlyP.refl _ _⟩
  case round =>
    obtain ⟨q, hq, rfl, hs, ho⟩ := hrel
    by_cases hqm : q < m
    · have hqe : q < es.length := by rw [HM.out]; exact hqm
      obtain ⟨b, off, rfl, hbb, hc⟩ := HP3.out (by omega)
      have hb0 := OnlyP.below (Below.refl w2.heap.size w3) ho (by omega) hgp3
      have ca := (hb0.cell (p := ⟨b, _, none⟩) hbb).trans (hc q hqe).1
      have cb := (hb0.cell (p := ⟨b, _, none⟩) hbb).trans (hc q hqe).2
      have hbq := HBD.out _ (pair_mem hqe)
      have hjq := HJN.out _ (pair_mem hqe)
      obtain ⟨a, ha⟩ : ∃ a, a = ea es q := ⟨_, rfl⟩
      obtain ⟨d, hd⟩ : ∃ d, d = eb es q := ⟨_, rfl⟩
      rw [← ha, ← hd] at hbq hjq
      rw [← ha] at ca
      rw [← hd] at cb
      have HU : Hid (r = uniE k r (a, d)) := (uni_same hjq).symm
      have HJ : Hid (joins k r (a, d) = false) := joins_same hjq
      have hsm : ∀ v, decide (0 ≤ a ∧ a < k ∧ 0 ≤ d ∧ d < k) = v → sames k r a d = v := fun v hv => by
        rw [← hv]
        by_cases hin : 0 ≤ a ∧ a < k ∧ 0 ≤ d ∧ d < k
        · unfold sames; rw [decide_eq_true hin]; simpa using hjq hin
        · rw [sames_out hin, decide_eq_false hin]
      have HSM := Lib.hid hsm
      obtain ⟨q1, q2, q3, q4⟩ := hbq
      clear hc ha hd hjq hsm hb0
      rcases (by omega : a < 0 ∨ (k : Int) ≤ a ∨ (k : Int) ≤ d ∨ (0 ≤ a ∧ a < (k : Int) ∧ d < (k : Int))) with h | h | h | ⟨h, h', h''⟩
      case inr.inr.inr =>
        have HV := Lib.hid (HSM.out true (decide_eq_true ⟨h, h', q3, h''⟩))
        go_wp2_with fail
        refine (same_s g gp k r a d true _ hs HV.out).mono ?_
        rintro e w4 ⟨rfl, hs4, ho4⟩
        go_wp2_with fail
        refine (union_s g gp k r r a d false _ hs4 HU.out HJ.out).mono ?_
        rintro e w5 ⟨rfl, hs5, ho5⟩
        go_wp2_with fail
        go_roundw
        case rel => exact ⟨q + 1, by omega, by go_num, hs5, (ho.trans ho4).trans ho5⟩
        case measure => simp [intOf]; omega
      all_goals
        by_cases h0 : 0 ≤ a <;> by_cases hak : a < (k : Int) <;> first | omega | skip
        all_goals
          have HV := Lib.hid (HSM.out false (decide_eq_false (by omega)))
          go_wp2_with fail
          refine (same_s g gp k r a d false _ hs HV.out).mono ?_
          rintro e w4 ⟨rfl, hs4, ho4⟩
          go_wp2_with fail
          refine (union_s g gp k r r a d false _ hs4 HU.out HJ.out).mono ?_
          rintro e w5 ⟨rfl, hs5, ho5⟩
          go_wp2_with fail
          go_roundw
          case rel => exact ⟨q + 1, by omega, by go_num, hs5, (ho.trans ho4).trans ho5⟩
          case measure => simp [intOf]; omega
    · go_wp2
      go_loopw [12, 13, 14] (fun i _ _ wr => ∃ a : Nat, a ≤ k ∧ i = .int .i64 a ∧ IsSets wr g gp k r ∧ OnlyP gp w3 wr) (fun i _ _ _ => k - (intOf i).toNat)
      case atStart => exact ⟨0, Nat.zero_le _, rfl, hs, ho⟩
      case round =>
        clear hs ho
        obtain ⟨a, ha, rfl, hs, ho⟩ := hrel
        by_cases hak : a < k
        · have e1 : Hid (sames k r (a : Int) (a : Int) = true) := by show _ = _; rw [sames_in hak hak]; simp
          have e2 : Hid (sames k r (a : Int) (k : Int) = false) := sames_out (by omega)
          have e3 : Hid (sames k r (-1) (a : Int) = false) := sames_out (by omega)
          go_wp2_with fail
          refine (same_s g gp k r a a true _ hs e1.out).mono ?_
          rintro e w4 ⟨rfl, hs4, ho4⟩
          go_wp2_with fail
          refine (same_s g gp k r a k false _ hs4 e2.out).mono ?_
          rintro e w5 ⟨rfl, hs5, ho5⟩
          go_wp2_with fail
          refine (same_s g gp k r (-1) a false _ hs5 e3.out).mono ?_
          rintro e w6 ⟨rfl, hs6, ho6⟩
          have ho := (ho.trans ho4).trans (ho5.trans ho6)
          clear hs hs4 hs5 ho4 ho5 ho6
          go_wp2
          go_loopw [13, 14] (fun i _ wr => ∃ b : Nat, b ≤ k ∧ i = .int .i64 b ∧ IsSets wr g gp k r ∧ OnlyP gp w3 wr) (fun i _ _ => k - (intOf i).toNat)
          case atStart => exact ⟨0, Nat.zero_le _, rfl, hs6, ho⟩
          case round =>
            clear hs6 ho
            obtain ⟨b, hb, rfl, hs, ho⟩ := hrel
            by_cases hbk : b < k
            · obtain ⟨v, hv⟩ : ∃ v, v = decide (r a = r b) := ⟨_, rfl⟩
              have f1 : Hid (sames k r (a : Int) (b : Int) = v) := by show _ = _; rw [sames_in hak hbk, hv]
              have f2 : Hid (sames k r (b : Int) (a : Int) = v) := by show _ = _; rw [sames_in hbk hak, hv]; exact decide_eq_decide.2 ⟨Eq.symm, Eq.symm⟩
              have HV := Lib.hid hv
              clear hv
              go_wp2_with fail
              refine (same_s g gp k r a b v _ hs f1.out).mono ?_
              rintro e w4 ⟨rfl, hs4, ho4⟩
              go_wp2_with fail
              refine (same_s g gp k r b a v _ hs4 f2.out).mono ?_
              rintro e w5 ⟨rfl, hs5, ho5⟩
              have ho := (ho.trans ho4).trans ho5
              clear hs hs4 ho4 ho5
              go_wp2
              go_loopw [14] (fun i wr => ∃ c : Nat, c ≤ k ∧ i = .int .i64 c ∧ IsSets wr g gp k r ∧ OnlyP gp w3 wr) (fun i _ => k - (intOf i).toNat)
              case atStart => exact ⟨0, Nat.zero_le _, rfl, hs5, ho⟩
              case round =>
                clear hs5 ho
                obtain ⟨d, hd, rfl, hs, ho⟩ := hrel
                by_cases hdk : d < k
                · by_cases g1 : r a = r b
                  · have hv : v = true := by rw [HV.out]; exact decide_eq_true g1
                    by_cases g2 : r b = r d
                    · have f3 : Hid (sames k r (b : Int) (d : Int) = true) := by show _ = _; rw [sames_in hbk hdk]; exact decide_eq_true g2
                      have f4 : Hid (sames k r (a : Int) (d : Int) = true) := by show _ = _; rw [sames_in hak hdk]; exact decide_eq_true (g1.trans g2)
                      have f1' : Hid (sames k r (a : Int) (b : Int) = true) := by show _ = _; rw [f1.out, hv]
                      clear g1 g2 hv
                      go_wp2_with fail
                      refine (same_s g gp k r a b true _ hs f1'.out).mono ?_
                      rintro e w4 ⟨rfl, hs4, ho4⟩
                      go_wp2_with fail
                      refine (same_s g gp k r b d true _ hs4 f3.out).mono ?_
                      rintro e w5 ⟨rfl, hs5, ho5⟩
                      go_wp2_with fail
                      refine (same_s g gp k r a d true _ hs5 f4.out).mono ?_
                      rintro e w6 ⟨rfl, hs6, ho6⟩
                      go_wp2
                      go_roundw
                      case rel => exact ⟨d + 1, by omega, by go_num, hs6, ((ho.trans ho4).trans ho5).trans ho6⟩
                      case measure => simp [intOf]; omega
                    · have f3 : Hid (sames k r (b : Int) (d : Int) = false) := by show _ = _; rw [sames_in hbk hdk]; exact decide_eq_false g2
                      have f1' : Hid (sames k r (a : Int) (b : Int) = true) := by show _ = _; rw [f1.out, hv]
                      clear g1 g2 hv
                      go_wp2_with fail
                      refine (same_s g gp k r a b true _ hs f1'.out).mono ?_
                      rintro e w4 ⟨rfl, hs4, ho4⟩
                      go_wp2_with fail
                      refine (same_s g gp k r b d false _ hs4 f3.out).mono ?_
                      rintro e w5 ⟨rfl, hs5, ho5⟩
                      go_wp2
                      go_roundw
                      case rel => exact ⟨d + 1, by omega, by go_num, hs5, (ho.trans ho4).trans ho5⟩
                      case measure => simp [intOf]; omega
                  · have hv : v = false := by rw [HV.out]; exact decide_eq_false g1
                    have f1' : Hid (sames k r (a : Int) (b : Int) = false) := by show _ = _; rw [f1.out, hv]
                    clear g1 hv
                    go_wp2_with fail
                    refine (same_s g gp k r a b false _ hs f1'.out).mono ?_
                    rintro e w4 ⟨rfl, hs4, ho4⟩
                    go_wp2
                    go_roundw
                    case rel => exact ⟨d + 1, by omega, by go_num, hs4, ho.trans ho4⟩
                    case measure => simp [intOf]; omega
                · go_wp2
                  go_roundw
                  case rel => exact ⟨b + 1, by omega, by go_num, hs, ho⟩
                  case measure => simp [intOf]; omega
            · go_wp2
              go_roundw
              case rel => exact ⟨a + 1, by omega, by go_num, hs, ho⟩
              case measure => simp [intOf]; omega
        · have HX := Lib.hid (OnlyP.below (B := w.heap.size) HB3.out ho (by omega) hz)
          have hzx := HX.out.size
          go_wp2_with fail
          refine (lives_any _).mono ?_
          rintro e w9 ⟨rfl, hb9⟩
          have HY := Lib.hid (HX.out.trans (hb9.mono hzx))
          clear hb9
          go_wp2
          go_ret
          exact ⟨rfl, HY.out⟩

end Go.Proofs.Ytglfmchddbaceaa
