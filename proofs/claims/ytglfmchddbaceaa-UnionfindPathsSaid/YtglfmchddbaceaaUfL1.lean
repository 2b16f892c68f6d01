/-
  Package unionfind: the laws UnionfindIslands and UnionfindOwn, walked.
-/
import Derived.Test.YtglfmchddbaceaaUfW5
import Derived.StillTailTactics
import Derived.Laws.StructEq
namespace Go.Proofs.Ytglfmchddbaceaa
set_option linter.unusedVariables false
set_option linter.unusedSimpArgs false
open Go.RowKit

def RtOk (n : Nat) (r : Nat → Nat) : Prop := ∀ i, i < n → r i ≤ i ∧ r (r i) = r i
theorem RtOk.join {n : Nat} {r : Nat → Nat} (h : RtOk n r) {a b : Nat} (ha : a < n) (hb : b < n) (hra : r a = a) (hrb : r b = b) : RtOk n (joinR r a b) := by
  have hmx : r (max a b) = max a b := by
    rcases Nat.le_total a b with h1 | h1
    · rw [Nat.max_eq_right h1]; exact hrb
    · rw [Nat.max_eq_left h1]; exact hra
  have hmn : r (min a b) = min a b := by
    rcases Nat.le_total a b with h1 | h1
    · rw [Nat.min_eq_left h1]; exact hra
    · rw [Nat.min_eq_right h1]; exact hrb
  have hle : min a b ≤ max a b := by omega
  obtain ⟨M, hM⟩ : ∃ M, M = max a b := ⟨_, rfl⟩
  obtain ⟨m, hm⟩ : ∃ m, m = min a b := ⟨_, rfl⟩
  have jr : ∀ j, joinR r a b j = if r j = M then m else r j := by intro j; unfold joinR; rw [hM, hm]
  rw [← hM] at hmx hle
  rw [← hm] at hmn hle
  intro i hi
  obtain ⟨h1, h2⟩ := h i hi
  rw [jr]
  split
  · rename_i he
    refine ⟨by omega, ?_⟩
    rw [jr, hmn]; split <;> rfl
  · rename_i he
    refine ⟨h1, ?_⟩
    rw [jr, h2, if_neg he]
theorem RtOk.uni {n : Nat} {r : Nat → Nat} (h : RtOk n r) (e : Int × Int) : RtOk n (uniE n r e) := by
  unfold uniE
  split
  · rename_i ho
    have h1 := h e.1.toNat (by omega)
    have h2 := h e.2.toNat (by omega)
    exact h.join (by omega) (by omega) h1.2 h2.2
  · exact h
theorem RtOk.run (n : Nat) (es : List (Int × Int)) : RtOk n (runE n es) := by
  induction es using snoc_ind with
  | h0 => exact fun i hi => ⟨Nat.le_refl _, rfl⟩
  | h1 l e ih => rw [runE_snoc]; exact ih.uni e
theorem groups_inner (r : Nat → Nat) (n : Nat) : ∀ g ∈ groups r n, g.length ≤ n := by
  intro g hg
  simp only [groups, List.mem_map] at hg
  obtain ⟨z, _, rfl⟩ := hg
  exact grp_length _ _ _
theorem groups_len_le (r : Nat → Nat) (n : Nat) : (groups r n).length ≤ n := by rw [groups_length]; exact roots_length r n

set_option maxHeartbeats 1000000 in
theorem islands_walk (n : Int) (A : Option Addr) (len c : Nat) (xs : List Int) (w : World) (hl : xs.length = len) (hr : Rd w w.heap.size A xs) (hx : ∀ x ∈ xs, -9223372036854775808 ≤ x ∧ x ≤ 9223372036854775807) (hm : len ≤ maxLen) (h1 : -9223372036854775808 ≤ n) (h2 : n ≤ 9223372036854775807) :
    Calls Try.prog 3 #[.int .i64 n, .slice A len c] w fun e w' => e = .returned (.bool true) ∧ Below w.heap.size w w' := by
  have ha1 := around_lo (n := n) (m := 15) (by omega)
  have ha2 := around_hi (n := n) (m := 15) (by omega)
  obtain ⟨k, hk⟩ : ∃ k : Nat, (k : Int) = around n 15 := ⟨(around n 15).toNat, by omega⟩
  rw [← hk] at ha1 ha2
  have hk15 : k < 15 := by omega
  obtain ⟨es, hes⟩ : ∃ es, es = mkEdges xs := ⟨_, rfl⟩
  obtain ⟨m, hm2⟩ : ∃ m, es.length = m := ⟨_, rfl⟩
  have hm30 : m ≤ 30 := by rw [← hm2, hes]; exact mkEdges_len xs
  obtain ⟨gs, hgs⟩ : ∃ gs, gs = groups (runE k es) k := ⟨_, rfl⟩
  obtain ⟨j, hj⟩ : ∃ j, gs.length = j := ⟨_, rfl⟩
  have hj15 : j ≤ 15 := by rw [← hj, hgs]; have := groups_len_le (runE k es) k; omega
  have hgs2 : gs = rgK (refR k es) k k := by rw [hgs, rgK_groups (Ker.run k es) (RtOk.run k es)]
  have hin : ∀ g ∈ gs, g.length ≤ 1000000 := fun g hg => by rw [hgs] at hg; have := groups_inner _ _ g hg; omega
  have HS := Lib.hid (size_any n w h1 h2 k hk)
  have HED := Lib.hid (edges_any A len c xs w hl hr hx hm m es hes hm2)
  have HM := Lib.hid hm2
  have HGS := Lib.hid hgs
  have HGS2 := Lib.hid hgs2
  have HJ := Lib.hid hj
  have HIN := Lib.hid hin
  clear hl hx hm hes hm2 hgs hgs2 hj hin hk ha1 ha2
  go_enter Try.func3, Try.ntmps3
  go_wp2_with fail
  refine HS.out.mono ?_
  rintro e w1 ⟨rfl, rfl⟩
  go_wp2_with fail
  refine HED.out.mono ?_
  rintro e w2 ⟨A2, c2, rfl, ho2, _, hb2⟩
  have HR2 := Lib.hid ho2.rd
  clear ho2 hr
  go_wp2_with fail
  refine (islands_any k A2 m c2 es w2 HM.out HR2.out (by omega) (by omega) j gs HGS.out HJ.out).mono ?_
  rintro e w3 ⟨A3, c3, rfl, ho3, hb3⟩
  have hs2 := hb2.size
  have hs3 := hb3.size
  have HR3 := Lib.hid (ho3.rd)
  have HB3 := Lib.hid (hb2.trans (hb3.mono hs2))
  have HP3 := Lib.hid (HR2.out.below hb3 (Nat.le_refl _) |>.more hs3)
  clear ho3
  go_wp2_with fail
  refine (rislands_any k A2 m c2 es w3 HM.out HP3.out (by omega) (by omega) j gs HGS2.out HJ.out).mono ?_
  rintro e w4 ⟨A4, c4, rfl, ho4, hb4⟩
  have hs4 := hb4.size
  have HR4 := Lib.hid (ho4.rd)
  have HB4 := Lib.hid (HB3.out.trans (hb4.mono (by omega)))
  have HP4 := Lib.hid (HR3.out.below hb4 (Nat.le_refl _) |>.more hs4)
  clear ho4
  go_wp2_with fail
  refine (equal_any A3 j c3 gs A4 j c4 gs true w4 HJ.out HJ.out HP4.out HR4.out (by omega) (by omega) HIN.out HIN.out (by simp)).mono ?_
  rintro e w5 ⟨rfl, hb5⟩
  have HB5 := Lib.hid (HB4.out.trans (hb5.mono (by omega)))
  have hs5 := hb5.size
  clear hb5 hb4 hb3 hb2
  go_wp2_with fail
  refine (lives_any w5).mono ?_
  rintro e w6 ⟨rfl, hb6⟩
  have HB6 := Lib.hid (HB5.out.trans (hb6.mono (by omega)))
  clear hb6
  go_wp2_with fail
  go_ret
  exact ⟨rfl, HB6.out⟩

/-- The shape of a slice of own slices: what stays when numbers in them are overwritten. -/
def Shape (w : World) (Bo : Nat) (A : Option Addr) (ls : List Nat) : Prop :=
  0 < ls.length → ∃ b cur, A = some ⟨b, 0, none⟩ ∧ Bo ≤ b ∧ Blk w b 22 cur ∧ ∀ i, i < ls.length → ∃ A' c', cur[i]? = some (.slice A' (ls.getD i 0) c') ∧ (0 < ls.getD i 0 → ∃ g cu, A' = some ⟨g, 0, none⟩ ∧ Bo ≤ g ∧ Blk w g 3 cu ∧ ls.getD i 0 ≤ cu.size ∧ ∀ q, q < ls.getD i 0 → ∃ z, cu[q]? = some (.int .i64 z))
theorem Shape.set_ {w : World} {Bo g k : Nat} {A : Option Addr} {ls : List Nat} {cu : Array Value} {z : Int} (h : Shape w Bo A ls) (hg : Blk w g 3 cu) : Shape (w.setCell ⟨g, k, none⟩ (.int .i64 z)) Bo A ls := fun hp => by
  obtain ⟨b, cur, e, hb, hB, hc⟩ := h hp
  have hne : b ≠ g := by
    intro e; subst e
    unfold Blk at hB hg
    rw [hB] at hg
    injection hg with h1
    injection h1 with _ h2
    exact absurd h2 (by decide)
  refine ⟨b, cur, e, hb, hB.far hne _, fun i hi => ?_⟩
  obtain ⟨A', c', e1, h1⟩ := hc i hi
  refine ⟨A', c', e1, fun hl => ?_⟩
  obtain ⟨g', cu', e2, hg', hB', hsz, hz⟩ := h1 hl
  by_cases hgg : g' = g
  · subst hgg
    have : cu' = cu := by
      unfold Blk at hB' hg
      rw [hB'] at hg
      injection hg with h1
      injection h1
    subst this
    refine ⟨g', _, e2, hg', hB'.set_ k _, by rw [Array.size_setIfInBounds]; exact hsz, fun q hq => ?_⟩
    rw [Array.getElem?_setIfInBounds]
    split
    · rw [if_pos (by omega)]; exact ⟨_, rfl⟩
    · exact hz q hq
  · exact ⟨g', cu', e2, hg', hB'.far hgg _, hsz, hz⟩
theorem OwnM.shape {w : World} {Bo Bi n c : Nat} {A : Option Addr} {gs : List (List Int)} (h : OwnM w Bo Bi (.slice A n c) gs) (B : Nat) (h1 : B ≤ Bo) (h2 : B ≤ Bi) : Shape w B A (gs.map List.length) := fun hp => by
  obtain ⟨vals, g1, g2⟩ := h
  rw [List.length_map] at hp
  rcases g1.2 with ⟨_, h0⟩ | ⟨g, cap, cur, hv, hb, hh, hn, hc, hs, ht⟩
  · omega
  · injection hv with e1 e2 e3
    subst e1
    refine ⟨g, cur, rfl, by omega, hh, fun i hi => ?_⟩
    rw [List.length_map] at hi
    obtain ⟨A', c', e, ho⟩ := g2 i hi
    have el : (gs.map List.length).getD i 0 = (gs.getD i []).length := by simp [List.getD, List.getElem?_map]; cases gs[i]? <;> rfl
    rw [el]
    rw [← ht, List.getElem?_take_of_lt (by omega)] at e
    refine ⟨A', c', by rw [← Array.getElem?_toList, e], fun hl => ?_⟩
    rcases ho.2 with ⟨_, h0⟩ | ⟨g', cap', cur', hv', hb', hh', hn', hc', hs', ht'⟩
    · omega
    · injection hv' with e1 e2 e3
      subst e1
      refine ⟨g', cur', rfl, by omega, hh', by omega, fun q hq => ?_⟩
      have := congrArg (fun l : List Value => l[q]?) ht'
      simp only [List.getElem?_map] at this
      rw [List.getElem?_take_of_lt (by omega), Array.getElem?_toList, List.getElem?_eq_getElem hq] at this
      exact ⟨_, this⟩

theorem OwnM.grown {w w' : World} {Bo Bi gp : Nat} {v : Value} {gs : List (List Int)} (h : OwnM w Bo Bi v gs) (hg : w.grownBy w' (some gp)) (h1 : gp < Bo) (h2 : gp < Bi) : OwnM w' Bo Bi v gs := by
  obtain ⟨vals, g1, g2⟩ := h
  refine ⟨vals, ⟨g1.1, ?_⟩, fun j hj => ?_⟩
  · rcases g1.2 with h0 | ⟨g, cap, cur, hv, hb, hh, hr⟩
    · exact .inl h0
    · exact .inr ⟨g, cap, cur, hv, hb, (hg.block g (Array.getElem?_eq_some_iff.1 hh).1 (by intro e; injection e; omega)).trans hh, hr⟩
  · obtain ⟨A, c, e, ho⟩ := g2 j hj
    exact ⟨A, c, e, ho.far hg (fun k hk e => by injection e with e; have := ho.base k hk; omega)⟩
/-- Two pairs of numbers compared. -/
theorem eq_pair (d : Nat) (a b c e : Int) (w : World) : (Op.equalIn (d + 2) 32 (.agg #[.int .i64 a, .int .i64 b]) (.agg #[.int .i64 c, .int .i64 e])).run Try.prog w = .ok (a == c && b == e) w := by
  have h1 := Try.underlying32
  have h2 := Try.underlying3
  have hi : (sizeOf 3).run Try.prog w = .ok 1 w := by kernel_rfl
  have hp1 : (part 3 #[.int .i64 a, .int .i64 b] 0).run Try.prog w = .ok (.int .i64 a) w := by kernel_rfl
  have hp2 : (part 3 #[.int .i64 c, .int .i64 e] 0).run Try.prog w = .ok (.int .i64 c) w := by kernel_rfl
  have hp3 : (part 3 #[.int .i64 a, .int .i64 b] 1).run Try.prog w = .ok (.int .i64 b) w := by kernel_rfl
  have hp4 : (part 3 #[.int .i64 c, .int .i64 e] 1).run Try.prog w = .ok (.int .i64 e) w := by kernel_rfl
  rw [Op.equalIn]
  simp only [Sem.run_bind, run_underlying h1, Result.andThen_ok, hi]
  simp [Std.Legacy.Range.forIn_eq_forIn_range', Std.Legacy.Range.size, List.range', hp1, hp2, hp3, hp4, run_equalIn_int w _ 3 .i64 .i64 _ _ h2]
  by_cases h3 : a = c <;> by_cases h4 : b = e <;> simp [h3, h4]
@[go_sem] theorem eq_pair_top (a b c e : Int) (w : World) : (Op.equalIn 10000 32 (.agg #[.int .i64 a, .int .i64 b]) (.agg #[.int .i64 c, .int .i64 e])).run Try.prog w = .ok (a == c && b == e) w := eq_pair 9998 a b c e w
@[go_sem] theorem guard_pair (x y : Operand) (xs ys : Array Value) (w : World) : (eqGuard .neq 32 x y (.agg xs) (.agg ys)).run Try.prog w = .ok () w :=
  run_eqGuard_agg w .neq 32 x y xs ys (by kernel_rfl)

set_option maxHeartbeats 2000000 in
theorem own_walk (n : Int) (A : Option Addr) (len c : Nat) (xs : List Int) (w : World) (hl : xs.length = len) (hr : Rd w w.heap.size A xs) (hx : ∀ x ∈ xs, -9223372036854775808 ≤ x ∧ x ≤ 9223372036854775807) (hm : len ≤ maxLen) (h1 : -9223372036854775808 ≤ n) (h2 : n ≤ 9223372036854775807) :
    Calls Try.prog 7 #[.int .i64 n, .slice A len c] w fun e w' => e = .returned (.bool true) ∧ Below w.heap.size w w' := by
  have ha1 := around_lo (n := n) (m := 15) (by omega)
  have ha2 := around_hi (n := n) (m := 15) (by omega)
  obtain ⟨k, hk⟩ : ∃ k : Nat, (k : Int) = around n 15 := ⟨(around n 15).toNat, by omega⟩
  rw [← hk] at ha1 ha2
  have hk15 : k < 15 := by omega
  obtain ⟨es, hes⟩ : ∃ es, es = mkEdges xs := ⟨_, rfl⟩
  obtain ⟨m, hm2⟩ : ∃ m, es.length = m := ⟨_, rfl⟩
  have hm30 : m ≤ 30 := by rw [← hm2, hes]; exact mkEdges_len xs
  obtain ⟨gs, hgs⟩ : ∃ gs, gs = groups (runE k es) k := ⟨_, rfl⟩
  obtain ⟨j, hj⟩ : ∃ j, gs.length = j := ⟨_, rfl⟩
  have hj15 : j ≤ 15 := by rw [← hj, hgs]; have := groups_len_le (runE k es) k; omega
  have hin : ∀ g ∈ gs, g.length ≤ 1000000 := fun g hg => by rw [hgs] at hg; have := groups_inner _ _ g hg; omega
  obtain ⟨ls, hls⟩ : ∃ ls, ls = gs.map List.length := ⟨_, rfl⟩
  have hlj : ls.length = j := by rw [hls, List.length_map, hj]
  have hl15 : ∀ i, ls.getD i 0 ≤ 15 := fun i => by
    rw [hls, hgs]
    by_cases hi : i < (groups (runE k es) k).length
    · have := groups_inner _ _ _ (gx_mem hi)
      simp only [gx] at this
      have el : ((groups (runE k es) k).map List.length).getD i 0 = ((groups (runE k es) k).getD i []).length := by simp [List.getD, List.getElem?_map]; cases (groups (runE k es) k)[i]? <;> rfl
      rw [el]; omega
    · have : ((groups (runE k es) k).map List.length).getD i 0 = 0 := by rw [List.getD, List.getElem?_eq_none (by simpa using hi)]; rfl
      rw [this]; omega
  have HS := Lib.hid (size_any n w h1 h2 k hk)
  have HED := Lib.hid (fun w' (hr' : Rd w' w'.heap.size A xs) => edges_any A len c xs w' hl hr' hx hm m es hes hm2)
  have HM := Lib.hid hm2
  have HGS := Lib.hid hgs
  have HLS := Lib.hid hls
  have HLJ := Lib.hid hlj
  have HJ := Lib.hid hj
  have HIN := Lib.hid hin
  have HRX := Lib.hid hr
  clear hl hx hm hes hm2 hgs hj hin hk ha1 ha2 hr hls
  go_enter Try.func7, Try.ntmps7
  go_wp2_with fail
  refine HS.out.mono ?_
  rintro e w1 ⟨rfl, rfl⟩
  go_wp2_with fail
  refine (HED.out _ HRX.out).mono ?_
  rintro e w2 ⟨A2, c2, rfl, ho2, _, hb2⟩
  have HR2 := Lib.hid ho2.rd
  have hs2 := hb2.size
  clear ho2
  go_wp2_with fail
  refine (merged_any k A2 m c2 es w2 HM.out HR2.out (by omega) (by omega)).mono ?_
  rintro e w3 ⟨g, gp, rfl, hg3, hgp3, hs3, hb3⟩
  have HB3 := Lib.hid (hb2.trans (hb3.mono hs2))
  have HP3 := Lib.hid (HR2.out.below hb3 (Nat.le_refl _))
  have HS3 := Lib.hid hs3
  have hsz3 := hb3.size
  have hlt3 := hs3.lt
  clear hs3 hb3 hb2
  go_wp2_with fail
  refine (groups_any g gp k (runE k es) w3 HS3.out).mono ?_
  rintro e w4 ⟨A4, c4, rfl, ho4, hs4, hog4⟩
  rw [← HGS.out, HJ.out] at ho4 ⊢
  have hsh := ho4.shape w3.heap.size (Nat.le_refl _) (Nat.le_refl _)
  rw [← HLS.out] at hsh
  have HB4 := Lib.hid (hog4.below (B := w2.heap.size) hsz3 hgp3)
  have HS4 := Lib.hid hs4
  have hsz4 := hog4.size
  have HSH := Lib.hid hsh
  clear ho4 hs4 hog4 hsh
  go_wp2
  go_loopw [9, 10] (fun i _ wr => ∃ q : Nat, q ≤ j ∧ i = .int .i64 q ∧ Shape wr w3.heap.size A4 ls ∧ Below w3.heap.size w4 wr ∧ wr.heap.size = w4.heap.size) (fun i _ _ => j - (intOf i).toNat)
  case atStart => exact ⟨0, Nat.zero_le _, rfl, HSH.out, Below.refl _ _, rfl⟩
  case round =>
    obtain ⟨q, hq, rfl, hsh, hbx, hse⟩ := hrel
    by_cases hqj : q < j
    · have hlsq := hl15 q
      go_wp2
      go_loopw [10] (fun i wr => ∃ p : Nat, p ≤ ls.getD q 0 ∧ i = .int .i64 p ∧ Shape wr w3.heap.size A4 ls ∧ Below w3.heap.size w4 wr ∧ wr.heap.size = w4.heap.size) (fun i _ => ls.getD q 0 - (intOf i).toNat)
      case atStart => exact ⟨0, Nat.zero_le _, rfl, hsh, hbx, hse⟩
      case round =>
        obtain ⟨p, hp, rfl, hsh, hbx, hse⟩ := hrel
        obtain ⟨b, cur, rfl, hbb, hB, hc⟩ := id hsh (by omega)
        obtain ⟨A5, c5, e5, h5⟩ := hc q (by omega)
        have cq : wr.cell? ⟨b, q, none⟩ = some (.slice A5 (ls.getD q 0) c5) := by rw [hB.cell]; exact e5
        obtain ⟨lq, hlq⟩ : ∃ lq, lq = ls.getD q 0 := ⟨_, rfl⟩
        rw [← hlq] at hp cq h5 hlsq
        have HLQ := Lib.hid hlq
        clear hc e5
        by_cases hpl : p < lq
        · obtain ⟨g6, cu, rfl, hb6, hB6, hsz6, hz⟩ := h5 (by omega)
          obtain ⟨z, hz⟩ := hz p hpl
          have cp : wr.cell? ⟨g6, p, none⟩ = some (.int .i64 z) := by rw [hB6.cell]; exact hz
          have fp : wr.frozen? ⟨g6, p, none⟩ = false := hB6.frozen _
          have HN := Lib.hid (hsh.set_ (k := p) (z := -7) hB6)
          have HBN := Lib.hid (hbx.setCell (p := ⟨g6, p, none⟩) hb6 (.int .i64 (-7)))
          clear hz hB6 hB hsh hbx hlq
          go_wp2
          go_roundw
          case rel => exact ⟨p + 1, by rw [← HLQ.out]; omega, by go_num, HN.out, HBN.out, by simp [hse]⟩
          case measure => rw [← HLQ.out]; simp [intOf]; omega
        · clear hlq h5 hB
          go_wp2
          go_roundw
          case rel => exact ⟨q + 1, by omega, by go_num, hsh, hbx, hse⟩
          case measure => simp [intOf]; omega
    · have hs5 := HS4.out.below (w' := wr) (B := w3.heap.size)
      have HB5 := Lib.hid ((HB4.out).trans (hbx.mono hsz3))
      have HS5 := Lib.hid (IsSets.below HS4.out hbx hlt3.1 hlt3.2)
      have HP5 := Lib.hid ((HP3.out.below HB4.out (Nat.le_refl _)).below (hbx.mono hsz3) (Nat.le_refl _) |>.more (show w2.heap.size ≤ wr.heap.size by omega))
      have HW5 := Lib.hid ((HB3.out.trans (HB4.out.mono hs2)).trans (hbx.mono (by omega)))
      clear hs5 hsh hbx HSH
      have hsz5 : w3.heap.size ≤ wr.heap.size := by omega
      go_wp2_with fail
      refine (islands_any k A2 m c2 es wr HM.out HP5.out (by omega) (by omega) j gs HGS.out HJ.out).mono ?_
      rintro e w6 ⟨A6, c6, rfl, ho6, hb6⟩
      have hsz6 := hb6.size
      have HO6 := Lib.hid ho6
      have HS6 := Lib.hid (IsSets.below HS5.out hb6 (by omega) (by omega))
      have HP6 := Lib.hid (HP5.out.below hb6 (Nat.le_refl _) |>.more hsz6)
      have HW6 := Lib.hid (HW5.out.trans (hb6.mono (by omega)))
      clear ho6 hb6
      go_wp2_with fail
      refine (HED.out _ (HRX.out.below HW6.out (Nat.le_refl _) |>.more (by omega))).mono ?_
      rintro e w7 ⟨A7, c7, rfl, ho7, _, hb7⟩
      have hsz7 := hb7.size
      have HR7 := Lib.hid ho7.rd
      have HM6 := Lib.hid (HO6.out.below hb7)
      have HS7 := Lib.hid (IsSets.below HS6.out hb7 (by omega) (by omega))
      have HP7 := Lib.hid (HP6.out.below hb7 (Nat.le_refl _) |>.more hsz7)
      have HW7 := Lib.hid (HW6.out.trans (hb7.mono (by omega)))
      clear ho7 hb7
      have hgl : g < w7.heap.size ∧ gp < w7.heap.size := by omega
      obtain ⟨z5, hz5⟩ : ∃ z5, z5 = wr.heap.size := ⟨_, rfl⟩
      rw [← hz5] at HM6
      have hgg : gp < z5 := by omega
      have hzz : w.heap.size ≤ w7.heap.size := by omega
      have hzg : w.heap.size ≤ gp := by omega
      go_wp2_with fail
      go_loopw [13] (fun i wr => ∃ q : Nat, q ≤ m ∧ i = .int .i64 q ∧ Below w7.heap.size w7 wr) (fun i _ => m - (intOf i).toNat)
      case atStart => exact ⟨0, Nat.zero_le _, rfl, Below.refl _ _⟩
      case round =>
        obtain ⟨q, hq, rfl, hbx⟩ := hrel
        by_cases hqm : q < m
        · obtain ⟨b, off, rfl, hbb, hc⟩ := HP7.out (by rw [HM.out]; omega)
          obtain ⟨b', off', rfl, hbb', hc'⟩ := HR7.out (by rw [HM.out]; omega)
          have a1 := (hbx.cell (p := ⟨b, _, none⟩) hbb).trans (hc q (by rw [HM.out]; omega)).1
          have a2 := (hbx.cell (p := ⟨b, _, none⟩) hbb).trans (hc q (by rw [HM.out]; omega)).2
          have b1 := (hbx.cell (p := ⟨b', _, none⟩) hbb').trans (hc' q (by rw [HM.out]; omega)).1
          have b2 := (hbx.cell (p := ⟨b', _, none⟩) hbb').trans (hc' q (by rw [HM.out]; omega)).2
          clear hc hc'
          go_wp2
          go_quiet (fail)
          go_wp2
          go_roundw
          case rel => exact ⟨q + 1, by omega, by go_num, below_drewN hbx _⟩
          case measure => simp [intOf]; omega
        · have HSX := Lib.hid (IsSets.below HS7.out hbx hgl.1 hgl.2)
          have HRX2 := Lib.hid (HM6.out.below hbx)
          have HWX := Lib.hid (HW7.out.trans (hbx.mono (by omega)))
          have hszx := hbx.size
          clear hbx
          go_wp2_with fail
          refine (groups_any g gp k (runE k es) wr HSX.out).mono ?_
          rintro e w8 ⟨A8, c8, rfl, ho8, hs8, hog8⟩
          rw [← HGS.out, HJ.out] at ho8 ⊢
          have HR8 := Lib.hid ho8.rd
          have HR8b := Lib.hid ((HRX2.out.grown hog8 hgg hgg).rd)
          have HW8 := Lib.hid (HWX.out.trans (hog8.below (B := w.heap.size) (by omega) hzg))
          have hsz8 := HW8.out.size
          clear ho8 hs8
          go_wp2_with fail
          refine (equal_any A8 j c8 gs A6 j c6 gs true w8 HJ.out HJ.out HR8.out HR8b.out (by omega) (by omega) HIN.out HIN.out (by simp)).mono ?_
          rintro e w9 ⟨rfl, hb9⟩
          have HW9 := Lib.hid (HW8.out.trans (hb9.mono hsz8))
          have hsz9 := HW9.out.size
          clear hb9
          go_wp2_with fail
          refine (lives_any w9).mono ?_
          rintro e w10 ⟨rfl, hb10⟩
          have HW10 := Lib.hid (HW9.out.trans (hb10.mono hsz9))
          clear hb10
          go_wp2_with fail
          go_ret
          exact ⟨rfl, HW10.out⟩

end Go.Proofs.Ytglfmchddbaceaa
