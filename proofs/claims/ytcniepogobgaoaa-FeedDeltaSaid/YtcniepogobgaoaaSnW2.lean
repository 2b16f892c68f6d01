/-
  Package snapshot's reference: put and Cells, called.
-/
import Derived.Test.YtcniepogobgaoaaSnW1
namespace Go.Proofs.Ytcniepogobgaoaa
set_option linter.unusedVariables false
set_option linter.unusedSimpArgs false
set_option maxRecDepth 4000
open Go.RowKit

set_option maxHeartbeats 2000000 in
theorem put_any (A : Option Addr) (n c : Nat) (es : Vw) (i v : Int) (w : World) (hl : es.length = n) (hr : RdP w w.heap.size A es) (hn : n ≤ 1000000) (out : Vw) (m : Nat) (ho : out = putD es (i, v)) (hm : out.length = m) :
    Calls Try.prog 34 #[.slice A n c, .agg #[.int .i64 i, .int .i64 v]] w fun e w' => ∃ A' c', e = .returned (.slice A' m c') ∧ OwnP w' w.heap.size (.slice A' m c') out ∧ Below w.heap.size w w' := by
  subst hl
  have HO := Lib.hid ho
  have HM := Lib.hid hm
  clear ho hm
  obtain ⟨w0, hw0⟩ : ∃ w0, w0 = w.alloc (.cells #[.int .i64 i, .int .i64 v] 48) := ⟨_, rfl⟩
  have hb0 : Below w.heap.size w w0 := by rw [hw0]; exact (Below.refl _ _).alloc (Nat.le_refl _) _
  have hz0 : w0.heap.size = w.heap.size + 1 := by rw [hw0]; simp
  have hbox : Blk w0 w.heap.size 48 #[.int .i64 i, .int .i64 v] := by rw [hw0]; exact Blk.new w _ _
  have HBX : Hid (∀ W, Below w0.heap.size w0 W → W.cell? ⟨w.heap.size, 0, none⟩ = some (.int .i64 i) ∧ W.cell? ⟨w.heap.size, 1, none⟩ = some (.int .i64 v)) := fun W h => by
    have := hbox.below h (by omega)
    exact ⟨this.cell 0, this.cell 1⟩
  have HR0 := Lib.hid (hr.below hb0 (Nat.le_refl _))
  have HB0 := Lib.hid hb0
  clear hr hbox hb0
  go_enter Try.func34, Try.ntmps34
  go_wp2
  rw [← hw0]
  clear hw0
  go_loopw [5, 6, 7] (fun o d k_ wr => ∃ (k t : Nat) (f : Bool) (pre : Vw), k ≤ es.length ∧ k_ = .int .i64 k ∧ d = .bool f ∧ putRun (i, v) (es.take k) = (pre, f) ∧ pre.length = t ∧ t ≤ k + 1 ∧ (∃ A2 c2, o = .slice A2 t c2 ∧ OwnP wr w0.heap.size (.slice A2 t c2) pre) ∧ Below w0.heap.size w0 wr) (fun _ _ k_ _ => es.length - (intOf k_).toNat)
  case atStart => exact ⟨0, 0, false, [], Nat.zero_le _, rfl, rfl, rfl, rfl, by omega, ⟨none, 0, rfl, OwnP.nil _ _⟩, Below.refl _ _⟩
  case round =>
    obtain ⟨k, t, f, pre, hk, rfl, rfl, hpr, ht, htk, ⟨A2, c2, rfl, hown⟩, hb⟩ := hrel
    have HPR := Lib.hid hpr
    have HT := Lib.hid ht
    have hsz := hb.size
    have hln : pre.length < 1000000000 := by omega
    have hln2 : Hid (pre.length + 1 = t + 1) := by show _ = _; rw [HT.out]
    obtain ⟨q1, q2⟩ := HBX.out wr hb
    clear hpr ht
    by_cases hlt : k < es.length
    · obtain ⟨b, off, rfl, hbb, hc⟩ := rdp_at HR0.out (by omega)
      obtain ⟨a, ha⟩ : ∃ a, a = ea es k := ⟨_, rfl⟩
      obtain ⟨u, hu⟩ : ∃ u, u = eb es k := ⟨_, rfl⟩
      have hz1 := hc k hlt
      rw [← ha, ← hu] at hz1
      have HC : Hid (∀ W, Below w0.heap.size w0 W → W.cell? ⟨b, off + k * 2, none⟩ = some (.int .i64 a) ∧ W.cell? ⟨b, off + k * 2 + 1, none⟩ = some (.int .i64 u)) := fun W h =>
        ⟨(h.cell (p := ⟨b, off + k * 2, none⟩) (by show b < _; omega)).trans hz1.1, (h.cell (p := ⟨b, off + k * 2 + 1, none⟩) (by show b < _; omega)).trans hz1.2⟩
      have HSN : Hid (putRun (i, v) (es.take (k + 1)) = putStep (i, v) (pre, f) (a, u)) := by show _ = _; rw [take_snoc_pair hlt, putRun_snoc, HPR.out, ha, hu]
      obtain ⟨p1, p2⟩ := HC.out wr hb
      clear hc ha hu hz1
      cases f
      · by_cases hle : i ≤ a
        · by_cases heq : a = i
          · subst heq
            have HS2 : Hid (putRun (a, v) (es.take (k + 1)) = (pre ++ [(a, v)], true)) := by show _ = _; rw [HSN.out]; simp [putStep]
            have HL2 : Hid ((pre ++ [(a, v)]).length = t + 1) := by show _ = _; rw [List.length_append, HT.out]; rfl
            go_wp2
            go_quiet (fail)
            have hod := Lib.hid (OwnP.alloc (ownsRow_below hown (below_drewN (Below.refl wr.heap.size wr) nq) : OwnP (wr.drewN nq) w0.heap.size (.slice A2 t c2) pre) (.cells #[.int .i64 a, .int .i64 v] 48))
            go_wp2_with (first | (at_builtin; refine wpl_append_pair rfl (.tmp 26) (.tmp 28) rfl w0.heap.size _ _ rfl hod.out ⟨wr.heap.size, 0, none⟩ 1 (a, v) (t + 1) hln2.out rfl (pair_cells (a, v) _).1 (pair_cells (a, v) _).2 hln (by simp; omega) ?_; intro A3 c3 w1 hown1 hb1))
            have hbn := ((below_drewN hb nq).alloc (by simp; omega) (.cells #[.int .i64 a, .int .i64 v] 48)).trans hb1
            obtain ⟨r1, r2⟩ := HBX.out w1 hbn
            obtain ⟨s1, s2⟩ := HC.out w1 hbn
            clear q1 q2 p1 p2
            go_quiet (fail)
            go_wp2
            go_roundw
            case rel => exact ⟨k + 1, t + 1, true, _, by omega, by go_num, rfl, HS2.out, HL2.out, by omega, ⟨A3, c3, rfl, ownsRow_below hown1.out (below_drewN (Below.refl _ _) _)⟩, below_drewN hbn _⟩
            case measure => simp [intOf]; omega
          · have HS2 : Hid (putRun (i, v) (es.take (k + 1)) = (pre ++ [(i, v)] ++ [(a, u)], true)) := by show _ = _; rw [HSN.out]; simp [putStep, hle, heq]
            have HL2 : Hid ((pre ++ [(i, v)] ++ [(a, u)]).length = t + 1 + 1) := by show _ = _; rw [List.length_append, List.length_append, HT.out]; rfl
            have hln' : (pre ++ [(i, v)]).length < 1000000000 := by rw [List.length_append, HT.out]; simp; omega
            have hln2' : Hid ((pre ++ [(i, v)]).length + 1 = t + 1 + 1) := by show _ = _; rw [List.length_append, HT.out]; rfl
            have hne : (a == i) = false := beq_eq_false_iff_ne.2 heq
            have htk2 : t + 1 + 1 ≤ k + 1 + 1 := by
              have := (putRun_len (i, v) (es.take k)).2 (by rw [HPR.out])
              rw [HPR.out, List.length_take] at this
              have := HT.out
              simp only [] at *
              omega
            clear heq
            go_wp2
            go_quiet (fail)
            have hod := Lib.hid (OwnP.alloc (ownsRow_below hown (below_drewN (Below.refl wr.heap.size wr) nq) : OwnP (wr.drewN nq) w0.heap.size (.slice A2 t c2) pre) (.cells #[.int .i64 i, .int .i64 v] 48))
            go_wp2_with (first | (at_builtin; refine wpl_append_pair rfl (.tmp 26) (.tmp 28) rfl w0.heap.size _ _ rfl hod.out ⟨wr.heap.size, 0, none⟩ 1 (i, v) (t + 1) hln2.out rfl (pair_cells (i, v) _).1 (pair_cells (i, v) _).2 hln (by simp; omega) ?_; intro A3 c3 w1 hown1 hb1))
            have hbn := ((below_drewN hb nq).alloc (by simp; omega) (.cells #[.int .i64 i, .int .i64 v] 48)).trans hb1
            obtain ⟨r1, r2⟩ := HBX.out w1 hbn
            obtain ⟨s1, s2⟩ := HC.out w1 hbn
            have hszn := hbn.size
            clear q1 q2 p1 p2
            go_quiet (fail)
            have hod2 := Lib.hid (OwnP.alloc (ownsRow_below hown1.out (below_drewN (Below.refl w1.heap.size w1) nq) : OwnP (w1.drewN nq) w0.heap.size (.slice A3 (t + 1) c3) _) (.cells #[.int .i64 a, .int .i64 u] 48))
            go_wp2_with (first | (at_builtin; refine wpl_append_pair rfl (.tmp 38) (.tmp 43) rfl w0.heap.size _ _ rfl hod2.out ⟨w1.heap.size, 0, none⟩ 1 (a, u) (t + 1 + 1) hln2'.out rfl (pair_cells (a, u) _).1 (pair_cells (a, u) _).2 hln' (by simp; omega) ?_; intro A4 c4 w2 hown2 hb2))
            go_roundw
            case rel => exact ⟨k + 1, t + 1 + 1, true, _, by omega, by go_num, rfl, HS2.out, HL2.out, htk2, ⟨A4, c4, rfl, hown2.out⟩, ((below_drewN hbn _).alloc (by simp; omega) _).trans hb2⟩
            case measure => simp [intOf]; omega
        · have HS2 : Hid (putRun (i, v) (es.take (k + 1)) = (pre ++ [(a, u)], false)) := by show _ = _; rw [HSN.out]; simp [putStep, hle, show ¬ a = i from by omega]
          have HL2 : Hid ((pre ++ [(a, u)]).length = t + 1) := by show _ = _; rw [List.length_append, HT.out]; rfl
          have hne : (a == i) = false := beq_eq_false_iff_ne.2 (by omega)
          have hdl : decide (i ≤ a) = false := decide_eq_false hle
          have htk2 : t + 1 ≤ k + 1 + 1 := by omega
          clear hle
          go_wp2
          go_quiet (fail)
          go_wp2
          go_quiet (fail)
          go_wp2_with (first | (at_builtin; refine wpl_append_pair rfl (.tmp 38) (.tmp 43) rfl w0.heap.size _ _ rfl (OwnP.alloc (ownsRow_below hown (below_drewN (Below.refl wr.heap.size wr) _)) _) ⟨wr.heap.size, 0, none⟩ 1 (a, u) (t + 1) hln2.out rfl (pair_cells (a, u) _).1 (pair_cells (a, u) _).2 hln (by simp; omega) ?_; intro A4 c4 w2 hown2 hb2))
          go_roundw
          case rel => exact ⟨k + 1, t + 1, false, _, by omega, by go_num, rfl, HS2.out, HL2.out, htk2, ⟨A4, c4, rfl, hown2.out⟩, ((below_drewN hb _).alloc (by simp; omega) _).trans hb2⟩
          case measure => simp [intOf]; omega
      · by_cases heq : a = i
        · subst heq
          have HS2 : Hid (putRun (a, v) (es.take (k + 1)) = (pre, true)) := by show _ = _; rw [HSN.out]; simp [putStep]
          go_wp2
          go_quiet (fail)
          go_wp2
          go_quiet (fail)
          go_wp2
          go_roundw
          case rel => exact ⟨k + 1, t, true, _, by omega, by go_num, rfl, HS2.out, HT.out, by omega, ⟨A2, c2, rfl, ownsRow_below hown (below_drewN (Below.refl _ _) _)⟩, below_drewN hb _⟩
          case measure => simp [intOf]; omega
        · have HS2 : Hid (putRun (i, v) (es.take (k + 1)) = (pre ++ [(a, u)], true)) := by show _ = _; rw [HSN.out]; simp [putStep, heq]
          have HL2 : Hid ((pre ++ [(a, u)]).length = t + 1) := by show _ = _; rw [List.length_append, HT.out]; rfl
          have hne : (a == i) = false := beq_eq_false_iff_ne.2 heq
          clear heq
          go_wp2
          go_quiet (fail)
          go_wp2
          go_quiet (fail)
          go_wp2_with (first | (at_builtin; refine wpl_append_pair rfl (.tmp 38) (.tmp 43) rfl w0.heap.size _ _ rfl (OwnP.alloc (ownsRow_below hown (below_drewN (Below.refl wr.heap.size wr) _)) _) ⟨wr.heap.size, 0, none⟩ 1 (a, u) (t + 1) hln2.out rfl (pair_cells (a, u) _).1 (pair_cells (a, u) _).2 hln (by simp; omega) ?_; intro A4 c4 w2 hown2 hb2))
          go_roundw
          case rel => exact ⟨k + 1, t + 1, true, _, by omega, by go_num, rfl, HS2.out, HL2.out, by omega, ⟨A4, c4, rfl, hown2.out⟩, ((below_drewN hb _).alloc (by simp; omega) _).trans hb2⟩
          case measure => simp [intOf]; omega
    · have hte : es.take k = es := List.take_of_length_le (by omega)
      rw [hte] at HPR
      clear hte
      cases f
      · have hov : out = pre ++ [(i, v)] := by rw [HO.out]; unfold putD; rw [HPR.out]; rfl
        have hmm : m = t + 1 := by rw [← HM.out, hov, List.length_append, HT.out]; rfl
        subst hmm
        have HOV := Lib.hid hov
        clear hov
        go_wp2_with (first | (at_builtin; refine wpl_append_pair rfl (.tmp 47) (.tmp 49) rfl w0.heap.size _ _ rfl (OwnP.alloc hown _) ⟨wr.heap.size, 0, none⟩ 1 (i, v) (t + 1) hln2.out rfl (pair_cells (i, v) _).1 (pair_cells (i, v) _).2 hln (by simp; omega) ?_; intro A4 c4 w2 hown2 hb2))
        go_ret
        exact ⟨A4, c4, rfl, by rw [HOV.out]; exact ownsRow_lower hown2.out (by omega), HB0.out.trans (((hb.alloc hsz _).trans hb2).mono (by omega))⟩
      · have hov : out = pre := by rw [HO.out]; unfold putD; rw [HPR.out]; rfl
        have hmm : m = t := by rw [← HM.out, hov, HT.out]
        subst hmm
        have HOV := Lib.hid hov
        clear hov
        go_wp2
        go_ret
        exact ⟨A2, c2, rfl, by rw [HOV.out]; exact ownsRow_lower hown (by omega), HB0.out.trans (hb.mono (by omega))⟩

def lits6 : List Int := [127, 128, 300, 70000, 2147483646, 2147483647]
theorem lit6_cell (w : World) (N : Int) (h : N % 11 = 3) (h0 : 0 ≤ N) : (w.alloc (.cells #[.int .i64 127, .int .i64 128, .int .i64 300, .int .i64 70000, .int .i64 2147483646, .int .i64 2147483647] 3)).cell? ⟨w.heap.size, (N / 11 % 6).toNat, none⟩ = some (.int .i64 (idxOf N)) := by
  rw [World.cell?_alloc_at _ _ _ _ rfl]
  have hj : (N / 11 % 6).toNat < 6 := by omega
  unfold idxOf
  rw [if_pos h]
  generalize (N / 11 % 6).toNat = j at *
  match j, hj with
  | 0, _ => rfl
  | 1, _ => rfl
  | 2, _ => rfl
  | 3, _ => rfl
  | 4, _ => rfl
  | 5, _ => rfl
set_option maxHeartbeats 4000000 in
theorem cells_any (A : Option Addr) (n c : Nat) (xs : List Int) (w : World) (hl : xs.length = n) (hr : Rd w w.heap.size A xs) (hx : ∀ x ∈ xs, -9223372036854775808 ≤ x ∧ x ≤ 9223372036854775807) (hn : n ≤ maxLen) (out : Vw) (m : Nat) (ho : out = mkCells xs) (hm : out.length = m) :
    Calls Try.prog 20 #[.slice A n c] w fun e w' => ∃ A' c', e = .returned (.slice A' m c') ∧ OwnP w' w.heap.size (.slice A' m c') out ∧ Below w.heap.size w w' := by
  subst hl
  have HX := Lib.hid hx
  have HO := Lib.hid ho
  have HM := Lib.hid hm
  clear hx ho hm
  unfold maxLen at hn
  go_enter Try.func20, Try.ntmps20
  go_wp2
  go_loopw [3, 4, 5, 6, 7] (fun o i _ _ _ wr => ∃ (k t : Nat), 2 * k ≤ xs.length ∧ k ≤ 12 ∧ i = .int .i64 ((2 * k : Nat) : Int) ∧ (mkV xs k).length = t ∧ t ≤ k ∧ (∃ A2 c2, o = .slice A2 t c2 ∧ OwnP wr w.heap.size (.slice A2 t c2) (mkV xs k)) ∧ Below w.heap.size w wr) (fun _ i _ _ _ _ => 24 - (intOf i).toNat)
  case atStart => exact ⟨0, 0, by omega, by omega, rfl, rfl, by omega, ⟨none, 0, rfl, OwnP.nil _ _⟩, Below.refl _ _⟩
  case round =>
    obtain ⟨k, t, hk2, hk12, rfl, ht, htk, ⟨A2, c2, rfl, hown⟩, hb⟩ := hrel
    have HT := Lib.hid ht
    clear ht
    obtain ⟨q, hq⟩ : ∃ q, q = 2 * k := ⟨_, rfl⟩
    rw [← hq]
    have hsz := hb.size
    by_cases hlt : q + 1 < xs.length
    · by_cases h24 : q < 24
      · obtain ⟨b, off, rfl, hbb, hc⟩ := (show ∃ b off, A = some ⟨b, off, none⟩ ∧ b < w.heap.size ∧ ∀ j, j < xs.length → w.cell? ⟨b, off + j, none⟩ = some (.int .i64 (ix xs j)) from hr (by omega))
        have HC1 := Lib.hid (hc q (by omega))
        have HC2 := Lib.hid (hc (q + 1) hlt)
        have c1 := (hb.cell (p := ⟨b, off + q, none⟩) hbb).trans (hc q (by omega))
        have hd1 := HX.out _ (ix_mem (show q < xs.length by omega))
        have hd2 := HX.out _ (ix_mem hlt)
        obtain ⟨a, ha⟩ : ∃ a, a = ix xs q := ⟨_, rfl⟩
        obtain ⟨v, hv⟩ : ∃ v, v = ix xs (q + 1) := ⟨_, rfl⟩
        rw [← ha] at c1 hd1
        rw [← hv] at hd2 HC2
        have hn1 := around_lo (n := a) (m := 100000) (by omega)
        have hn2 := around_hi (n := a) (m := 100000) (by omega)
        have HSN : Hid (mkV xs (k + 1) = putD (mkV xs k) (cellOf a v)) := by show _ = _; rw [ha, hv, hq]; rfl
        obtain ⟨N, hN⟩ : ∃ N : Int, N = around a 100000 := ⟨_, rfl⟩
        have HA : Hid (∀ W, Calls Try.prog 8 #[.int .i64 a, .int .i64 100000] W fun e w' => e = .returned (.int .i64 N) ∧ W = w') := fun W => by rw [hN]; exact around_any _ _ W hd1.1 hd1.2 (by omega) (by omega)
        have HB : Hid (∀ W, Calls Try.prog 8 #[.int .i64 v, .int .i64 9] W fun e w' => e = .returned (.int .i64 (around v 9)) ∧ W = w') := fun W => around_any _ _ W hd2.1 hd2.2 (by omega) (by omega)
        have hv1 := around_lo (n := v) (m := 9) (by omega)
        have hv2 := around_hi (n := v) (m := 9) (by omega)
        have HCO : Hid (cellOf a v = (idxOf N, if N % 3 > 0 then around v 9 - 4 else v)) := by show _ = _; rw [hN]; rfl
        have HK := Lib.hid hq
        rw [← hN] at hn1 hn2
        obtain ⟨y, hy⟩ : ∃ y, y = around v 9 := ⟨_, rfl⟩
        rw [← hy] at hv1 hv2 HB HCO
        have d2 := (hb.cell (p := ⟨b, off + (q + 1), none⟩) hbb).trans HC2.out
        have d2' : (wr.alloc (.cells #[.int .i64 127, .int .i64 128, .int .i64 300, .int .i64 70000, .int .i64 2147483646, .int .i64 2147483647] 3)).cell? ⟨b, off + (q + 1), none⟩ = some (.int .i64 v) := (World.cell?_alloc_lt _ _ _ (by show b < _; omega)).trans d2
        have HN1 := Lib.hid hn1
        have HIB : Hid (0 ≤ idxOf N ∧ idxOf N ≤ 2147483647) := by show _ ∧ _; rw [hN]; exact idxOf_bd a
        have hqi : (q : Int) + 1 < (xs.length : Int) := by omega
        have hq24 : (q : Int) < 24 := by omega
        have HRDP : Hid (∀ W, Below wr.heap.size wr W → RdP W W.heap.size A2 (mkV xs k)) := fun W h => OwnP.rd (ownsRow_below hown h : OwnP W w.heap.size (.slice A2 t c2) (mkV xs k))
        have HLN : Hid ((putD (mkV xs k) (cellOf a v)).length ≤ t + 1) := by show _ ≤ _; have := putD_len (mkV xs k) (cellOf a v); have := HT.out; omega
        obtain ⟨t2, ht2⟩ : ∃ t2, (putD (mkV xs k) (cellOf a v)).length = t2 := ⟨_, rfl⟩
        have HT2 := Lib.hid ht2
        have ht2b : t2 ≤ k + 1 := by have := HLN.out; omega
        have hk11 : k + 1 ≤ 12 := by omega
        have hk2' : 2 * (k + 1) ≤ xs.length := by omega
        have HQ2 : Hid (((q : Int) + 2) = ((2 * (k + 1) : Nat) : Int)) := by show _ = _; omega
        have htb : t ≤ 1000000 := by omega
        clear hc ha hv hN hq hy hown ht2
        by_cases h11 : N % 11 = 3
        case' pos =>
          have hlc := lit6_cell wr N h11 hn1
          have HAT : Hid (cellOf a v = (idxOf N, if N % 3 > 0 then y - 4 else v)) := HCO.out
          obtain ⟨at_, hat⟩ : ∃ at_, at_ = idxOf N := ⟨_, rfl⟩
          rw [← hat] at hlc HAT
          clear hat
        case' neg =>
          have HAT : Hid (cellOf a v = (N % 20, if N % 3 > 0 then y - 4 else v)) := by show _ = _; rw [HCO.out]; unfold idxOf; rw [if_neg h11]
          have h11' : (N % 11 == 3) = false := beq_eq_false_iff_ne.2 h11
          clear h11
        all_goals
          by_cases h3 : 0 < N % 3
          case' pos =>
            have HAT2 := Lib.hid (HAT.out.trans (by rw [if_pos h3]))
            go_wp2_with fail
            refine (HA.out _).mono ?_
            rintro e w1 ⟨rfl, rfl⟩
            go_wp2_with fail
            refine (HB.out _).mono ?_
            rintro e w1 ⟨rfl, rfl⟩
          case' neg =>
            have HAT2 := Lib.hid (HAT.out.trans (by rw [if_neg h3]))
            have h3' : decide (0 < N % 3) = false := decide_eq_false h3
            clear h3
            go_wp2_with fail
            refine (HA.out _).mono ?_
            rintro e w1 ⟨rfl, rfl⟩
        all_goals
          go_wp2_with fail
          refine (put_any A2 t c2 (mkV xs k) _ _ _ HT.out (HRDP.out _ (by first | exact Below.refl _ _ | exact (Below.refl _ _).alloc (Nat.le_refl _) _)) htb _ t2 (by rw [← HAT2.out]) HT2.out).mono ?_
          rintro e w5 ⟨A5, c5, rfl, ho5, hb5⟩
          have hbx : Below w.heap.size w w5 := by first | exact hb.trans (hb5.mono hsz) | exact (hb.alloc hsz _).trans (hb5.mono (by simp; omega))
          have ho6 : OwnP w5 w.heap.size (.slice A5 t2 c5) (putD (mkV xs k) (cellOf a v)) := by first | exact ownsRow_lower ho5 hsz | exact ownsRow_lower ho5 (by simp; omega)
          have HO6 := Lib.hid ho6
          clear hb5 ho5 ho6
          go_wp2
          go_roundw
          case rel => exact ⟨k + 1, t2, hk2', hk11, congrArg _ HQ2.out, by rw [HSN.out]; exact HT2.out, ht2b, ⟨A5, c5, rfl, by rw [HSN.out]; exact HO6.out⟩, hbx⟩
          case measure => simp [intOf]; omega
      · have HFIN : Hid (out = mkV xs k) := by show _ = _; rw [HO.out]; unfold mkCells; rw [show min (xs.length / 2) 12 = k from by omega]
        have hmt : m = t := by rw [← HM.out, HFIN.out, HT.out]
        subst hmt
        go_wp2
        go_ret
        exact ⟨A2, c2, rfl, by rw [HFIN.out]; exact hown, hb⟩
    · by_cases h24 : q < 24
      · have HFIN : Hid (out = mkV xs k) := by show _ = _; rw [HO.out]; unfold mkCells; rw [show min (xs.length / 2) 12 = k from by omega]
        have hmt : m = t := by rw [← HM.out, HFIN.out, HT.out]
        subst hmt
        go_wp2
        go_ret
        exact ⟨A2, c2, rfl, by rw [HFIN.out]; exact hown, hb⟩
      · have HFIN : Hid (out = mkV xs k) := by show _ = _; rw [HO.out]; unfold mkCells; rw [show min (xs.length / 2) 12 = k from by omega]
        have hmt : m = t := by rw [← HM.out, HFIN.out, HT.out]
        subst hmt
        go_wp2
        go_ret
        exact ⟨A2, c2, rfl, by rw [HFIN.out]; exact hown, hb⟩

end Go.Proofs.Ytcniepogobgaoaa
