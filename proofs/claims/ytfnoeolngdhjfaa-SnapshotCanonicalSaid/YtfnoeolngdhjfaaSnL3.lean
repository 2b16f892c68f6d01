/-
  Package snapshot's laws: SnapshotCanonical, walked.
-/
import Derived.Test.YtfnoeolngdhjfaaSnL2
namespace Go.Proofs.Ytfnoeolngdhjfaa
set_option linter.unusedVariables false
set_option linter.unusedSimpArgs false
set_option maxRecDepth 4000
open Go.RowKit

set_option maxHeartbeats 400000 in
theorem fewB_any (A : Option Addr) (n c m : Nat) (zs : List Int) (w : World) (hs : SlU w w.heap.size A n c zs) (hm : m = min n 60) (hn : n ≤ maxLen) :
    Calls Try.prog 19 #[.slice A n c, .int .i64 60] w fun e w' => ∃ A' c', e = .returned (.slice A' m c') ∧ OwnU 5 w' w.heap.size (.slice A' m c') (zs.take m) ∧ Below w.heap.size w w' := by
  have hcm := hs.capmax
  have hc := hs.cap
  unfold maxLen at hcm hn
  have hmi : min (n : Int) 60 = (m : Int) := by omega
  have h1 : Hid (([] : List Int).length + m = m) := by show _ = _; simp
  have h2 : Hid (([] : List Int).length + m < 1000000000000) := by show _ < _; simp; omega
  have htl : Hid ((zs.take m).length = m) := by show _ = _; rw [List.length_take]; have := hs.len; omega
  have htk := Lib.hid (hs.rd.take m)
  have hmn : m ≤ n := by omega
  have HNC := Lib.hid hs.nil
  clear hm hs
  go_enter Try.func19, Try.ntmps19
  go_wp2_with (at_builtin; refine wpl_appendsU rfl (.tmp 6) (.tmp 12) 26 rfl 5 Try.underlying26 u8_info w.heap.size _ [] (zs.take m) rfl (OwnU.nil _ _ _) _ m _ _ m h1.out rfl htl.out htk.out HNC.out h2.out (Nat.le_refl _) ?_; intro A1 c1 w1 hown1 hg1 hb1)
  go_ret
  exact ⟨A1, c1, rfl, hown1.out, hb1⟩

theorem up_sub_len : ∀ {s t : Vw}, Up s → Up t → (∀ p ∈ s, p ∈ t) → s.length ≤ t.length
  | [], _, _, _, _ => Nat.zero_le _
  | x :: s, [], _, _, h => by have := h x (List.mem_cons_self ..); cases this
  | x :: s, y :: t, hs, ht, h => by
    obtain ⟨a1, a2⟩ := up_cons hs
    obtain ⟨b1, b2⟩ := up_cons ht
    rcases List.mem_cons.1 (h x (List.mem_cons_self ..)) with e | hx
    · have := up_sub_len a2 b2 (fun p hp => by
        rcases List.mem_cons.1 (h p (List.mem_cons_of_mem _ hp)) with e' | hp'
        · have h1 := a1 p hp; rw [e, ← e'] at h1; omega
        · exact hp')
      simp only [List.length_cons]; omega
    · have := up_sub_len hs b2 (fun p hp => by
        rcases List.mem_cons.1 (h p hp) with e' | hp'
        · have h1 := b1 x hx
          rcases List.mem_cons.1 hp with e2 | hp2
          · rw [e2] at e'; rw [e'] at h1; omega
          · have h2 := a1 p hp2; rw [e'] at h2; omega
        · exact hp')
      simp only [List.length_cons] at *; omega
theorem filter_two {α : Type} (p : α → Bool) (l : List α) : l.length = (l.filter p).length + (l.filter fun x => !p x).length := by
  induction l with
  | nil => rfl
  | cons a t ih => cases h : p a <;> simp [h] <;> omega
theorem setB_long (old : Vw) : ∀ (l : Vw) (last : Int), l.length ≤ (setB old last l).length
  | [], _ => Nat.zero_le _
  | p :: t, last => by
    have := setB_long old t p.1
    have h1 := List.length_pos_iff.2 (enc_ne (p.1 - last - 1).toNat)
    rw [setB, List.length_append, List.length_append, List.length_cons]; omega
theorem view_len {a x : Vw} (ha : IsV a) (hx : IsV x) : x.length ≤ a.length + (difD a x).length := by
  have h1 := filter_two (fun p => decide (findD a p.1 ≠ some p.2)) x
  have h2 : (x.filter fun p => decide (findD a p.1 ≠ some p.2)).length ≤ (difD a x).length := by
    have h := setB_long a (setD a x) (-1)
    have e : (x.filter fun p => decide (findD a p.1 ≠ some p.2)) = setD a x := rfl
    rw [e]
    unfold difD
    rw [List.length_append]; omega
  have h3 : (x.filter fun p => !decide (findD a p.1 ≠ some p.2)).length ≤ a.length := by
    refine up_sub_len (hx.up.filter _) ha.up fun p hp => ?_
    have h := (List.mem_filter.1 hp).2
    have h4 : findD a p.1 = some p.2 := by
      rw [Bool.not_eq_true', decide_eq_false_iff_not] at h
      exact Classical.not_not.1 h
    exact (findD_mem ha.up).1 h4
  omega
/-- Apply, as the law asks of it. -/
theorem apply_res (A1 : Option Addr) (n1 c1 : Nat) (a : Vw) (A2 : Option Addr) (n2 c2 : Nat) (d : List Int) (w : World) (hs1 : SlP w w.heap.size A1 n1 c1 a) (hs2 : SlU w w.heap.size A2 n2 c2 d) (ha : IsV a) (hd : IsB d) (hal : a.length ≤ 100) (hdl : d.length ≤ 10000) :
    Calls Try.prog 17 #[.slice A1 n1 c1, .slice A2 n2 c2] w fun e w' => ∃ (A : Option Addr) (m c : Nat) (er : Int) (x : Vw), e = .returned (.tuple #[.slice A m c, .int .i64 er]) ∧ Below w.heap.size w w' ∧
      ((er = 7 ∨ er = 8) ∧ m = 0 ∨ er = 0 ∧ SlP w' w'.heap.size A m c x ∧ IsV x ∧ difD a x = d) := by
  have hl1 := hs1.len
  have hl2 := hs2.len
  refine (apply_any A1 n1 c1 a A2 n2 c2 d w hs1 hs2 (by omega) (by omega) ha hd).mono ?_
  rintro e w' ⟨hb1, ⟨hne, rfl⟩ | ⟨h0, A, m, c, x, rfl, hx, hown⟩⟩
  · refine ⟨none, 0, 0, _, [], rfl, hb1, .inl ⟨?_, rfl⟩⟩
    have key : IsE (errA a d) := by
      have hn1 := numR_len (b := d) (e := 0) (.inl rfl)
      have hnb := numR_isB (b := d) (e := 0) hd
      have k1 : ∀ n s, Inv1 d.length s → Inv1 d.length (loop1 a n s) := by
        intro n
        induction n with
        | zero => intro s h; exact h
        | succ n ih =>
          intro s h
          rw [loop1]
          by_cases hs : s.e = 0
          · rw [if_pos hs]; exact ih _ (h.step hs a)
          · rw [if_neg hs]; exact h
      have hk : Inv1 d.length (run1 a d) := k1 _ _ ⟨hnb, hn1.2.2.1, Int.le_refl 0, (show (0 : Int) ≤ 4294967296 by omega), fun _ => (show (0 : Int) ≤ 2147483648 by omega), by have := hn1.1; simp; omega, fun hz => by have := (hn1.2.1 hz).1; simp; omega⟩
      have k2 : ∀ n s, IsB s.b ∧ IsE s.e ∧ 0 ≤ s.next → IsE (loop2 a (run1 a d).gone n s).e := by
        intro n
        induction n with
        | zero => intro s h; exact h.2.1
        | succ n ih =>
          intro s h
          rw [loop2]
          by_cases hs : s.e = 0
          · rw [if_pos hs]
            obtain ⟨f1, f2, f3, f4, f5, f6⟩ := idxR_facts h.1 h.2.1 h.2.2 (i := (idxR s.next s.b s.e).1) (b' := (idxR s.next s.b s.e).2.1) (e' := (idxR s.next s.b s.e).2.2) rfl
            refine ih _ ⟨numR_isB f3, failR_in (numR_len (failR_in f4)).2.2.1, ?_⟩
            show 0 ≤ (idxR s.next s.b s.e).1 + 1; omega
          · rw [if_neg hs]; exact h.2.1
      have hm := numR_len (b := (run1 a d).b) (e := (run1 a d).e) hk.ise
      have := k2 (numR (run1 a d).b (run1 a d).e).1 ⟨(numR (run1 a d).b (run1 a d).e).2.1, (numR (run1 a d).b (run1 a d).e).2.2, 0, []⟩ ⟨numR_isB hk.isb, hm.2.2.1, Int.le_refl 0⟩
      exact failR_in this
    rcases key with h | h | h
    · exact absurd h hne
    · exact .inl h
    · exact .inr h
  · obtain ⟨h1, h2⟩ := dif_canon ha hd h0 hx
    exact ⟨A, m, c, 0, x, rfl, hb1, .inr ⟨rfl, hown.slP, h2, h1⟩⟩

set_option maxHeartbeats 4000000 in
theorem canon_walk (A1 : Option Addr) (n1 c1 : Nat) (xs : List Int) (A2 : Option Addr) (n2 c2 : Nat) (ys : List Int) (A3 : Option Addr) (n3 c3 : Nat) (zs : List Int) (pos cc : Int) (w : World) (h1 : In w A1 n1 xs) (h2 : In w A2 n2 ys)
    (h3 : SlU w w.heap.size A3 n3 c3 zs) (hzb : IsB zs) (hp1 : -9223372036854775808 ≤ pos) (hp2 : pos ≤ 9223372036854775807) (hc0 : 0 ≤ cc) (hc1 : cc ≤ 255) :
    Calls Try.prog 5 #[.slice A1 n1 c1, .slice A2 n2 c2, .slice A3 n3 c3, .int .i64 pos, .int .u8 cc] w fun e w' => e = .returned (.bool true) ∧ Below w.heap.size w w' := by
  obtain ⟨a, ha⟩ : ∃ a, a = mkCells xs := ⟨_, rfl⟩
  obtain ⟨b, hb⟩ : ∃ b, b = mkCells ys := ⟨_, rfl⟩
  have va : IsV a := by rw [ha]; exact mkCells_isV h1.bd
  have vb : IsV b := by rw [hb]; exact mkCells_isV h2.bd
  have la : a.length ≤ 12 := by rw [ha]; exact mkCells_len xs
  have lb : b.length ≤ 12 := by rw [hb]; exact mkCells_len ys
  obtain ⟨na, hna⟩ : ∃ n, a.length = n := ⟨_, rfl⟩
  obtain ⟨nb, hnb⟩ : ∃ n, b.length = n := ⟨_, rfl⟩
  have hdl := dif_len va vb (by omega) (by omega)
  have hdb := dif_isB a b
  have hdn : 0 < (difD a b).length := by
    unfold difD
    rw [List.length_append, List.length_append, List.length_append]
    have := List.length_pos_iff.2 (enc_ne (goneD a b).length)
    omega
  obtain ⟨d, hd⟩ : ∃ d, difD a b = d := ⟨_, rfl⟩
  rw [hd] at hdl hdb hdn
  obtain ⟨nd, hnd⟩ : ∃ n, d.length = n := ⟨_, rfl⟩
  rw [hnd] at hdl hdn
  have hnd1 : nd ≤ 400 := by omega
  have hnz : ((nd : Int) == 0) = false := beq_eq_false_iff_ne.2 (by omega)
  have hr1 := around_lo (n := pos) (m := (nd : Int)) (by omega)
  have hr2 := around_hi (n := pos) (m := (nd : Int)) (by omega)
  obtain ⟨j, hj⟩ : ∃ j : Nat, around pos nd = (j : Int) := ⟨(around pos nd).toNat, by omega⟩
  rw [hj] at hr1 hr2
  have hjn : j < nd := by omega
  obtain ⟨mf, hmf⟩ : ∃ m, m = min n3 60 := ⟨_, rfl⟩
  have h3m := h3.capmax
  have h3c := h3.cap
  have hn3 : n3 ≤ maxLen := by omega
  have hmf60 : mf ≤ 60 := by omega
  have HAR : Hid (∀ W, Calls Try.prog 18 #[.int .i64 pos, .int .i64 (nd : Int)] W fun e w' => e = .returned (.int .i64 (j : Int)) ∧ W = w') := fun W => by rw [← hj]; exact around_any _ _ W hp1 hp2 (by omega) (by omega)
  have HDB' : Hid (IsB (d.set j cc)) := fun c hc => by
    rcases List.mem_or_eq_of_mem_set hc with h | h
    · exact hdb c h
    · subst h; omega
  have HZB : Hid (IsB (zs.take mf)) := fun c hc => hzb c (List.mem_of_mem_take hc)
  have H1 := Lib.hid h1
  have H2 := Lib.hid h2
  have H3 := Lib.hid h3
  have HA := Lib.hid ha
  have HB := Lib.hid hb
  have HNA := Lib.hid hna
  have HNB := Lib.hid hnb
  have HD := Lib.hid hd
  have HND := Lib.hid hnd
  have HMF := Lib.hid hmf
  clear h1 h2 h3 ha hb hna hnb hd hnd hdl hdb hj hmf hr1 hr2 hzb
  go_enter Try.func5, Try.ntmps5
  go_wp2_with fail
  refine (cells_sl A1 n1 c1 xs w H1.out.len H1.out.rd H1.out.bd H1.out.max a na HA.out HNA.out).mono ?_
  rintro e w1 ⟨Aa, ca, rfl, hs1, hb1⟩
  have S1 := Lib.hid hs1
  have B1 := Lib.hid hb1
  clear hs1 hb1
  go_wp2_with fail
  refine (cells_sl A2 n2 c2 ys w1 H2.out.len ((H2.out.rd.below B1.out (Nat.le_refl _)).more B1.out.size) H2.out.bd H2.out.max b nb HB.out HNB.out).mono ?_
  rintro e w2 ⟨Ab, cb, rfl, hs2, hb2⟩
  have SA := Lib.hid (S1.out.below hb2 hb2.size)
  have SB := Lib.hid hs2
  have B2 := Lib.hid (B1.out.trans (hb2.mono B1.out.size))
  clear hs2 hb2 S1 B1
  go_wp2_with fail
  have hdi := diff_any Aa na ca a Ab nb cb b w2 SA.out SB.out (by have := HNA.out; omega) (by have := HNB.out; omega) va vb d nd HD.out.symm HND.out
  refine hdi.mono ?_
  rintro e w3 ⟨Ad, cd, rfl, ho3, hb3⟩
  obtain ⟨g, rfl, hgB, hgl, hcell, hfz⟩ := ho3.open_ hdn
  have hcj : w3.cell? ⟨g, j, none⟩ = some (.int .u8 (ix d j)) := hcell j hjn
  have hfj : w3.frozen? ⟨g, j, none⟩ = false := hfz j
  obtain ⟨w4, hw4⟩ : ∃ w4, w4 = w3.setCell ⟨g, j, none⟩ (.int .u8 cc) := ⟨_, rfl⟩
  have hb24 : Below w2.heap.size w2 w4 := by rw [hw4]; exact hb3.setCell (p := ⟨g, j, none⟩) hgB _
  have SA4 := Lib.hid (SA.out.below hb24 hb24.size)
  have B4 := Lib.hid (B2.out.trans (hb24.mono B2.out.size))
  have SD4 := Lib.hid (show SlU w4 w4.heap.size (some ⟨g, 0, none⟩) nd cd (d.set j cc) by rw [hw4]; exact (ho3.set_ j cc).slU)
  have S34 := Lib.hid (H3.out.below B4.out B4.out.size)
  have HW4 := Lib.hid hw4
  clear hdi ho3 hb3 SA SB hcell hfz hgB hb24 hw4 B2
  go_wp2_with fail
  refine (HAR.out w3).mono ?_
  rintro e w3' ⟨rfl, rfl⟩
  go_wp2_with fail
  rw [← HW4.out]
  refine (fewB_any A3 n3 c3 mf zs w4 S34.out HMF.out hn3).mono ?_
  rintro e w5 ⟨Af, cf, rfl, ho5, hb5⟩
  have SA5 := Lib.hid (SA4.out.below hb5 hb5.size)
  have SD5 := Lib.hid (SD4.out.below hb5 hb5.size)
  have SF5 := Lib.hid ho5.slU
  have B5 := Lib.hid (B4.out.trans (hb5.mono B4.out.size))
  clear ho5 hb5 SA4 SD4 S34 hcj hfj
  obtain ⟨w6, hw6⟩ : ∃ w6, w6 = w5.alloc (.cells #[.slice Af mf cf, .slice (some ⟨g, 0, none⟩) nd cd] 26) := ⟨_, rfl⟩
  have hb56 : Below w5.heap.size w5 w6 := by rw [hw6]; exact (Below.refl _ _).alloc (Nat.le_refl _) _
  have hz6 : w6.heap.size = w5.heap.size + 1 := by rw [hw6]; simp
  have hk6 : Blk w6 w5.heap.size 26 #[.slice Af mf cf, .slice (some ⟨g, 0, none⟩) nd cd] := by rw [hw6]; exact Blk.new w5 _ _
  have SA6 := Lib.hid (SA5.out.below hb56 hb56.size)
  have SD6 := Lib.hid (SD5.out.below hb56 hb56.size)
  have SF6 := Lib.hid (SF5.out.below hb56 hb56.size)
  have B6 := Lib.hid (B5.out.trans (hb56.mono B5.out.size))
  have HALL : Hid (∀ k, k < 2 → ∃ (Az : Option Addr) (nz cz : Nat) (z : List Int), IsB z ∧ z.length ≤ 400 ∧ ∀ W, Below w6.heap.size w6 W → W.cell? ⟨w5.heap.size, k, none⟩ = some (.slice Az nz cz) ∧ SlU W W.heap.size Az nz cz z) := fun k hk => by
    match k, hk with
    | 0, _ => exact ⟨Af, mf, cf, zs.take mf, HZB.out, by rw [List.length_take]; omega, fun W h => ⟨(hk6.below h (by omega)).cell 0, SF6.out.below h h.size⟩⟩
    | 1, _ => exact ⟨_, nd, cd, d.set j cc, HDB'.out, by rw [List.length_set, HND.out]; omega, fun W h => ⟨(hk6.below h (by omega)).cell 1, SD6.out.below h h.size⟩⟩
  have HW6 := Lib.hid hw6
  have HZ6 := Lib.hid hz6
  clear hb56 hk6 hw6 hz6 SA5 SD5 SF5
  go_wp2
  rw [← HW6.out]
  go_loopw [14] (fun i wr => ∃ k : Nat, k ≤ 2 ∧ i = .int .i64 (k : Int) ∧ Below w6.heap.size w6 wr) (fun i _ => 2 - (intOf i).toNat)
  case atStart => exact ⟨0, by omega, rfl, Below.refl _ _⟩
  case round =>
    obtain ⟨k, hk, rfl, hbr⟩ := hrel
    have hsz := hbr.size
    have BR := Lib.hid hbr
    clear hbr
    by_cases hlt : k < 2
    · obtain ⟨Az, nz, cz, z, hzB, hzl, hzW⟩ := HALL.out k hlt
      obtain ⟨hcz, hsz2⟩ := hzW wr BR.out
      have SZ := Lib.hid hsz2
      have SAr := Lib.hid (SA6.out.below BR.out hsz)
      have HZW := Lib.hid hzW
      have hki : (k : Int) < 2 := by omega
      clear hsz2 hzW
      go_wp2_with fail
      refine (apply_res Aa na ca a Az nz cz z wr SAr.out SZ.out va hzB (by omega) (by omega)).mono ?_
      rintro e w7 ⟨Ax, mx, cx, er, x, rfl, hb7, hcase⟩
      have BR7 := Lib.hid (BR.out.trans (hb7.mono hsz))
      have SA7 := Lib.hid (SAr.out.below hb7 hb7.size)
      obtain ⟨hcz7, hsz7⟩ := HZW.out w7 BR7.out
      have SZ7 := Lib.hid hsz7
      clear hb7 SAr SZ hsz7 hcz
      rcases hcase with ⟨he, rfl⟩ | ⟨rfl, hsx, vx, hdx⟩
      · rcases he with rfl | rfl
        all_goals
          go_wp2
          go_roundw
          case rel => exact ⟨k + 1, by omega, by go_num, BR7.out⟩
          case measure => simp [intOf]; omega
      · have SX7 := Lib.hid hsx
        have HDX := Lib.hid hdx
        have hxl := view_len va vx
        rw [HDX.out] at hxl
        have hlx : mx ≤ 500 := by have := SX7.out.len; omega
        have HZL : Hid (z.length = nz) := SZ7.out.len
        have hS0 : w7.drew.cell? ⟨w5.heap.size, k, none⟩ = some (.slice Az nz cz) := hcz7
        have SAd : Hid (SlP w7.drew w7.drew.heap.size Aa na ca a) := SA7.out.below ((Below.refl _ _).drew) (Nat.le_refl _)
        have SXd : Hid (SlP w7.drew w7.drew.heap.size Ax mx cx x) := SX7.out.below ((Below.refl _ _).drew) (Nat.le_refl _)
        have BRd : Hid (Below w6.heap.size w6 w7.drew) := BR7.out.drew
        have hna' : na ≤ 1000 := by have := SA7.out.len; omega
        have hcase2 : Hid (∀ w8, Below w7.drew.heap.size w7.drew w8 → Below w6.heap.size w6 w8 ∧ w8.cell? ⟨w5.heap.size, k, none⟩ = some (.slice Az nz cz) ∧ SlU w8 w8.heap.size Az nz cz z ∧ SlP w8 w8.heap.size Ax mx cx x) := fun w8 h => by
          have hb := BRd.out.trans (h.mono BRd.out.size)
          obtain ⟨q1, q2⟩ := HZW.out w8 hb
          exact ⟨hb, q1, q2, SXd.out.below h h.size⟩
        clear hxl
        go_wp2_with fail
        go_region_held3 (fun W => W.cell? ⟨w5.heap.size, k, none⟩ = some (.slice Az nz cz)) (first | exact hS0 | assumption) (first
          | (go_at_call 12; (with_reducible refine (diff_any Aa na ca a Ax mx cx x _ SAd.out SXd.out hna' (by omega) va vx z nz HDX.out.symm HZL.out).mono ?_); rintro e w8 ⟨A8, c8, rfl, ho8, hb8⟩; obtain ⟨q1, q2, q3, q4⟩ := hcase2.out w8 hb8; have SU8 := Lib.hid ho8.slU; have Q3 := Lib.hid q3; have HB8 := Lib.hid hb8; clear ho8 q3 q4 hb8 q1)
          | (go_at_call 11; (with_reducible refine (same_sl A8 nz c8 z Az nz cz z _ SU8.out Q3.out (by omega) (by omega) true (by simp)).mono ?_); rintro e w9 ⟨rfl, hb9⟩; obtain ⟨q1, q2', q3, q4⟩ := hcase2.out w9 (HB8.out.trans (hb9.mono HB8.out.size)); have BR9 := Lib.hid q1; have SX9 := Lib.hid q4; clear q1 q3 q4 hb9))
        have HLX : Hid (x.length = mx) := SX9.out.len
        have HVX := Lib.hid vx
        clear hS0 vx hcz7
        go_wp2
        go_loopw [17] (fun i wr => ∃ q : Nat, q ≤ mx ∧ i = .int .i64 (q : Int) ∧ Below w9.heap.size w9 wr) (fun i _ => mx - (intOf i).toNat)
        case atStart => exact ⟨0, Nat.zero_le _, rfl, Below.refl _ _⟩
        case round =>
          obtain ⟨q, hq, rfl, hbq⟩ := hrel
          have BQ := Lib.hid hbq
          clear hbq
          by_cases hqx : q < mx
          · have hqg : q < x.length := by rw [HLX.out]; exact hqx
            obtain ⟨bb, off, rfl, hbb, hc⟩ := rdp_at SX9.out.rd (by omega)
            have d1 := (BQ.out.cell (p := ⟨bb, off + q * 2, none⟩) hbb).trans (hc q hqg).1
            have hbd := HVX.out.bd _ (pair_mem hqg)
            obtain ⟨i, hi⟩ : ∃ i, i = ea x q := ⟨_, rfl⟩
            rw [← hi] at d1 hbd
            have hi1 : decide (i < 0) = false := decide_eq_false (by omega)
            have hi2 : decide (2147483647 < i) = false := decide_eq_false (by omega)
            by_cases hq0 : q = 0
            · subst hq0
              have d1' : wr.cell? ⟨bb, off, none⟩ = some (.int .i64 i) := by simpa using d1
              clear hc hi d1
              go_wp2
              go_quiet (fail)
              go_wp2
              go_roundw
              case rel => exact ⟨1, by omega, rfl, below_drewN BQ.out _⟩
              case measure => simp [intOf]; omega
            · obtain ⟨q', rfl⟩ : ∃ q', q = q' + 1 := ⟨q - 1, by omega⟩
              have d2 := (BQ.out.cell (p := ⟨bb, off + q' * 2, none⟩) hbb).trans (hc q' (by omega)).1
              obtain ⟨i', hi'⟩ : ∃ i, i = ea x q' := ⟨_, rfl⟩
              rw [← hi'] at d2
              have hup : i' < i := by
                have := List.pairwise_iff_getElem.1 HVX.out.up q' (q' + 1) (by omega) hqg (by omega)
                rw [hi, hi']
                simpa [ea, List.getD, List.getElem?_eq_getElem hqg, List.getElem?_eq_getElem (show q' < x.length by omega)] using this
              have hi3 : decide (i ≤ i') = false := decide_eq_false (by omega)
              have hw1 : IntKind.i64.wrap (((q' + 1 : Nat) : Int) - 1) = (q' : Int) := by rw [show ((q' + 1 : Nat) : Int) - 1 = (q' : Int) from by omega]; exact IntWalk.i64_in _ (by omega)
              clear hc hi hi' hq0 hbd
              go_wp2
              go_quiet (fail)
              clear hw1
              go_wp2
              go_roundw
              case rel => exact ⟨q' + 1 + 1, by omega, by go_num, below_drewN BQ.out _⟩
              case measure => simp [intOf]; omega
          · obtain rfl : q = mx := by omega
            have BE := Lib.hid (BR9.out.trans (BQ.out.mono BR9.out.size))
            go_wp2
            go_roundw
            case rel => exact ⟨k + 1, by omega, by go_num, BE.out⟩
            case measure => simp [intOf]; omega
    · obtain rfl : k = 2 := by omega
      go_wp2_with fail
      refine (lives_any wr).mono ?_
      rintro e w8 ⟨rfl, hb8⟩
      have B8 := Lib.hid (B6.out.trans ((BR.out.trans (hb8.mono hsz)).mono B6.out.size))
      clear hb8
      go_wp2
      go_ret
      exact ⟨rfl, B8.out⟩

theorem sl_of_rowU {w : World} {a : Option Addr} {len cap : Nat} {zs : List Int}
    (h : (a = none ∧ len = 0 ∧ cap = 0 ∧ zs = []) ∨ ∃ x, a = some x ∧ len ≤ cap ∧ cap ≤ maxLen ∧ zs.length = cap ∧ (∀ i, i < zs.length → w.cell? (x.add i) = some (.int .u8 (zs.getD i 0))) ∧ ∀ n ∈ zs, (Lit.int .u8 n).wf = true) :
    SlU w w.heap.size a len cap (zs.take len) ∧ IsB (zs.take len) := by
  obtain ⟨h1, h2, h3, h4⟩ := rd_of_rowU h
  refine ⟨⟨h2, ?_, ?_, ?_, h1⟩, fun c hc => by have := h4 c hc; omega⟩
  · rcases h with ⟨_, rfl, rfl, _⟩ | ⟨_, _, h, _⟩
    · exact Nat.le_refl _
    · exact h
  · rcases h with ⟨_, rfl, rfl, _⟩ | ⟨_, _, _, h, _⟩
    · simp [maxLen]
    · exact h
  · rcases h with ⟨_, rfl, rfl, _⟩ | ⟨x, rfl, _⟩
    · exact fun _ => rfl
    · intro e; cases e
end Go.Proofs.Ytfnoeolngdhjfaa
