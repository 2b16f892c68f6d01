/-
  Package feed's laws: FeedDelta, walked.
-/
import Derived.Test.YtcniepogobgaoaaFdB
import Derived.Laws.BytesArg
import Derived.Test.YtcniepogobgaoaaAny
namespace Go.Proofs.Ytcniepogobgaoaa
set_option linter.unusedVariables false
set_option linter.unusedSimpArgs false
set_option maxRecDepth 4000
open Go.RowKit Go.Maps Go.Sort Go.Shelf

/-- A slice of integers that came in. -/
structure In (w : World) (A : Option Addr) (n : Nat) (xs : List Int) : Prop where
  len : xs.length = n
  rd : Rd w w.heap.size A xs
  bd : ∀ x ∈ xs, -9223372036854775808 ≤ x ∧ x ≤ 9223372036854775807
  max : n ≤ maxLen
theorem in_of_row {w : World} {a : Option Addr} {len cap : Nat} {zs : List Int}
    (h : (a = none ∧ len = 0 ∧ cap = 0 ∧ zs = []) ∨ ∃ x, a = some x ∧ len ≤ cap ∧ cap ≤ maxLen ∧ zs.length = cap ∧ (∀ i, i < zs.length → w.cell? (x.add i) = some (.int .i64 (zs.getD i 0))) ∧ ∀ n ∈ zs, (Lit.int .i64 n).wf = true) : In w a len (zs.take len) := by
  obtain ⟨h1, h2, h3, h4⟩ := rd_of_row h
  exact ⟨h2, h1, h4, h3⟩
theorem net_new1 {w W1 : World} {M1 : World → (Nat → Prop) → Prop} (h1 : M1 W1 (fun k => w.heap.size ≤ k ∧ k < W1.heap.size)) (b1 : Below w.heap.size w W1) : Net w W1 (fun _ => False) M1 (fun _ _ => True) :=
  ⟨⟨_, fun _ => False, h1, trivial, fun k hk => ⟨hk.1, hk.2, fun h => h, fun h => h⟩, fun k hk => hk.elim⟩, b1, fun k h => h.elim⟩
theorem ownP_addr {w : World} {B n c bv off : Nat} {v : Vw} (h : OwnP w B (.slice (some ⟨bv, off, none⟩) n c) v) : B ≤ bv ∧ bv < w.heap.size := by
  have := h.rowLt_ bv (by
    rcases h.2 with ⟨h0, _⟩ | ⟨g, cap, cur, hv, _⟩
    · injection h0 with h0; cases h0
    · injection hv with hv; injection hv with hv; injection hv with h1 h2; subst h1 h2; simp [Value.ownBlock])
  exact ⟨this.1, this.2.1⟩
set_option maxHeartbeats 40000000 in
theorem delta_walk (A : Option Addr) (n c : Nat) (xs : List Int) (tick : Int) (w : World) (h : In w A n xs) (ht : -9223372036854775808 ≤ tick ∧ tick ≤ 9223372036854775807) :
    Calls Try.prog 6 #[.slice A n c, .int .i64 tick] w fun e w' => e = .returned (.bool true) ∧ Below w.heap.size w w' := by
  obtain ⟨v, hv⟩ : ∃ v, v = mkCells xs := ⟨_, rfl⟩
  have vv : IsV v := by rw [hv]; exact mkCells_isV h.bd
  have vl : v.length ≤ 12 := by rw [hv]; exact mkCells_len xs
  obtain ⟨nv, hnv⟩ : ∃ nv, v.length = nv := ⟨_, rfl⟩
  obtain ⟨t, ht0⟩ : ∃ t : Nat, around tick 6000 = (t : Int) := ⟨(around tick 6000).toNat, by have := around_lo (n := tick) (m := 6000) (by omega); omega⟩
  have ht6 : t < 6000 := by have := around_hi (n := tick) (m := 6000) (by omega); omega
  have HV := Lib.hid hv
  have HNV := Lib.hid hnv
  have HT := Lib.hid ht0
  have HH := Lib.hid h
  have hnv2 : nv ≤ 100 := by omega
  clear hv hnv ht0 h
  go_enter Try.func6, Try.ntmps6
  go_wp2_with fail
  refine (news_any 2 w).mono ?_
  rintro e w1 ⟨gs, rfl, _, hm1, hb1⟩
  have HN1 := Lib.hid (net_new1 (M1 := fun W P => SndM W P gs 2 [] (-1) []) hm1 hb1)
  have HB1 := Lib.hid hb1
  clear hm1 hb1
  go_wp2_with fail
  refine (around_any tick 6000 w1 ht.1 ht.2 (by omega) (by omega)).mono ?_
  rintro e w2 ⟨rfl, rfl⟩
  rw [HT.out]
  go_wp2_with fail
  have hi := HH.out
  refine (cells_any A n c xs w1 hi.len ((hi.rd.below HB1.out (Nat.le_refl _)).more HB1.out.size) hi.bd hi.max v nv HV.out HNV.out).mono ?_
  rintro e w3 ⟨A3, c3, rfl, ho3, hb3⟩
  have hn3 := HN1.out.more (X' := fun k => w1.heap.size ≤ k ∧ k < w3.heap.size) (stabS gs 2 [] (-1) []) stabT hb3 (fun k hk => .inr hk)
  have HA3 : Hid (∀ bv off, A3 = some ⟨bv, off, none⟩ → w1.heap.size ≤ bv ∧ bv < w3.heap.size) := Lib.hid fun bv off e => by subst e; exact ownP_addr ho3
  have HS3 := Lib.hid ho3.slP
  have HN3 := Lib.hid hn3
  clear ho3 hb3 hn3 HN1 hi
  go_wp2_with fail
  refine (net_send HN3.out stabT (SOk.nil 2 (-1)) t (by omega) (by omega) (by omega) (by omega) (by omega) (by simp) A3 nv c3 v HS3.out (fun bv off e => .inl (HA3.out bv off e)) vv hnv2).mono ?_
  rintro e w4 ⟨A4, m4, c4, rfl, _, hn4, hk4⟩
  have HS4 := Lib.hid (HS3.out.keepX hk4 (fun bv off e => HA3.out bv off e))
  have HN4 : Hid (Net w w4 (fun k => w1.heap.size ≤ k ∧ k < w3.heap.size) (fun W P => SndM W P gs 2 [((t : Int), v)] (t : Int) []) (fun _ _ => True)) := Lib.hid hn4
  have hs4 : SOk 2 [((t : Int), v)] (t : Int) [] := (SOk.nil 2 (-1)).send (t := (t : Int)) (by omega) (by omega) vv (by omega)
  have HK4 := Lib.hid hs4
  clear hn4 hk4 hs4 HS3 HN3
  go_wp2_with fail
  refine (net_ack HN4.out stabT HK4.out (t : Int) (by omega) (by omega) (by simp)).mono ?_
  rintro e w5 ⟨rfl, hn5, hk5⟩
  have hal : ackL [((t : Int), v)] [] (t : Int) = [(t : Int)] := by simp [ackL, findK]
  have hs5 := HK4.out.ackd (t : Int)
  rw [hal] at hn5 hs5
  have HS5 := Lib.hid (HS4.out.keepX hk5 (fun bv off e => HA3.out bv off e))
  have HN5 := Lib.hid hn5
  have HK5 := Lib.hid hs5
  clear hn5 hk5 hal hs5 HS4 HN4
  go_wp2_with fail
  have hsnd := net_send HN5.out stabT HK5.out (t + 1) (by omega) (by omega) (by omega) (by omega) (by omega) (by simp) A3 nv c3 v HS5.out (fun bv off e => .inl (HA3.out bv off e)) vv hnv2
  rw [show ((t + 1 : Nat) : Int) = (t : Int) + 1 by omega] at hsnd
  refine hsnd.mono ?_
  rintro e w6 ⟨A6, m6, c6, rfl, ho6, hn6, hk6⟩
  have hpk : pktI [((t : Int), v)] [(t : Int)] (t + 1) v = enc (t + 1) ++ enc (t + 1) ++ [0, 0] := by
    have hb : baseN [((t : Int), v)] [(t : Int)] = t + 1 := by simp [baseN, findK]
    rw [pktI, hb, show (((t + 1 : Nat) : Int) - 1) = (t : Int) by omega, show findK [((t : Int), v)] (t : Int) = some v by simp [findK]]
    show _ ++ difD v v = _
    rw [dif_self vv]
  rw [hpk] at ho6
  have HS6 := Lib.hid (HS5.out.keepX hk6 (fun bv off e => HA3.out bv off e))
  have HO6 := Lib.hid ho6
  have HB6 := Lib.hid hn6.bel
  clear ho6 hk6 hn6 hpk hsnd HN5 HS5
  obtain ⟨L, hL⟩ : ∃ L, (enc (t + 1)).length = L := ⟨_, rfl⟩
  have hL2 : L ≤ 2 := by rw [← hL]; exact enc_len' (t + 1) 2 (by omega) (by omega)
  have hL1 : 1 ≤ L := by rw [← hL]; exact List.length_pos_iff.2 (enc_ne (t + 1))
  obtain ⟨pk, hpk⟩ : ∃ pk, pk = enc (t + 1) ++ enc (t + 1) ++ [0, 0] := ⟨_, rfl⟩
  rw [← hpk] at HO6
  obtain ⟨q, hq⟩ : ∃ q, q = L + L := ⟨_, rfl⟩
  have hpl : pk.length = q + 2 := by rw [hpk, List.length_append, List.length_append, hL, hq]; rfl
  have hib : IsB pk := by
    rw [hpk]
    intro x hx
    rcases List.mem_append.1 hx with h | h
    · rcases List.mem_append.1 h with h | h <;> exact enc_isB _ x h
    · simp at h; omega
  have hp0 : 0 < m6 := by
    rw [← HO6.out.len, rcPack, List.length_append]
    have := List.length_pos_iff.2 (enc_ne (toN pk).length)
    omega
  obtain ⟨g6, hg6, _, _, _, _⟩ := HO6.out.open_ hp0
  subst hg6
  have hdec := decode_any (toN pk) g6 0 m6 c6 (q + 2) w6 HO6.out.rd HO6.out.len HO6.out.cap.1 (by simp [toN, hpl]) (by omega) (by omega) (toN_lt hib)
  rw [natI_toN hib] at hdec
  have HDEC := Lib.hid hdec
  have HPK := Lib.hid hpk
  have HPL := Lib.hid hpl
  have HQ := Lib.hid hq
  have HL := Lib.hid hL
  clear hdec hpk hpl hL hib hp0
  have hq4 : 2 ≤ q := by omega
  have hq5 : q ≤ 4 := by omega
  clear hq
  go_wp2_with fail
  refine HDEC.out.mono ?_
  rintro e w7 ⟨gd, c7, rfl, hgd, rfl, hrd, hb7⟩
  have HRD := Lib.hid hrd
  have HB7 := Lib.hid (HB6.out.trans (hb7.mono HB6.out.size))
  have HS7 := Lib.hid (HS6.out.below hb7 hb7.size)
  clear hrd hb7 HS6
  have g1 : ¬ ((6 : Int) < ((q + 2 : Nat) : Int)) := by omega
  have g2 : ¬ (((q + 2 : Nat) : Int) < 2) := by omega
  go_wp2_with fail
  refine (diff_sl A3 nv c3 v A3 nv c3 v w7 HS7.out HS7.out vv vv (by omega) (by omega) [0, 0] 2 (dif_self vv) rfl).mono ?_
  rintro e w8 ⟨A8, c8, rfl, hs8, hb8⟩
  have HS8 := Lib.hid hs8
  have HB8 := Lib.hid (HB7.out.trans (hb8.mono HB7.out.size))
  have HRD8 := Lib.hid ((HRD.out.below hb8 (Nat.le_refl _)).more hb8.size)
  clear hs8 hb8 HRD HS7 g1 g2
  obtain ⟨b8, o8, h8, _, hc8⟩ := HS8.out.rd (by simp)
  subst h8
  have hcd : ∀ j, j < 2 → w8.cell? ⟨gd, q + j, none⟩ = some (.int .u8 (([0, 0] : List Int).getD j 0)) := fun j hj => by
    obtain ⟨b', o', e1, _, e3⟩ := HRD8.out (by rw [HPL.out]; omega)
    injection e1 with e1
    injection e1 with e1 e2
    subst e1 e2
    have := e3 (q + j) (by rw [HPL.out]; omega)
    rw [Nat.zero_add] at this
    rw [this]
    show some (Value.int .u8 (ix pk (q + j))) = _
    have hl2 : (enc (t + 1) ++ enc (t + 1)).length = q := by rw [List.length_append, HL.out, HQ.out]
    rw [HPK.out, ix_app_r (by rw [hl2]; omega), hl2, Nat.add_sub_cancel_left]
    rfl
  have hcv1 : ∀ N, Sem.run Try.prog (convert 33 9 (.slice (some ⟨gd, q, none⟩) 2 2)) (w8.drewN N) = .ok (.string (strOfNums [0, 0])) (w8.drewN N) := fun N => run_convert_bytes_arg (w8.drewN N) 33 5 Try.underlying33 Try.underlying5 gd q 2 2 [0, 0] rfl hcd 9 Try.underlying9
  have hcv2 : ∀ N, Sem.run Try.prog (convert 33 9 (.slice (some ⟨b8, o8, none⟩) 2 c8)) (w8.drewN N) = .ok (.string (strOfNums [0, 0])) (w8.drewN N) := fun N => run_convert_bytes_arg (w8.drewN N) 33 5 Try.underlying33 Try.underlying5 b8 o8 2 c8 [0, 0] rfl (fun j hj => hc8 j hj) 9 Try.underlying9
  have hcv1a := hcv1 0
  have hcv2a := hcv2 0
  have hcv1b := hcv1 1
  have hcv2b := hcv2 1
  rw [show w8.drewN 0 = w8 from rfl] at hcv1a hcv2a
  rw [show w8.drewN 1 = w8.drew from rfl] at hcv1b hcv2b
  obtain ⟨S, hS⟩ : ∃ S, S = strOfNums [0, 0] := ⟨_, rfl⟩
  rw [← hS] at hcv1a hcv2a hcv1b hcv2b
  have hcv1' : ∀ N, Sem.run Try.prog (convert 33 9 (.slice (some ⟨gd, q, none⟩) 2 2)) (w8.drewN N) = .ok (.string S) (w8.drewN N) := by rw [hS]; exact hcv1
  have hcv2' : ∀ N, Sem.run Try.prog (convert 33 9 (.slice (some ⟨b8, o8, none⟩) 2 c8)) (w8.drewN N) = .ok (.string S) (w8.drewN N) := by rw [hS]; exact hcv2
  have hgei : decide ((2 : Int) ≤ (q : Int) + 2) = true := decide_eq_true (by omega)
  have hgen : decide (2 ≤ q + 2) = true := decide_eq_true (by omega)
  have hq0 : (0 : Int) ≤ (q : Int) := by omega
  have hw1 : IntKind.i64.wrap (q : Int) = (q : Int) := IntWalk.i64_in _ (by omega)
  have HSTR : Hid (∀ W, Below w8.heap.size w8 W → Sem.run Try.prog (convert 33 9 (.slice (some ⟨gd, q, none⟩) 2 2)) W = .ok (.string S) W ∧ Sem.run Try.prog (convert 33 9 (.slice (some ⟨b8, o8, none⟩) 2 c8)) W = .ok (.string S) W) := Lib.hid fun W hW => by
    have hgl : gd < w8.heap.size := block_lt_of_cell (hcd 0 (by omega))
    have hbl : b8 < w8.heap.size := block_lt_of_cell ((hc8 0 (by simp)))
    rw [hS]
    exact ⟨run_convert_bytes_arg W 33 5 Try.underlying33 Try.underlying5 gd q 2 2 [0, 0] rfl (fun j hj => (hW.cell (p := ⟨gd, q + j, none⟩) hgl).trans (hcd j hj)) 9 Try.underlying9, run_convert_bytes_arg W 33 5 Try.underlying33 Try.underlying5 b8 o8 2 c8 [0, 0] rfl (fun j hj => (hW.cell (p := ⟨b8, o8 + j, none⟩) hbl).trans (hc8 j hj)) 9 Try.underlying9⟩
  clear hcv1 hcv2 hS hcd
  have hqq : q = 2 ∨ q = 4 := by
    have := HQ.out
    omega
  clear hgei hgen hq0 hw1
  have hS0 : Sem.run Try.prog (convert 33 9 (.slice (some ⟨gd, q, none⟩) 2 2)) w8.drew = .ok (.string S) w8.drew ∧ Sem.run Try.prog (convert 33 9 (.slice (some ⟨b8, o8, none⟩) 2 c8)) w8.drew = .ok (.string S) w8.drew := ⟨hcv1b, hcv2b⟩
  have HST : Hid (∀ W, Below w8.heap.size w8 W → Sem.run Try.prog (convert 33 9 (.slice (some ⟨gd, q, none⟩) 2 2)) W = .ok (.string S) W ∧ Sem.run Try.prog (convert 33 9 (.slice (some ⟨b8, o8, none⟩) 2 c8)) W = .ok (.string S) W) := HSTR
  clear hcv1a hcv2a hcv1b hcv2b hcv1' hcv2'
  rcases hqq with rfl | rfl
  · go_upto_region 13 with (fail)
    refine region_start ?_
    intro a0 ha0
    have hsz : a0.tmps.size = 89 := by rw [ha0]; rfl
    have q12 : a0.tmps[12]? = some (.slice (some ⟨gd, 0, none⟩) 4 4) := by rw [ha0]; rfl
    have q14 : a0.tmps[14]? = some (.slice (some ⟨b8, o8, none⟩) 2 c8) := by rw [ha0]; rfl
    refine wp_region_inv (by kernel_rfl) (fun L a W => Fr a0 [68, 69, 70, 71, 72, 73, 74, 75, 76, 77, 78, 79, 80, 81, 82, 83, 84, 85, 86, 87, 88, 4] a ∧ (Below w8.heap.size w8 W) ∧ (L 0 = true → a.tmps[68]? = some (.slice (some ⟨gd, 0, none⟩) 4 4)) ∧ (L 1 = true → a.tmps[69]? = some (.int .i64 4)) ∧ (L 2 = true → a.tmps[70]? = some (.slice (some ⟨b8, o8, none⟩) 2 c8)) ∧ (L 3 = true → a.tmps[71]? = some (.int .i64 2)) ∧ (L 4 = true → a.tmps[72]? = some (.bool true)) ∧ (L 5 = true → a.tmps[73]? = some (.bool true)) ∧ (L 6 = true → a.tmps[74]? = some (.slice (some ⟨gd, 0, none⟩) 4 4)) ∧ (L 7 = true → a.tmps[75]? = some (.slice (some ⟨gd, 0, none⟩) 4 4)) ∧ (L 8 = true → a.tmps[76]? = some (.int .i64 4)) ∧ (L 9 = true → a.tmps[77]? = some (.slice (some ⟨b8, o8, none⟩) 2 c8)) ∧ (L 10 = true → a.tmps[78]? = some (.int .i64 2)) ∧ (L 11 = true → a.tmps[79]? = some (.int .i64 2)) ∧ (L 12 = true → a.tmps[80]? = some (.slice (some ⟨gd, 2, none⟩) 2 2)) ∧ (L 13 = true → a.tmps[81]? = some (.string S)) ∧ (L 14 = true → a.tmps[82]? = some (.slice (some ⟨b8, o8, none⟩) 2 c8)) ∧ (L 15 = true → a.tmps[83]? = some (.string S)) ∧ (L 16 = true → a.tmps[84]? = some (.bool true)) ∧ (L 17 = true → a.tmps[85]? = some (.bool true)) ∧ (L 18 = true → a.tmps[86]? = some (.bool true)) ∧ (L 19 = true → a.tmps[87]? = some (.bool true)) ∧ (L 20 = true → a.tmps[88]? = some (.bool true)) ∧ (L 21 = true → a.tmps[4]? = some (.bool true))) [[], [0], [], [2], [1, 3], [4], [5], [5], [7, 5], [5], [9, 5], [8, 10, 5], [6, 11, 5], [12, 5], [5], [14, 5], [13, 15, 5], [5, 16], [17], [18], [18, 19], [20]] (by kernel_rfl) ?_ ?_ ?_
    · exact ⟨Fr.refl _ _, (Below.drew (Below.refl _ _)), (fun h => by cases h), (fun h => by cases h), (fun h => by cases h), (fun h => by cases h), (fun h => by cases h), (fun h => by cases h), (fun h => by cases h), (fun h => by cases h), (fun h => by cases h), (fun h => by cases h), (fun h => by cases h), (fun h => by cases h), (fun h => by cases h), (fun h => by cases h), (fun h => by cases h), (fun h => by cases h), (fun h => by cases h), (fun h => by cases h), (fun h => by cases h), (fun h => by cases h), (fun h => by cases h), (fun h => by cases h)⟩
    · intro i hix
      clear ha0
      match i, hix with
      | 0, _ =>
        rintro L a W ⟨hF, hE, h0, h1, h2, h3, h4, h5, h6, h7, h8, h9, h10, h11, h12, h13, h14, h15, h16, h17, h18, h19, h20, h21⟩ hclo hL hd
        have x12 := (hF.same 12 (by decide)).trans q12
        refine wpOp_yes rfl rfl (fun K hK => ?_)
        go_simp
        refine hK _ _ ?_
        exact ⟨hF.put (by decide) _, hE, (fun _ => put_same (by rw [hF.size, hsz]; decide) _), (fun h => (put_other (by decide) _).trans (h1 h)), (fun h => (put_other (by decide) _).trans (h2 h)), (fun h => (put_other (by decide) _).trans (h3 h)), (fun h => (put_other (by decide) _).trans (h4 h)), (fun h => (put_other (by decide) _).trans (h5 h)), (fun h => (put_other (by decide) _).trans (h6 h)), (fun h => (put_other (by decide) _).trans (h7 h)), (fun h => (put_other (by decide) _).trans (h8 h)), (fun h => (put_other (by decide) _).trans (h9 h)), (fun h => (put_other (by decide) _).trans (h10 h)), (fun h => (put_other (by decide) _).trans (h11 h)), (fun h => (put_other (by decide) _).trans (h12 h)), (fun h => (put_other (by decide) _).trans (h13 h)), (fun h => (put_other (by decide) _).trans (h14 h)), (fun h => (put_other (by decide) _).trans (h15 h)), (fun h => (put_other (by decide) _).trans (h16 h)), (fun h => (put_other (by decide) _).trans (h17 h)), (fun h => (put_other (by decide) _).trans (h18 h)), (fun h => (put_other (by decide) _).trans (h19 h)), (fun h => (put_other (by decide) _).trans (h20 h)), (fun h => (put_other (by decide) _).trans (h21 h))⟩
      | 1, _ =>
        rintro L a W ⟨hF, hE, h0, h1, h2, h3, h4, h5, h6, h7, h8, h9, h10, h11, h12, h13, h14, h15, h16, h17, h18, h19, h20, h21⟩ hclo hL hd
        have x68 := h0 (all_mem hd (by decide))
        refine wpOp_yes rfl rfl (fun K hK => ?_)
        go_simp
        refine hK _ _ ?_
        exact ⟨hF.put (by decide) _, hE, (fun h => (put_other (by decide) _).trans (h0 h)), (fun _ => put_same (by rw [hF.size, hsz]; decide) _), (fun h => (put_other (by decide) _).trans (h2 h)), (fun h => (put_other (by decide) _).trans (h3 h)), (fun h => (put_other (by decide) _).trans (h4 h)), (fun h => (put_other (by decide) _).trans (h5 h)), (fun h => (put_other (by decide) _).trans (h6 h)), (fun h => (put_other (by decide) _).trans (h7 h)), (fun h => (put_other (by decide) _).trans (h8 h)), (fun h => (put_other (by decide) _).trans (h9 h)), (fun h => (put_other (by decide) _).trans (h10 h)), (fun h => (put_other (by decide) _).trans (h11 h)), (fun h => (put_other (by decide) _).trans (h12 h)), (fun h => (put_other (by decide) _).trans (h13 h)), (fun h => (put_other (by decide) _).trans (h14 h)), (fun h => (put_other (by decide) _).trans (h15 h)), (fun h => (put_other (by decide) _).trans (h16 h)), (fun h => (put_other (by decide) _).trans (h17 h)), (fun h => (put_other (by decide) _).trans (h18 h)), (fun h => (put_other (by decide) _).trans (h19 h)), (fun h => (put_other (by decide) _).trans (h20 h)), (fun h => (put_other (by decide) _).trans (h21 h))⟩
      | 2, _ =>
        rintro L a W ⟨hF, hE, h0, h1, h2, h3, h4, h5, h6, h7, h8, h9, h10, h11, h12, h13, h14, h15, h16, h17, h18, h19, h20, h21⟩ hclo hL hd
        have x14 := (hF.same 14 (by decide)).trans q14
        refine wpOp_yes rfl rfl (fun K hK => ?_)
        go_simp
        refine hK _ _ ?_
        exact ⟨hF.put (by decide) _, hE, (fun h => (put_other (by decide) _).trans (h0 h)), (fun h => (put_other (by decide) _).trans (h1 h)), (fun _ => put_same (by rw [hF.size, hsz]; decide) _), (fun h => (put_other (by decide) _).trans (h3 h)), (fun h => (put_other (by decide) _).trans (h4 h)), (fun h => (put_other (by decide) _).trans (h5 h)), (fun h => (put_other (by decide) _).trans (h6 h)), (fun h => (put_other (by decide) _).trans (h7 h)), (fun h => (put_other (by decide) _).trans (h8 h)), (fun h => (put_other (by decide) _).trans (h9 h)), (fun h => (put_other (by decide) _).trans (h10 h)), (fun h => (put_other (by decide) _).trans (h11 h)), (fun h => (put_other (by decide) _).trans (h12 h)), (fun h => (put_other (by decide) _).trans (h13 h)), (fun h => (put_other (by decide) _).trans (h14 h)), (fun h => (put_other (by decide) _).trans (h15 h)), (fun h => (put_other (by decide) _).trans (h16 h)), (fun h => (put_other (by decide) _).trans (h17 h)), (fun h => (put_other (by decide) _).trans (h18 h)), (fun h => (put_other (by decide) _).trans (h19 h)), (fun h => (put_other (by decide) _).trans (h20 h)), (fun h => (put_other (by decide) _).trans (h21 h))⟩
      | 3, _ =>
        rintro L a W ⟨hF, hE, h0, h1, h2, h3, h4, h5, h6, h7, h8, h9, h10, h11, h12, h13, h14, h15, h16, h17, h18, h19, h20, h21⟩ hclo hL hd
        have x70 := h2 (all_mem hd (by decide))
        refine wpOp_yes rfl rfl (fun K hK => ?_)
        go_simp
        refine hK _ _ ?_
        exact ⟨hF.put (by decide) _, hE, (fun h => (put_other (by decide) _).trans (h0 h)), (fun h => (put_other (by decide) _).trans (h1 h)), (fun h => (put_other (by decide) _).trans (h2 h)), (fun _ => put_same (by rw [hF.size, hsz]; decide) _), (fun h => (put_other (by decide) _).trans (h4 h)), (fun h => (put_other (by decide) _).trans (h5 h)), (fun h => (put_other (by decide) _).trans (h6 h)), (fun h => (put_other (by decide) _).trans (h7 h)), (fun h => (put_other (by decide) _).trans (h8 h)), (fun h => (put_other (by decide) _).trans (h9 h)), (fun h => (put_other (by decide) _).trans (h10 h)), (fun h => (put_other (by decide) _).trans (h11 h)), (fun h => (put_other (by decide) _).trans (h12 h)), (fun h => (put_other (by decide) _).trans (h13 h)), (fun h => (put_other (by decide) _).trans (h14 h)), (fun h => (put_other (by decide) _).trans (h15 h)), (fun h => (put_other (by decide) _).trans (h16 h)), (fun h => (put_other (by decide) _).trans (h17 h)), (fun h => (put_other (by decide) _).trans (h18 h)), (fun h => (put_other (by decide) _).trans (h19 h)), (fun h => (put_other (by decide) _).trans (h20 h)), (fun h => (put_other (by decide) _).trans (h21 h))⟩
      | 4, _ =>
        rintro L a W ⟨hF, hE, h0, h1, h2, h3, h4, h5, h6, h7, h8, h9, h10, h11, h12, h13, h14, h15, h16, h17, h18, h19, h20, h21⟩ hclo hL hd
        have x69 := h1 (all_mem hd (by decide))
        have x71 := h3 (all_mem hd (by decide))
        refine wpOp_yes rfl rfl (fun K hK => ?_)
        go_simp
        refine hK _ _ ?_
        exact ⟨hF.put (by decide) _, hE, (fun h => (put_other (by decide) _).trans (h0 h)), (fun h => (put_other (by decide) _).trans (h1 h)), (fun h => (put_other (by decide) _).trans (h2 h)), (fun h => (put_other (by decide) _).trans (h3 h)), (fun _ => put_same (by rw [hF.size, hsz]; decide) _), (fun h => (put_other (by decide) _).trans (h5 h)), (fun h => (put_other (by decide) _).trans (h6 h)), (fun h => (put_other (by decide) _).trans (h7 h)), (fun h => (put_other (by decide) _).trans (h8 h)), (fun h => (put_other (by decide) _).trans (h9 h)), (fun h => (put_other (by decide) _).trans (h10 h)), (fun h => (put_other (by decide) _).trans (h11 h)), (fun h => (put_other (by decide) _).trans (h12 h)), (fun h => (put_other (by decide) _).trans (h13 h)), (fun h => (put_other (by decide) _).trans (h14 h)), (fun h => (put_other (by decide) _).trans (h15 h)), (fun h => (put_other (by decide) _).trans (h16 h)), (fun h => (put_other (by decide) _).trans (h17 h)), (fun h => (put_other (by decide) _).trans (h18 h)), (fun h => (put_other (by decide) _).trans (h19 h)), (fun h => (put_other (by decide) _).trans (h20 h)), (fun h => (put_other (by decide) _).trans (h21 h))⟩
      | 5, _ =>
        rintro L a W ⟨hF, hE, h0, h1, h2, h3, h4, h5, h6, h7, h8, h9, h10, h11, h12, h13, h14, h15, h16, h17, h18, h19, h20, h21⟩ hclo hL hd
        have x72 := h4 (all_mem hd (by decide))
        refine wpOp_yes rfl rfl (fun K hK => ?_)
        go_simp
        refine hK _ _ ?_
        exact ⟨hF.put (by decide) _, hE, (fun h => (put_other (by decide) _).trans (h0 h)), (fun h => (put_other (by decide) _).trans (h1 h)), (fun h => (put_other (by decide) _).trans (h2 h)), (fun h => (put_other (by decide) _).trans (h3 h)), (fun h => (put_other (by decide) _).trans (h4 h)), (fun _ => put_same (by rw [hF.size, hsz]; decide) _), (fun h => (put_other (by decide) _).trans (h6 h)), (fun h => (put_other (by decide) _).trans (h7 h)), (fun h => (put_other (by decide) _).trans (h8 h)), (fun h => (put_other (by decide) _).trans (h9 h)), (fun h => (put_other (by decide) _).trans (h10 h)), (fun h => (put_other (by decide) _).trans (h11 h)), (fun h => (put_other (by decide) _).trans (h12 h)), (fun h => (put_other (by decide) _).trans (h13 h)), (fun h => (put_other (by decide) _).trans (h14 h)), (fun h => (put_other (by decide) _).trans (h15 h)), (fun h => (put_other (by decide) _).trans (h16 h)), (fun h => (put_other (by decide) _).trans (h17 h)), (fun h => (put_other (by decide) _).trans (h18 h)), (fun h => (put_other (by decide) _).trans (h19 h)), (fun h => (put_other (by decide) _).trans (h20 h)), (fun h => (put_other (by decide) _).trans (h21 h))⟩
      | 6, _ =>
        rintro L a W ⟨hF, hE, h0, h1, h2, h3, h4, h5, h6, h7, h8, h9, h10, h11, h12, h13, h14, h15, h16, h17, h18, h19, h20, h21⟩ hclo hL hd
        have x12 := (hF.same 12 (by decide)).trans q12
        have x73 := h5 (all_mem hd (by decide))
        refine wpOp_yes rfl (by simp [Region.wanted, yielded, x73]) (fun K hK => ?_)
        go_simp
        refine hK _ _ ?_
        exact ⟨hF.put (by decide) _, hE, (fun h => (put_other (by decide) _).trans (h0 h)), (fun h => (put_other (by decide) _).trans (h1 h)), (fun h => (put_other (by decide) _).trans (h2 h)), (fun h => (put_other (by decide) _).trans (h3 h)), (fun h => (put_other (by decide) _).trans (h4 h)), (fun h => (put_other (by decide) _).trans (h5 h)), (fun _ => put_same (by rw [hF.size, hsz]; decide) _), (fun h => (put_other (by decide) _).trans (h7 h)), (fun h => (put_other (by decide) _).trans (h8 h)), (fun h => (put_other (by decide) _).trans (h9 h)), (fun h => (put_other (by decide) _).trans (h10 h)), (fun h => (put_other (by decide) _).trans (h11 h)), (fun h => (put_other (by decide) _).trans (h12 h)), (fun h => (put_other (by decide) _).trans (h13 h)), (fun h => (put_other (by decide) _).trans (h14 h)), (fun h => (put_other (by decide) _).trans (h15 h)), (fun h => (put_other (by decide) _).trans (h16 h)), (fun h => (put_other (by decide) _).trans (h17 h)), (fun h => (put_other (by decide) _).trans (h18 h)), (fun h => (put_other (by decide) _).trans (h19 h)), (fun h => (put_other (by decide) _).trans (h20 h)), (fun h => (put_other (by decide) _).trans (h21 h))⟩
      | 7, _ =>
        rintro L a W ⟨hF, hE, h0, h1, h2, h3, h4, h5, h6, h7, h8, h9, h10, h11, h12, h13, h14, h15, h16, h17, h18, h19, h20, h21⟩ hclo hL hd
        have x12 := (hF.same 12 (by decide)).trans q12
        have x73 := h5 (all_mem hd (by decide))
        refine wpOp_yes rfl (by simp [Region.wanted, yielded, x73]) (fun K hK => ?_)
        go_simp
        refine hK _ _ ?_
        exact ⟨hF.put (by decide) _, hE, (fun h => (put_other (by decide) _).trans (h0 h)), (fun h => (put_other (by decide) _).trans (h1 h)), (fun h => (put_other (by decide) _).trans (h2 h)), (fun h => (put_other (by decide) _).trans (h3 h)), (fun h => (put_other (by decide) _).trans (h4 h)), (fun h => (put_other (by decide) _).trans (h5 h)), (fun h => (put_other (by decide) _).trans (h6 h)), (fun _ => put_same (by rw [hF.size, hsz]; decide) _), (fun h => (put_other (by decide) _).trans (h8 h)), (fun h => (put_other (by decide) _).trans (h9 h)), (fun h => (put_other (by decide) _).trans (h10 h)), (fun h => (put_other (by decide) _).trans (h11 h)), (fun h => (put_other (by decide) _).trans (h12 h)), (fun h => (put_other (by decide) _).trans (h13 h)), (fun h => (put_other (by decide) _).trans (h14 h)), (fun h => (put_other (by decide) _).trans (h15 h)), (fun h => (put_other (by decide) _).trans (h16 h)), (fun h => (put_other (by decide) _).trans (h17 h)), (fun h => (put_other (by decide) _).trans (h18 h)), (fun h => (put_other (by decide) _).trans (h19 h)), (fun h => (put_other (by decide) _).trans (h20 h)), (fun h => (put_other (by decide) _).trans (h21 h))⟩
      | 8, _ =>
        rintro L a W ⟨hF, hE, h0, h1, h2, h3, h4, h5, h6, h7, h8, h9, h10, h11, h12, h13, h14, h15, h16, h17, h18, h19, h20, h21⟩ hclo hL hd
        have x75 := h7 (all_mem hd (by decide))
        have x73 := h5 (all_mem hd (by decide))
        refine wpOp_yes rfl (by simp [Region.wanted, yielded, x73]) (fun K hK => ?_)
        go_simp
        refine hK _ _ ?_
        exact ⟨hF.put (by decide) _, hE, (fun h => (put_other (by decide) _).trans (h0 h)), (fun h => (put_other (by decide) _).trans (h1 h)), (fun h => (put_other (by decide) _).trans (h2 h)), (fun h => (put_other (by decide) _).trans (h3 h)), (fun h => (put_other (by decide) _).trans (h4 h)), (fun h => (put_other (by decide) _).trans (h5 h)), (fun h => (put_other (by decide) _).trans (h6 h)), (fun h => (put_other (by decide) _).trans (h7 h)), (fun _ => put_same (by rw [hF.size, hsz]; decide) _), (fun h => (put_other (by decide) _).trans (h9 h)), (fun h => (put_other (by decide) _).trans (h10 h)), (fun h => (put_other (by decide) _).trans (h11 h)), (fun h => (put_other (by decide) _).trans (h12 h)), (fun h => (put_other (by decide) _).trans (h13 h)), (fun h => (put_other (by decide) _).trans (h14 h)), (fun h => (put_other (by decide) _).trans (h15 h)), (fun h => (put_other (by decide) _).trans (h16 h)), (fun h => (put_other (by decide) _).trans (h17 h)), (fun h => (put_other (by decide) _).trans (h18 h)), (fun h => (put_other (by decide) _).trans (h19 h)), (fun h => (put_other (by decide) _).trans (h20 h)), (fun h => (put_other (by decide) _).trans (h21 h))⟩
      | 9, _ =>
        rintro L a W ⟨hF, hE, h0, h1, h2, h3, h4, h5, h6, h7, h8, h9, h10, h11, h12, h13, h14, h15, h16, h17, h18, h19, h20, h21⟩ hclo hL hd
        have x14 := (hF.same 14 (by decide)).trans q14
        have x73 := h5 (all_mem hd (by decide))
        refine wpOp_yes rfl (by simp [Region.wanted, yielded, x73]) (fun K hK => ?_)
        go_simp
        refine hK _ _ ?_
        exact ⟨hF.put (by decide) _, hE, (fun h => (put_other (by decide) _).trans (h0 h)), (fun h => (put_other (by decide) _).trans (h1 h)), (fun h => (put_other (by decide) _).trans (h2 h)), (fun h => (put_other (by decide) _).trans (h3 h)), (fun h => (put_other (by decide) _).trans (h4 h)), (fun h => (put_other (by decide) _).trans (h5 h)), (fun h => (put_other (by decide) _).trans (h6 h)), (fun h => (put_other (by decide) _).trans (h7 h)), (fun h => (put_other (by decide) _).trans (h8 h)), (fun _ => put_same (by rw [hF.size, hsz]; decide) _), (fun h => (put_other (by decide) _).trans (h10 h)), (fun h => (put_other (by decide) _).trans (h11 h)), (fun h => (put_other (by decide) _).trans (h12 h)), (fun h => (put_other (by decide) _).trans (h13 h)), (fun h => (put_other (by decide) _).trans (h14 h)), (fun h => (put_other (by decide) _).trans (h15 h)), (fun h => (put_other (by decide) _).trans (h16 h)), (fun h => (put_other (by decide) _).trans (h17 h)), (fun h => (put_other (by decide) _).trans (h18 h)), (fun h => (put_other (by decide) _).trans (h19 h)), (fun h => (put_other (by decide) _).trans (h20 h)), (fun h => (put_other (by decide) _).trans (h21 h))⟩
      | 10, _ =>
        rintro L a W ⟨hF, hE, h0, h1, h2, h3, h4, h5, h6, h7, h8, h9, h10, h11, h12, h13, h14, h15, h16, h17, h18, h19, h20, h21⟩ hclo hL hd
        have x77 := h9 (all_mem hd (by decide))
        have x73 := h5 (all_mem hd (by decide))
        refine wpOp_yes rfl (by simp [Region.wanted, yielded, x73]) (fun K hK => ?_)
        go_simp
        refine hK _ _ ?_
        exact ⟨hF.put (by decide) _, hE, (fun h => (put_other (by decide) _).trans (h0 h)), (fun h => (put_other (by decide) _).trans (h1 h)), (fun h => (put_other (by decide) _).trans (h2 h)), (fun h => (put_other (by decide) _).trans (h3 h)), (fun h => (put_other (by decide) _).trans (h4 h)), (fun h => (put_other (by decide) _).trans (h5 h)), (fun h => (put_other (by decide) _).trans (h6 h)), (fun h => (put_other (by decide) _).trans (h7 h)), (fun h => (put_other (by decide) _).trans (h8 h)), (fun h => (put_other (by decide) _).trans (h9 h)), (fun _ => put_same (by rw [hF.size, hsz]; decide) _), (fun h => (put_other (by decide) _).trans (h11 h)), (fun h => (put_other (by decide) _).trans (h12 h)), (fun h => (put_other (by decide) _).trans (h13 h)), (fun h => (put_other (by decide) _).trans (h14 h)), (fun h => (put_other (by decide) _).trans (h15 h)), (fun h => (put_other (by decide) _).trans (h16 h)), (fun h => (put_other (by decide) _).trans (h17 h)), (fun h => (put_other (by decide) _).trans (h18 h)), (fun h => (put_other (by decide) _).trans (h19 h)), (fun h => (put_other (by decide) _).trans (h20 h)), (fun h => (put_other (by decide) _).trans (h21 h))⟩
      | 11, _ =>
        rintro L a W ⟨hF, hE, h0, h1, h2, h3, h4, h5, h6, h7, h8, h9, h10, h11, h12, h13, h14, h15, h16, h17, h18, h19, h20, h21⟩ hclo hL hd
        have x76 := h8 (all_mem hd (by decide))
        have x78 := h10 (all_mem hd (by decide))
        have x73 := h5 (all_mem hd (by decide))
        refine wpOp_yes rfl (by simp [Region.wanted, yielded, x73]) (fun K hK => ?_)
        go_simp
        refine hK _ _ ?_
        exact ⟨hF.put (by decide) _, hE, (fun h => (put_other (by decide) _).trans (h0 h)), (fun h => (put_other (by decide) _).trans (h1 h)), (fun h => (put_other (by decide) _).trans (h2 h)), (fun h => (put_other (by decide) _).trans (h3 h)), (fun h => (put_other (by decide) _).trans (h4 h)), (fun h => (put_other (by decide) _).trans (h5 h)), (fun h => (put_other (by decide) _).trans (h6 h)), (fun h => (put_other (by decide) _).trans (h7 h)), (fun h => (put_other (by decide) _).trans (h8 h)), (fun h => (put_other (by decide) _).trans (h9 h)), (fun h => (put_other (by decide) _).trans (h10 h)), (fun _ => put_same (by rw [hF.size, hsz]; decide) _), (fun h => (put_other (by decide) _).trans (h12 h)), (fun h => (put_other (by decide) _).trans (h13 h)), (fun h => (put_other (by decide) _).trans (h14 h)), (fun h => (put_other (by decide) _).trans (h15 h)), (fun h => (put_other (by decide) _).trans (h16 h)), (fun h => (put_other (by decide) _).trans (h17 h)), (fun h => (put_other (by decide) _).trans (h18 h)), (fun h => (put_other (by decide) _).trans (h19 h)), (fun h => (put_other (by decide) _).trans (h20 h)), (fun h => (put_other (by decide) _).trans (h21 h))⟩
      | 12, _ =>
        rintro L a W ⟨hF, hE, h0, h1, h2, h3, h4, h5, h6, h7, h8, h9, h10, h11, h12, h13, h14, h15, h16, h17, h18, h19, h20, h21⟩ hclo hL hd
        have x74 := h6 (all_mem hd (by decide))
        have x79 := h11 (all_mem hd (by decide))
        have x73 := h5 (all_mem hd (by decide))
        refine wpOp_yes rfl (by simp [Region.wanted, yielded, x73]) (fun K hK => ?_)
        go_simp
        refine hK _ _ ?_
        exact ⟨hF.put (by decide) _, hE, (fun h => (put_other (by decide) _).trans (h0 h)), (fun h => (put_other (by decide) _).trans (h1 h)), (fun h => (put_other (by decide) _).trans (h2 h)), (fun h => (put_other (by decide) _).trans (h3 h)), (fun h => (put_other (by decide) _).trans (h4 h)), (fun h => (put_other (by decide) _).trans (h5 h)), (fun h => (put_other (by decide) _).trans (h6 h)), (fun h => (put_other (by decide) _).trans (h7 h)), (fun h => (put_other (by decide) _).trans (h8 h)), (fun h => (put_other (by decide) _).trans (h9 h)), (fun h => (put_other (by decide) _).trans (h10 h)), (fun h => (put_other (by decide) _).trans (h11 h)), (fun _ => put_same (by rw [hF.size, hsz]; decide) _), (fun h => (put_other (by decide) _).trans (h13 h)), (fun h => (put_other (by decide) _).trans (h14 h)), (fun h => (put_other (by decide) _).trans (h15 h)), (fun h => (put_other (by decide) _).trans (h16 h)), (fun h => (put_other (by decide) _).trans (h17 h)), (fun h => (put_other (by decide) _).trans (h18 h)), (fun h => (put_other (by decide) _).trans (h19 h)), (fun h => (put_other (by decide) _).trans (h20 h)), (fun h => (put_other (by decide) _).trans (h21 h))⟩
      | 13, _ =>
        rintro L a W ⟨hF, hE, h0, h1, h2, h3, h4, h5, h6, h7, h8, h9, h10, h11, h12, h13, h14, h15, h16, h17, h18, h19, h20, h21⟩ hclo hL hd
        have x80 := h12 (all_mem hd (by decide))
        have x73 := h5 (all_mem hd (by decide))
        refine wpOp_yes rfl (by simp [Region.wanted, yielded, x73]) (fun K hK => ?_)
        have hs := HST.out W hE
        have hs1 := hs.1
        have hs2 := hs.2
        go_simp
        refine hK _ _ ?_
        exact ⟨hF.put (by decide) _, hE, (fun h => (put_other (by decide) _).trans (h0 h)), (fun h => (put_other (by decide) _).trans (h1 h)), (fun h => (put_other (by decide) _).trans (h2 h)), (fun h => (put_other (by decide) _).trans (h3 h)), (fun h => (put_other (by decide) _).trans (h4 h)), (fun h => (put_other (by decide) _).trans (h5 h)), (fun h => (put_other (by decide) _).trans (h6 h)), (fun h => (put_other (by decide) _).trans (h7 h)), (fun h => (put_other (by decide) _).trans (h8 h)), (fun h => (put_other (by decide) _).trans (h9 h)), (fun h => (put_other (by decide) _).trans (h10 h)), (fun h => (put_other (by decide) _).trans (h11 h)), (fun h => (put_other (by decide) _).trans (h12 h)), (fun _ => put_same (by rw [hF.size, hsz]; decide) _), (fun h => (put_other (by decide) _).trans (h14 h)), (fun h => (put_other (by decide) _).trans (h15 h)), (fun h => (put_other (by decide) _).trans (h16 h)), (fun h => (put_other (by decide) _).trans (h17 h)), (fun h => (put_other (by decide) _).trans (h18 h)), (fun h => (put_other (by decide) _).trans (h19 h)), (fun h => (put_other (by decide) _).trans (h20 h)), (fun h => (put_other (by decide) _).trans (h21 h))⟩
      | 14, _ =>
        rintro L a W ⟨hF, hE, h0, h1, h2, h3, h4, h5, h6, h7, h8, h9, h10, h11, h12, h13, h14, h15, h16, h17, h18, h19, h20, h21⟩ hclo hL hd
        have x14 := (hF.same 14 (by decide)).trans q14
        have x73 := h5 (all_mem hd (by decide))
        refine wpOp_yes rfl (by simp [Region.wanted, yielded, x73]) (fun K hK => ?_)
        go_simp
        refine hK _ _ ?_
        exact ⟨hF.put (by decide) _, hE, (fun h => (put_other (by decide) _).trans (h0 h)), (fun h => (put_other (by decide) _).trans (h1 h)), (fun h => (put_other (by decide) _).trans (h2 h)), (fun h => (put_other (by decide) _).trans (h3 h)), (fun h => (put_other (by decide) _).trans (h4 h)), (fun h => (put_other (by decide) _).trans (h5 h)), (fun h => (put_other (by decide) _).trans (h6 h)), (fun h => (put_other (by decide) _).trans (h7 h)), (fun h => (put_other (by decide) _).trans (h8 h)), (fun h => (put_other (by decide) _).trans (h9 h)), (fun h => (put_other (by decide) _).trans (h10 h)), (fun h => (put_other (by decide) _).trans (h11 h)), (fun h => (put_other (by decide) _).trans (h12 h)), (fun h => (put_other (by decide) _).trans (h13 h)), (fun _ => put_same (by rw [hF.size, hsz]; decide) _), (fun h => (put_other (by decide) _).trans (h15 h)), (fun h => (put_other (by decide) _).trans (h16 h)), (fun h => (put_other (by decide) _).trans (h17 h)), (fun h => (put_other (by decide) _).trans (h18 h)), (fun h => (put_other (by decide) _).trans (h19 h)), (fun h => (put_other (by decide) _).trans (h20 h)), (fun h => (put_other (by decide) _).trans (h21 h))⟩
      | 15, _ =>
        rintro L a W ⟨hF, hE, h0, h1, h2, h3, h4, h5, h6, h7, h8, h9, h10, h11, h12, h13, h14, h15, h16, h17, h18, h19, h20, h21⟩ hclo hL hd
        have x82 := h14 (all_mem hd (by decide))
        have x73 := h5 (all_mem hd (by decide))
        refine wpOp_yes rfl (by simp [Region.wanted, yielded, x73]) (fun K hK => ?_)
        have hs := HST.out W hE
        have hs1 := hs.1
        have hs2 := hs.2
        go_simp
        refine hK _ _ ?_
        exact ⟨hF.put (by decide) _, hE, (fun h => (put_other (by decide) _).trans (h0 h)), (fun h => (put_other (by decide) _).trans (h1 h)), (fun h => (put_other (by decide) _).trans (h2 h)), (fun h => (put_other (by decide) _).trans (h3 h)), (fun h => (put_other (by decide) _).trans (h4 h)), (fun h => (put_other (by decide) _).trans (h5 h)), (fun h => (put_other (by decide) _).trans (h6 h)), (fun h => (put_other (by decide) _).trans (h7 h)), (fun h => (put_other (by decide) _).trans (h8 h)), (fun h => (put_other (by decide) _).trans (h9 h)), (fun h => (put_other (by decide) _).trans (h10 h)), (fun h => (put_other (by decide) _).trans (h11 h)), (fun h => (put_other (by decide) _).trans (h12 h)), (fun h => (put_other (by decide) _).trans (h13 h)), (fun h => (put_other (by decide) _).trans (h14 h)), (fun _ => put_same (by rw [hF.size, hsz]; decide) _), (fun h => (put_other (by decide) _).trans (h16 h)), (fun h => (put_other (by decide) _).trans (h17 h)), (fun h => (put_other (by decide) _).trans (h18 h)), (fun h => (put_other (by decide) _).trans (h19 h)), (fun h => (put_other (by decide) _).trans (h20 h)), (fun h => (put_other (by decide) _).trans (h21 h))⟩
      | 16, _ =>
        rintro L a W ⟨hF, hE, h0, h1, h2, h3, h4, h5, h6, h7, h8, h9, h10, h11, h12, h13, h14, h15, h16, h17, h18, h19, h20, h21⟩ hclo hL hd
        have x81 := h13 (all_mem hd (by decide))
        have x83 := h15 (all_mem hd (by decide))
        have x73 := h5 (all_mem hd (by decide))
        refine wpOp_yes rfl (by simp [Region.wanted, yielded, x73]) (fun K hK => ?_)
        go_simp
        refine hK _ _ ?_
        exact ⟨hF.put (by decide) _, hE, (fun h => (put_other (by decide) _).trans (h0 h)), (fun h => (put_other (by decide) _).trans (h1 h)), (fun h => (put_other (by decide) _).trans (h2 h)), (fun h => (put_other (by decide) _).trans (h3 h)), (fun h => (put_other (by decide) _).trans (h4 h)), (fun h => (put_other (by decide) _).trans (h5 h)), (fun h => (put_other (by decide) _).trans (h6 h)), (fun h => (put_other (by decide) _).trans (h7 h)), (fun h => (put_other (by decide) _).trans (h8 h)), (fun h => (put_other (by decide) _).trans (h9 h)), (fun h => (put_other (by decide) _).trans (h10 h)), (fun h => (put_other (by decide) _).trans (h11 h)), (fun h => (put_other (by decide) _).trans (h12 h)), (fun h => (put_other (by decide) _).trans (h13 h)), (fun h => (put_other (by decide) _).trans (h14 h)), (fun h => (put_other (by decide) _).trans (h15 h)), (fun _ => put_same (by rw [hF.size, hsz]; decide) _), (fun h => (put_other (by decide) _).trans (h17 h)), (fun h => (put_other (by decide) _).trans (h18 h)), (fun h => (put_other (by decide) _).trans (h19 h)), (fun h => (put_other (by decide) _).trans (h20 h)), (fun h => (put_other (by decide) _).trans (h21 h))⟩
      | 17, _ =>
        rintro L a W ⟨hF, hE, h0, h1, h2, h3, h4, h5, h6, h7, h8, h9, h10, h11, h12, h13, h14, h15, h16, h17, h18, h19, h20, h21⟩ hclo hL hd
        have x73 := h5 (all_mem hd (by decide))
        have x84 := h16 (all_mem hd (by decide))
        refine wpOp_yes rfl rfl (fun K hK => ?_)
        go_simp
        refine hK _ _ ?_
        exact ⟨hF.put (by decide) _, hE, (fun h => (put_other (by decide) _).trans (h0 h)), (fun h => (put_other (by decide) _).trans (h1 h)), (fun h => (put_other (by decide) _).trans (h2 h)), (fun h => (put_other (by decide) _).trans (h3 h)), (fun h => (put_other (by decide) _).trans (h4 h)), (fun h => (put_other (by decide) _).trans (h5 h)), (fun h => (put_other (by decide) _).trans (h6 h)), (fun h => (put_other (by decide) _).trans (h7 h)), (fun h => (put_other (by decide) _).trans (h8 h)), (fun h => (put_other (by decide) _).trans (h9 h)), (fun h => (put_other (by decide) _).trans (h10 h)), (fun h => (put_other (by decide) _).trans (h11 h)), (fun h => (put_other (by decide) _).trans (h12 h)), (fun h => (put_other (by decide) _).trans (h13 h)), (fun h => (put_other (by decide) _).trans (h14 h)), (fun h => (put_other (by decide) _).trans (h15 h)), (fun h => (put_other (by decide) _).trans (h16 h)), (fun _ => put_same (by rw [hF.size, hsz]; decide) _), (fun h => (put_other (by decide) _).trans (h18 h)), (fun h => (put_other (by decide) _).trans (h19 h)), (fun h => (put_other (by decide) _).trans (h20 h)), (fun h => (put_other (by decide) _).trans (h21 h))⟩
      | 18, _ =>
        rintro L a W ⟨hF, hE, h0, h1, h2, h3, h4, h5, h6, h7, h8, h9, h10, h11, h12, h13, h14, h15, h16, h17, h18, h19, h20, h21⟩ hclo hL hd
        have x85 := h17 (all_mem hd (by decide))
        refine wpOp_yes rfl rfl (fun K hK => ?_)
        go_simp
        refine hK _ _ ?_
        exact ⟨hF.put (by decide) _, hE, (fun h => (put_other (by decide) _).trans (h0 h)), (fun h => (put_other (by decide) _).trans (h1 h)), (fun h => (put_other (by decide) _).trans (h2 h)), (fun h => (put_other (by decide) _).trans (h3 h)), (fun h => (put_other (by decide) _).trans (h4 h)), (fun h => (put_other (by decide) _).trans (h5 h)), (fun h => (put_other (by decide) _).trans (h6 h)), (fun h => (put_other (by decide) _).trans (h7 h)), (fun h => (put_other (by decide) _).trans (h8 h)), (fun h => (put_other (by decide) _).trans (h9 h)), (fun h => (put_other (by decide) _).trans (h10 h)), (fun h => (put_other (by decide) _).trans (h11 h)), (fun h => (put_other (by decide) _).trans (h12 h)), (fun h => (put_other (by decide) _).trans (h13 h)), (fun h => (put_other (by decide) _).trans (h14 h)), (fun h => (put_other (by decide) _).trans (h15 h)), (fun h => (put_other (by decide) _).trans (h16 h)), (fun h => (put_other (by decide) _).trans (h17 h)), (fun _ => put_same (by rw [hF.size, hsz]; decide) _), (fun h => (put_other (by decide) _).trans (h19 h)), (fun h => (put_other (by decide) _).trans (h20 h)), (fun h => (put_other (by decide) _).trans (h21 h))⟩
      | 19, _ =>
        rintro L a W ⟨hF, hE, h0, h1, h2, h3, h4, h5, h6, h7, h8, h9, h10, h11, h12, h13, h14, h15, h16, h17, h18, h19, h20, h21⟩ hclo hL hd
        have x86 := h18 (all_mem hd (by decide))
        refine wpOp_yes rfl (by simp [Region.wanted, yielded, x86]) (fun K hK => ?_)
        go_simp
        refine (lives_any W).mono ?_
        rintro e W' ⟨rfl, hB'⟩
        refine hK _ _ ?_
        exact ⟨hF.put (by decide) _, hE.trans (hB'.mono hE.size), (fun h => (put_other (by decide) _).trans (h0 h)), (fun h => (put_other (by decide) _).trans (h1 h)), (fun h => (put_other (by decide) _).trans (h2 h)), (fun h => (put_other (by decide) _).trans (h3 h)), (fun h => (put_other (by decide) _).trans (h4 h)), (fun h => (put_other (by decide) _).trans (h5 h)), (fun h => (put_other (by decide) _).trans (h6 h)), (fun h => (put_other (by decide) _).trans (h7 h)), (fun h => (put_other (by decide) _).trans (h8 h)), (fun h => (put_other (by decide) _).trans (h9 h)), (fun h => (put_other (by decide) _).trans (h10 h)), (fun h => (put_other (by decide) _).trans (h11 h)), (fun h => (put_other (by decide) _).trans (h12 h)), (fun h => (put_other (by decide) _).trans (h13 h)), (fun h => (put_other (by decide) _).trans (h14 h)), (fun h => (put_other (by decide) _).trans (h15 h)), (fun h => (put_other (by decide) _).trans (h16 h)), (fun h => (put_other (by decide) _).trans (h17 h)), (fun h => (put_other (by decide) _).trans (h18 h)), (fun _ => put_same (by rw [hF.size, hsz]; decide) _), (fun h => (put_other (by decide) _).trans (h20 h)), (fun h => (put_other (by decide) _).trans (h21 h))⟩
      | 20, _ =>
        rintro L a W ⟨hF, hE, h0, h1, h2, h3, h4, h5, h6, h7, h8, h9, h10, h11, h12, h13, h14, h15, h16, h17, h18, h19, h20, h21⟩ hclo hL hd
        have x86 := h18 (all_mem hd (by decide))
        have x87 := h19 (all_mem hd (by decide))
        refine wpOp_yes rfl rfl (fun K hK => ?_)
        go_simp
        refine hK _ _ ?_
        exact ⟨hF.put (by decide) _, hE, (fun h => (put_other (by decide) _).trans (h0 h)), (fun h => (put_other (by decide) _).trans (h1 h)), (fun h => (put_other (by decide) _).trans (h2 h)), (fun h => (put_other (by decide) _).trans (h3 h)), (fun h => (put_other (by decide) _).trans (h4 h)), (fun h => (put_other (by decide) _).trans (h5 h)), (fun h => (put_other (by decide) _).trans (h6 h)), (fun h => (put_other (by decide) _).trans (h7 h)), (fun h => (put_other (by decide) _).trans (h8 h)), (fun h => (put_other (by decide) _).trans (h9 h)), (fun h => (put_other (by decide) _).trans (h10 h)), (fun h => (put_other (by decide) _).trans (h11 h)), (fun h => (put_other (by decide) _).trans (h12 h)), (fun h => (put_other (by decide) _).trans (h13 h)), (fun h => (put_other (by decide) _).trans (h14 h)), (fun h => (put_other (by decide) _).trans (h15 h)), (fun h => (put_other (by decide) _).trans (h16 h)), (fun h => (put_other (by decide) _).trans (h17 h)), (fun h => (put_other (by decide) _).trans (h18 h)), (fun h => (put_other (by decide) _).trans (h19 h)), (fun _ => put_same (by rw [hF.size, hsz]; decide) _), (fun h => (put_other (by decide) _).trans (h21 h))⟩
      | 21, _ =>
        rintro L a W ⟨hF, hE, h0, h1, h2, h3, h4, h5, h6, h7, h8, h9, h10, h11, h12, h13, h14, h15, h16, h17, h18, h19, h20, h21⟩ hclo hL hd
        have x88 := h20 (all_mem hd (by decide))
        refine wpOp_yes rfl rfl (fun K hK => ?_)
        go_simp
        refine hK _ _ ?_
        exact ⟨hF.put (by decide) _, hE, (fun h => (put_other (by decide) _).trans (h0 h)), (fun h => (put_other (by decide) _).trans (h1 h)), (fun h => (put_other (by decide) _).trans (h2 h)), (fun h => (put_other (by decide) _).trans (h3 h)), (fun h => (put_other (by decide) _).trans (h4 h)), (fun h => (put_other (by decide) _).trans (h5 h)), (fun h => (put_other (by decide) _).trans (h6 h)), (fun h => (put_other (by decide) _).trans (h7 h)), (fun h => (put_other (by decide) _).trans (h8 h)), (fun h => (put_other (by decide) _).trans (h9 h)), (fun h => (put_other (by decide) _).trans (h10 h)), (fun h => (put_other (by decide) _).trans (h11 h)), (fun h => (put_other (by decide) _).trans (h12 h)), (fun h => (put_other (by decide) _).trans (h13 h)), (fun h => (put_other (by decide) _).trans (h14 h)), (fun h => (put_other (by decide) _).trans (h15 h)), (fun h => (put_other (by decide) _).trans (h16 h)), (fun h => (put_other (by decide) _).trans (h17 h)), (fun h => (put_other (by decide) _).trans (h18 h)), (fun h => (put_other (by decide) _).trans (h19 h)), (fun h => (put_other (by decide) _).trans (h20 h)), (fun _ => put_same (by rw [hF.size, hsz]; decide) _)⟩
      | k + 22, h => exact absurd (show k + 22 < 22 from h) (by omega)
    · rintro L a W ⟨hF, hE, h0, h1, h2, h3, h4, h5, h6, h7, h8, h9, h10, h11, h12, h13, h14, h15, h16, h17, h18, h19, h20, h21⟩ hall
      have hfa : a = fill a0 [(68, .slice (some ⟨gd, 0, none⟩) 4 4), (69, .int .i64 4), (70, .slice (some ⟨b8, o8, none⟩) 2 c8), (71, .int .i64 2), (72, .bool true), (73, .bool true), (74, .slice (some ⟨gd, 0, none⟩) 4 4), (75, .slice (some ⟨gd, 0, none⟩) 4 4), (76, .int .i64 4), (77, .slice (some ⟨b8, o8, none⟩) 2 c8), (78, .int .i64 2), (79, .int .i64 2), (80, .slice (some ⟨gd, 2, none⟩) 2 2), (81, .string S), (82, .slice (some ⟨b8, o8, none⟩) 2 c8), (83, .string S), (84, .bool true), (85, .bool true), (86, .bool true), (87, .bool true), (88, .bool true), (4, .bool true)] := fill_eq hF (FillOk.cons (by rw [hsz]; decide) (h0 (hall 0 (by decide))) (FillOk.cons (by rw [hsz]; decide) (h1 (hall 1 (by decide))) (FillOk.cons (by rw [hsz]; decide) (h2 (hall 2 (by decide))) (FillOk.cons (by rw [hsz]; decide) (h3 (hall 3 (by decide))) (FillOk.cons (by rw [hsz]; decide) (h4 (hall 4 (by decide))) (FillOk.cons (by rw [hsz]; decide) (h5 (hall 5 (by decide))) (FillOk.cons (by rw [hsz]; decide) (h6 (hall 6 (by decide))) (FillOk.cons (by rw [hsz]; decide) (h7 (hall 7 (by decide))) (FillOk.cons (by rw [hsz]; decide) (h8 (hall 8 (by decide))) (FillOk.cons (by rw [hsz]; decide) (h9 (hall 9 (by decide))) (FillOk.cons (by rw [hsz]; decide) (h10 (hall 10 (by decide))) (FillOk.cons (by rw [hsz]; decide) (h11 (hall 11 (by decide))) (FillOk.cons (by rw [hsz]; decide) (h12 (hall 12 (by decide))) (FillOk.cons (by rw [hsz]; decide) (h13 (hall 13 (by decide))) (FillOk.cons (by rw [hsz]; decide) (h14 (hall 14 (by decide))) (FillOk.cons (by rw [hsz]; decide) (h15 (hall 15 (by decide))) (FillOk.cons (by rw [hsz]; decide) (h16 (hall 16 (by decide))) (FillOk.cons (by rw [hsz]; decide) (h17 (hall 17 (by decide))) (FillOk.cons (by rw [hsz]; decide) (h18 (hall 18 (by decide))) (FillOk.cons (by rw [hsz]; decide) (h19 (hall 19 (by decide))) (FillOk.cons (by rw [hsz]; decide) (h20 (hall 20 (by decide))) (FillOk.cons (by rw [hsz]; decide) (h21 (hall 21 (by decide))) (FillOk.nil))))))))))))))))))))))) (by simp)
      rw [hfa, ha0]
      clear hfa ha0
      simp only [fill, List.foldl_cons, List.foldl_nil, List.setIfInBounds_toArray, List.set_cons_zero, List.set_cons_succ]
      go_wp2
      go_ret
      exact ⟨rfl, HB8.out.trans (hE.mono HB8.out.size)⟩

  · go_upto_region 13 with (fail)
    refine region_start ?_
    intro a0 ha0
    have hsz : a0.tmps.size = 89 := by rw [ha0]; rfl
    have q12 : a0.tmps[12]? = some (.slice (some ⟨gd, 0, none⟩) 6 6) := by rw [ha0]; rfl
    have q14 : a0.tmps[14]? = some (.slice (some ⟨b8, o8, none⟩) 2 c8) := by rw [ha0]; rfl
    refine wp_region_inv (by kernel_rfl) (fun L a W => Fr a0 [68, 69, 70, 71, 72, 73, 74, 75, 76, 77, 78, 79, 80, 81, 82, 83, 84, 85, 86, 87, 88, 4] a ∧ (Below w8.heap.size w8 W) ∧ (L 0 = true → a.tmps[68]? = some (.slice (some ⟨gd, 0, none⟩) 6 6)) ∧ (L 1 = true → a.tmps[69]? = some (.int .i64 6)) ∧ (L 2 = true → a.tmps[70]? = some (.slice (some ⟨b8, o8, none⟩) 2 c8)) ∧ (L 3 = true → a.tmps[71]? = some (.int .i64 2)) ∧ (L 4 = true → a.tmps[72]? = some (.bool true)) ∧ (L 5 = true → a.tmps[73]? = some (.bool true)) ∧ (L 6 = true → a.tmps[74]? = some (.slice (some ⟨gd, 0, none⟩) 6 6)) ∧ (L 7 = true → a.tmps[75]? = some (.slice (some ⟨gd, 0, none⟩) 6 6)) ∧ (L 8 = true → a.tmps[76]? = some (.int .i64 6)) ∧ (L 9 = true → a.tmps[77]? = some (.slice (some ⟨b8, o8, none⟩) 2 c8)) ∧ (L 10 = true → a.tmps[78]? = some (.int .i64 2)) ∧ (L 11 = true → a.tmps[79]? = some (.int .i64 4)) ∧ (L 12 = true → a.tmps[80]? = some (.slice (some ⟨gd, 4, none⟩) 2 2)) ∧ (L 13 = true → a.tmps[81]? = some (.string S)) ∧ (L 14 = true → a.tmps[82]? = some (.slice (some ⟨b8, o8, none⟩) 2 c8)) ∧ (L 15 = true → a.tmps[83]? = some (.string S)) ∧ (L 16 = true → a.tmps[84]? = some (.bool true)) ∧ (L 17 = true → a.tmps[85]? = some (.bool true)) ∧ (L 18 = true → a.tmps[86]? = some (.bool true)) ∧ (L 19 = true → a.tmps[87]? = some (.bool true)) ∧ (L 20 = true → a.tmps[88]? = some (.bool true)) ∧ (L 21 = true → a.tmps[4]? = some (.bool true))) [[], [0], [], [2], [1, 3], [4], [5], [5], [7, 5], [5], [9, 5], [8, 10, 5], [6, 11, 5], [12, 5], [5], [14, 5], [13, 15, 5], [5, 16], [17], [18], [18, 19], [20]] (by kernel_rfl) ?_ ?_ ?_
    · exact ⟨Fr.refl _ _, (Below.drew (Below.refl _ _)), (fun h => by cases h), (fun h => by cases h), (fun h => by cases h), (fun h => by cases h), (fun h => by cases h), (fun h => by cases h), (fun h => by cases h), (fun h => by cases h), (fun h => by cases h), (fun h => by cases h), (fun h => by cases h), (fun h => by cases h), (fun h => by cases h), (fun h => by cases h), (fun h => by cases h), (fun h => by cases h), (fun h => by cases h), (fun h => by cases h), (fun h => by cases h), (fun h => by cases h), (fun h => by cases h), (fun h => by cases h)⟩
    · intro i hix
      clear ha0
      match i, hix with
      | 0, _ =>
        rintro L a W ⟨hF, hE, h0, h1, h2, h3, h4, h5, h6, h7, h8, h9, h10, h11, h12, h13, h14, h15, h16, h17, h18, h19, h20, h21⟩ hclo hL hd
        have x12 := (hF.same 12 (by decide)).trans q12
        refine wpOp_yes rfl rfl (fun K hK => ?_)
        go_simp
        refine hK _ _ ?_
        exact ⟨hF.put (by decide) _, hE, (fun _ => put_same (by rw [hF.size, hsz]; decide) _), (fun h => (put_other (by decide) _).trans (h1 h)), (fun h => (put_other (by decide) _).trans (h2 h)), (fun h => (put_other (by decide) _).trans (h3 h)), (fun h => (put_other (by decide) _).trans (h4 h)), (fun h => (put_other (by decide) _).trans (h5 h)), (fun h => (put_other (by decide) _).trans (h6 h)), (fun h => (put_other (by decide) _).trans (h7 h)), (fun h => (put_other (by decide) _).trans (h8 h)), (fun h => (put_other (by decide) _).trans (h9 h)), (fun h => (put_other (by decide) _).trans (h10 h)), (fun h => (put_other (by decide) _).trans (h11 h)), (fun h => (put_other (by decide) _).trans (h12 h)), (fun h => (put_other (by decide) _).trans (h13 h)), (fun h => (put_other (by decide) _).trans (h14 h)), (fun h => (put_other (by decide) _).trans (h15 h)), (fun h => (put_other (by decide) _).trans (h16 h)), (fun h => (put_other (by decide) _).trans (h17 h)), (fun h => (put_other (by decide) _).trans (h18 h)), (fun h => (put_other (by decide) _).trans (h19 h)), (fun h => (put_other (by decide) _).trans (h20 h)), (fun h => (put_other (by decide) _).trans (h21 h))⟩
      | 1, _ =>
        rintro L a W ⟨hF, hE, h0, h1, h2, h3, h4, h5, h6, h7, h8, h9, h10, h11, h12, h13, h14, h15, h16, h17, h18, h19, h20, h21⟩ hclo hL hd
        have x68 := h0 (all_mem hd (by decide))
        refine wpOp_yes rfl rfl (fun K hK => ?_)
        go_simp
        refine hK _ _ ?_
        exact ⟨hF.put (by decide) _, hE, (fun h => (put_other (by decide) _).trans (h0 h)), (fun _ => put_same (by rw [hF.size, hsz]; decide) _), (fun h => (put_other (by decide) _).trans (h2 h)), (fun h => (put_other (by decide) _).trans (h3 h)), (fun h => (put_other (by decide) _).trans (h4 h)), (fun h => (put_other (by decide) _).trans (h5 h)), (fun h => (put_other (by decide) _).trans (h6 h)), (fun h => (put_other (by decide) _).trans (h7 h)), (fun h => (put_other (by decide) _).trans (h8 h)), (fun h => (put_other (by decide) _).trans (h9 h)), (fun h => (put_other (by decide) _).trans (h10 h)), (fun h => (put_other (by decide) _).trans (h11 h)), (fun h => (put_other (by decide) _).trans (h12 h)), (fun h => (put_other (by decide) _).trans (h13 h)), (fun h => (put_other (by decide) _).trans (h14 h)), (fun h => (put_other (by decide) _).trans (h15 h)), (fun h => (put_other (by decide) _).trans (h16 h)), (fun h => (put_other (by decide) _).trans (h17 h)), (fun h => (put_other (by decide) _).trans (h18 h)), (fun h => (put_other (by decide) _).trans (h19 h)), (fun h => (put_other (by decide) _).trans (h20 h)), (fun h => (put_other (by decide) _).trans (h21 h))⟩
      | 2, _ =>
        rintro L a W ⟨hF, hE, h0, h1, h2, h3, h4, h5, h6, h7, h8, h9, h10, h11, h12, h13, h14, h15, h16, h17, h18, h19, h20, h21⟩ hclo hL hd
        have x14 := (hF.same 14 (by decide)).trans q14
        refine wpOp_yes rfl rfl (fun K hK => ?_)
        go_simp
        refine hK _ _ ?_
        exact ⟨hF.put (by decide) _, hE, (fun h => (put_other (by decide) _).trans (h0 h)), (fun h => (put_other (by decide) _).trans (h1 h)), (fun _ => put_same (by rw [hF.size, hsz]; decide) _), (fun h => (put_other (by decide) _).trans (h3 h)), (fun h => (put_other (by decide) _).trans (h4 h)), (fun h => (put_other (by decide) _).trans (h5 h)), (fun h => (put_other (by decide) _).trans (h6 h)), (fun h => (put_other (by decide) _).trans (h7 h)), (fun h => (put_other (by decide) _).trans (h8 h)), (fun h => (put_other (by decide) _).trans (h9 h)), (fun h => (put_other (by decide) _).trans (h10 h)), (fun h => (put_other (by decide) _).trans (h11 h)), (fun h => (put_other (by decide) _).trans (h12 h)), (fun h => (put_other (by decide) _).trans (h13 h)), (fun h => (put_other (by decide) _).trans (h14 h)), (fun h => (put_other (by decide) _).trans (h15 h)), (fun h => (put_other (by decide) _).trans (h16 h)), (fun h => (put_other (by decide) _).trans (h17 h)), (fun h => (put_other (by decide) _).trans (h18 h)), (fun h => (put_other (by decide) _).trans (h19 h)), (fun h => (put_other (by decide) _).trans (h20 h)), (fun h => (put_other (by decide) _).trans (h21 h))⟩
      | 3, _ =>
        rintro L a W ⟨hF, hE, h0, h1, h2, h3, h4, h5, h6, h7, h8, h9, h10, h11, h12, h13, h14, h15, h16, h17, h18, h19, h20, h21⟩ hclo hL hd
        have x70 := h2 (all_mem hd (by decide))
        refine wpOp_yes rfl rfl (fun K hK => ?_)
        go_simp
        refine hK _ _ ?_
        exact ⟨hF.put (by decide) _, hE, (fun h => (put_other (by decide) _).trans (h0 h)), (fun h => (put_other (by decide) _).trans (h1 h)), (fun h => (put_other (by decide) _).trans (h2 h)), (fun _ => put_same (by rw [hF.size, hsz]; decide) _), (fun h => (put_other (by decide) _).trans (h4 h)), (fun h => (put_other (by decide) _).trans (h5 h)), (fun h => (put_other (by decide) _).trans (h6 h)), (fun h => (put_other (by decide) _).trans (h7 h)), (fun h => (put_other (by decide) _).trans (h8 h)), (fun h => (put_other (by decide) _).trans (h9 h)), (fun h => (put_other (by decide) _).trans (h10 h)), (fun h => (put_other (by decide) _).trans (h11 h)), (fun h => (put_other (by decide) _).trans (h12 h)), (fun h => (put_other (by decide) _).trans (h13 h)), (fun h => (put_other (by decide) _).trans (h14 h)), (fun h => (put_other (by decide) _).trans (h15 h)), (fun h => (put_other (by decide) _).trans (h16 h)), (fun h => (put_other (by decide) _).trans (h17 h)), (fun h => (put_other (by decide) _).trans (h18 h)), (fun h => (put_other (by decide) _).trans (h19 h)), (fun h => (put_other (by decide) _).trans (h20 h)), (fun h => (put_other (by decide) _).trans (h21 h))⟩
      | 4, _ =>
        rintro L a W ⟨hF, hE, h0, h1, h2, h3, h4, h5, h6, h7, h8, h9, h10, h11, h12, h13, h14, h15, h16, h17, h18, h19, h20, h21⟩ hclo hL hd
        have x69 := h1 (all_mem hd (by decide))
        have x71 := h3 (all_mem hd (by decide))
        refine wpOp_yes rfl rfl (fun K hK => ?_)
        go_simp
        refine hK _ _ ?_
        exact ⟨hF.put (by decide) _, hE, (fun h => (put_other (by decide) _).trans (h0 h)), (fun h => (put_other (by decide) _).trans (h1 h)), (fun h => (put_other (by decide) _).trans (h2 h)), (fun h => (put_other (by decide) _).trans (h3 h)), (fun _ => put_same (by rw [hF.size, hsz]; decide) _), (fun h => (put_other (by decide) _).trans (h5 h)), (fun h => (put_other (by decide) _).trans (h6 h)), (fun h => (put_other (by decide) _).trans (h7 h)), (fun h => (put_other (by decide) _).trans (h8 h)), (fun h => (put_other (by decide) _).trans (h9 h)), (fun h => (put_other (by decide) _).trans (h10 h)), (fun h => (put_other (by decide) _).trans (h11 h)), (fun h => (put_other (by decide) _).trans (h12 h)), (fun h => (put_other (by decide) _).trans (h13 h)), (fun h => (put_other (by decide) _).trans (h14 h)), (fun h => (put_other (by decide) _).trans (h15 h)), (fun h => (put_other (by decide) _).trans (h16 h)), (fun h => (put_other (by decide) _).trans (h17 h)), (fun h => (put_other (by decide) _).trans (h18 h)), (fun h => (put_other (by decide) _).trans (h19 h)), (fun h => (put_other (by decide) _).trans (h20 h)), (fun h => (put_other (by decide) _).trans (h21 h))⟩
      | 5, _ =>
        rintro L a W ⟨hF, hE, h0, h1, h2, h3, h4, h5, h6, h7, h8, h9, h10, h11, h12, h13, h14, h15, h16, h17, h18, h19, h20, h21⟩ hclo hL hd
        have x72 := h4 (all_mem hd (by decide))
        refine wpOp_yes rfl rfl (fun K hK => ?_)
        go_simp
        refine hK _ _ ?_
        exact ⟨hF.put (by decide) _, hE, (fun h => (put_other (by decide) _).trans (h0 h)), (fun h => (put_other (by decide) _).trans (h1 h)), (fun h => (put_other (by decide) _).trans (h2 h)), (fun h => (put_other (by decide) _).trans (h3 h)), (fun h => (put_other (by decide) _).trans (h4 h)), (fun _ => put_same (by rw [hF.size, hsz]; decide) _), (fun h => (put_other (by decide) _).trans (h6 h)), (fun h => (put_other (by decide) _).trans (h7 h)), (fun h => (put_other (by decide) _).trans (h8 h)), (fun h => (put_other (by decide) _).trans (h9 h)), (fun h => (put_other (by decide) _).trans (h10 h)), (fun h => (put_other (by decide) _).trans (h11 h)), (fun h => (put_other (by decide) _).trans (h12 h)), (fun h => (put_other (by decide) _).trans (h13 h)), (fun h => (put_other (by decide) _).trans (h14 h)), (fun h => (put_other (by decide) _).trans (h15 h)), (fun h => (put_other (by decide) _).trans (h16 h)), (fun h => (put_other (by decide) _).trans (h17 h)), (fun h => (put_other (by decide) _).trans (h18 h)), (fun h => (put_other (by decide) _).trans (h19 h)), (fun h => (put_other (by decide) _).trans (h20 h)), (fun h => (put_other (by decide) _).trans (h21 h))⟩
      | 6, _ =>
        rintro L a W ⟨hF, hE, h0, h1, h2, h3, h4, h5, h6, h7, h8, h9, h10, h11, h12, h13, h14, h15, h16, h17, h18, h19, h20, h21⟩ hclo hL hd
        have x12 := (hF.same 12 (by decide)).trans q12
        have x73 := h5 (all_mem hd (by decide))
        refine wpOp_yes rfl (by simp [Region.wanted, yielded, x73]) (fun K hK => ?_)
        go_simp
        refine hK _ _ ?_
        exact ⟨hF.put (by decide) _, hE, (fun h => (put_other (by decide) _).trans (h0 h)), (fun h => (put_other (by decide) _).trans (h1 h)), (fun h => (put_other (by decide) _).trans (h2 h)), (fun h => (put_other (by decide) _).trans (h3 h)), (fun h => (put_other (by decide) _).trans (h4 h)), (fun h => (put_other (by decide) _).trans (h5 h)), (fun _ => put_same (by rw [hF.size, hsz]; decide) _), (fun h => (put_other (by decide) _).trans (h7 h)), (fun h => (put_other (by decide) _).trans (h8 h)), (fun h => (put_other (by decide) _).trans (h9 h)), (fun h => (put_other (by decide) _).trans (h10 h)), (fun h => (put_other (by decide) _).trans (h11 h)), (fun h => (put_other (by decide) _).trans (h12 h)), (fun h => (put_other (by decide) _).trans (h13 h)), (fun h => (put_other (by decide) _).trans (h14 h)), (fun h => (put_other (by decide) _).trans (h15 h)), (fun h => (put_other (by decide) _).trans (h16 h)), (fun h => (put_other (by decide) _).trans (h17 h)), (fun h => (put_other (by decide) _).trans (h18 h)), (fun h => (put_other (by decide) _).trans (h19 h)), (fun h => (put_other (by decide) _).trans (h20 h)), (fun h => (put_other (by decide) _).trans (h21 h))⟩
      | 7, _ =>
        rintro L a W ⟨hF, hE, h0, h1, h2, h3, h4, h5, h6, h7, h8, h9, h10, h11, h12, h13, h14, h15, h16, h17, h18, h19, h20, h21⟩ hclo hL hd
        have x12 := (hF.same 12 (by decide)).trans q12
        have x73 := h5 (all_mem hd (by decide))
        refine wpOp_yes rfl (by simp [Region.wanted, yielded, x73]) (fun K hK => ?_)
        go_simp
        refine hK _ _ ?_
        exact ⟨hF.put (by decide) _, hE, (fun h => (put_other (by decide) _).trans (h0 h)), (fun h => (put_other (by decide) _).trans (h1 h)), (fun h => (put_other (by decide) _).trans (h2 h)), (fun h => (put_other (by decide) _).trans (h3 h)), (fun h => (put_other (by decide) _).trans (h4 h)), (fun h => (put_other (by decide) _).trans (h5 h)), (fun h => (put_other (by decide) _).trans (h6 h)), (fun _ => put_same (by rw [hF.size, hsz]; decide) _), (fun h => (put_other (by decide) _).trans (h8 h)), (fun h => (put_other (by decide) _).trans (h9 h)), (fun h => (put_other (by decide) _).trans (h10 h)), (fun h => (put_other (by decide) _).trans (h11 h)), (fun h => (put_other (by decide) _).trans (h12 h)), (fun h => (put_other (by decide) _).trans (h13 h)), (fun h => (put_other (by decide) _).trans (h14 h)), (fun h => (put_other (by decide) _).trans (h15 h)), (fun h => (put_other (by decide) _).trans (h16 h)), (fun h => (put_other (by decide) _).trans (h17 h)), (fun h => (put_other (by decide) _).trans (h18 h)), (fun h => (put_other (by decide) _).trans (h19 h)), (fun h => (put_other (by decide) _).trans (h20 h)), (fun h => (put_other (by decide) _).trans (h21 h))⟩
      | 8, _ =>
        rintro L a W ⟨hF, hE, h0, h1, h2, h3, h4, h5, h6, h7, h8, h9, h10, h11, h12, h13, h14, h15, h16, h17, h18, h19, h20, h21⟩ hclo hL hd
        have x75 := h7 (all_mem hd (by decide))
        have x73 := h5 (all_mem hd (by decide))
        refine wpOp_yes rfl (by simp [Region.wanted, yielded, x73]) (fun K hK => ?_)
        go_simp
        refine hK _ _ ?_
        exact ⟨hF.put (by decide) _, hE, (fun h => (put_other (by decide) _).trans (h0 h)), (fun h => (put_other (by decide) _).trans (h1 h)), (fun h => (put_other (by decide) _).trans (h2 h)), (fun h => (put_other (by decide) _).trans (h3 h)), (fun h => (put_other (by decide) _).trans (h4 h)), (fun h => (put_other (by decide) _).trans (h5 h)), (fun h => (put_other (by decide) _).trans (h6 h)), (fun h => (put_other (by decide) _).trans (h7 h)), (fun _ => put_same (by rw [hF.size, hsz]; decide) _), (fun h => (put_other (by decide) _).trans (h9 h)), (fun h => (put_other (by decide) _).trans (h10 h)), (fun h => (put_other (by decide) _).trans (h11 h)), (fun h => (put_other (by decide) _).trans (h12 h)), (fun h => (put_other (by decide) _).trans (h13 h)), (fun h => (put_other (by decide) _).trans (h14 h)), (fun h => (put_other (by decide) _).trans (h15 h)), (fun h => (put_other (by decide) _).trans (h16 h)), (fun h => (put_other (by decide) _).trans (h17 h)), (fun h => (put_other (by decide) _).trans (h18 h)), (fun h => (put_other (by decide) _).trans (h19 h)), (fun h => (put_other (by decide) _).trans (h20 h)), (fun h => (put_other (by decide) _).trans (h21 h))⟩
      | 9, _ =>
        rintro L a W ⟨hF, hE, h0, h1, h2, h3, h4, h5, h6, h7, h8, h9, h10, h11, h12, h13, h14, h15, h16, h17, h18, h19, h20, h21⟩ hclo hL hd
        have x14 := (hF.same 14 (by decide)).trans q14
        have x73 := h5 (all_mem hd (by decide))
        refine wpOp_yes rfl (by simp [Region.wanted, yielded, x73]) (fun K hK => ?_)
        go_simp
        refine hK _ _ ?_
        exact ⟨hF.put (by decide) _, hE, (fun h => (put_other (by decide) _).trans (h0 h)), (fun h => (put_other (by decide) _).trans (h1 h)), (fun h => (put_other (by decide) _).trans (h2 h)), (fun h => (put_other (by decide) _).trans (h3 h)), (fun h => (put_other (by decide) _).trans (h4 h)), (fun h => (put_other (by decide) _).trans (h5 h)), (fun h => (put_other (by decide) _).trans (h6 h)), (fun h => (put_other (by decide) _).trans (h7 h)), (fun h => (put_other (by decide) _).trans (h8 h)), (fun _ => put_same (by rw [hF.size, hsz]; decide) _), (fun h => (put_other (by decide) _).trans (h10 h)), (fun h => (put_other (by decide) _).trans (h11 h)), (fun h => (put_other (by decide) _).trans (h12 h)), (fun h => (put_other (by decide) _).trans (h13 h)), (fun h => (put_other (by decide) _).trans (h14 h)), (fun h => (put_other (by decide) _).trans (h15 h)), (fun h => (put_other (by decide) _).trans (h16 h)), (fun h => (put_other (by decide) _).trans (h17 h)), (fun h => (put_other (by decide) _).trans (h18 h)), (fun h => (put_other (by decide) _).trans (h19 h)), (fun h => (put_other (by decide) _).trans (h20 h)), (fun h => (put_other (by decide) _).trans (h21 h))⟩
      | 10, _ =>
        rintro L a W ⟨hF, hE, h0, h1, h2, h3, h4, h5, h6, h7, h8, h9, h10, h11, h12, h13, h14, h15, h16, h17, h18, h19, h20, h21⟩ hclo hL hd
        have x77 := h9 (all_mem hd (by decide))
        have x73 := h5 (all_mem hd (by decide))
        refine wpOp_yes rfl (by simp [Region.wanted, yielded, x73]) (fun K hK => ?_)
        go_simp
        refine hK _ _ ?_
        exact ⟨hF.put (by decide) _, hE, (fun h => (put_other (by decide) _).trans (h0 h)), (fun h => (put_other (by decide) _).trans (h1 h)), (fun h => (put_other (by decide) _).trans (h2 h)), (fun h => (put_other (by decide) _).trans (h3 h)), (fun h => (put_other (by decide) _).trans (h4 h)), (fun h => (put_other (by decide) _).trans (h5 h)), (fun h => (put_other (by decide) _).trans (h6 h)), (fun h => (put_other (by decide) _).trans (h7 h)), (fun h => (put_other (by decide) _).trans (h8 h)), (fun h => (put_other (by decide) _).trans (h9 h)), (fun _ => put_same (by rw [hF.size, hsz]; decide) _), (fun h => (put_other (by decide) _).trans (h11 h)), (fun h => (put_other (by decide) _).trans (h12 h)), (fun h => (put_other (by decide) _).trans (h13 h)), (fun h => (put_other (by decide) _).trans (h14 h)), (fun h => (put_other (by decide) _).trans (h15 h)), (fun h => (put_other (by decide) _).trans (h16 h)), (fun h => (put_other (by decide) _).trans (h17 h)), (fun h => (put_other (by decide) _).trans (h18 h)), (fun h => (put_other (by decide) _).trans (h19 h)), (fun h => (put_other (by decide) _).trans (h20 h)), (fun h => (put_other (by decide) _).trans (h21 h))⟩
      | 11, _ =>
        rintro L a W ⟨hF, hE, h0, h1, h2, h3, h4, h5, h6, h7, h8, h9, h10, h11, h12, h13, h14, h15, h16, h17, h18, h19, h20, h21⟩ hclo hL hd
        have x76 := h8 (all_mem hd (by decide))
        have x78 := h10 (all_mem hd (by decide))
        have x73 := h5 (all_mem hd (by decide))
        refine wpOp_yes rfl (by simp [Region.wanted, yielded, x73]) (fun K hK => ?_)
        go_simp
        refine hK _ _ ?_
        exact ⟨hF.put (by decide) _, hE, (fun h => (put_other (by decide) _).trans (h0 h)), (fun h => (put_other (by decide) _).trans (h1 h)), (fun h => (put_other (by decide) _).trans (h2 h)), (fun h => (put_other (by decide) _).trans (h3 h)), (fun h => (put_other (by decide) _).trans (h4 h)), (fun h => (put_other (by decide) _).trans (h5 h)), (fun h => (put_other (by decide) _).trans (h6 h)), (fun h => (put_other (by decide) _).trans (h7 h)), (fun h => (put_other (by decide) _).trans (h8 h)), (fun h => (put_other (by decide) _).trans (h9 h)), (fun h => (put_other (by decide) _).trans (h10 h)), (fun _ => put_same (by rw [hF.size, hsz]; decide) _), (fun h => (put_other (by decide) _).trans (h12 h)), (fun h => (put_other (by decide) _).trans (h13 h)), (fun h => (put_other (by decide) _).trans (h14 h)), (fun h => (put_other (by decide) _).trans (h15 h)), (fun h => (put_other (by decide) _).trans (h16 h)), (fun h => (put_other (by decide) _).trans (h17 h)), (fun h => (put_other (by decide) _).trans (h18 h)), (fun h => (put_other (by decide) _).trans (h19 h)), (fun h => (put_other (by decide) _).trans (h20 h)), (fun h => (put_other (by decide) _).trans (h21 h))⟩
      | 12, _ =>
        rintro L a W ⟨hF, hE, h0, h1, h2, h3, h4, h5, h6, h7, h8, h9, h10, h11, h12, h13, h14, h15, h16, h17, h18, h19, h20, h21⟩ hclo hL hd
        have x74 := h6 (all_mem hd (by decide))
        have x79 := h11 (all_mem hd (by decide))
        have x73 := h5 (all_mem hd (by decide))
        refine wpOp_yes rfl (by simp [Region.wanted, yielded, x73]) (fun K hK => ?_)
        go_simp
        refine hK _ _ ?_
        exact ⟨hF.put (by decide) _, hE, (fun h => (put_other (by decide) _).trans (h0 h)), (fun h => (put_other (by decide) _).trans (h1 h)), (fun h => (put_other (by decide) _).trans (h2 h)), (fun h => (put_other (by decide) _).trans (h3 h)), (fun h => (put_other (by decide) _).trans (h4 h)), (fun h => (put_other (by decide) _).trans (h5 h)), (fun h => (put_other (by decide) _).trans (h6 h)), (fun h => (put_other (by decide) _).trans (h7 h)), (fun h => (put_other (by decide) _).trans (h8 h)), (fun h => (put_other (by decide) _).trans (h9 h)), (fun h => (put_other (by decide) _).trans (h10 h)), (fun h => (put_other (by decide) _).trans (h11 h)), (fun _ => put_same (by rw [hF.size, hsz]; decide) _), (fun h => (put_other (by decide) _).trans (h13 h)), (fun h => (put_other (by decide) _).trans (h14 h)), (fun h => (put_other (by decide) _).trans (h15 h)), (fun h => (put_other (by decide) _).trans (h16 h)), (fun h => (put_other (by decide) _).trans (h17 h)), (fun h => (put_other (by decide) _).trans (h18 h)), (fun h => (put_other (by decide) _).trans (h19 h)), (fun h => (put_other (by decide) _).trans (h20 h)), (fun h => (put_other (by decide) _).trans (h21 h))⟩
      | 13, _ =>
        rintro L a W ⟨hF, hE, h0, h1, h2, h3, h4, h5, h6, h7, h8, h9, h10, h11, h12, h13, h14, h15, h16, h17, h18, h19, h20, h21⟩ hclo hL hd
        have x80 := h12 (all_mem hd (by decide))
        have x73 := h5 (all_mem hd (by decide))
        refine wpOp_yes rfl (by simp [Region.wanted, yielded, x73]) (fun K hK => ?_)
        have hs := HST.out W hE
        have hs1 := hs.1
        have hs2 := hs.2
        go_simp
        refine hK _ _ ?_
        exact ⟨hF.put (by decide) _, hE, (fun h => (put_other (by decide) _).trans (h0 h)), (fun h => (put_other (by decide) _).trans (h1 h)), (fun h => (put_other (by decide) _).trans (h2 h)), (fun h => (put_other (by decide) _).trans (h3 h)), (fun h => (put_other (by decide) _).trans (h4 h)), (fun h => (put_other (by decide) _).trans (h5 h)), (fun h => (put_other (by decide) _).trans (h6 h)), (fun h => (put_other (by decide) _).trans (h7 h)), (fun h => (put_other (by decide) _).trans (h8 h)), (fun h => (put_other (by decide) _).trans (h9 h)), (fun h => (put_other (by decide) _).trans (h10 h)), (fun h => (put_other (by decide) _).trans (h11 h)), (fun h => (put_other (by decide) _).trans (h12 h)), (fun _ => put_same (by rw [hF.size, hsz]; decide) _), (fun h => (put_other (by decide) _).trans (h14 h)), (fun h => (put_other (by decide) _).trans (h15 h)), (fun h => (put_other (by decide) _).trans (h16 h)), (fun h => (put_other (by decide) _).trans (h17 h)), (fun h => (put_other (by decide) _).trans (h18 h)), (fun h => (put_other (by decide) _).trans (h19 h)), (fun h => (put_other (by decide) _).trans (h20 h)), (fun h => (put_other (by decide) _).trans (h21 h))⟩
      | 14, _ =>
        rintro L a W ⟨hF, hE, h0, h1, h2, h3, h4, h5, h6, h7, h8, h9, h10, h11, h12, h13, h14, h15, h16, h17, h18, h19, h20, h21⟩ hclo hL hd
        have x14 := (hF.same 14 (by decide)).trans q14
        have x73 := h5 (all_mem hd (by decide))
        refine wpOp_yes rfl (by simp [Region.wanted, yielded, x73]) (fun K hK => ?_)
        go_simp
        refine hK _ _ ?_
        exact ⟨hF.put (by decide) _, hE, (fun h => (put_other (by decide) _).trans (h0 h)), (fun h => (put_other (by decide) _).trans (h1 h)), (fun h => (put_other (by decide) _).trans (h2 h)), (fun h => (put_other (by decide) _).trans (h3 h)), (fun h => (put_other (by decide) _).trans (h4 h)), (fun h => (put_other (by decide) _).trans (h5 h)), (fun h => (put_other (by decide) _).trans (h6 h)), (fun h => (put_other (by decide) _).trans (h7 h)), (fun h => (put_other (by decide) _).trans (h8 h)), (fun h => (put_other (by decide) _).trans (h9 h)), (fun h => (put_other (by decide) _).trans (h10 h)), (fun h => (put_other (by decide) _).trans (h11 h)), (fun h => (put_other (by decide) _).trans (h12 h)), (fun h => (put_other (by decide) _).trans (h13 h)), (fun _ => put_same (by rw [hF.size, hsz]; decide) _), (fun h => (put_other (by decide) _).trans (h15 h)), (fun h => (put_other (by decide) _).trans (h16 h)), (fun h => (put_other (by decide) _).trans (h17 h)), (fun h => (put_other (by decide) _).trans (h18 h)), (fun h => (put_other (by decide) _).trans (h19 h)), (fun h => (put_other (by decide) _).trans (h20 h)), (fun h => (put_other (by decide) _).trans (h21 h))⟩
      | 15, _ =>
        rintro L a W ⟨hF, hE, h0, h1, h2, h3, h4, h5, h6, h7, h8, h9, h10, h11, h12, h13, h14, h15, h16, h17, h18, h19, h20, h21⟩ hclo hL hd
        have x82 := h14 (all_mem hd (by decide))
        have x73 := h5 (all_mem hd (by decide))
        refine wpOp_yes rfl (by simp [Region.wanted, yielded, x73]) (fun K hK => ?_)
        have hs := HST.out W hE
        have hs1 := hs.1
        have hs2 := hs.2
        go_simp
        refine hK _ _ ?_
        exact ⟨hF.put (by decide) _, hE, (fun h => (put_other (by decide) _).trans (h0 h)), (fun h => (put_other (by decide) _).trans (h1 h)), (fun h => (put_other (by decide) _).trans (h2 h)), (fun h => (put_other (by decide) _).trans (h3 h)), (fun h => (put_other (by decide) _).trans (h4 h)), (fun h => (put_other (by decide) _).trans (h5 h)), (fun h => (put_other (by decide) _).trans (h6 h)), (fun h => (put_other (by decide) _).trans (h7 h)), (fun h => (put_other (by decide) _).trans (h8 h)), (fun h => (put_other (by decide) _).trans (h9 h)), (fun h => (put_other (by decide) _).trans (h10 h)), (fun h => (put_other (by decide) _).trans (h11 h)), (fun h => (put_other (by decide) _).trans (h12 h)), (fun h => (put_other (by decide) _).trans (h13 h)), (fun h => (put_other (by decide) _).trans (h14 h)), (fun _ => put_same (by rw [hF.size, hsz]; decide) _), (fun h => (put_other (by decide) _).trans (h16 h)), (fun h => (put_other (by decide) _).trans (h17 h)), (fun h => (put_other (by decide) _).trans (h18 h)), (fun h => (put_other (by decide) _).trans (h19 h)), (fun h => (put_other (by decide) _).trans (h20 h)), (fun h => (put_other (by decide) _).trans (h21 h))⟩
      | 16, _ =>
        rintro L a W ⟨hF, hE, h0, h1, h2, h3, h4, h5, h6, h7, h8, h9, h10, h11, h12, h13, h14, h15, h16, h17, h18, h19, h20, h21⟩ hclo hL hd
        have x81 := h13 (all_mem hd (by decide))
        have x83 := h15 (all_mem hd (by decide))
        have x73 := h5 (all_mem hd (by decide))
        refine wpOp_yes rfl (by simp [Region.wanted, yielded, x73]) (fun K hK => ?_)
        go_simp
        refine hK _ _ ?_
        exact ⟨hF.put (by decide) _, hE, (fun h => (put_other (by decide) _).trans (h0 h)), (fun h => (put_other (by decide) _).trans (h1 h)), (fun h => (put_other (by decide) _).trans (h2 h)), (fun h => (put_other (by decide) _).trans (h3 h)), (fun h => (put_other (by decide) _).trans (h4 h)), (fun h => (put_other (by decide) _).trans (h5 h)), (fun h => (put_other (by decide) _).trans (h6 h)), (fun h => (put_other (by decide) _).trans (h7 h)), (fun h => (put_other (by decide) _).trans (h8 h)), (fun h => (put_other (by decide) _).trans (h9 h)), (fun h => (put_other (by decide) _).trans (h10 h)), (fun h => (put_other (by decide) _).trans (h11 h)), (fun h => (put_other (by decide) _).trans (h12 h)), (fun h => (put_other (by decide) _).trans (h13 h)), (fun h => (put_other (by decide) _).trans (h14 h)), (fun h => (put_other (by decide) _).trans (h15 h)), (fun _ => put_same (by rw [hF.size, hsz]; decide) _), (fun h => (put_other (by decide) _).trans (h17 h)), (fun h => (put_other (by decide) _).trans (h18 h)), (fun h => (put_other (by decide) _).trans (h19 h)), (fun h => (put_other (by decide) _).trans (h20 h)), (fun h => (put_other (by decide) _).trans (h21 h))⟩
      | 17, _ =>
        rintro L a W ⟨hF, hE, h0, h1, h2, h3, h4, h5, h6, h7, h8, h9, h10, h11, h12, h13, h14, h15, h16, h17, h18, h19, h20, h21⟩ hclo hL hd
        have x73 := h5 (all_mem hd (by decide))
        have x84 := h16 (all_mem hd (by decide))
        refine wpOp_yes rfl rfl (fun K hK => ?_)
        go_simp
        refine hK _ _ ?_
        exact ⟨hF.put (by decide) _, hE, (fun h => (put_other (by decide) _).trans (h0 h)), (fun h => (put_other (by decide) _).trans (h1 h)), (fun h => (put_other (by decide) _).trans (h2 h)), (fun h => (put_other (by decide) _).trans (h3 h)), (fun h => (put_other (by decide) _).trans (h4 h)), (fun h => (put_other (by decide) _).trans (h5 h)), (fun h => (put_other (by decide) _).trans (h6 h)), (fun h => (put_other (by decide) _).trans (h7 h)), (fun h => (put_other (by decide) _).trans (h8 h)), (fun h => (put_other (by decide) _).trans (h9 h)), (fun h => (put_other (by decide) _).trans (h10 h)), (fun h => (put_other (by decide) _).trans (h11 h)), (fun h => (put_other (by decide) _).trans (h12 h)), (fun h => (put_other (by decide) _).trans (h13 h)), (fun h => (put_other (by decide) _).trans (h14 h)), (fun h => (put_other (by decide) _).trans (h15 h)), (fun h => (put_other (by decide) _).trans (h16 h)), (fun _ => put_same (by rw [hF.size, hsz]; decide) _), (fun h => (put_other (by decide) _).trans (h18 h)), (fun h => (put_other (by decide) _).trans (h19 h)), (fun h => (put_other (by decide) _).trans (h20 h)), (fun h => (put_other (by decide) _).trans (h21 h))⟩
      | 18, _ =>
        rintro L a W ⟨hF, hE, h0, h1, h2, h3, h4, h5, h6, h7, h8, h9, h10, h11, h12, h13, h14, h15, h16, h17, h18, h19, h20, h21⟩ hclo hL hd
        have x85 := h17 (all_mem hd (by decide))
        refine wpOp_yes rfl rfl (fun K hK => ?_)
        go_simp
        refine hK _ _ ?_
        exact ⟨hF.put (by decide) _, hE, (fun h => (put_other (by decide) _).trans (h0 h)), (fun h => (put_other (by decide) _).trans (h1 h)), (fun h => (put_other (by decide) _).trans (h2 h)), (fun h => (put_other (by decide) _).trans (h3 h)), (fun h => (put_other (by decide) _).trans (h4 h)), (fun h => (put_other (by decide) _).trans (h5 h)), (fun h => (put_other (by decide) _).trans (h6 h)), (fun h => (put_other (by decide) _).trans (h7 h)), (fun h => (put_other (by decide) _).trans (h8 h)), (fun h => (put_other (by decide) _).trans (h9 h)), (fun h => (put_other (by decide) _).trans (h10 h)), (fun h => (put_other (by decide) _).trans (h11 h)), (fun h => (put_other (by decide) _).trans (h12 h)), (fun h => (put_other (by decide) _).trans (h13 h)), (fun h => (put_other (by decide) _).trans (h14 h)), (fun h => (put_other (by decide) _).trans (h15 h)), (fun h => (put_other (by decide) _).trans (h16 h)), (fun h => (put_other (by decide) _).trans (h17 h)), (fun _ => put_same (by rw [hF.size, hsz]; decide) _), (fun h => (put_other (by decide) _).trans (h19 h)), (fun h => (put_other (by decide) _).trans (h20 h)), (fun h => (put_other (by decide) _).trans (h21 h))⟩
      | 19, _ =>
        rintro L a W ⟨hF, hE, h0, h1, h2, h3, h4, h5, h6, h7, h8, h9, h10, h11, h12, h13, h14, h15, h16, h17, h18, h19, h20, h21⟩ hclo hL hd
        have x86 := h18 (all_mem hd (by decide))
        refine wpOp_yes rfl (by simp [Region.wanted, yielded, x86]) (fun K hK => ?_)
        go_simp
        refine (lives_any W).mono ?_
        rintro e W' ⟨rfl, hB'⟩
        refine hK _ _ ?_
        exact ⟨hF.put (by decide) _, hE.trans (hB'.mono hE.size), (fun h => (put_other (by decide) _).trans (h0 h)), (fun h => (put_other (by decide) _).trans (h1 h)), (fun h => (put_other (by decide) _).trans (h2 h)), (fun h => (put_other (by decide) _).trans (h3 h)), (fun h => (put_other (by decide) _).trans (h4 h)), (fun h => (put_other (by decide) _).trans (h5 h)), (fun h => (put_other (by decide) _).trans (h6 h)), (fun h => (put_other (by decide) _).trans (h7 h)), (fun h => (put_other (by decide) _).trans (h8 h)), (fun h => (put_other (by decide) _).trans (h9 h)), (fun h => (put_other (by decide) _).trans (h10 h)), (fun h => (put_other (by decide) _).trans (h11 h)), (fun h => (put_other (by decide) _).trans (h12 h)), (fun h => (put_other (by decide) _).trans (h13 h)), (fun h => (put_other (by decide) _).trans (h14 h)), (fun h => (put_other (by decide) _).trans (h15 h)), (fun h => (put_other (by decide) _).trans (h16 h)), (fun h => (put_other (by decide) _).trans (h17 h)), (fun h => (put_other (by decide) _).trans (h18 h)), (fun _ => put_same (by rw [hF.size, hsz]; decide) _), (fun h => (put_other (by decide) _).trans (h20 h)), (fun h => (put_other (by decide) _).trans (h21 h))⟩
      | 20, _ =>
        rintro L a W ⟨hF, hE, h0, h1, h2, h3, h4, h5, h6, h7, h8, h9, h10, h11, h12, h13, h14, h15, h16, h17, h18, h19, h20, h21⟩ hclo hL hd
        have x86 := h18 (all_mem hd (by decide))
        have x87 := h19 (all_mem hd (by decide))
        refine wpOp_yes rfl rfl (fun K hK => ?_)
        go_simp
        refine hK _ _ ?_
        exact ⟨hF.put (by decide) _, hE, (fun h => (put_other (by decide) _).trans (h0 h)), (fun h => (put_other (by decide) _).trans (h1 h)), (fun h => (put_other (by decide) _).trans (h2 h)), (fun h => (put_other (by decide) _).trans (h3 h)), (fun h => (put_other (by decide) _).trans (h4 h)), (fun h => (put_other (by decide) _).trans (h5 h)), (fun h => (put_other (by decide) _).trans (h6 h)), (fun h => (put_other (by decide) _).trans (h7 h)), (fun h => (put_other (by decide) _).trans (h8 h)), (fun h => (put_other (by decide) _).trans (h9 h)), (fun h => (put_other (by decide) _).trans (h10 h)), (fun h => (put_other (by decide) _).trans (h11 h)), (fun h => (put_other (by decide) _).trans (h12 h)), (fun h => (put_other (by decide) _).trans (h13 h)), (fun h => (put_other (by decide) _).trans (h14 h)), (fun h => (put_other (by decide) _).trans (h15 h)), (fun h => (put_other (by decide) _).trans (h16 h)), (fun h => (put_other (by decide) _).trans (h17 h)), (fun h => (put_other (by decide) _).trans (h18 h)), (fun h => (put_other (by decide) _).trans (h19 h)), (fun _ => put_same (by rw [hF.size, hsz]; decide) _), (fun h => (put_other (by decide) _).trans (h21 h))⟩
      | 21, _ =>
        rintro L a W ⟨hF, hE, h0, h1, h2, h3, h4, h5, h6, h7, h8, h9, h10, h11, h12, h13, h14, h15, h16, h17, h18, h19, h20, h21⟩ hclo hL hd
        have x88 := h20 (all_mem hd (by decide))
        refine wpOp_yes rfl rfl (fun K hK => ?_)
        go_simp
        refine hK _ _ ?_
        exact ⟨hF.put (by decide) _, hE, (fun h => (put_other (by decide) _).trans (h0 h)), (fun h => (put_other (by decide) _).trans (h1 h)), (fun h => (put_other (by decide) _).trans (h2 h)), (fun h => (put_other (by decide) _).trans (h3 h)), (fun h => (put_other (by decide) _).trans (h4 h)), (fun h => (put_other (by decide) _).trans (h5 h)), (fun h => (put_other (by decide) _).trans (h6 h)), (fun h => (put_other (by decide) _).trans (h7 h)), (fun h => (put_other (by decide) _).trans (h8 h)), (fun h => (put_other (by decide) _).trans (h9 h)), (fun h => (put_other (by decide) _).trans (h10 h)), (fun h => (put_other (by decide) _).trans (h11 h)), (fun h => (put_other (by decide) _).trans (h12 h)), (fun h => (put_other (by decide) _).trans (h13 h)), (fun h => (put_other (by decide) _).trans (h14 h)), (fun h => (put_other (by decide) _).trans (h15 h)), (fun h => (put_other (by decide) _).trans (h16 h)), (fun h => (put_other (by decide) _).trans (h17 h)), (fun h => (put_other (by decide) _).trans (h18 h)), (fun h => (put_other (by decide) _).trans (h19 h)), (fun h => (put_other (by decide) _).trans (h20 h)), (fun _ => put_same (by rw [hF.size, hsz]; decide) _)⟩
      | k + 22, h => exact absurd (show k + 22 < 22 from h) (by omega)
    · rintro L a W ⟨hF, hE, h0, h1, h2, h3, h4, h5, h6, h7, h8, h9, h10, h11, h12, h13, h14, h15, h16, h17, h18, h19, h20, h21⟩ hall
      have hfa : a = fill a0 [(68, .slice (some ⟨gd, 0, none⟩) 6 6), (69, .int .i64 6), (70, .slice (some ⟨b8, o8, none⟩) 2 c8), (71, .int .i64 2), (72, .bool true), (73, .bool true), (74, .slice (some ⟨gd, 0, none⟩) 6 6), (75, .slice (some ⟨gd, 0, none⟩) 6 6), (76, .int .i64 6), (77, .slice (some ⟨b8, o8, none⟩) 2 c8), (78, .int .i64 2), (79, .int .i64 4), (80, .slice (some ⟨gd, 4, none⟩) 2 2), (81, .string S), (82, .slice (some ⟨b8, o8, none⟩) 2 c8), (83, .string S), (84, .bool true), (85, .bool true), (86, .bool true), (87, .bool true), (88, .bool true), (4, .bool true)] := fill_eq hF (FillOk.cons (by rw [hsz]; decide) (h0 (hall 0 (by decide))) (FillOk.cons (by rw [hsz]; decide) (h1 (hall 1 (by decide))) (FillOk.cons (by rw [hsz]; decide) (h2 (hall 2 (by decide))) (FillOk.cons (by rw [hsz]; decide) (h3 (hall 3 (by decide))) (FillOk.cons (by rw [hsz]; decide) (h4 (hall 4 (by decide))) (FillOk.cons (by rw [hsz]; decide) (h5 (hall 5 (by decide))) (FillOk.cons (by rw [hsz]; decide) (h6 (hall 6 (by decide))) (FillOk.cons (by rw [hsz]; decide) (h7 (hall 7 (by decide))) (FillOk.cons (by rw [hsz]; decide) (h8 (hall 8 (by decide))) (FillOk.cons (by rw [hsz]; decide) (h9 (hall 9 (by decide))) (FillOk.cons (by rw [hsz]; decide) (h10 (hall 10 (by decide))) (FillOk.cons (by rw [hsz]; decide) (h11 (hall 11 (by decide))) (FillOk.cons (by rw [hsz]; decide) (h12 (hall 12 (by decide))) (FillOk.cons (by rw [hsz]; decide) (h13 (hall 13 (by decide))) (FillOk.cons (by rw [hsz]; decide) (h14 (hall 14 (by decide))) (FillOk.cons (by rw [hsz]; decide) (h15 (hall 15 (by decide))) (FillOk.cons (by rw [hsz]; decide) (h16 (hall 16 (by decide))) (FillOk.cons (by rw [hsz]; decide) (h17 (hall 17 (by decide))) (FillOk.cons (by rw [hsz]; decide) (h18 (hall 18 (by decide))) (FillOk.cons (by rw [hsz]; decide) (h19 (hall 19 (by decide))) (FillOk.cons (by rw [hsz]; decide) (h20 (hall 20 (by decide))) (FillOk.cons (by rw [hsz]; decide) (h21 (hall 21 (by decide))) (FillOk.nil))))))))))))))))))))))) (by simp)
      rw [hfa, ha0]
      clear hfa ha0
      simp only [fill, List.foldl_cons, List.foldl_nil, List.setIfInBounds_toArray, List.set_cons_zero, List.set_cons_succ]
      go_wp2
      go_ret
      exact ⟨rfl, HB8.out.trans (hE.mono HB8.out.size)⟩

end Go.Proofs.Ytcniepogobgaoaa
