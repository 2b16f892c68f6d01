/-
  The law JitterSpike, called: it returns true and writes nothing that was there.
-/
import Derived.Test.YtmicmibffceiaaaJitL3
namespace Go.Proofs.Ytmicmibffceiaaa
set_option linter.unusedVariables false
set_option linter.unusedSimpArgs false
open Go.RowKit

def inserted (xs : List Int) (k : Nat) (v : Int) : List Int := xs.take k ++ [v] ++ xs.drop k
theorem inserted_perm (xs : List Int) (k : Nat) (v : Int) : (inserted xs k v).Perm (v :: xs) := by
  unfold inserted
  rw [List.append_assoc]
  have := List.perm_middle (a := v) (l₁ := xs.take k) (l₂ := xs.drop k)
  rw [List.take_append_drop] at this
  exact this

set_option maxHeartbeats 1000000 in
theorem insert_any (b off n c k : Nat) (xs : List Int) (v : Int) (B : Nat) (w : World) (hl : xs.length = n) (hk : k ≤ n) (hc : n ≤ c) (hcm : c ≤ maxLen) (hn : n ≤ 1000) (hr : Rd w B (some ⟨b, off, none⟩) xs) (hB : B ≤ w.heap.size) :
    Calls Try.prog 23 #[.slice (some ⟨b, off, none⟩) n c, .int .i64 (k : Int), .int .i64 v] w fun e w' => ∃ A' c', e = .returned (.slice A' (n + 1) c') ∧ Own 3 w' w.heap.size (.slice A' (n + 1) c') (inserted xs k v) ∧ Below w.heap.size w w' := by
  unfold maxLen at hcm
  have htl : Hid ((xs.take k).length = k) := by show _ = _; rw [List.length_take]; omega
  have hdl : Hid ((xs.drop k).length = n - k) := by show _ = _; rw [List.length_drop, hl]
  have htk := hr.take k
  have hl1 : Hid (([] : List Int).length + k = k) := by show _ = _; simp
  have hl2 : Hid (([] ++ xs.take k).length + 1 = k + 1) := by show _ = _; rw [List.nil_append, htl.out]
  have hl2' : Hid (([] ++ xs.take k).length < 1000000000000) := by show _ < _; rw [List.nil_append, htl.out]; omega
  have hl3 : Hid (([] ++ xs.take k ++ [v]).length + (n - k) = n + 1) := by show _ = _; rw [List.nil_append, List.length_append, htl.out]; simp; omega
  have hl3' : Hid (([] ++ xs.take k ++ [v]).length + (n - k) < 1000000000000) := by show _ < _; rw [hl3.out]; omega
  have hl1' : Hid (([] : List Int).length + k < 1000000000000) := by show _ < _; rw [hl1.out]; omega
  have HL := Lib.hid hl
  by_cases hck : c = k
  · have hkn : k = n := by omega
    have hd0 : xs.drop k = [] := List.drop_eq_nil_of_le (by omega)
    have hdr : Rd w B (some ⟨b, off, none⟩) (xs.drop k) := by rw [hd0]; exact Rd.nil
    clear hd0 hl
    have e1 := hck.symm
    clear hck
    subst e1
    obtain rfl : n = k := by omega
    clear hkn
    have hdl : Hid ((xs.drop n).length = 0) := by show _ = _; rw [hdl.out]; omega
    have hl3 : Hid (([] ++ xs.take n ++ [v]).length + 0 = n + 1) := by show _ = _; have := hl3.out; omega
    have hl3' : Hid (([] ++ xs.take n ++ [v]).length + 0 < 1000000000000) := by show _ < _; have := hl3.out; omega
    go_enter Try.func23, Try.ntmps23
    go_wp2_with (first
      | (at_builtin; refine wpl_appends rfl (.const (.slice none 0 0)) (.tmp 10) 22 rfl 3 Try.underlying22 int_info3 w.heap.size _ [] (xs.take n) rfl (Own.nil _ _ _) _ n _ _ n hl1.out rfl htl.out htk (by intro h; cases h) hl1'.out (Nat.le_refl _) ?_; intro A1 c1 w1 hown1 hb1; have hsz1 := hb1.size; have ho1 := hown1.out.alloc (.cells #[.int .i64 v] 3))
      | (at_builtin; refine wpl_append1 rfl (.tmp 12) (.tmp 14) 22 rfl 3 Try.underlying22 int_info3 w.heap.size _ _ rfl ho1 ⟨w1.heap.size, 0, none⟩ 1 v (n + 1) hl2.out rfl (int_one _ _) hl2'.out (by simp; omega) ?_; intro A2 c2 w2 hown2 hb2; have hb02 := (hb1.alloc hsz1 (.cells #[.int .i64 v] 3)).trans hb2; have hr2 := hdr.below hb02 hB)
      | (at_builtin; refine wpl_appends rfl (.tmp 16) (.tmp 19) 22 rfl 3 Try.underlying22 int_info3 w.heap.size _ _ (xs.drop n) rfl hown2.out _ _ _ _ (n + 1) hl3.out rfl hdl.out hr2 (by intro h; cases h) hl3'.out hb02.size ?_; intro A3 c3 w3 hown3 hb3))
    go_ret
    exact ⟨A3, c3, rfl, hown3.out, hb02.trans hb3⟩
  · have hdr := hr.drop k
    go_enter Try.func23, Try.ntmps23
    go_wp2_with (first
      | (at_builtin; refine wpl_appends rfl (.const (.slice none 0 0)) (.tmp 10) 22 rfl 3 Try.underlying22 int_info3 w.heap.size _ [] (xs.take k) rfl (Own.nil _ _ _) _ k _ _ k hl1.out rfl htl.out htk (by intro h; cases h) hl1'.out (Nat.le_refl _) ?_; intro A1 c1 w1 hown1 hb1; have hsz1 := hb1.size; have ho1 := hown1.out.alloc (.cells #[.int .i64 v] 3))
      | (at_builtin; refine wpl_append1 rfl (.tmp 12) (.tmp 14) 22 rfl 3 Try.underlying22 int_info3 w.heap.size _ _ rfl ho1 ⟨w1.heap.size, 0, none⟩ 1 v (k + 1) hl2.out rfl (int_one _ _) hl2'.out (by simp; omega) ?_; intro A2 c2 w2 hown2 hb2; have hb02 := (hb1.alloc hsz1 (.cells #[.int .i64 v] 3)).trans hb2; have hr2 := hdr.below hb02 hB)
      | (at_builtin; refine wpl_appends rfl (.tmp 16) (.tmp 19) 22 rfl 3 Try.underlying22 int_info3 w.heap.size _ _ (xs.drop k) rfl hown2.out _ _ _ _ (n + 1) hl3.out rfl hdl.out hr2 (by intro h; cases h) hl3'.out hb02.size ?_; intro A3 c3 w3 hown3 hb3))
    go_ret
    exact ⟨A3, c3, rfl, hown3.out, hb02.trans hb3⟩

theorem insert_s (A : Option Addr) (n c k : Nat) (xs ys : List Int) (v : Int) (hy : ys = inserted xs k v) (B : Nat) (w : World) (hl : xs.length = n) (h0 : 0 < n) (hk : k ≤ n) (hc : n ≤ c) (hcm : c ≤ maxLen) (hn : n ≤ 1000) (hr : Rd w B A xs) (hB : B ≤ w.heap.size) :
    Calls Try.prog 23 #[.slice A n c, .int .i64 (k : Int), .int .i64 v] w fun e w' => ∃ A' c', e = .returned (.slice A' (n + 1) c') ∧ Own 3 w' w.heap.size (.slice A' (n + 1) c') ys ∧ Below w.heap.size w w' := by
  subst hy
  obtain ⟨b, off, rfl, _, _⟩ := hr (by omega)
  exact insert_any b off n c k xs v B w hl hk hc hcm hn hr hB

set_option maxHeartbeats 2000000 in
theorem spike_walk (A : Option Addr) (n c : Nat) (ys : List Int) (one two at_ : Int) (w : World) (hl : ys.length = n) (hr : Rd w w.heap.size A ys) (hy : ∀ x ∈ ys, -9223372036854775808 ≤ x ∧ x ≤ 9223372036854775807) (hn : n ≤ maxLen)
    (ho1 : -9223372036854775808 ≤ one) (ho2 : one ≤ 9223372036854775807) (ht1 : -9223372036854775808 ≤ two) (ht2 : two ≤ 9223372036854775807) (ha1 : -9223372036854775808 ≤ at_) (ha2 : at_ ≤ 9223372036854775807) :
    Calls Try.prog 7 #[.slice A n c, .int .i64 one, .int .i64 two, .int .i64 at_] w fun e w' => e = .returned (.bool true) ∧ Below w.heap.size w w' := by
  unfold maxLen at hn
  have HY := Lib.hid hy
  have HL := Lib.hid hl
  obtain ⟨r, hr1⟩ : ∃ r, r = around at_ 16 := ⟨_, rfl⟩
  have hra := around_lo (n := at_) (m := 16) (by omega)
  have hrb := around_hi (n := at_) (m := 16) (by omega)
  obtain ⟨r1, hr2⟩ : ∃ r, r = around one 40 := ⟨_, rfl⟩
  have hra1 := around_lo (n := one) (m := 40) (by omega)
  have hrb1 := around_hi (n := one) (m := 40) (by omega)
  obtain ⟨r2, hr3⟩ : ∃ r, r = around two 40 := ⟨_, rfl⟩
  have hra2 := around_lo (n := two) (m := 40) (by omega)
  have hrb2 := around_hi (n := two) (m := 40) (by omega)
  rw [← hr1] at hra hrb
  rw [← hr2] at hra1 hrb1
  rw [← hr3] at hra2 hrb2
  have HR := Lib.hid hr1
  have HR1 := Lib.hid hr2
  have HR2 := Lib.hid hr3
  clear hy hl hr1 hr2 hr3
  go_enter Try.func7, Try.ntmps7
  go_wp2
  go_loopw [9, 10] (fun v i wr => ∃ k : Nat, k ≤ 15 ∧ i = .int .i64 k ∧ (∃ A2 c2, v = .slice A2 k c2 ∧ Own 3 wr w.heap.size (.slice A2 k c2) (fillUp ys 30 k)) ∧ Below w.heap.size w wr) (fun _ i _ => 15 - (intOf i).toNat)
  case atStart => exact ⟨0, Nat.zero_le _, rfl, ⟨none, 0, rfl, Own.nil _ _ _⟩, Below.refl _ _⟩
  case round =>
    obtain ⟨k, hk, rfl, ⟨A2, c2, rfl, hown⟩, hb⟩ := hrel
    have HLN := Lib.hid (fillUp_length ys 30 k)
    by_cases hlt : k < 15
    · have hsz := hb.size
      have hln : (fillUp ys 30 k).length < 1000000000000 := by rw [HLN.out]; omega
      have hln2 : Hid ((fillUp ys 30 k).length + 1 = k + 1) := by show _ = _; rw [HLN.out]
      by_cases hkn : k < n
      · obtain ⟨b, off, rfl, hbb, hc⟩ := hr (by rw [HL.out]; omega)
        have hkl : k < ys.length := by rw [HL.out]; exact hkn
        have hck := (hb.cell (p := ⟨b, off + k, none⟩) hbb).trans (hc k hkl)
        have hbd := HY.out _ (ix_mem hkl)
        have HS := Lib.hid (fillUp_yes 30 hkl)
        clear hc
        go_wp2_with (first | (go_at_call 15; refine (around_any _ 30 _ hbd.1 hbd.2 (by omega) (by omega)).mono ?_; rintro e w2 ⟨rfl, rfl⟩) | (at_builtin; refine wpl_append1 rfl (.tmp 28) (.tmp 31) 22 rfl 3 Try.underlying22 int_info3 w.heap.size _ _ rfl (hown.alloc _) ⟨wr.heap.size, 0, none⟩ 1 (around (ix ys k) 30) (k + 1) hln2.out rfl (int_one _ _) hln (by simp; omega) ?_; intro A3 c3 w1 hown' hb'))
        go_roundw
        case rel => exact ⟨k + 1, by omega, by go_num, ⟨A3, c3, rfl, by rw [HS.out]; exact hown'.out⟩, (hb.alloc hb.size _).trans hb'⟩
        case measure => simp [intOf]; omega
      · have HS := Lib.hid (fillUp_no (l := ys) (k := k) 30 (by rw [HL.out]; exact hkn))
        go_wp2_with (first | (go_at_call 15; refine (around_any _ 30 _ (by omega) (by omega) (by omega) (by omega)).mono ?_; rintro e w2 ⟨rfl, rfl⟩) | (at_builtin; refine wpl_append1 rfl (.tmp 28) (.tmp 31) 22 rfl 3 Try.underlying22 int_info3 w.heap.size _ _ rfl (hown.alloc _) ⟨wr.heap.size, 0, none⟩ 1 (around (k : Int) 30) (k + 1) hln2.out rfl (int_one _ _) hln (by simp; omega) ?_; intro A3 c3 w1 hown' hb'))
        go_roundw
        case rel => exact ⟨k + 1, by omega, by go_num, ⟨A3, c3, rfl, by rw [HS.out]; exact hown'.out⟩, (hb.alloc hb.size _).trans hb'⟩
        case measure => simp [intOf]; omega
    · obtain rfl : k = 15 := by omega
      obtain ⟨ts, hts⟩ : ∃ ts, ts = fillUp ys 30 15 := ⟨_, rfl⟩
      rw [← hts] at hown
      have htl : ts.length = 15 := by rw [hts]; exact fillUp_length _ _ _
      have htb : ∀ x ∈ ts, 0 ≤ x ∧ x < 30 := by rw [hts]; exact fillUp_bd ys (by omega) 15
      obtain ⟨rn, rfl⟩ : ∃ rn : Nat, r = (rn : Int) := ⟨r.toNat, by omega⟩
      obtain ⟨l1, hl1⟩ : ∃ l, l = inserted ts rn (30 + r1) := ⟨_, rfl⟩
      obtain ⟨l2, hl2⟩ : ∃ l, l = inserted ts rn (30 + r2) := ⟨_, rfl⟩
      have hp1 : l1.Perm ((30 + r1) :: ts) := by rw [hl1]; exact inserted_perm _ _ _
      have hp2 : l2.Perm ((30 + r2) :: ts) := by rw [hl2]; exact inserted_perm _ _ _
      have hn1 : l1.length = 16 := by rw [hp1.length_eq, List.length_cons, htl]
      have hn2 : l2.length = 16 := by rw [hp2.length_eq, List.length_cons, htl]
      have hq0 : Q (kept l1) 900 = Q (kept l2) 900 := by
        rw [kept_16 hn1, kept_16 hn2, Q_perm (hp1.map clampd), Q_perm (hp2.map clampd), List.map_cons, List.map_cons]
        refine spike_Q (fun z hz => ?_) (by simp [htl]) ?_ ?_
        · obtain ⟨y, hy, rfl⟩ := List.mem_map.1 hz
          have := htb y hy
          rw [clampd_eq]; omega
        · rw [clampd_eq]; omega
        · rw [clampd_eq]; omega
      have hb1 : ∀ x ∈ l1, -9223372036854775808 ≤ x ∧ x ≤ 9223372036854775807 := by
        intro x hx
        rcases List.mem_cons.1 (hp1.mem_iff.1 hx) with h | h
        · omega
        · have := htb x h; omega
      have hb2 : ∀ x ∈ l2, -9223372036854775808 ≤ x ∧ x ≤ 9223372036854775807 := by
        intro x hx
        rcases List.mem_cons.1 (hp2.mem_iff.1 hx) with h | h
        · omega
        · have := htb x h; omega
      obtain ⟨q, hq⟩ : ∃ q, (Est.run l1).quantile 900 = q := ⟨_, rfl⟩
      have hq2 : (Est.run l2).quantile 900 = q := by rw [← hq, Est.quantile_eq, Est.quantile_eq, hq0]
      have hd1 : (Est.run l1).delay = min 8 q := by unfold Est.delay; rw [hq]
      have hd2 : (Est.run l2).delay = min 8 q := by unfold Est.delay; rw [hq2]
      have hcap := hown.cap
      have HL1 := Lib.hid hl1
      have HL2 := Lib.hid hl2
      have HN1 := Lib.hid hn1
      have HN2 := Lib.hid hn2
      have HB1 := Lib.hid hb1
      have HB2 := Lib.hid hb2
      have HQ := Lib.hid hq
      have HQ2 := Lib.hid hq2
      have HD1 := Lib.hid hd1
      have HD2 := Lib.hid hd2
      have HTL := Lib.hid htl
      clear hts htl htb hl1 hl2 hp1 hp2 hn1 hn2 hq0 hb1 hb2 hq hq2 hd1 hd2
      go_wp2_with fail
      refine (around_s at_ 16 rn HR.out _ ha1 ha2 (by omega) (by omega)).mono ?_
      rintro e w1' ⟨rfl, rfl⟩
      go_wp2_with fail
      refine (around_s one 40 r1 HR1.out _ ho1 ho2 (by omega) (by omega)).mono ?_
      rintro e w1' ⟨rfl, rfl⟩
      go_wp2_with fail
      refine (insert_s A2 15 c2 rn ts l1 (30 + r1) HL1.out _ _ HTL.out (by omega) (by omega) hcap.1 hcap.2 (by omega) hown.rd (Nat.le_refl _)).mono ?_
      rintro e w2 ⟨A4, c4, rfl, hown4, hb4⟩
      go_wp2_with fail
      refine (filled_ex A4 16 c4 l1 HN1.out _ hown4.rd HB1.out (by omega)).mono ?_
      rintro e w3 ⟨g, rfl, hg, he3, hb5⟩
      have hbw3 : Below wr.heap.size wr w3 := chain hb4 hb5
      go_wp2_with fail
      refine (around_s two 40 r2 HR2.out _ ht1 ht2 (by omega) (by omega)).mono ?_
      rintro e w1' ⟨rfl, rfl⟩
      go_wp2_with fail
      refine (insert_s A2 15 c2 rn ts l2 (30 + r2) HL2.out _ _ HTL.out (by omega) (by omega) hcap.1 hcap.2 (by omega) (hown.rd.below hbw3 (Nat.le_refl _)) hbw3.size).mono ?_
      rintro e w4 ⟨A5, c5, rfl, hown5, hb6⟩
      have he4 := he3.below hb6 he3.1.lt
      go_wp2_with fail
      refine (filled_ex A5 16 c5 l2 HN2.out _ hown5.rd HB2.out (by omega)).mono ?_
      rintro e w5 ⟨g2, rfl, hg2, he5, hb7⟩
      have he5' := he4.below hb7 he4.1.lt
      go_wp2_with fail
      refine (delay_at _ _ (min 8 q) HD1.out _ he5').mono ?_
      rintro e w6 ⟨rfl, he6', hb8⟩
      have he6 := he5.below hb8 he5.1.lt
      go_wp2_with fail
      refine (delay_at _ _ (min 8 q) HD2.out _ he6).mono ?_
      rintro e w7 ⟨rfl, he7, hb9⟩
      have he7' := he6'.below hb9 he6'.1.lt
      go_wp2_with fail
      refine (quantile_at _ _ 900 q HQ.out _ he7' (by omega) (by omega)).mono ?_
      rintro e w8 ⟨rfl, he8', hb10⟩
      have he8 := he7.below hb10 he7.1.lt
      go_wp2_with fail
      refine (quantile_at _ _ 900 q HQ2.out _ he8 (by omega) (by omega)).mono ?_
      rintro e w9 ⟨rfl, he9, hb11⟩
      go_wp2_with fail
      refine (lives_any _).mono ?_
      rintro e w10 ⟨rfl, hb12⟩
      go_wp2_with fail
      go_ret
      exact ⟨rfl, chain (chain (chain (chain (chain (chain (chain (chain (hb.trans (hbw3.mono hb.size)) hb6) hb7) hb8) hb9) hb10) hb11) hb12) (Below.refl _ _)⟩

end Go.Proofs.Ytmicmibffceiaaa
