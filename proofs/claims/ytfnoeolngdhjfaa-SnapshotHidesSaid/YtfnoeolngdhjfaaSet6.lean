/-
  Package arenanetref28: State.
-/
import Derived.Test.YtfnoeolngdhjfaaSet5
namespace Go.Proofs.Ytfnoeolngdhjfaa
set_option linter.unusedVariables false
set_option linter.unusedSimpArgs false
set_option maxRecDepth 4000
open Go.RowKit

/-- Values of a state stay in their range: positions small, all others 31 bits. -/
def OkC (p : Nat) (zs : List Int) : Prop := ∀ j, j < zs.length → (-2147483647 ≤ ix zs j ∧ ix zs j ≤ 2147483647) ∧ (48 + 4 * p ≤ j → (j - (48 + 4 * p)) % 8 < 2 → -1048576 ≤ ix zs j ∧ ix zs j ≤ 1048576)
theorem OkC.set_ {p : Nat} {zs : List Int} (h : OkC p zs) (k : Nat) (v : Int) (hk : k < zs.length) (h1 : -1048576 ≤ v ∧ v ≤ 1048576) : OkC p (zs.set k v) := by
  intro j hj
  rw [List.length_set] at hj
  rw [ix_set hk]
  split
  · exact ⟨by omega, fun _ _ => h1⟩
  · exact h j hj
theorem OkC.set2 {p : Nat} {zs : List Int} (h : OkC p zs) (k : Nat) (v : Int) (hk : k < zs.length) (h1 : -2147483647 ≤ v ∧ v ≤ 2147483647) (h2 : 48 + 4 * p ≤ k → (k - (48 + 4 * p)) % 8 < 2 → -1048576 ≤ v ∧ v ≤ 1048576) : OkC p (zs.set k v) := by
  intro j hj
  rw [List.length_set] at hj
  rw [ix_set hk]
  split
  · subst_vars; exact ⟨h1, h2⟩
  · exact h j hj
/-- A body's numbers are small. -/
def BdOk (b : Bd) : Prop := (-1000000 ≤ b.px ∧ b.px ≤ 1000000) ∧ (-1000000 ≤ b.py ∧ b.py ≤ 1000000) ∧ (-16384 ≤ b.vx ∧ b.vx ≤ 16384) ∧ (-16384 ≤ b.vy ∧ b.vy ≤ 16384) ∧ (-1000000 ≤ b.a ∧ b.a ≤ 1000000) ∧ (-1000000 ≤ b.b ∧ b.b ≤ 1000000)
theorem bodyOf_ok {n m : Int} (hn : 0 ≤ n ∧ n < 1000000) (hm : 0 ≤ m ∧ m < 1000000) : BdOk (bodyOf n m) := by
  unfold BdOk bodyOf
  simp only []
  omega
theorem bodiesOf_ok (l : List Int) (n : Nat) : ∀ b ∈ bodiesOf l n, BdOk b := by
  intro b hb
  obtain ⟨i, _, rfl⟩ := List.mem_map.1 hb
  exact bodyOf_ok (kAt_bd _ _) (kAt_bd _ _)
theorem bd0_ok : BdOk bd0 := by unfold BdOk bd0; simp only []; omega
theorem bdCell_ok {b : Bd} (h : BdOk b) (j : Nat) : -1000000 ≤ bdCell b j ∧ bdCell b j ≤ 1000000 := by
  obtain ⟨h1, h2, h3, h4, h5, h6⟩ := h
  unfold bdCell
  split <;> omega
theorem initC_ok {s : Su} (h : ∀ b ∈ s.bodies, BdOk b) : OkC s.players (initC s) := by
  intro j hj
  rw [initC_len] at hj
  rw [initC_ix hj]
  have : -1000000 ≤ initAt s.players s.bodies s.bodies.length j ∧ initAt s.players s.bodies s.bodies.length j ≤ 1000000 := by
    unfold initAt
    split
    · refine bdCell_ok ?_ _
      rw [List.getD]
      cases hg : s.bodies[(j - (48 + 4 * s.players)) / 8]? with
      | none => exact bd0_ok
      | some b => exact h b (List.mem_of_getElem? hg)
    · omega
  exact ⟨by omega, fun _ _ => by omega⟩
theorem Own.lit0 (w : World) : Own 3 (w.alloc (.cells #[] 3)) w.heap.size (.slice (some ⟨w.heap.size, 0, none⟩) 0 0) [] := by
  exact ⟨rfl, .inr ⟨w.heap.size, 0, #[], rfl, Nat.le_refl _, Blk.new w 3 #[], by simp, by simp [maxLen], rfl, rfl⟩⟩

theorem RdBs.below {w w' : World} {B B' : Nat} {A : Option Addr} {bs : List Bd} (h : RdBs w B A bs) (hb : Below B' w w') (hB : B ≤ B') : RdBs w' B A bs := h.keep fun p hp => hb.cell (Nat.lt_of_lt_of_le hp hB)
/-- What State hands back. -/
def StPost (s : Su) (N : Nat) (w : World) (e : Ending) (w' : World) : Prop :=
  ∃ A c zs, e = .returned (.slice A N c) ∧ zs.length = N ∧ Own 3 w' w.heap.size (.slice A N c) zs ∧ OkC s.players zs ∧ Below w.heap.size w w'
set_option maxHeartbeats 2000000 in
theorem state_any (cs : Array Value) (s : Su) (m : SuM) (B N : Nat) (A : Option Addr) (n c : Nat) (l : List Int) (w : World) (hsu : SuV w B cs s m) (hp8 : s.players ≤ 100) (hn8 : m.nb ≤ 100) (hn0 : 0 < m.nb) (hB : B ≤ w.heap.size) (hN : szOf s = N)
    (hok : ∀ b ∈ s.bodies, BdOk b) (hl : l.length = n) (hr : Rd w w.heap.size A l) (hx : ∀ x ∈ l, -9223372036854775808 ≤ x ∧ x ≤ 9223372036854775807) (hn : n ≤ maxLen) :
    Calls Try.prog 21 #[.agg cs, .slice A n c] w (StPost s N w) := by
  unfold maxLen at hn
  have hN' : 48 + 4 * s.players + 8 * m.nb = N := by rw [← hN]; unfold szOf; rw [hsu.nb]
  have HN := Lib.hid hN
  have HN' := Lib.hid hN'
  have HCS := Lib.hid hsu.eq
  have HSU := Lib.hid hsu
  have HX := Lib.hid hx
  have HL := Lib.hid hl
  have HR := Lib.hid hr
  have HOK := Lib.hid (initC_ok hok)
  have HLEN : Hid ((initC s).length = N) := by show _ = _; rw [initC_len, hN]
  have HBS := Lib.hid ((Blk.new w 49 cs).alloc (.cells #[] 3))
  have hN1 : 0 < N ∧ N < 1300 := by omega
  have HB0 : Hid (Below w.heap.size w ((w.alloc (.cells cs 49)).alloc (.cells #[] 3))) := ((Below.refl _ _).alloc (Nat.le_refl _) _).alloc (by simp) _
  clear hN hsu hx hl hr hok hN'
  go_enter Try.func21, Try.ntmps21
  go_wp2_with (refine wpList_load_row rfl 49 _ rfl _ rfl 49 cs (0, 0) _ HBS.out Try.underlying49 rfl (su_info' HCS.out) ?_)
  refine (rinit_any cs s m B N _ HCS.out hp8 HSU.out.nb hn8 (HSU.out.bodies.below (HB0.out.mono hB) (Nat.le_refl _)) (Nat.le_trans hB HB0.out.size) HN.out).mono ?_
  rintro e w1 ⟨g1, rfl, hg1, hcells, hb1⟩
  have HC := Lib.hid hcells
  have HG1 := Lib.hid hg1
  have HB1 := Lib.hid hb1
  have HOW := Lib.hid (((Own.lit0 (w.alloc (.cells cs 49))).below hb1))
  clear hcells hg1 hb1
  have HBS1 := Lib.hid (HBS.out.below HB1.out (by simp; omega))
  have hlo := HOW.out.lower (B' := w.heap.size + 1) (by simp)
  have hrd : Rd w1 w1.heap.size (some ⟨g1, 0, none⟩) (initC s) := HC.out.rdI
  have HB1' := Lib.hid (HB0.out.trans (HB1.out.mono HB0.out.size))
  rw [World.size_alloc] at hlo
  have hz1 : w.heap.size + 1 ≤ w1.heap.size := by have := HBS1.out.lt; omega
  have HLO := Lib.hid hlo
  have HRD := Lib.hid hrd
  clear hlo hrd
  go_wp2_with (first
    | (at_builtin; refine wpl_appends rfl (.tmp 11) (.tmp 13) 22 rfl 3 Try.underlying22 int_info3 (w.heap.size + 1) _ [] (initC s) rfl HLO.out (some ⟨g1, 0, none⟩) N N w1.heap.size N (by simp) rfl HLEN.out HRD.out (by simp) (by simp; omega) hz1 ?_; intro A5 c5 w2 ho5 hb5; have HBS2 := Lib.hid (HBS1.out.below hb5 (by omega)); have HB2 := Lib.hid (HB1'.out.trans (hb5.mono (by omega))); rw [List.nil_append] at ho5; clear hb5)
    | (refine wpList_load_row rfl 49 _ rfl _ rfl 49 cs (0, 0) _ HBS2.out Try.underlying49 rfl (su_info' HCS.out) ?_))
  refine (rbody_any cs s m 0 _ HCS.out hp8 hn8 hn0).mono ?_
  rintro e w3 ⟨rfl, hb3⟩
  obtain ⟨f0, hf0⟩ : ∃ f0, f0 = 48 + 4 * s.players := ⟨_, rfl⟩
  rw [show 48 + 4 * s.players + 8 * 0 = f0 by omega]
  have HF0 := Lib.hid hf0
  have hf1 : f0 < 1300 := by omega
  have HO3 := Lib.hid (ho5.out.below hb3)
  have HB3 := Lib.hid (HB2.out.trans (hb3.mono HB2.out.size))
  clear ho5 hb3 hf0
  go_wp2_with fail
  go_loopw [7] (fun i W => ∃ k : Nat, k ≤ 41 ∧ i = .int .i64 (k : Int) ∧ Below w.heap.size w W ∧ Hid (∃ zs : List Int, zs.length = N ∧ Own 3 W (w.heap.size + 1) (.slice A5 N c5) zs ∧ OkC s.players zs)) (fun i _ => 50 - (intOf i).toNat)
  case atStart => exact ⟨0, by omega, rfl, HB3.out, Lib.hid ⟨_, HLEN.out, HO3.out, HOK.out⟩⟩
  case round =>
    obtain ⟨k, hk, rfl, hb, HZ⟩ := hrel
    obtain ⟨zs, hzl, hown, hzok⟩ := HZ.out
    obtain ⟨g, hA, hgB, hgW, hcell, hfroz⟩ := hown.open_ (by omega)
    subst hA
    by_cases hc1 : k + 1 < n
    · by_cases hc2 : k < 40
      · have hkl : k + 1 < l.length := by rw [HL.out]; exact hc1
        obtain ⟨b, off, hA, hbb, hcl⟩ := HR.out (by omega)
        have q0 := (hb.cell (p := ⟨b, off + k, none⟩) hbb).trans (hcl k (by omega))
        have q1 := (hb.cell (p := ⟨b, off + (k + 1), none⟩) hbb).trans (hcl (k + 1) (by omega))
        have x0 := HX.out _ (ix_mem (show k < l.length by omega))
        have x1 := HX.out _ (ix_mem hkl)
        obtain ⟨x, hx⟩ : ∃ x, x = ix l k := ⟨_, rfl⟩
        obtain ⟨y, hy⟩ : ∃ y, y = ix l (k + 1) := ⟨_, rfl⟩
        simp only [] at q0 q1
        rw [← hx] at q0 x0
        rw [← hy] at q1 x1
        have a1 := around_lo (n := x) (m := (N : Int)) (by omega)
        have a2 := around_hi (n := x) (m := (N : Int)) (by omega)
        have b1 := around_lo (n := y) (m := 100000) (by omega)
        have b2 := around_hi (n := y) (m := 100000) (by omega)
        obtain ⟨a, ha⟩ : ∃ a : Nat, around x N = (a : Int) := ⟨(around x N).toNat, by omega⟩
        obtain ⟨v, hv⟩ : ∃ v, around y 100000 = v := ⟨_, rfl⟩
        rw [ha] at a1 a2
        rw [hv] at b1 b2
        have HA := Lib.hid ha
        have HV := Lib.hid hv
        have haN : a < N := by omega
        have z0 := hcell a haN
        have z1 := hfroz a
        obtain ⟨y0, hy0⟩ : ∃ y0, y0 = ix zs a := ⟨_, rfl⟩
        rw [← hy0] at z0
        have HOWN := Lib.hid hown
        have HZOK := Lib.hid hzok
        have HZL := Lib.hid hzl
        subst hA
        clear hcl hx hy ha hv hcell hfroz hown hzok hzl hy0 a1
        have haz : a < zs.length := by rw [HZL.out]; exact haN
        have HAZ := Lib.hid haz
        clear haz
        go_wp2_with (first | (go_at_call 18; refine (around_any _ _ _ (by first | exact x0.1 | exact x1.1) (by first | exact x0.2 | exact x1.2) (by omega) (by omega)).mono ?_; rintro e w4 ⟨rfl, rfl⟩; first | rw [HA.out] | rw [HV.out]))
        all_goals
          go_roundw
          case rel => exact ⟨k + 2, by omega, by go_num, hb.setCell (by show _ ≤ g; omega) _, Lib.hid ⟨_, by rw [List.length_set]; exact HZL.out, HOWN.out.set_ a _, HZOK.out.set_ a _ HAZ.out (by omega)⟩⟩
          case measure => simp [intOf]; omega
      · have hd : decide ((k : Int) < 40) = false := decide_eq_false (by omega)
        have HOWN := Lib.hid hown
        have HZOK := Lib.hid hzok
        have HZL := Lib.hid hzl
        clear hcell hfroz hown hzok hzl hc2
        go_wp2
        go_ret
        exact ⟨_, _, zs, rfl, HZL.out, HOWN.out.lower (Nat.le_succ _), HZOK.out, hb⟩
    · have hd : decide ((k : Int) + 1 < (n : Int)) = false := decide_eq_false (by omega)
      have HOWN := Lib.hid hown
      have HZOK := Lib.hid hzok
      have HZL := Lib.hid hzl
      clear hcell hfroz hown hzok hzl hc1
      go_wp2
      go_ret
      exact ⟨_, _, zs, rfl, HZL.out, HOWN.out.lower (Nat.le_succ _), HZOK.out, hb⟩
end Go.Proofs.Ytfnoeolngdhjfaa
