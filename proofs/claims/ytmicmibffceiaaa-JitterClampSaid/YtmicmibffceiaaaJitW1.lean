/-
  Package jitter, each method called: what it computes (XJitDef's functions) and what becomes of memory.
-/
import Derived.Test.YtmicmibffceiaaaJitDef
import Derived.Test.YtmicmibffceiaaaShelf
import Derived.BigRegion
import Derived.Sort.OwnSortedInts
import Derived.Laws.CopyOwn
import Derived.Deep.RegionHeld3
namespace Go.Proofs.Ytmicmibffceiaaa
set_option linter.unusedVariables false
set_option linter.unusedSimpArgs false
open Go.RowKit

def ecells (s : Est) : Array Value := (s.ring.map (Value.int .i64) ++ [Value.int .i64 (s.count : Int)]).toArray
/-- The estimator s lies in block g. -/
def IsEst (w : World) (g : Nat) (s : Est) : Prop := Blk w g 44 (ecells s) ∧ s.ok ∧ s.count ≤ 100000
theorem IsEst.below {w w' : World} {g : Nat} {s : Est} {B : Nat} (h : IsEst w g s) (hb : Below B w w') (hg : g < B) : IsEst w' g s := ⟨h.1.below hb hg, h.2⟩
theorem IsEst.count_cell {w : World} {g : Nat} {s : Est} (h : IsEst w g s) : w.cell? ⟨g, 16, none⟩ = some (.int .i64 (s.count : Int)) := by
  rw [h.1.cell]; simp [ecells, h.2.1.1]
theorem IsEst.ring_cell {w : World} {g : Nat} {s : Est} (h : IsEst w g s) {j : Nat} (hj : j < 16) : w.cell? ⟨g, j, none⟩ = some (.int .i64 (ix s.ring j)) := by
  have hl := h.2.1.1
  rw [h.1.cell]
  have : j < (s.ring.map (Value.int .i64)).length := by simp [hl]; omega
  simp only [ecells, List.getElem?_toArray]
  rw [List.getElem?_append_left this, List.getElem?_eq_getElem this, List.getElem_map, ix_get (by omega)]

theorem new_any (w : World) : Calls Try.prog 11 #[] w fun e w' => e = .returned (.pointer (some ⟨w.heap.size, 0, none⟩)) ∧ IsEst w' w.heap.size Est.new ∧ Below w.heap.size w w' := by
  go_enter Try.func11, Try.ntmps11
  go_wp2
  go_ret
  exact ⟨rfl, ⟨Blk.new w 44 _, Est.new_ok, by decide⟩, (Below.refl _ _).alloc (Nat.le_refl _) _⟩

theorem add_end {w : World} {g : Nat} {s : Est} (h : IsEst w g s) (hc : s.count < 100000) (x y : Int) (hy : y = clampd x) {B : Nat} (hB : B ≤ g) :
    IsEst ((w.setCell ⟨g, s.count % 16, none⟩ (.int .i64 y)).setCell ⟨g, 16, none⟩ (.int .i64 ((s.count : Int) + 1))).drew g (s.add x) ∧
    Below B w ((w.setCell ⟨g, s.count % 16, none⟩ (.int .i64 y)).setCell ⟨g, 16, none⟩ (.int .i64 ((s.count : Int) + 1))).drew := by
  subst hy
  refine ⟨⟨?_, Est.add_ok h.2.1 x, by show s.count + 1 ≤ _; omega⟩, (((Below.refl _ _).setCell hB _).setCell hB _).drew⟩
  have h1 := ((h.1.set_ (s.count % 16) (.int .i64 (clampd x))).set_ 16 (.int .i64 ((s.count : Int) + 1))).drew
  have hl := h.2.1.1
  have e : ((ecells s).setIfInBounds (s.count % 16) (.int .i64 (clampd x))).setIfInBounds 16 (.int .i64 ((s.count : Int) + 1)) = ecells (s.add x) := by
    apply Array.ext'
    simp only [ecells, Est.add, Array.toList_setIfInBounds]
    rw [List.set_append_left _ _ (by simp [hl]; omega), List.set_append_right _ _ (by simp [hl])]
    simp [List.map_set, hl]
  rw [e] at h1
  exact h1

set_option maxHeartbeats 400000 in
theorem add_any (g : Nat) (s : Est) (x : Int) (B : Nat) (w : World) (h : IsEst w g s) (hc : s.count < 100000) (h1 : -9223372036854775808 ≤ x) (h2 : x ≤ 9223372036854775807) (hB : B ≤ g) :
    Calls Try.prog 16 #[.pointer (some ⟨g, 0, none⟩), .int .i64 x] w fun e w' => e = .returned (.tuple #[]) ∧ IsEst w' g (s.add x) ∧ Below B w w' := by
  have c16 := h.count_cell
  have f16 : w.frozen? ⟨g, 16, none⟩ = false := h.1.frozen _
  have fr : w.frozen? ⟨g, s.count % 16, none⟩ = false := h.1.frozen _
  have cr := h.ring_cell (j := s.count % 16) (by omega)
  have e1 : (s.count : Int).tmod 16 = ((s.count % 16 : Nat) : Int) := by rw [Int.tmod_eq_emod_of_nonneg (by omega)]; omega
  have e2 : ((s.count % 16 : Nat) : Int) < 16 := by omega
  have H := Lib.hid h
  clear h
  go_enter Try.func16, Try.ntmps16
  go_wp2
  go_region
  all_goals go_wp2
  all_goals go_end0
  all_goals exact ⟨rfl, add_end H.out hc x _ (by rw [clampd_eq]; omega) hB⟩

/-- slices.Sort at the first n cells of a block of the call's own. -/
theorem sort_own (W0 : World) (g n : Nat) (cur : Array Value) (zs : List Int) (hn : zs.length = n) (h16 : n < 1000000) (w : World) (hg : W0.heap.size ≤ g) (hb : Below W0.heap.size W0 w)
    (hh : w.heap[g]? = some (.cells cur 3 (0, 0))) (hs : cur.size = n) (hc : cur.toList = zs.map (Value.int .i64)) :
    Calls Try.prog 26 #[.slice (some ⟨g, 0, none⟩) n n] w fun e w' => e = .returned (.tuple #[]) ∧ Hid (Own 3 w' W0.heap.size (.slice (some ⟨g, 0, none⟩) n n) (zs.mergeSort fun x y => decide (x ≤ y))) ∧ Below W0.heap.size W0 w' := by
  subst hn
  have ht : cur.toList.take zs.length = zs.map (Value.int .i64) := by rw [List.take_of_length_le (by simp [hs])]; exact hc
  have hH := holds_of_blockI hh ht
  refine (Try.slices_Sort_int g 0 zs.length zs w hH (Array.getElem?_eq_some_iff.1 hh).1 (by omega)).mono ?_
  rintro e w' ⟨rfl, m, os, rfl⟩
  refine ⟨rfl, ?_, hb.grown (grownBy_sortedI _) hb.size (fun k hk => by injection hk with hk; omega)⟩
  show Own _ _ _ _ _
  have hl : (zs.mergeSort fun x y => decide (x ≤ y)).length = zs.length := List.length_mergeSort _
  have := ownsRow_sortedI (n := m) (os := os) (ts := zs.mergeSort fun x y => decide (x ≤ y)) hl hg hh (Nat.le_refl _) (by simp [maxLen]; omega) (by omega)
  unfold Own
  rw [hl]
  exact this

theorem int_info : (Try.prog.info? 3).map (fun i => (i.zero, i.size, i.bytes)) = some (some (.int .i64 0), 1, 8) := by kernel_rfl
theorem int_size : (Try.prog.info? 3).map (·.size) = some 1 := by kernel_rfl
theorem run_make_ints (n : Nat) (hn : n < 1000000) (W : World) :
    (Instr.makeSlice 22 (.int .i64 (n : Int)) (.int .i64 (n : Int))).run Try.prog W = .ok (.slice (some ⟨W.heap.size, 0, none⟩) n n) (W.alloc (.cells (madeCells #[.int .i64 0] n) 3)) := by
  obtain ⟨i0, hi0, hz0, hz1, hz2⟩ := info_parts int_info
  have hr := run_make (P := Try.prog) W 22 3 i0 (.int .i64 0) Try.underlying22 hi0 hz0 .i64 .i64 (n : Int) (n : Int) (by omega) (by omega) (by rw [hz2]; omega) (by omega)
  simp only [Int.toNat_natCast, hz1, Nat.mul_one] at hr
  exact hr

theorem splice_all {cur cs : List Value} (h : cur.length = cs.length) : splice cur 0 cs = cs := by
  simp [splice, h]

set_option maxHeartbeats 400000 in
theorem sorted_any (g : Nat) (s : Est) (w : World) (h : IsEst w g s) :
    Calls Try.prog 25 #[.pointer (some ⟨g, 0, none⟩)] w fun e w' => ∃ v, e = .returned v ∧ Own 3 w' w.heap.size v s.sorted ∧ Below w.heap.size w w' := by
  have c16 := h.count_cell
  obtain ⟨n, hn⟩ : ∃ n, n = min s.count 16 := ⟨_, rfl⟩
  have hmk : ∀ W : World, (Instr.makeSlice 22 (.int .i64 (min (s.count : Int) 16)) (.int .i64 (min (s.count : Int) 16))).run Try.prog W = .ok (.slice (some ⟨W.heap.size, 0, none⟩) n n) (W.alloc (.cells (madeCells #[.int .i64 0] n) 3)) := by
    intro W
    rw [show min (s.count : Int) 16 = (n : Int) from by omega]
    exact run_make_ints n (by omega) W
  have hlt := h.1.lt
  have ho := h.2.1.1
  have hcr : ∀ j, j < 16 → w.cell? ⟨g, j, none⟩ = some (.int .i64 (ix s.ring j)) := fun j hj => h.ring_cell hj
  have hs : s.sorted = (s.ring.take n).mergeSort fun x y => decide (x ≤ y) := by rw [hn]; rfl
  obtain ⟨cs, hcs⟩ : ∃ cs, cs = (s.ring.take n).map (Value.int .i64) := ⟨_, rfl⟩
  have hcl : cs.length = n := by rw [hcs]; simp [ho]; omega
  have hc3 : ∀ j v, cs[j]? = some v → (w.alloc (.cells (madeCells #[Value.int .i64 0] n) 3)).cell? (Addr.add ⟨g, 0, none⟩ j) = some v := by
    intro j v hj
    have hj' : j < n := by have := (List.getElem?_eq_some_iff.1 hj).1; omega
    rw [show (Addr.add ⟨g, 0, none⟩ j) = ⟨g, j, none⟩ from by unfold Addr.add; split <;> simp_all]
    rw [World.cell?_alloc_lt w _ _ (by exact hlt), hcr j (by omega)]
    rw [hcs, List.getElem?_map, List.getElem?_take_of_lt hj', List.getElem?_eq_getElem (by omega)] at hj
    rw [ix_get (by omega)]
    simpa using hj
  have hc5 : ∀ u ∈ cs, u.oneCell' = true := by intro u hu; rw [hcs] at hu; obtain ⟨y, _, rfl⟩ := List.mem_map.1 hu; rfl
  have hzl : (s.ring.take n).length = n := by rw [List.length_take, ho]; omega
  have hsp : (splice (madeCells #[Value.int .i64 0] n).toList 0 cs).toArray.toList = (s.ring.take n).map (Value.int .i64) := by
    rw [splice_all (by simp [madeCells, hcl]), hcs]
  have hss : (splice (madeCells #[Value.int .i64 0] n).toList 0 cs).toArray.size = n := by
    rw [splice_all (by simp [madeCells, hcl])]; simp [hcl]
  have hml : (madeCells #[Value.int .i64 0] n).toList.length = n := by simp [madeCells]
  have hnm : Nat.min 16 n = n := Nat.min_eq_right (by omega)
  have HS := Lib.hid hs
  have HN : n ≤ 16 := by omega
  have HCL := Lib.hid hcl
  have H3 := Lib.hid hc3
  have H5 := Lib.hid hc5
  have HZ := Lib.hid hzl
  have HSP := Lib.hid hsp
  have HSS := Lib.hid hss
  have HML := Lib.hid hml
  have HM := Lib.hid hnm
  clear h hs hn hcr ho hcs hcl hc3 hc5 hzl hsp hss hml hnm
  have H1 : Hid ((w.alloc (.cells (madeCells #[Value.int .i64 0] n) 3)).heap[w.heap.size]? = some (.cells (madeCells #[Value.int .i64 0] n).toList.toArray 3 (0, 0))) := heap_alloc_new w _
  have H6 : Below w.heap.size w (w.alloc (.cells (madeCells #[Value.int .i64 0] n) 3)) := (Below.refl _ _).alloc (Nat.le_refl _) _
  have H4 : Hid (0 + cs.length ≤ (madeCells #[Value.int .i64 0] n).toList.length) := by show _ ≤ _; rw [HCL.out, HML.out]; omega
  go_enter Try.func25, Try.ntmps25
  go_wp2_with (with_reducible refine wpList_copy_splice rfl (.tmp 10) (.tmp 14) 22 22 rfl 3 Try.underlying22 int_size _ _ n n 16 16 rfl rfl w.heap.size 0 (madeCells #[Value.int .i64 0] n).toList 3 H1.out cs (HCL.out.trans HM.out.symm) (fun _ => ⟨rfl, _, rfl, H3.out⟩) H4.out H5.out w.heap.size w H6 (Nat.le_refl _) ?_)
  intro w1 hc1 hb1
  go_wp2_with (go_at_call 26; refine (sort_own w w.heap.size n _ (s.ring.take n) HZ.out (by omega) w1 (Nat.le_refl _) hb1 hc1.out HSS.out HSP.out).mono ?_; rintro e w2 ⟨rfl, hown, hb2⟩)
  go_ret
  refine ⟨_, rfl, ?_, hb2⟩
  rw [HS.out]
  exact hown.out

theorem sorted_rd (g : Nat) (s : Est) (zs : List Int) (hz : zs = s.sorted) (w : World) (h : IsEst w g s) :
    Calls Try.prog 25 #[.pointer (some ⟨g, 0, none⟩)] w fun e w' => ∃ A c, e = .returned (.slice A zs.length c) ∧ zs.length ≤ c ∧ c ≤ maxLen ∧ Rd w' w'.heap.size A zs ∧ Below w.heap.size w w' := by
  subst hz
  refine (sorted_any g s w h).mono ?_
  rintro e w' ⟨v, rfl, hown, hb⟩
  obtain ⟨A, c, rfl, h1, h2, h3⟩ := hown.form
  exact ⟨A, c, rfl, h1, h2, h3, hb⟩

set_option maxHeartbeats 400000 in
theorem quantile_any (g : Nat) (s : Est) (p : Int) (w : World) (h : IsEst w g s) (h1 : -9223372036854775808 ≤ p) (h2 : p ≤ 9223372036854775807) :
    Calls Try.prog 12 #[.pointer (some ⟨g, 0, none⟩), .int .i64 p] w fun e w' => e = .returned (.int .i64 (s.quantile p)) ∧ Below w.heap.size w w' := by
  obtain ⟨zs, hz⟩ : ∃ zs, zs = s.sorted := ⟨_, rfl⟩
  have hl := Est.sorted_length h.2.1
  have hq : s.quantile p = if zs.length = 0 then 0 else ix zs (rankOf p zs.length) := by rw [hz]; rfl
  rw [← hz] at hl
  by_cases h0 : zs.length = 0
  · have HQ := Lib.hid (hq.trans (if_pos h0))
    have ht : ((zs.length : Int) == 0) = true := by simp [h0]
    have HZ := Lib.hid hz
    clear hl hq h0 hz
    go_enter Try.func12, Try.ntmps12
    go_wp2_with (go_at_call 25; refine (sorted_rd g s zs HZ.out _ h).mono ?_; rintro e w1 ⟨A, c, rfl, hc1, hc2, hrd, hb⟩)
    go_ret
    exact ⟨ret_int HQ.out.symm, hb⟩
  · have HQ := Lib.hid (hq.trans (if_neg h0))
    have ht : ((zs.length : Int) == 0) = false := beq_eq_false_iff_ne.2 (by omega)
    have hn : 0 < zs.length := by omega
    have hn16 : zs.length ≤ 16 := by omega
    have hm0 : 0 ≤ min (max p 0) 1000 ∧ min (max p 0) 1000 ≤ 1000 := by omega
    have hm1 : 0 ≤ min (max p 0) 1000 * (zs.length : Int) := Int.mul_nonneg hm0.1 (by omega)
    have hm2 : min (max p 0) 1000 * (zs.length : Int) ≤ 1000 * (zs.length : Int) := Int.mul_le_mul_of_nonneg_right hm0.2 (by omega)
    clear hm0
    have HZ := Lib.hid hz
    clear hl hq h0 hz
    go_enter Try.func12, Try.ntmps12
    go_wp2_with fail
    refine (sorted_rd g s zs HZ.out _ h).mono ?_
    rintro e w1 ⟨A, c, rfl, hc1, hc2, hrd, hb⟩
    obtain ⟨b, off, rfl, hbb, hcell⟩ := hrd hn
    have HC := Lib.hid hcell
    have hc := hcell (rankOf p zs.length) (rankOf_lt p hn)
    clear hcell
    unfold rankOf at hc
    go_wp2
    go_ret
    exact ⟨ret_int HQ.out.symm, hb⟩

set_option maxHeartbeats 400000 in
theorem delay_any (g : Nat) (s : Est) (w : World) (h : IsEst w g s) :
    Calls Try.prog 13 #[.pointer (some ⟨g, 0, none⟩)] w fun e w' => e = .returned (.int .i64 s.delay) ∧ Below w.heap.size w w' := by
  have hb := Est.quantile_bd h.2.1 900
  go_enter Try.func13, Try.ntmps13
  go_wp2_with (go_at_call 12; refine (quantile_any g s 900 _ h (by omega) (by omega)).mono ?_; rintro e w1 ⟨rfl, hb⟩)
  all_goals go_ret
  all_goals exact ⟨ret_int (by unfold Est.delay; omega), by assumption⟩

def WinS (w W : World) (g : Nat) (s : Est) : Prop := IsEst W g s ∧ Below w.heap.size w W
theorem WinS.step {w W W' : World} {g : Nat} {s : Est} (h : WinS w W g s) (hb : Below W.heap.size W W') : W'.cell? ⟨g, 16, none⟩ = some (.int .i64 (s.count : Int)) ∧ WinS w W' g s :=
  ⟨(h.1.below hb h.1.1.lt).count_cell, h.1.below hb h.1.1.lt, h.2.trans (hb.mono h.2.size)⟩

set_option maxHeartbeats 400000 in
theorem window_any (g : Nat) (s : Est) (w : World) (h : IsEst w g s) :
    Calls Try.prog 14 #[.pointer (some ⟨g, 0, none⟩)] w fun e w' => e = .returned (.int .i64 s.window) ∧ Below w.heap.size w w' := by
  have hq := Est.quantile_bd h.2.1 1000
  have c16 := h.count_cell
  have hS0 : w.cell? ⟨g, 16, none⟩ = some (.int .i64 (s.count : Int)) ∧ WinS w w g s := ⟨c16, h, Below.refl _ _⟩
  have hlt := h.1.lt
  have hcb := h.2.2
  go_enter Try.func14, Try.ntmps14
  go_wp2
  go_region_held3 (fun W => W.cell? ⟨g, 16, none⟩ = some (.int .i64 (s.count : Int)) ∧ WinS w W g s) (first | exact hS0 | exact ⟨hS0.1, h, (Below.refl _ _).drew⟩ | assumption) (first | (go_at_call 12; rename (_ ∧ WinS w _ g s) => hSS; refine (quantile_any g s 1000 _ hSS.2.1 (by omega) (by omega)).mono ?_; rintro e w1 ⟨rfl, hb⟩; have hS1 := hSS.2.step hb))
  go_wp2
  all_goals
    rename (_ ∧ WinS w _ g s) => hE
    go_ret
    exact ⟨ret_int (by rw [IntWalk.i64_in _ (by omega)]; rfl), hE.2.2⟩

end Go.Proofs.Ytmicmibffceiaaa
