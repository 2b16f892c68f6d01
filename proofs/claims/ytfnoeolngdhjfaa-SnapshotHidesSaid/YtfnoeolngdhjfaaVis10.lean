/-
  slices.Sorted(slices.Values(s)): the library's iterator over a slice, collected and sorted.
-/
import Derived.Test.YtfnoeolngdhjfaaVis9
import Derived.Test.YtfnoeolngdhjfaaSnR2
import Derived.Test.YtfnoeolngdhjfaaSnW6
import Derived.Maps.OwnIn
import Derived.Sort.OwnSortedInts
namespace Go.Proofs.Ytfnoeolngdhjfaa
set_option linter.unusedVariables false
set_option linter.unusedSimpArgs false
set_option maxRecDepth 4000
open Go.RowKit Go.Maps Go.Sort Go.Shelf

attribute [local go_sem] Oper.semAt_some

theorem values_any (A : Option Addr) (n c : Nat) (w : World) : Calls Try.prog 50 #[.slice A n c] w fun e w' => e = .returned (.func (.func 63) #[] #[.pointer (some ⟨w.heap.size, 0, none⟩)]) ∧ w' = w.alloc (.cells #[.slice A n c] 22) := by
  go_enter Try.func50, Try.ntmps50
  go_wp2
  go_ret
  exact ⟨rfl, rfl⟩
set_option maxHeartbeats 2000000 in
theorem values1_seq (n Bs n₀ : Nat) (A : Option Addr) (m c : Nat) (zs : List Int) (W : World) (hs : W.cell? ⟨Bs, 0, none⟩ = some (.slice A m c)) (hl : zs.length = m) (hr : Rd W n₀ A zs) (hm : m ≤ 1000000) :
    BoxSeq Fence.wide n Try.prog 63 #[.pointer (some ⟨Bs, 0, none⟩)] (fun x : Int => #[.int .i64 x]) (Below n₀) zs (fun _ => False) W := fun l J hJ hY h0 => by
  refine callsIn_of_wp Try.func63 rfl trivial ?_ rfl
  simp only [Try.ntmps63, List.size_toArray, List.length_cons, List.length_nil, Nat.reduceAdd, Nat.reduceSub, Array.replicate_succ, Array.replicate_zero, List.push_toArray, List.append_toArray, List.nil_append, List.cons_append]
  have HY := Lib.hid hY
  have HL := Lib.hid hl
  have HR := Lib.hid hr
  clear hY hl hr
  gi_wp2
  gi_loopw [7] (fun i wr => ∃ k : Nat, k ≤ m ∧ i = .int .i64 (k : Int) ∧ J k wr ∧ Below n₀ W wr) (fun i _ => m - (intOf i).toNat)
  case atStart => exact ⟨0, Nat.zero_le _, rfl, h0, Below.refl _ _⟩
  case round =>
    obtain ⟨k, hk, rfl, hJs, hnx⟩ := hrel
    by_cases hlt : k < m
    · obtain ⟨b, off, rfl, hb, hc⟩ := HR.out (by rw [HL.out]; omega)
      have hkl : k < zs.length := by rw [HL.out]; exact hlt
      have hcx : wr.cell? ⟨b, off + k, none⟩ = some (.int .i64 (ix zs k)) := (hnx.cell (p := ⟨b, off + k, none⟩) hb).trans (hc k hkl)
      obtain ⟨x, hx⟩ : ∃ x, x = ix zs k := ⟨_, rfl⟩
      rw [← hx] at hcx
      obtain ⟨fn, tmps, assign, body, hy, hR⟩ := HY.out k x wr hJs (by rw [List.getElem?_eq_getElem hkl, hx, ix_get hkl])
      clear hc hx
      gi_wp2
      refine ⟨(fun h => by cases h), hR.mono ?_⟩
      rintro e W3 ⟨rfl, hJ3, hk3⟩
      gi_wp2
      go_roundw
      case rel => exact ⟨k + 1, by omega, by simp, hJ3, hnx.trans hk3⟩
      case measure => simp [intOf]; omega
    · obtain rfl : k = m := by omega
      gi_wp2
      go_end0
      exact ⟨⟨_, rfl⟩, by rw [HL.out]; exact hJs⟩
theorem Own.keepRow {T : TypeId} {w w' : World} {B : Nat} {v : Value} {zs : List Int} (h : Own T w B v zs) (hr : ∀ r, v.ownBlock = some r → w'.heap[r]? = w.heap[r]?) : Own T w' B v zs := by
  refine ⟨h.1, ?_⟩
  rcases h.2 with h0 | ⟨g, cap, cur, hv, hg, hh, hx⟩
  · exact .inl h0
  · exact .inr ⟨g, cap, cur, hv, hg, (hr g (by rw [hv]; rfl)).trans hh, hx⟩
theorem Own.rowLt {T : TypeId} {w : World} {B : Nat} {v : Value} {zs : List Int} (h : Own T w B v zs) : ∀ r, v.ownBlock = some r → B ≤ r ∧ r < w.heap.size ∧ ∃ o : Obj, w.heap[r]? = some o ∧ o.isCells = true := by
  intro r hr
  rcases h.2 with ⟨h', _⟩ | ⟨g', cap', cur', h', hb, hh', _⟩
  · rw [h'] at hr; simp [Value.ownBlock] at hr
  · rw [h'] at hr
    have e : g' = r := by simpa [Value.ownBlock] using hr
    subst e
    exact ⟨hb, (Array.getElem?_eq_some_iff.1 hh').1, _, hh', rfl⟩
/-- 'out = append(out, z)' in a fence: no block of another kind turns. -/
theorem wplIn_append1 {F : Fence} {nF : Nat} {w : World} {ops : Array Oper} {rest : List Oper} {o : Oper} {a : Act} {Q : Exit → Act → World → Prop} (hgd : o.guard = none) (s x : Operand)
    (ho : o.op = .call { callee := .builtin .append, args := #[s, x], argTypes := #[22, 22] })
    (B : Nat) (v : Value) (zs : List Int) (hs : a.eval s = v) (hown : Own 3 w B v zs)
    (ad : Addr) (c : Nat) (z : Int) (n' : Nat) (hn' : zs.length + 1 = n') (hx : a.eval x = .slice (some ad) 1 c) (hc : w.cell? ad = some (.int .i64 z))
    (hlen : zs.length < 1000000000) (hB : B ≤ w.heap.size)
    (h : ∀ A' c' w', Hid (Own 3 w' B (.slice A' n' c') (zs ++ [z])) → Below B w w' → KeepsOthers w w' → wpListIn F nF Try.prog ops Q rest (a.put o.dst (.slice A' n' c')) w') : wpListIn F nF Try.prog ops Q (o :: rest) a w := by
  obtain ⟨i0, hi0, hz0, hz1, hz2⟩ := info_parts int_info3
  refine wpListIn_append_own_at w hgd s x 22 ho B 3 i0 (.int .i64 0) 1 8 Try.underlying22 hi0 hz0 hz1 hz2 rfl (by decide) v zs.length (zs.map (Value.int .i64)) hs hown ad 1 c [.int .i64 z] hx rfl ?_ ?_ ?_ ?_ hB ?_
  · intro j u hj
    match j, hj with
    | 0, hj => simp at hj; subst hj; simpa [Addr.add] using hc
  · intro u hu; simp at hu; subst hu; rfl
  · unfold maxLen; omega
  · omega
  · intro v' w' h1 h2 _ _
    have h1' : Own 3 w' B v' (zs ++ [z]) := by
      unfold Own
      rw [List.map_append, List.length_append]
      exact h1
    obtain ⟨A', c', rfl, _⟩ := h1'.form
    rw [List.length_append, List.length_singleton, hn'] at h1' ⊢
    refine h A' c' w' h1' ((Below.refl _ _).grown h2 hB hown.base) ⟨h2.size, fun k ob hk hob => (h2.block k (Array.getElem?_eq_some_iff.1 hk).1 (fun e => ?_)).trans hk⟩
    obtain ⟨_, _, ob', hob', hc'⟩ := hown.rowLt k e.symm
    rw [hk] at hob'; cases hob'; rw [hob] at hc'; cases hc'
/-- Between the rounds: the box holds a slice that owns what has come. -/
def ApI (n₀ : Nat) (w0 : World) (xs : List Int) (W : World) : Prop := ∃ A m c, Blk W n₀ 22 #[.slice A m c] ∧ Own 3 W (n₀ + 1) (.slice A m c) xs ∧ Below n₀ w0 W
theorem ApI.box (n₀ : Nat) (w0 : World) (zs : List Int) : Abox (n₀ + 1) (fun _ => False) (fun (k : Nat) W => ApI n₀ w0 (zs.take k) W) where
  grow := by
    rintro k W W' row ⟨A, m, c, h1, h2, h3⟩ hgr hrow
    have keep : ∀ (j : Nat) (o : Obj), W.heap[j]? = some o → o.isCells = true → W'.heap[j]? = W.heap[j]? := fun j o hj ho => by
      refine hgr.block j (Array.getElem?_eq_some_iff.1 hj).1 (fun e => ?_)
      obtain ⟨_, o', ho', hc⟩ := hrow j e.symm
      rw [hj] at ho'; cases ho'; rw [ho] at hc; cases hc
    refine ⟨A, m, c, (keep n₀ _ h1 rfl).trans h1, h2.keepRow (fun r hr => ?_), h3.grown hgr (by have := h3.size; have := h1.lt; omega) (fun r e => by have := (hrow r e).1; omega)⟩
    obtain ⟨_, _, o, h, hc⟩ := h2.rowLt r hr
    exact keep r o h hc
  box := fun _ _ _ _ h _ => h.elim
set_option maxHeartbeats 2000000 in
theorem appseq_any (Bs : Nat) (A : Option Addr) (m c : Nat) (zs : List Int) (w : World) (hBs : Bs < w.heap.size) (hs : w.cell? ⟨Bs, 0, none⟩ = some (.slice A m c)) (hl : zs.length = m) (hr : Rd w w.heap.size A zs) (hm : m ≤ 100000) :
    Calls Try.prog 70 #[.slice none 0 0, .func (.func 63) #[] #[.pointer (some ⟨Bs, 0, none⟩)]] w fun e w' => ∃ A' c', e = .returned (.slice A' m c') ∧ Own 3 w' w.heap.size (.slice A' m c') zs ∧ Below w.heap.size w w' := by
  have HS := Lib.hid hs
  have HL := Lib.hid hl
  have HR := Lib.hid hr
  clear hs hl hr
  refine (callsIn_wide (n := 3)).1 ?_
  refine callsIn_of_wp_marks Try.func70 rfl trivial ?_ rfl
  simp only [Try.ntmps70, List.size_toArray, List.length_cons, List.length_nil, Nat.reduceAdd, Nat.reduceSub, Array.replicate_succ, Array.replicate_zero, List.push_toArray, List.append_toArray, List.nil_append, List.cons_append]
  gi_wp2
  obtain ⟨W0, hW0⟩ : ∃ W0, W0 = w.alloc (.cells #[.slice none 0 0] 22) := ⟨_, rfl⟩
  have hz0 : W0.heap.size = w.heap.size + 1 := by rw [hW0]; simp
  have hb0 : Below w.heap.size w W0 := by rw [hW0]; exact (Below.refl _ _).alloc (Nat.le_refl _) _
  have hk0 : Blk W0 w.heap.size 22 #[.slice none 0 0] := by rw [hW0]; exact Blk.new _ _ _
  rw [← hW0]
  clear hW0
  refine wpIn_range_boxes (α := Int) (F := Fence.wide) (n := 3) (P := Try.prog) rfl (by omega) (gf := 63) (lb := #[.pointer (some ⟨Bs, 0, none⟩)]) rfl trivial (enters_of Try.func63 (by kernel_rfl) rfl)
    (encs := fun x : Int => #[.int .i64 x]) (Kp := Below w.heap.size) (xs := zs) (bx := fun _ => False) (fun k hk => hk.elim) (fun x => rfl) ?seq ?kt ?kb
    (fun k W => ApI w.heap.size w (zs.take k) W) (by rw [hz0]; exact ApI.box _ _ _) ?start (fun x => ?a1) ?assign ?body ?done
  case seq =>
    intro W hW
    have hb := hb0.trans (hW.mono hb0.size)
    exact values1_seq _ Bs w.heap.size A m c zs W ((hb.cell (p := ⟨Bs, 0, none⟩) hBs).trans HS.out) HL.out (HR.out.below hb (Nat.le_refl _)) (by omega)
  case kt => intro A B C h h'; exact h.trans h'
  case kb =>
    intro W l o o' hl ho hc
    have hlt := (Array.getElem?_eq_some_iff.1 ho).1
    exact (Below.refl _ _).grown (grownBy_putObj' W l o') (by omega) (fun k e => by cases e; omega)
  case start => exact ⟨none, 0, 0, hk0, by simpa using Own.nil _ _ _, hb0⟩
  case a1 => exact { tmps := #[.slice none 0 0, .func (.func 63) #[] #[.pointer (some ⟨Bs, 0, none⟩)], .pointer (some ⟨w.heap.size, 0, none⟩), undef, .slice none 0 0, .int .i64 x, .func (.func 63) #[] #[.pointer (some ⟨Bs, 0, none⟩)], .int .i64 x, undef, undef, undef, undef, undef], defers := [] }
  case assign =>
    intro l x W K hK
    dsimp only
    gi_wp2
    exact hK
  case body =>
    rintro l k x W ⟨A1, n1, c1, hbx, ho, hb⟩ hxk
    have hkl : k < zs.length := (List.getElem?_eq_some_iff.1 hxk).1
    have hn1 : n1 = k := by
      have := ho.len
      rw [List.length_take] at this
      omega
    subst hn1
    have htk : zs.take (n1 + 1) = zs.take n1 ++ [x] := by rw [List.take_add_one, hxk]; rfl
    have hlk : (zs.take n1).length = n1 := by rw [List.length_take]; omega
    have c0 : W.cell? ⟨w.heap.size, 0, none⟩ = some (.slice A1 n1 c1) := hbx.cell 0
    have f0 : W.frozen? ⟨w.heap.size, 0, none⟩ = false := hbx.frozen 0
    have hlt := hbx.lt
    have hn6 : n1 < 100000 := by have := HL.out; omega
    have HBX := Lib.hid hbx
    have HO := Lib.hid ho
    have HB := Lib.hid hb
    have HTK := Lib.hid htk
    have HLK := Lib.hid hlk
    clear hbx ho hb htk hlk hxk hkl
    gi_wp2_with (gi_at_builtin; refine wplIn_append1 rfl (.tmp 8) (.tmp 10) rfl (w.heap.size + 1) _ (zs.take n1) rfl (HO.out.alloc _) ⟨W.heap.size, 0, none⟩ 1 x (n1 + 1) (by rw [HLK.out]) rfl (int_one _ _) (by rw [HLK.out]; omega) (by simp; omega) ?_; intro A2 c2 w1 ho1 hb1 hk1; have c1' := (hb1.cell (p := ⟨w.heap.size, 0, none⟩) (Nat.lt_succ_self _)).trans ((World.cell?_alloc_lt W _ _ hlt).trans c0); have f1' := (hb1.frozen (p := ⟨w.heap.size, 0, none⟩) (Nat.lt_succ_self _)).trans ((HBX.out.alloc _).frozen 0))
    have hbx1 : Blk w1 w.heap.size 22 #[.slice A1 n1 c1] := (HBX.out.alloc _).below hb1 (Nat.lt_succ_self _)
    have hB1 : Below w.heap.size W w1 := ((Below.refl _ W).alloc (by omega) _).trans (hb1.mono (Nat.le_succ _))
    refine ⟨?_, ?_, A2, n1 + 1, c2, ?_, ?_, ?_⟩
    · refine (KeepsOthers.alloc W _).trans (hk1.trans ⟨by simp, fun k o hk hob => ?_⟩)
      refine (Below.heap_setCell w1 ⟨w.heap.size, 0, none⟩ _ k (fun e => ?_)).trans hk
      subst e
      rw [isCells_blk hbx1 o hk] at hob; cases hob
    · exact hB1.setCell (Nat.le_refl _) _
    · have := hbx1.set_ 0 (.slice A2 (n1 + 1) c2)
      simpa using this
    · rw [HTK.out]
      exact ho1.out.keepRow fun r hr => Below.heap_setCell w1 ⟨w.heap.size, 0, none⟩ _ r (fun e => by have := (ho1.out.rowLt r hr).1; simp at e; omega)
    · exact (HB.out.trans hB1).setCell (Nat.le_refl _) _
  case done =>
    intro D W hD hi hK
    rw [List.take_length] at hi
    obtain ⟨A1, n1, c1, hbx, ho, hb⟩ := hi
    have hn1 : n1 = m := by rw [← ho.len]; exact HL.out
    subst hn1
    have c0 : W.cell? ⟨w.heap.size, 0, none⟩ = some (.slice A1 n1 c1) := hbx.cell 0
    have HO := Lib.hid ho
    have HB := Lib.hid hb
    have HK := Lib.hid hK
    have hlt := hbx.lt
    clear hbx ho hb hK
    gi_wp2
    refine ⟨by simp, .inl ⟨_, _, rfl, run_takeDeferred HK.out, ?_⟩⟩
    refine ⟨_, results_tmp rfl _ _ _, A1, c1, rfl, ?_, ?_⟩
    · refine (HO.out.keepRow (fun r hr => World.putObj_heap_other ?_)).lower (Nat.le_succ _)
      intro e
      subst e
      obtain ⟨_, _, o, h, hc⟩ := HO.out.rowLt _ hr
      rw [HK.out] at h; cases h; cases hc
    · exact Below.grown HB.out (grownBy_putObj' W D _) HB.out.size (fun k e => by cases e; omega)
theorem collect_any (Bs : Nat) (A : Option Addr) (m c : Nat) (zs : List Int) (w : World) (hBs : Bs < w.heap.size) (hs : w.cell? ⟨Bs, 0, none⟩ = some (.slice A m c)) (hl : zs.length = m) (hr : Rd w w.heap.size A zs) (hm : m ≤ 100000) :
    Calls Try.prog 59 #[.func (.func 63) #[] #[.pointer (some ⟨Bs, 0, none⟩)]] w fun e w' => ∃ A' c', e = .returned (.slice A' m c') ∧ Own 3 w' w.heap.size (.slice A' m c') zs ∧ Below w.heap.size w w' := by
  have HC := Lib.hid (appseq_any Bs A m c zs w hBs hs hl hr hm)
  clear hs hl hr
  go_enter Try.func59, Try.ntmps59
  go_wp2_with fail
  refine HC.out.mono ?_
  rintro e w1 ⟨A1, c1, rfl, ho, hb⟩
  have HO := Lib.hid ho
  clear ho
  go_wp2
  go_ret
  exact ⟨A1, c1, rfl, HO.out, hb⟩
/-- slices.Sort at a slice of the call's own. -/
theorem sortI_any (B : Nat) (A : Option Addr) (n c : Nat) (zs : List Int) (w : World) (ho : Own 3 w B (.slice A n c) zs) (hn : n < 1000000) (hB : B ≤ w.heap.size) :
    Calls Try.prog 60 #[.slice A n c] w fun e w' => e = .returned (.tuple #[]) ∧ Hid (Own 3 w' B (.slice A n c) (zs.mergeSort fun x y => decide (x ≤ y))) ∧ Below B w w' := by
  have hln := ho.len
  subst hln
  have hl : (zs.mergeSort fun x y => decide (x ≤ y)).length = zs.length := List.length_mergeSort _
  rcases ho.2 with ⟨hv, h0⟩ | ⟨g, cap, cur, hv, hg, hh, hr1, hr2, hr3, hr4⟩
  · injection hv with e1 e2 e3
    subst e1 e3
    have hz : zs = [] := List.eq_nil_of_length_eq_zero h0
    subst hz
    refine (AnyM.slices_Sort_int_none Try.sortA none 0 w).mono ?_
    rintro e w' ⟨rfl, rfl⟩
    exact ⟨rfl, Lib.hid (by simpa using Own.nil 3 w' B), Below.refl _ _⟩
  · injection hv with e1 e2 e3
    subst e1 e3
    rw [Nat.mul_one] at hr4
    have hH := holds_of_blockI hh hr4
    refine (AnyM.slices_Sort_int Try.sortA g 0 c zs w hH (Array.getElem?_eq_some_iff.1 hh).1 (by omega)).mono ?_
    rintro e w' ⟨rfl, m, os, rfl⟩
    refine ⟨rfl, ?_, (Below.refl _ _).grown (grownBy_sortedI _) hB (fun k hk => by injection hk with hk; omega)⟩
    show Own _ _ _ _ _
    have := ownsRow_sortedI (n := m) (os := os) (ts := zs.mergeSort fun x y => decide (x ≤ y)) hl hg hh hr1 hr2 (by omega)
    unfold Own
    rw [hl]
    exact this
/-- slices.Sorted(slices.Values(s)). -/
theorem sortedV_any (Bs : Nat) (A : Option Addr) (m c : Nat) (zs : List Int) (w : World) (hBs : Bs < w.heap.size) (hs : w.cell? ⟨Bs, 0, none⟩ = some (.slice A m c)) (hl : zs.length = m) (hr : Rd w w.heap.size A zs) (hm : m ≤ 100000) :
    Calls Try.prog 44 #[.func (.func 63) #[] #[.pointer (some ⟨Bs, 0, none⟩)]] w fun e w' => ∃ A' c', e = .returned (.slice A' m c') ∧ Own 3 w' w.heap.size (.slice A' m c') (zs.mergeSort fun x y => decide (x ≤ y)) ∧ Below w.heap.size w w' := by
  have HC := Lib.hid (collect_any Bs A m c zs w hBs hs hl hr hm)
  clear hs hl hr
  go_enter Try.func44, Try.ntmps44
  go_wp2_with fail
  refine HC.out.mono ?_
  rintro e w1 ⟨A1, c1, rfl, ho, hb⟩
  have HO := Lib.hid ho
  have hz := hb.size
  clear ho
  go_wp2_with fail
  refine (sortI_any w.heap.size A1 m c1 zs w1 HO.out (by omega) hz).mono ?_
  rintro e w2 ⟨rfl, HO2, hb2⟩
  have HB := Lib.hid (hb.trans hb2)
  clear hb hb2
  go_wp2
  go_ret
  exact ⟨A1, c1, rfl, HO2.out, HB.out⟩
theorem mergeSort_id {zs : List Int} (h : zs.Pairwise (· ≤ ·)) : (zs.mergeSort fun x y => decide (x ≤ y)) = zs :=
  List.mergeSort_of_pairwise (h.imp fun hab => by simpa using hab)
end Go.Proofs.Ytfnoeolngdhjfaa
