/-
  Package snapshot: the merged walk as an iterator, called.
-/
import Derived.Test.YtcniepogobgaoaaSnW3
import Derived.Test.YtcniepogobgaoaaSnMrg
import Derived.Test.YtcniepogobgaoaaRange
import Derived.Sort.LoopGhostIn
import Derived.Sort.QuietIn
import Derived.RangeFuncNested
import Derived.RangeFuncBound
import Derived.Shelf.RegionOpen
import Derived.OwnWalkIn
import Derived.TacticsInMore
import Derived.LoopNIn
import Derived.LoopIn
namespace Go.Proofs.Ytcniepogobgaoaa
set_option linter.unusedVariables false
set_option linter.unusedSimpArgs false
set_option maxRecDepth 4000
open Go.RowKit
attribute [local go_sem] Oper.semAt_some

def encPr (x : Pr) : Array Value := #[.agg #[.int .i64 x.i, .int .i64 x.o, .int .i64 x.n, .bool x.was, .bool x.stays]]
/-- What a round of the loop keeps: what lies below n₀, and the two boxes. -/
def KpB (n₀ b1 b2 : Nat) (W W' : World) : Prop := Below n₀ W W' ∧ W'.heap[b1]? = W.heap[b1]? ∧ W'.heap[b2]? = W.heap[b2]?

/-- A slice of cells as it lies in a box: its cells, with its length and its capacity. -/
structure SlP (w : World) (B : Nat) (A : Option Addr) (n c : Nat) (es : Vw) : Prop where
  len : es.length = n
  cap : n ≤ c
  capmax : c ≤ maxLen
  nil : A = none → c = 0
  rd : RdP w B A es
theorem grownBy_drewN {w w' : World} {row : Option Nat} (h : w.grownBy w' row) (k : Nat) : w.grownBy (w'.drewN k) row := ⟨h.os, h.tape, h.output, h.size, h.block⟩
theorem grownBy_setNew {w w' : World} {row : Option Nat} (h : w.grownBy w' row) {p : Addr} (hp : w.heap.size ≤ p.block) (v : Value) : w.grownBy (w'.setCell p v) row :=
  ⟨h.os, h.tape, h.output, by simpa using h.size, fun i hi hr => (Below.heap_setCell w' p v i (by omega)).trans (h.block i hi hr)⟩

/-- The world in a round of the merged walk, the cell p made: the boxes, p, what the lists' cells are. -/
structure MW (wr W : World) (b1 b2 : Nat) (v1 v2 i o n u v : Value) : Prop where
  k1 : Blk W b1 30 #[v1]
  k2 : Blk W b2 30 #[v2]
  k3 : Blk W wr.heap.size 87 #[i, o, n, u, v]
  gr : wr.grownBy W none
  l1 : b1 < wr.heap.size
  l2 : b2 < wr.heap.size
theorem MW.drewN {wr W : World} {b1 b2 : Nat} {v1 v2 i o n u v : Value} (h : MW wr W b1 b2 v1 v2 i o n u v) (k : Nat) : MW wr (W.drewN k) b1 b2 v1 v2 i o n u v := ⟨h.k1, h.k2, h.k3, grownBy_drewN h.gr k, h.l1, h.l2⟩
theorem MW.new {wr : World} {b1 b2 : Nat} {v1 v2 : Value} (k1 : Blk wr b1 30 #[v1]) (k2 : Blk wr b2 30 #[v2]) (i o n u v : Value) : MW wr (wr.alloc (.cells #[i, o, n, u, v] 87)) b1 b2 v1 v2 i o n u v :=
  ⟨k1.alloc _, k2.alloc _, Blk.new _ _ _, World.grownBy_alloc wr _ none, k1.lt, k2.lt⟩
theorem MW.facts {wr W : World} {b1 b2 : Nat} {v1 v2 i o n u v : Value} (h : MW wr W b1 b2 v1 v2 i o n u v) : W.cell? ⟨b1, 0, none⟩ = some v1 ∧ W.cell? ⟨b2, 0, none⟩ = some v2 ∧
    W.cell? ⟨wr.heap.size, 0, none⟩ = some i ∧ W.cell? ⟨wr.heap.size, 1, none⟩ = some o ∧ W.cell? ⟨wr.heap.size, 2, none⟩ = some n ∧ W.cell? ⟨wr.heap.size, 3, none⟩ = some u ∧ W.cell? ⟨wr.heap.size, 4, none⟩ = some v ∧
    (∀ k, W.frozen? ⟨b1, k, none⟩ = false) ∧ (∀ k, W.frozen? ⟨b2, k, none⟩ = false) ∧ (∀ k, W.frozen? ⟨wr.heap.size, k, none⟩ = false) ∧ b1 < W.heap.size ∧ b2 < W.heap.size ∧ wr.heap.size < W.heap.size :=
  ⟨h.k1.cell 0, h.k2.cell 0, h.k3.cell 0, h.k3.cell 1, h.k3.cell 2, h.k3.cell 3, h.k3.cell 4, h.k1.frozen, h.k2.frozen, h.k3.frozen, h.k1.lt, h.k2.lt, h.k3.lt⟩
theorem MW.set5 {wr W : World} {b1 b2 : Nat} {v1 v2 i o n u v : Value} (h : MW wr W b1 b2 v1 v2 i o n u v) (i' o' n' u' v' : Value) :
    MW wr (((((W.setCell ⟨wr.heap.size, 0, none⟩ i').setCell ⟨wr.heap.size, 1, none⟩ o').setCell ⟨wr.heap.size, 2, none⟩ n').setCell ⟨wr.heap.size, 3, none⟩ u').setCell ⟨wr.heap.size, 4, none⟩ v') b1 b2 v1 v2 i' o' n' u' v' := by
  have l1 := h.l1
  have l2 := h.l2
  refine ⟨?_, ?_, ?_, ?_, l1, l2⟩
  · exact ((((h.k1.far (by simp; omega) _).far (by simp; omega) _).far (by simp; omega) _).far (by simp; omega) _).far (by simp; omega) _
  · exact ((((h.k2.far (by simp; omega) _).far (by simp; omega) _).far (by simp; omega) _).far (by simp; omega) _).far (by simp; omega) _
  · have := ((((h.k3.set_ 0 i').set_ 1 o').set_ 2 n').set_ 3 u').set_ 4 v'
    simpa using this
  · exact grownBy_setNew (grownBy_setNew (grownBy_setNew (grownBy_setNew (grownBy_setNew h.gr (by simp) _) (by simp) _) (by simp) _) (by simp) _) (by simp) _
theorem MW.old {wr W : World} {b1 b2 : Nat} {v1 v2 i o n u v : Value} (h : MW wr W b1 b2 v1 v2 i o n u v) {p : Addr} (hp : p.block < wr.heap.size) : W.cell? p = wr.cell? p := h.gr.cell_far p hp (by simp)

theorem SlP.keep {w w' : World} {B : Nat} {A : Option Addr} {n c : Nat} {es : Vw} (h : SlP w B A n c es) (hk : ∀ p : Addr, p.block < B → w'.cell? p = w.cell? p) : SlP w' B A n c es := ⟨h.len, h.cap, h.capmax, h.nil, h.rd.keep hk⟩
theorem SlP.tail {w : World} {B bb off n c : Nat} {x : Int × Int} {es : Vw} (h : SlP w B (some ⟨bb, off, none⟩) n c (x :: es)) :
    (c = 1 → SlP w B (some ⟨bb, off, none⟩) (n - 1) (c - 1) es) ∧ SlP w B (some ⟨bb, off + 2, none⟩) (n - 1) (c - 1) es := by
  have h1 := h.len
  have h2 := h.cap
  have h3 := h.capmax
  simp at h1
  refine ⟨fun hc => ⟨by omega, by omega, by omega, (fun h => by cases h), fun hp => ?_⟩, ⟨by omega, by omega, by omega, (fun h => by cases h), fun hp => ?_⟩⟩
  · omega
  · obtain ⟨b', off', e, hb, hc⟩ := rdp_at h.rd (by simp)
    cases e
    refine ⟨bb, off + 2, rfl, hb, fun i hi => ?_⟩
    have := hc (i + 1) (by simp; omega)
    rw [show off + 2 + i * 2 = off + (i + 1) * 2 from by omega]
    simpa [ea, eb] using this
/-- What the round knows once the cell is in p and one box or both have been written: J there; then what the loop's word asks of the world behind the round. -/
theorem MW.back {wr W4 W5 W' : World} {b1 b2 n₀ B : Nat} {v1 v2 i o n u v v1' v2' : Value} (h : MW wr W4 b1 b2 v1 v2 i o n u v) (hn1 : n₀ ≤ b1) (hn2 : n₀ ≤ b2) (hsz : B ≤ wr.heap.size) (hb1 : b1 < B)
    (k1 : Blk W5 b1 30 #[v1']) (k2 : Blk W5 b2 30 #[v2']) (h5 : Below n₀ W4 W5) (hz : W5.heap.size = W4.heap.size) (hk : KpB n₀ b1 b2 W5 W') :
    Blk W' b1 30 #[v1'] ∧ Blk W' b2 30 #[v2'] ∧ B ≤ W'.heap.size ∧ ∀ p : Addr, p.block < n₀ → W'.cell? p = wr.cell? p := by
  obtain ⟨q1, q2, q3⟩ := hk
  have hg := h.gr.size
  have hz' := q1.size
  refine ⟨q2.trans k1, q3.trans k2, by omega, fun p hp => ?_⟩
  rw [q1.cell hp, h5.cell hp]
  exact h.old (by have := h.l1; omega)

set_option maxHeartbeats 2000000 in
theorem merge1_seq (n b1 b2 n₀ : Nat) (A1 : Option Addr) (n1 c1 : Nat) (A2 : Option Addr) (n2 c2 : Nat) (a b : Vw) (W : World) (hb12 : b1 ≠ b2) (hn1 : n₀ ≤ b1) (hn2 : n₀ ≤ b2)
    (h1 : Blk W b1 30 #[.slice A1 n1 c1]) (h2 : Blk W b2 30 #[.slice A2 n2 c2]) (hs1 : SlP W n₀ A1 n1 c1 a) (hs2 : SlP W n₀ A2 n2 c2 b) :
    BoxSeq Fence.wide n Try.prog 62 #[.pointer (some ⟨b1, 0, none⟩), .pointer (some ⟨b2, 0, none⟩)] encPr (KpB n₀ b1 b2) (mrg a b) (fun k => k = b1 ∨ k = b2) W := fun l J hJ hY h0 => by
  refine callsIn_of_wp Try.func62 rfl trivial ?_ rfl
  simp only [Try.ntmps62, List.size_toArray, List.length_cons, List.length_nil, Nat.reduceAdd, Nat.reduceSub, Array.replicate_succ, Array.replicate_zero, List.push_toArray, List.append_toArray, List.nil_append, List.cons_append]
  have HY := Lib.hid hY
  have HS1 := Lib.hid hs1
  have HS2 := Lib.hid hs2
  have HB12 := Lib.hid hb12
  have HB1 := Lib.hid h1.lt
  clear hY hs1 hs2 hb12
  gi_wp2
  gi_loopg [] (a.length + b.length) (fun g wr => ∃ (xs ys : Vw) (k : Nat) (A1 : Option Addr) (n1 c1 : Nat) (A2 : Option Addr) (n2 c2 : Nat), xs.length + ys.length = g ∧ mrg xs ys = (mrg a b).drop k ∧ k ≤ (mrg a b).length ∧ Blk wr b1 30 #[.slice A1 n1 c1] ∧ Blk wr b2 30 #[.slice A2 n2 c2] ∧ SlP wr n₀ A1 n1 c1 xs ∧ SlP wr n₀ A2 n2 c2 ys ∧ W.heap.size ≤ wr.heap.size ∧ J k wr)
  case atStart => exact ⟨a, b, 0, A1, n1, c1, A2, n2, c2, rfl, rfl, Nat.zero_le _, h1, h2, HS1.out, HS2.out, Nat.le_refl _, h0⟩
  case round =>
    clear h1 h2 h0
    obtain ⟨xs, ys, k, A1, n1, c1, A2, n2, c2, hg, hm, hk, h1, h2, s1, s2, hsz, hJk⟩ := hrel
    have c1_0 : wr.cell? ⟨b1, 0, none⟩ = some (.slice A1 n1 c1) := h1.cell 0
    have c2_0 : wr.cell? ⟨b2, 0, none⟩ = some (.slice A2 n2 c2) := h2.cell 0
    have HG := Lib.hid hg
    have HM := Lib.hid hm
    clear hg hm
    match xs, ys with
    | [], [] =>
      obtain rfl : 0 = n1 := s1.len
      obtain rfl : 0 = n2 := s2.len
      have hkl : k = (mrg a b).length := by
        have := congrArg List.length HM.out
        rw [mrg, List.length_drop, List.length_nil] at this
        omega
      have HK := Lib.hid hkl
      clear hkl
      gi_wp2
      go_end0
      exact ⟨⟨_, rfl⟩, by rw [← HK.out]; exact hJk⟩
    --ARMS
    | x :: xs, [] =>
      have hst : W.heap.size ≤ wr.heap.size := hsz
      have hlt1 := h1.lt
      have hlt2 := h2.lt
      obtain rfl : 0 = n2 := s2.len
      have HN2 := Lib.hid s2
      obtain ⟨bb, off, rfl, hbb, hc⟩ := rdp_at s1.rd (by simp)
      have d := hc 0 (by simp)
      have d11 : wr.cell? ⟨bb, off, none⟩ = some (.int .i64 x.1) := by simpa [ea] using d.1
      have d12 : wr.cell? ⟨bb, off + 1, none⟩ = some (.int .i64 x.2) := by simpa [eb] using d.2
      have hltbb : bb < wr.heap.size := by omega
      have hp1 : 0 < n1 := by have := s1.len; simp at this; omega
      have hq1z : ((n1 : Int) == 0) = false := beq_eq_false_iff_ne.2 (by omega)
      have hcap1 := s1.cap
      have hcm1 := s1.capmax
      unfold maxLen at hcm1
      have HT1 := Lib.hid s1.tail
      have HL1 : Hid (n1 = xs.length + 1) := by show _ = _; have := s1.len; simp at this; omega
      obtain ⟨i, hi⟩ : ∃ i, i = x.1 := ⟨_, rfl⟩
      obtain ⟨o, ho⟩ : ∃ o, o = x.2 := ⟨_, rfl⟩
      rw [← hi] at d11
      rw [← ho] at d12
      have Hi := Lib.hid hi
      have Ho := Lib.hid ho
      clear d hc hi ho
      clear s1 s2
      have HX : Hid ((mrg a b)[k]? = some ⟨i, o, 0, true, false⟩ ∧ mrg (xs) ([]) = (mrg a b).drop (k + 1) ∧ k + 1 ≤ (mrg a b).length) := by
        have h := HM.out
        have e : mrg (x :: xs) [] = ⟨i, o, 0, true, false⟩ :: mrg (xs) ([]) := by
          rw [mrg]
          rw [Hi.out, Ho.out]
        rw [e] at h
        refine ⟨?_, ?_, ?_⟩
        · have := congrArg (fun l => l[0]?) h
          simp only [List.getElem?_drop, Nat.add_zero] at this
          rw [← this]; rfl
        · have := congrArg List.tail h
          simpa [List.tail_drop] using this
        · have := congrArg List.length h
          rw [List.length_drop, List.length_cons] at this
          omega
      have hw1 : ∀ i o n u v, MW wr (wr.alloc (.cells #[i, o, n, u, v] 87)) b1 b2 (.slice (some ⟨bb, off, none⟩) n1 c1) (.slice A2 0 c2) i o n u v := MW.new h1 h2
      gi_wp2
      obtain ⟨w1, hw1'⟩ : ∃ w1, w1 = wr.alloc (.cells #[.int .i64 0, .int .i64 0, .int .i64 0, .bool false, .bool false] 87) := ⟨_, rfl⟩
      have m1 := hw1 (.int .i64 0) (.int .i64 0) (.int .i64 0) (.bool false) (.bool false)
      rw [← hw1'] at m1 ⊢
      clear hw1 hw1' c1_0 c2_0
      have f1 := (m1.old (p := ⟨bb, off, none⟩) hltbb).trans d11
      have f2 := (m1.old (p := ⟨bb, off + 1, none⟩) hltbb).trans d12
      obtain ⟨e1, e2, q0, q1, q2, q3, q4, g1, g2, g3, t1, t2, t3⟩ := m1.facts
      have HM1 := Lib.hid m1
      clear m1
      refine wpIn_wide.2 ?_
      go_quiet (fail)
      gi_wp2
      clear f1 f2 e1 e2 q0 q1 q2 q3 q4 g1 g2 g3 t1 t2 t3
      obtain ⟨w2, hw2⟩ : ∃ w2, w2 = w1.drewN nq := ⟨_, rfl⟩
      have m2 := HM1.out.drewN nq
      rw [← hw2] at m2 ⊢
      clear hw2 HM1
      have f1 := (m2.old (p := ⟨bb, off, none⟩) hltbb).trans d11
      have f2 := (m2.old (p := ⟨bb, off + 1, none⟩) hltbb).trans d12
      obtain ⟨e1, e2, q0, q1, q2, q3, q4, g1, g2, g3, t1, t2, t3⟩ := m2.facts
      have HM2 := Lib.hid m2
      clear m2
      refine wpIn_wide.2 ?_
      go_still_tail 9, (by kernel_rfl)
      change wpList _ _ _ _ _ (World.drewN w2 1)
      clear f1 f2 e1 e2 q0 q1 q2 q3 q4 g1 g2 g3 t1 t2 t3
      have m3 := HM2.out.drewN 1
      obtain ⟨w3, hw3⟩ : ∃ w3, w3 = w2.drewN 1 := ⟨_, rfl⟩
      rw [← hw3] at m3 ⊢
      clear hw3 HM2
      have f1 := (m3.old (p := ⟨bb, off, none⟩) hltbb).trans d11
      have f2 := (m3.old (p := ⟨bb, off + 1, none⟩) hltbb).trans d12
      obtain ⟨e1, e2, q0, q1, q2, q3, q4, g1, g2, g3, t1, t2, t3⟩ := m3.facts
      have HM3 := Lib.hid m3
      clear m3
      go_wp2
      have m4 := HM3.out.set5 (.int .i64 i) (.int .i64 o) (.int .i64 0) (.bool true) (.bool false)
      obtain ⟨wq, hwq⟩ : ∃ wq, wq = (((((w3.setCell ⟨wr.heap.size, 0, none⟩ (.int .i64 i)).setCell ⟨wr.heap.size, 1, none⟩ (.int .i64 o)).setCell ⟨wr.heap.size, 2, none⟩ (.int .i64 0)).setCell ⟨wr.heap.size, 3, none⟩ (.bool true)).setCell ⟨wr.heap.size, 4, none⟩ (.bool false)) := ⟨_, rfl⟩
      rw [← hwq] at m4 ⊢
      clear f1 f2 e1 e2 q0 q1 q2 q3 q4 g1 g2 g3 t1 t2 t3
      clear hwq HM3
      have f1 := (m4.old (p := ⟨bb, off, none⟩) hltbb).trans d11
      have f2 := (m4.old (p := ⟨bb, off + 1, none⟩) hltbb).trans d12
      obtain ⟨e1, e2, q0, q1, q2, q3, q4, g1, g2, g3, t1, t2, t3⟩ := m4.facts
      have hJ4 : J k wq := hJ.grow k _ _ none hJk m4.gr (fun r h => by cases h)
      have HM4 := Lib.hid m4
      have HJ4 := Lib.hid hJ4
      have HJ' := Lib.hid hJ
      clear m4 hJ4 hJk hJ
      by_cases hc1 : c1 = 1
      · have hn1' : n1 = 1 := by omega
        subst hn1' hc1
        obtain ⟨w5, hw5⟩ : ∃ w5, w5 = (wq.setCell ⟨b1, 0, none⟩ (.slice (some ⟨bb, off, none⟩) 0 0)) := ⟨_, rfl⟩
        have HW5 := Lib.hid hw5
        obtain ⟨fn, tmps, assign, body, hy, hR⟩ := HY.out k _ w5 (by rw [hw5]; exact (HJ'.out.box k _ b1 _ (.inl rfl) HJ4.out)) HX.out.1
        rw [hw5] at hy hR
        dsimp only [encPr] at hy
        clear hw5
        gi_wp2
        refine ⟨(fun h => by cases h), hR.mono ?_⟩
        rintro e W' ⟨rfl, hJ', hkp⟩
        rw [← HW5.out] at hkp
        have HE := Lib.hid (HM4.out.back hn1 hn2 hst (v1' := (.slice (some ⟨bb, off, none⟩) 0 0)) (v2' := (.slice A2 0 c2)) (B := W.heap.size) (W5 := w5) HB1.out (by rw [HW5.out]; exact (HM4.out.k1.set_ 0 _)) (by rw [HW5.out]; exact (HM4.out.k2.far (fun h => HB12.out h.symm) _)) (by rw [HW5.out]; exact ((Below.refl _ _).setCell (p := ⟨b1, 0, none⟩) hn1 _)) (by rw [HW5.out]; simp) hkp)
        clear hR hy hkp e1 e2 q0 q1 q2 q3 q4 g1 g2 g3 t1 t2 t3
        gi_wp2
        gi_roundg ((xs : Vw).length + ([] : Vw).length)
        case measure => have := HG.out; simp at this ⊢; omega
        case rel =>
          obtain ⟨k1, k2, k3, k4⟩ := HE.out
          exact ⟨xs, [], k + 1, _, _, _, _, _, _, rfl, HX.out.2.1, HX.out.2.2, k1, k2, (HT1.out.1 trivial).keep (fun p hp => k4 p hp), HN2.out.keep (fun p hp => k4 p hp), k3, hJ'⟩
      · have hc1' : 1 < c1 := by omega
        clear hc1
        obtain ⟨w5, hw5⟩ : ∃ w5, w5 = (wq.setCell ⟨b1, 0, none⟩ (.slice (some ⟨bb, off + 2, none⟩) (n1 - 1) (c1 - 1))) := ⟨_, rfl⟩
        have HW5 := Lib.hid hw5
        obtain ⟨fn, tmps, assign, body, hy, hR⟩ := HY.out k _ w5 (by rw [hw5]; exact (HJ'.out.box k _ b1 _ (.inl rfl) HJ4.out)) HX.out.1
        rw [hw5] at hy hR
        dsimp only [encPr] at hy
        clear hw5
        gi_wp2
        refine ⟨(fun h => by cases h), hR.mono ?_⟩
        rintro e W' ⟨rfl, hJ', hkp⟩
        rw [← HW5.out] at hkp
        have HE := Lib.hid (HM4.out.back hn1 hn2 hst (v1' := (.slice (some ⟨bb, off + 2, none⟩) (n1 - 1) (c1 - 1))) (v2' := (.slice A2 0 c2)) (B := W.heap.size) (W5 := w5) HB1.out (by rw [HW5.out]; exact (HM4.out.k1.set_ 0 _)) (by rw [HW5.out]; exact (HM4.out.k2.far (fun h => HB12.out h.symm) _)) (by rw [HW5.out]; exact ((Below.refl _ _).setCell (p := ⟨b1, 0, none⟩) hn1 _)) (by rw [HW5.out]; simp) hkp)
        clear hR hy hkp e1 e2 q0 q1 q2 q3 q4 g1 g2 g3 t1 t2 t3
        gi_wp2
        gi_roundg ((xs : Vw).length + ([] : Vw).length)
        case measure => have := HG.out; simp at this ⊢; omega
        case rel =>
          obtain ⟨k1, k2, k3, k4⟩ := HE.out
          exact ⟨xs, [], k + 1, _, _, _, _, _, _, rfl, HX.out.2.1, HX.out.2.2, k1, k2, HT1.out.2.keep (fun p hp => k4 p hp), HN2.out.keep (fun p hp => k4 p hp), k3, hJ'⟩
    | [], y :: ys =>
      have hst : W.heap.size ≤ wr.heap.size := hsz
      have hlt1 := h1.lt
      have hlt2 := h2.lt
      obtain rfl : 0 = n1 := s1.len
      have HN1 := Lib.hid s1
      obtain ⟨bc, ofc, rfl, hbc, hc⟩ := rdp_at s2.rd (by simp)
      have d := hc 0 (by simp)
      have d21 : wr.cell? ⟨bc, ofc, none⟩ = some (.int .i64 y.1) := by simpa [ea] using d.1
      have d22 : wr.cell? ⟨bc, ofc + 1, none⟩ = some (.int .i64 y.2) := by simpa [eb] using d.2
      have hltbc : bc < wr.heap.size := by omega
      have hp2 : 0 < n2 := by have := s2.len; simp at this; omega
      have hq2z : ((n2 : Int) == 0) = false := beq_eq_false_iff_ne.2 (by omega)
      have hcap2 := s2.cap
      have hcm2 := s2.capmax
      unfold maxLen at hcm2
      have HT2 := Lib.hid s2.tail
      have HL2 : Hid (n2 = ys.length + 1) := by show _ = _; have := s2.len; simp at this; omega
      obtain ⟨j, hj⟩ : ∃ j, j = y.1 := ⟨_, rfl⟩
      obtain ⟨q, hq⟩ : ∃ q, q = y.2 := ⟨_, rfl⟩
      rw [← hj] at d21
      rw [← hq] at d22
      have Hj := Lib.hid hj
      have Hq := Lib.hid hq
      clear d hc hj hq
      clear s1 s2
      have HX : Hid ((mrg a b)[k]? = some ⟨j, 0, q, false, true⟩ ∧ mrg ([]) (ys) = (mrg a b).drop (k + 1) ∧ k + 1 ≤ (mrg a b).length) := by
        have h := HM.out
        have e : mrg [] (y :: ys) = ⟨j, 0, q, false, true⟩ :: mrg ([]) (ys) := by
          rw [mrg]
          rw [Hj.out, Hq.out]
        rw [e] at h
        refine ⟨?_, ?_, ?_⟩
        · have := congrArg (fun l => l[0]?) h
          simp only [List.getElem?_drop, Nat.add_zero] at this
          rw [← this]; rfl
        · have := congrArg List.tail h
          simpa [List.tail_drop] using this
        · have := congrArg List.length h
          rw [List.length_drop, List.length_cons] at this
          omega
      have hw1 : ∀ i o n u v, MW wr (wr.alloc (.cells #[i, o, n, u, v] 87)) b1 b2 (.slice A1 0 c1) (.slice (some ⟨bc, ofc, none⟩) n2 c2) i o n u v := MW.new h1 h2
      gi_wp2
      obtain ⟨w1, hw1'⟩ : ∃ w1, w1 = wr.alloc (.cells #[.int .i64 0, .int .i64 0, .int .i64 0, .bool false, .bool false] 87) := ⟨_, rfl⟩
      have m1 := hw1 (.int .i64 0) (.int .i64 0) (.int .i64 0) (.bool false) (.bool false)
      rw [← hw1'] at m1 ⊢
      clear hw1 hw1' c1_0 c2_0
      have f3 := (m1.old (p := ⟨bc, ofc, none⟩) hltbc).trans d21
      have f4 := (m1.old (p := ⟨bc, ofc + 1, none⟩) hltbc).trans d22
      obtain ⟨e1, e2, q0, q1, q2, q3, q4, g1, g2, g3, t1, t2, t3⟩ := m1.facts
      have HM1 := Lib.hid m1
      clear m1
      refine wpIn_wide.2 ?_
      go_quiet (fail)
      gi_wp2
      clear f3 f4 e1 e2 q0 q1 q2 q3 q4 g1 g2 g3 t1 t2 t3
      obtain ⟨w2, hw2⟩ : ∃ w2, w2 = w1.drewN nq := ⟨_, rfl⟩
      have m2 := HM1.out.drewN nq
      rw [← hw2] at m2 ⊢
      clear hw2 HM1
      have f3 := (m2.old (p := ⟨bc, ofc, none⟩) hltbc).trans d21
      have f4 := (m2.old (p := ⟨bc, ofc + 1, none⟩) hltbc).trans d22
      obtain ⟨e1, e2, q0, q1, q2, q3, q4, g1, g2, g3, t1, t2, t3⟩ := m2.facts
      have HM2 := Lib.hid m2
      clear m2
      refine wpIn_wide.2 ?_
      go_quiet (fail)
      gi_wp2
      clear f3 f4 e1 e2 q0 q1 q2 q3 q4 g1 g2 g3 t1 t2 t3
      obtain ⟨w3, hw3⟩ : ∃ w3, w3 = w2.drewN nq := ⟨_, rfl⟩
      have m3 := HM2.out.drewN nq
      rw [← hw3] at m3 ⊢
      clear hw3 HM2
      have f3 := (m3.old (p := ⟨bc, ofc, none⟩) hltbc).trans d21
      have f4 := (m3.old (p := ⟨bc, ofc + 1, none⟩) hltbc).trans d22
      obtain ⟨e1, e2, q0, q1, q2, q3, q4, g1, g2, g3, t1, t2, t3⟩ := m3.facts
      have HM3 := Lib.hid m3
      clear m3
      refine wpIn_wide.2 ?_
      go_still_tail 9, (by kernel_rfl)
      change wpList _ _ _ _ _ (World.drewN w3 1)
      clear f3 f4 e1 e2 q0 q1 q2 q3 q4 g1 g2 g3 t1 t2 t3
      have m4 := HM3.out.drewN 1
      obtain ⟨w4, hw4⟩ : ∃ w4, w4 = w3.drewN 1 := ⟨_, rfl⟩
      rw [← hw4] at m4 ⊢
      clear hw4 HM3
      have f3 := (m4.old (p := ⟨bc, ofc, none⟩) hltbc).trans d21
      have f4 := (m4.old (p := ⟨bc, ofc + 1, none⟩) hltbc).trans d22
      obtain ⟨e1, e2, q0, q1, q2, q3, q4, g1, g2, g3, t1, t2, t3⟩ := m4.facts
      have HM4 := Lib.hid m4
      clear m4
      go_wp2
      have m4 := HM4.out.set5 (.int .i64 j) (.int .i64 0) (.int .i64 q) (.bool false) (.bool true)
      obtain ⟨wq, hwq⟩ : ∃ wq, wq = (((((w4.setCell ⟨wr.heap.size, 0, none⟩ (.int .i64 j)).setCell ⟨wr.heap.size, 1, none⟩ (.int .i64 0)).setCell ⟨wr.heap.size, 2, none⟩ (.int .i64 q)).setCell ⟨wr.heap.size, 3, none⟩ (.bool false)).setCell ⟨wr.heap.size, 4, none⟩ (.bool true)) := ⟨_, rfl⟩
      rw [← hwq] at m4 ⊢
      clear f3 f4 e1 e2 q0 q1 q2 q3 q4 g1 g2 g3 t1 t2 t3
      clear hwq HM4
      have f3 := (m4.old (p := ⟨bc, ofc, none⟩) hltbc).trans d21
      have f4 := (m4.old (p := ⟨bc, ofc + 1, none⟩) hltbc).trans d22
      obtain ⟨e1, e2, q0, q1, q2, q3, q4, g1, g2, g3, t1, t2, t3⟩ := m4.facts
      have hJ4 : J k wq := hJ.grow k _ _ none hJk m4.gr (fun r h => by cases h)
      have HM4 := Lib.hid m4
      have HJ4 := Lib.hid hJ4
      have HJ' := Lib.hid hJ
      clear m4 hJ4 hJk hJ
      by_cases hc2 : c2 = 1
      · have hn2' : n2 = 1 := by omega
        subst hn2' hc2
        obtain ⟨w5, hw5⟩ : ∃ w5, w5 = (wq.setCell ⟨b2, 0, none⟩ (.slice (some ⟨bc, ofc, none⟩) 0 0)) := ⟨_, rfl⟩
        have HW5 := Lib.hid hw5
        obtain ⟨fn, tmps, assign, body, hy, hR⟩ := HY.out k _ w5 (by rw [hw5]; exact (HJ'.out.box k _ b2 _ (.inr rfl) HJ4.out)) HX.out.1
        rw [hw5] at hy hR
        dsimp only [encPr] at hy
        clear hw5
        gi_wp2
        refine ⟨(fun h => by cases h), hR.mono ?_⟩
        rintro e W' ⟨rfl, hJ', hkp⟩
        rw [← HW5.out] at hkp
        have HE := Lib.hid (HM4.out.back hn1 hn2 hst (v1' := (.slice A1 0 c1)) (v2' := (.slice (some ⟨bc, ofc, none⟩) 0 0)) (B := W.heap.size) (W5 := w5) HB1.out (by rw [HW5.out]; exact (HM4.out.k1.far HB12.out _)) (by rw [HW5.out]; exact (HM4.out.k2.set_ 0 _)) (by rw [HW5.out]; exact ((Below.refl _ _).setCell (p := ⟨b2, 0, none⟩) hn2 _)) (by rw [HW5.out]; simp) hkp)
        clear hR hy hkp e1 e2 q0 q1 q2 q3 q4 g1 g2 g3 t1 t2 t3
        gi_wp2
        gi_roundg (([] : Vw).length + (ys : Vw).length)
        case measure => have := HG.out; simp at this ⊢; omega
        case rel =>
          obtain ⟨k1, k2, k3, k4⟩ := HE.out
          exact ⟨[], ys, k + 1, _, _, _, _, _, _, rfl, HX.out.2.1, HX.out.2.2, k1, k2, HN1.out.keep (fun p hp => k4 p hp), (HT2.out.1 trivial).keep (fun p hp => k4 p hp), k3, hJ'⟩
      · have hc2' : 1 < c2 := by omega
        clear hc2
        obtain ⟨w5, hw5⟩ : ∃ w5, w5 = (wq.setCell ⟨b2, 0, none⟩ (.slice (some ⟨bc, ofc + 2, none⟩) (n2 - 1) (c2 - 1))) := ⟨_, rfl⟩
        have HW5 := Lib.hid hw5
        obtain ⟨fn, tmps, assign, body, hy, hR⟩ := HY.out k _ w5 (by rw [hw5]; exact (HJ'.out.box k _ b2 _ (.inr rfl) HJ4.out)) HX.out.1
        rw [hw5] at hy hR
        dsimp only [encPr] at hy
        clear hw5
        gi_wp2
        refine ⟨(fun h => by cases h), hR.mono ?_⟩
        rintro e W' ⟨rfl, hJ', hkp⟩
        rw [← HW5.out] at hkp
        have HE := Lib.hid (HM4.out.back hn1 hn2 hst (v1' := (.slice A1 0 c1)) (v2' := (.slice (some ⟨bc, ofc + 2, none⟩) (n2 - 1) (c2 - 1))) (B := W.heap.size) (W5 := w5) HB1.out (by rw [HW5.out]; exact (HM4.out.k1.far HB12.out _)) (by rw [HW5.out]; exact (HM4.out.k2.set_ 0 _)) (by rw [HW5.out]; exact ((Below.refl _ _).setCell (p := ⟨b2, 0, none⟩) hn2 _)) (by rw [HW5.out]; simp) hkp)
        clear hR hy hkp e1 e2 q0 q1 q2 q3 q4 g1 g2 g3 t1 t2 t3
        gi_wp2
        gi_roundg (([] : Vw).length + (ys : Vw).length)
        case measure => have := HG.out; simp at this ⊢; omega
        case rel =>
          obtain ⟨k1, k2, k3, k4⟩ := HE.out
          exact ⟨[], ys, k + 1, _, _, _, _, _, _, rfl, HX.out.2.1, HX.out.2.2, k1, k2, HN1.out.keep (fun p hp => k4 p hp), HT2.out.2.keep (fun p hp => k4 p hp), k3, hJ'⟩
    | x :: xs, y :: ys =>
      have hst : W.heap.size ≤ wr.heap.size := hsz
      have hlt1 := h1.lt
      have hlt2 := h2.lt
      have HO1 := Lib.hid s1
      have HO2 := Lib.hid s2
      obtain ⟨bb, off, rfl, hbb, hc⟩ := rdp_at s1.rd (by simp)
      have d := hc 0 (by simp)
      have d11 : wr.cell? ⟨bb, off, none⟩ = some (.int .i64 x.1) := by simpa [ea] using d.1
      have d12 : wr.cell? ⟨bb, off + 1, none⟩ = some (.int .i64 x.2) := by simpa [eb] using d.2
      have hltbb : bb < wr.heap.size := by omega
      have hp1 : 0 < n1 := by have := s1.len; simp at this; omega
      have hq1z : ((n1 : Int) == 0) = false := beq_eq_false_iff_ne.2 (by omega)
      have hcap1 := s1.cap
      have hcm1 := s1.capmax
      unfold maxLen at hcm1
      have HT1 := Lib.hid s1.tail
      have HL1 : Hid (n1 = xs.length + 1) := by show _ = _; have := s1.len; simp at this; omega
      obtain ⟨i, hi⟩ : ∃ i, i = x.1 := ⟨_, rfl⟩
      obtain ⟨o, ho⟩ : ∃ o, o = x.2 := ⟨_, rfl⟩
      rw [← hi] at d11
      rw [← ho] at d12
      have Hi := Lib.hid hi
      have Ho := Lib.hid ho
      clear d hc hi ho
      obtain ⟨bc, ofc, rfl, hbc, hc⟩ := rdp_at s2.rd (by simp)
      have d := hc 0 (by simp)
      have d21 : wr.cell? ⟨bc, ofc, none⟩ = some (.int .i64 y.1) := by simpa [ea] using d.1
      have d22 : wr.cell? ⟨bc, ofc + 1, none⟩ = some (.int .i64 y.2) := by simpa [eb] using d.2
      have hltbc : bc < wr.heap.size := by omega
      have hp2 : 0 < n2 := by have := s2.len; simp at this; omega
      have hq2z : ((n2 : Int) == 0) = false := beq_eq_false_iff_ne.2 (by omega)
      have hcap2 := s2.cap
      have hcm2 := s2.capmax
      unfold maxLen at hcm2
      have HT2 := Lib.hid s2.tail
      have HL2 : Hid (n2 = ys.length + 1) := by show _ = _; have := s2.len; simp at this; omega
      obtain ⟨j, hj⟩ : ∃ j, j = y.1 := ⟨_, rfl⟩
      obtain ⟨q, hq⟩ : ∃ q, q = y.2 := ⟨_, rfl⟩
      rw [← hj] at d21
      rw [← hq] at d22
      have Hj := Lib.hid hj
      have Hq := Lib.hid hq
      clear d hc hj hq
      clear s1 s2
      rcases Int.lt_trichotomy i j with hij | hij | hij
      · have HX : Hid ((mrg a b)[k]? = some ⟨i, o, 0, true, false⟩ ∧ mrg (xs) (y :: ys) = (mrg a b).drop (k + 1) ∧ k + 1 ≤ (mrg a b).length) := by
          have h := HM.out
          have e : mrg (x :: xs) (y :: ys) = ⟨i, o, 0, true, false⟩ :: mrg (xs) (y :: ys) := by
            rw [mrg]
            rw [if_pos (by rw [← Hi.out, ← Hj.out]; exact hij), Hi.out, Ho.out]
          rw [e] at h
          refine ⟨?_, ?_, ?_⟩
          · have := congrArg (fun l => l[0]?) h
            simp only [List.getElem?_drop, Nat.add_zero] at this
            rw [← this]; rfl
          · have := congrArg List.tail h
            simpa [List.tail_drop] using this
          · have := congrArg List.length h
            rw [List.length_drop, List.length_cons] at this
            omega
        have hlss : decide (i < j) = true := decide_eq_true hij
        have hw1 : ∀ i o n u v, MW wr (wr.alloc (.cells #[i, o, n, u, v] 87)) b1 b2 (.slice (some ⟨bb, off, none⟩) n1 c1) (.slice (some ⟨bc, ofc, none⟩) n2 c2) i o n u v := MW.new h1 h2
        gi_wp2
        obtain ⟨w1, hw1'⟩ : ∃ w1, w1 = wr.alloc (.cells #[.int .i64 0, .int .i64 0, .int .i64 0, .bool false, .bool false] 87) := ⟨_, rfl⟩
        have m1 := hw1 (.int .i64 0) (.int .i64 0) (.int .i64 0) (.bool false) (.bool false)
        rw [← hw1'] at m1 ⊢
        clear hw1 hw1' c1_0 c2_0
        have f1 := (m1.old (p := ⟨bb, off, none⟩) hltbb).trans d11
        have f2 := (m1.old (p := ⟨bb, off + 1, none⟩) hltbb).trans d12
        have f3 := (m1.old (p := ⟨bc, ofc, none⟩) hltbc).trans d21
        have f4 := (m1.old (p := ⟨bc, ofc + 1, none⟩) hltbc).trans d22
        obtain ⟨e1, e2, q0, q1, q2, q3, q4, g1, g2, g3, t1, t2, t3⟩ := m1.facts
        have HM1 := Lib.hid m1
        clear m1
        refine wpIn_wide.2 ?_
        go_quiet (fail)
        gi_wp2
        clear f1 f2 f3 f4 e1 e2 q0 q1 q2 q3 q4 g1 g2 g3 t1 t2 t3
        obtain ⟨w2, hw2⟩ : ∃ w2, w2 = w1.drewN nq := ⟨_, rfl⟩
        have m2 := HM1.out.drewN nq
        rw [← hw2] at m2 ⊢
        clear hw2 HM1
        have f1 := (m2.old (p := ⟨bb, off, none⟩) hltbb).trans d11
        have f2 := (m2.old (p := ⟨bb, off + 1, none⟩) hltbb).trans d12
        have f3 := (m2.old (p := ⟨bc, ofc, none⟩) hltbc).trans d21
        have f4 := (m2.old (p := ⟨bc, ofc + 1, none⟩) hltbc).trans d22
        obtain ⟨e1, e2, q0, q1, q2, q3, q4, g1, g2, g3, t1, t2, t3⟩ := m2.facts
        have HM2 := Lib.hid m2
        clear m2
        refine wpIn_wide.2 ?_
        go_still_tail 9, (by kernel_rfl)
        change wpList _ _ _ _ _ (World.drewN w2 1)
        clear f1 f2 f3 f4 e1 e2 q0 q1 q2 q3 q4 g1 g2 g3 t1 t2 t3
        have m3 := HM2.out.drewN 1
        obtain ⟨w3, hw3⟩ : ∃ w3, w3 = w2.drewN 1 := ⟨_, rfl⟩
        rw [← hw3] at m3 ⊢
        clear hw3 HM2
        have f1 := (m3.old (p := ⟨bb, off, none⟩) hltbb).trans d11
        have f2 := (m3.old (p := ⟨bb, off + 1, none⟩) hltbb).trans d12
        have f3 := (m3.old (p := ⟨bc, ofc, none⟩) hltbc).trans d21
        have f4 := (m3.old (p := ⟨bc, ofc + 1, none⟩) hltbc).trans d22
        obtain ⟨e1, e2, q0, q1, q2, q3, q4, g1, g2, g3, t1, t2, t3⟩ := m3.facts
        have HM3 := Lib.hid m3
        clear m3
        go_wp2
        have m4 := HM3.out.set5 (.int .i64 i) (.int .i64 o) (.int .i64 0) (.bool true) (.bool false)
        obtain ⟨wq, hwq⟩ : ∃ wq, wq = (((((w3.setCell ⟨wr.heap.size, 0, none⟩ (.int .i64 i)).setCell ⟨wr.heap.size, 1, none⟩ (.int .i64 o)).setCell ⟨wr.heap.size, 2, none⟩ (.int .i64 0)).setCell ⟨wr.heap.size, 3, none⟩ (.bool true)).setCell ⟨wr.heap.size, 4, none⟩ (.bool false)) := ⟨_, rfl⟩
        rw [← hwq] at m4 ⊢
        clear f1 f2 f3 f4 e1 e2 q0 q1 q2 q3 q4 g1 g2 g3 t1 t2 t3
        clear hwq HM3
        have f1 := (m4.old (p := ⟨bb, off, none⟩) hltbb).trans d11
        have f2 := (m4.old (p := ⟨bb, off + 1, none⟩) hltbb).trans d12
        have f3 := (m4.old (p := ⟨bc, ofc, none⟩) hltbc).trans d21
        have f4 := (m4.old (p := ⟨bc, ofc + 1, none⟩) hltbc).trans d22
        obtain ⟨e1, e2, q0, q1, q2, q3, q4, g1, g2, g3, t1, t2, t3⟩ := m4.facts
        have hJ4 : J k wq := hJ.grow k _ _ none hJk m4.gr (fun r h => by cases h)
        have HM4 := Lib.hid m4
        have HJ4 := Lib.hid hJ4
        have HJ' := Lib.hid hJ
        clear m4 hJ4 hJk hJ
        by_cases hc1 : c1 = 1
        · have hn1' : n1 = 1 := by omega
          subst hn1' hc1
          obtain ⟨w5, hw5⟩ : ∃ w5, w5 = (wq.setCell ⟨b1, 0, none⟩ (.slice (some ⟨bb, off, none⟩) 0 0)) := ⟨_, rfl⟩
          have HW5 := Lib.hid hw5
          obtain ⟨fn, tmps, assign, body, hy, hR⟩ := HY.out k _ w5 (by rw [hw5]; exact (HJ'.out.box k _ b1 _ (.inl rfl) HJ4.out)) HX.out.1
          rw [hw5] at hy hR
          dsimp only [encPr] at hy
          clear hw5
          gi_wp2
          refine ⟨(fun h => by cases h), hR.mono ?_⟩
          rintro e W' ⟨rfl, hJ', hkp⟩
          rw [← HW5.out] at hkp
          have HE := Lib.hid (HM4.out.back hn1 hn2 hst (v1' := (.slice (some ⟨bb, off, none⟩) 0 0)) (v2' := (.slice (some ⟨bc, ofc, none⟩) n2 c2)) (B := W.heap.size) (W5 := w5) HB1.out (by rw [HW5.out]; exact (HM4.out.k1.set_ 0 _)) (by rw [HW5.out]; exact (HM4.out.k2.far (fun h => HB12.out h.symm) _)) (by rw [HW5.out]; exact ((Below.refl _ _).setCell (p := ⟨b1, 0, none⟩) hn1 _)) (by rw [HW5.out]; simp) hkp)
          clear hR hy hkp e1 e2 q0 q1 q2 q3 q4 g1 g2 g3 t1 t2 t3
          gi_wp2
          gi_roundg ((xs : Vw).length + (y :: ys : Vw).length)
          case measure => have := HG.out; simp at this ⊢; omega
          case rel =>
            obtain ⟨k1, k2, k3, k4⟩ := HE.out
            exact ⟨xs, y :: ys, k + 1, _, _, _, _, _, _, rfl, HX.out.2.1, HX.out.2.2, k1, k2, (HT1.out.1 trivial).keep (fun p hp => k4 p hp), HO2.out.keep (fun p hp => k4 p hp), k3, hJ'⟩
        · have hc1' : 1 < c1 := by omega
          clear hc1
          obtain ⟨w5, hw5⟩ : ∃ w5, w5 = (wq.setCell ⟨b1, 0, none⟩ (.slice (some ⟨bb, off + 2, none⟩) (n1 - 1) (c1 - 1))) := ⟨_, rfl⟩
          have HW5 := Lib.hid hw5
          obtain ⟨fn, tmps, assign, body, hy, hR⟩ := HY.out k _ w5 (by rw [hw5]; exact (HJ'.out.box k _ b1 _ (.inl rfl) HJ4.out)) HX.out.1
          rw [hw5] at hy hR
          dsimp only [encPr] at hy
          clear hw5
          gi_wp2
          refine ⟨(fun h => by cases h), hR.mono ?_⟩
          rintro e W' ⟨rfl, hJ', hkp⟩
          rw [← HW5.out] at hkp
          have HE := Lib.hid (HM4.out.back hn1 hn2 hst (v1' := (.slice (some ⟨bb, off + 2, none⟩) (n1 - 1) (c1 - 1))) (v2' := (.slice (some ⟨bc, ofc, none⟩) n2 c2)) (B := W.heap.size) (W5 := w5) HB1.out (by rw [HW5.out]; exact (HM4.out.k1.set_ 0 _)) (by rw [HW5.out]; exact (HM4.out.k2.far (fun h => HB12.out h.symm) _)) (by rw [HW5.out]; exact ((Below.refl _ _).setCell (p := ⟨b1, 0, none⟩) hn1 _)) (by rw [HW5.out]; simp) hkp)
          clear hR hy hkp e1 e2 q0 q1 q2 q3 q4 g1 g2 g3 t1 t2 t3
          gi_wp2
          gi_roundg ((xs : Vw).length + (y :: ys : Vw).length)
          case measure => have := HG.out; simp at this ⊢; omega
          case rel =>
            obtain ⟨k1, k2, k3, k4⟩ := HE.out
            exact ⟨xs, y :: ys, k + 1, _, _, _, _, _, _, rfl, HX.out.2.1, HX.out.2.2, k1, k2, HT1.out.2.keep (fun p hp => k4 p hp), HO2.out.keep (fun p hp => k4 p hp), k3, hJ'⟩
      · have HX : Hid ((mrg a b)[k]? = some ⟨j, o, q, true, true⟩ ∧ mrg (xs) (ys) = (mrg a b).drop (k + 1) ∧ k + 1 ≤ (mrg a b).length) := by
          have h := HM.out
          have e : mrg (x :: xs) (y :: ys) = ⟨j, o, q, true, true⟩ :: mrg (xs) (ys) := by
            rw [mrg]
            rw [if_neg (by rw [← Hi.out, ← Hj.out]; omega), if_neg (by rw [← Hi.out, ← Hj.out]; omega), Hj.out, Ho.out, Hq.out]
          rw [e] at h
          refine ⟨?_, ?_, ?_⟩
          · have := congrArg (fun l => l[0]?) h
            simp only [List.getElem?_drop, Nat.add_zero] at this
            rw [← this]; rfl
          · have := congrArg List.tail h
            simpa [List.tail_drop] using this
          · have := congrArg List.length h
            rw [List.length_drop, List.length_cons] at this
            omega
        have hlss : decide (i < j) = false := decide_eq_false (by omega)
        have hlss2 : decide (j < i) = false := decide_eq_false (by omega)
        have hw1 : ∀ i o n u v, MW wr (wr.alloc (.cells #[i, o, n, u, v] 87)) b1 b2 (.slice (some ⟨bb, off, none⟩) n1 c1) (.slice (some ⟨bc, ofc, none⟩) n2 c2) i o n u v := MW.new h1 h2
        gi_wp2
        obtain ⟨w1, hw1'⟩ : ∃ w1, w1 = wr.alloc (.cells #[.int .i64 0, .int .i64 0, .int .i64 0, .bool false, .bool false] 87) := ⟨_, rfl⟩
        have m1 := hw1 (.int .i64 0) (.int .i64 0) (.int .i64 0) (.bool false) (.bool false)
        rw [← hw1'] at m1 ⊢
        clear hw1 hw1' c1_0 c2_0
        have f1 := (m1.old (p := ⟨bb, off, none⟩) hltbb).trans d11
        have f2 := (m1.old (p := ⟨bb, off + 1, none⟩) hltbb).trans d12
        have f3 := (m1.old (p := ⟨bc, ofc, none⟩) hltbc).trans d21
        have f4 := (m1.old (p := ⟨bc, ofc + 1, none⟩) hltbc).trans d22
        obtain ⟨e1, e2, q0, q1, q2, q3, q4, g1, g2, g3, t1, t2, t3⟩ := m1.facts
        have HM1 := Lib.hid m1
        clear m1
        refine wpIn_wide.2 ?_
        go_quiet (fail)
        gi_wp2
        clear f1 f2 f3 f4 e1 e2 q0 q1 q2 q3 q4 g1 g2 g3 t1 t2 t3
        obtain ⟨w2, hw2⟩ : ∃ w2, w2 = w1.drewN nq := ⟨_, rfl⟩
        have m2 := HM1.out.drewN nq
        rw [← hw2] at m2 ⊢
        clear hw2 HM1
        have f1 := (m2.old (p := ⟨bb, off, none⟩) hltbb).trans d11
        have f2 := (m2.old (p := ⟨bb, off + 1, none⟩) hltbb).trans d12
        have f3 := (m2.old (p := ⟨bc, ofc, none⟩) hltbc).trans d21
        have f4 := (m2.old (p := ⟨bc, ofc + 1, none⟩) hltbc).trans d22
        obtain ⟨e1, e2, q0, q1, q2, q3, q4, g1, g2, g3, t1, t2, t3⟩ := m2.facts
        have HM2 := Lib.hid m2
        clear m2
        refine wpIn_wide.2 ?_
        go_quiet (fail)
        gi_wp2
        clear f1 f2 f3 f4 e1 e2 q0 q1 q2 q3 q4 g1 g2 g3 t1 t2 t3
        obtain ⟨w3, hw3⟩ : ∃ w3, w3 = w2.drewN nq := ⟨_, rfl⟩
        have m3 := HM2.out.drewN nq
        rw [← hw3] at m3 ⊢
        clear hw3 HM2
        have f1 := (m3.old (p := ⟨bb, off, none⟩) hltbb).trans d11
        have f2 := (m3.old (p := ⟨bb, off + 1, none⟩) hltbb).trans d12
        have f3 := (m3.old (p := ⟨bc, ofc, none⟩) hltbc).trans d21
        have f4 := (m3.old (p := ⟨bc, ofc + 1, none⟩) hltbc).trans d22
        obtain ⟨e1, e2, q0, q1, q2, q3, q4, g1, g2, g3, t1, t2, t3⟩ := m3.facts
        have HM3 := Lib.hid m3
        clear m3
        refine wpIn_wide.2 ?_
        go_still_tail 13, (by kernel_rfl)
        change wpList _ _ _ _ _ (World.drewN w3 1)
        clear f1 f2 f3 f4 e1 e2 q0 q1 q2 q3 q4 g1 g2 g3 t1 t2 t3
        have m4 := HM3.out.drewN 1
        obtain ⟨w4, hw4⟩ : ∃ w4, w4 = w3.drewN 1 := ⟨_, rfl⟩
        rw [← hw4] at m4 ⊢
        clear hw4 HM3
        have f1 := (m4.old (p := ⟨bb, off, none⟩) hltbb).trans d11
        have f2 := (m4.old (p := ⟨bb, off + 1, none⟩) hltbb).trans d12
        have f3 := (m4.old (p := ⟨bc, ofc, none⟩) hltbc).trans d21
        have f4 := (m4.old (p := ⟨bc, ofc + 1, none⟩) hltbc).trans d22
        obtain ⟨e1, e2, q0, q1, q2, q3, q4, g1, g2, g3, t1, t2, t3⟩ := m4.facts
        have HM4 := Lib.hid m4
        clear m4
        go_wp2
        have m4 := HM4.out.set5 (.int .i64 j) (.int .i64 o) (.int .i64 q) (.bool true) (.bool true)
        obtain ⟨wq, hwq⟩ : ∃ wq, wq = (((((w4.setCell ⟨wr.heap.size, 0, none⟩ (.int .i64 j)).setCell ⟨wr.heap.size, 1, none⟩ (.int .i64 o)).setCell ⟨wr.heap.size, 2, none⟩ (.int .i64 q)).setCell ⟨wr.heap.size, 3, none⟩ (.bool true)).setCell ⟨wr.heap.size, 4, none⟩ (.bool true)) := ⟨_, rfl⟩
        rw [← hwq] at m4 ⊢
        clear f1 f2 f3 f4 e1 e2 q0 q1 q2 q3 q4 g1 g2 g3 t1 t2 t3
        clear hwq HM4
        have f1 := (m4.old (p := ⟨bb, off, none⟩) hltbb).trans d11
        have f2 := (m4.old (p := ⟨bb, off + 1, none⟩) hltbb).trans d12
        have f3 := (m4.old (p := ⟨bc, ofc, none⟩) hltbc).trans d21
        have f4 := (m4.old (p := ⟨bc, ofc + 1, none⟩) hltbc).trans d22
        obtain ⟨e1, e2, q0, q1, q2, q3, q4, g1, g2, g3, t1, t2, t3⟩ := m4.facts
        have hJ4 : J k wq := hJ.grow k _ _ none hJk m4.gr (fun r h => by cases h)
        have HM4 := Lib.hid m4
        have HJ4 := Lib.hid hJ4
        have HJ' := Lib.hid hJ
        clear m4 hJ4 hJk hJ
        by_cases hc1 : c1 = 1
        · have hn1' : n1 = 1 := by omega
          subst hn1' hc1
          by_cases hc2 : c2 = 1
          · have hn2' : n2 = 1 := by omega
            subst hn2' hc2
            have hbn := HB12.out
            have hbn' := hbn.symm
            gi_wp2
            refine wpIn_wide.2 ?_
            go_region
            obtain ⟨w5, hw5⟩ : ∃ w5, w5 = ((wq.setCell ⟨b1, 0, none⟩ (.slice (some ⟨bb, off, none⟩) 0 0)).setCell ⟨b2, 0, none⟩ (.slice (some ⟨bc, ofc, none⟩) 0 0)).drew := ⟨_, rfl⟩
            have HW5 := Lib.hid hw5
            obtain ⟨fn, tmps, assign, body, hy, hR⟩ := HY.out k _ w5 (by rw [hw5]; exact (HJ'.out.grow k _ _ none (HJ'.out.box k _ b2 _ (.inr rfl) (HJ'.out.box k _ b1 _ (.inl rfl) HJ4.out)) (grownBy_drewN (World.grownBy.refl _ none) 1) (fun r h => by cases h))) HX.out.1
            rw [hw5] at hy hR
            dsimp only [encPr] at hy
            clear hw5
            gi_wp2
            refine ⟨(fun h => by cases h), hR.mono ?_⟩
            rintro e W' ⟨rfl, hJ', hkp⟩
            rw [← HW5.out] at hkp
            have HE := Lib.hid (HM4.out.back hn1 hn2 hst (v1' := (.slice (some ⟨bb, off, none⟩) 0 0)) (v2' := (.slice (some ⟨bc, ofc, none⟩) 0 0)) (B := W.heap.size) (W5 := w5) HB1.out (by rw [HW5.out]; exact (((HM4.out.k1.set_ 0 _).far HB12.out _).drewN 1)) (by rw [HW5.out]; exact (((HM4.out.k2.far (fun h => HB12.out h.symm) _).set_ 0 _).drewN 1)) (by rw [HW5.out]; exact (below_drewN (((Below.refl _ _).setCell (p := ⟨b1, 0, none⟩) hn1 _).setCell (p := ⟨b2, 0, none⟩) hn2 _) 1)) (by rw [HW5.out]; simp) hkp)
            clear hR hy hkp e1 e2 q0 q1 q2 q3 q4 g1 g2 g3 t1 t2 t3
            gi_wp2
            gi_roundg ((xs : Vw).length + (ys : Vw).length)
            case measure => have := HG.out; simp at this ⊢; omega
            case rel =>
              obtain ⟨k1, k2, k3, k4⟩ := HE.out
              exact ⟨xs, ys, k + 1, _, _, _, _, _, _, rfl, HX.out.2.1, HX.out.2.2, k1, k2, (HT1.out.1 trivial).keep (fun p hp => k4 p hp), (HT2.out.1 trivial).keep (fun p hp => k4 p hp), k3, hJ'⟩
          · have hc2' : 1 < c2 := by omega
            clear hc2
            have hbn := HB12.out
            have hbn' := hbn.symm
            gi_wp2
            refine wpIn_wide.2 ?_
            go_region
            obtain ⟨w5, hw5⟩ : ∃ w5, w5 = ((wq.setCell ⟨b1, 0, none⟩ (.slice (some ⟨bb, off, none⟩) 0 0)).setCell ⟨b2, 0, none⟩ (.slice (some ⟨bc, ofc + 2, none⟩) (n2 - 1) (c2 - 1))).drew := ⟨_, rfl⟩
            have HW5 := Lib.hid hw5
            obtain ⟨fn, tmps, assign, body, hy, hR⟩ := HY.out k _ w5 (by rw [hw5]; exact (HJ'.out.grow k _ _ none (HJ'.out.box k _ b2 _ (.inr rfl) (HJ'.out.box k _ b1 _ (.inl rfl) HJ4.out)) (grownBy_drewN (World.grownBy.refl _ none) 1) (fun r h => by cases h))) HX.out.1
            rw [hw5] at hy hR
            dsimp only [encPr] at hy
            clear hw5
            gi_wp2
            refine ⟨(fun h => by cases h), hR.mono ?_⟩
            rintro e W' ⟨rfl, hJ', hkp⟩
            rw [← HW5.out] at hkp
            have HE := Lib.hid (HM4.out.back hn1 hn2 hst (v1' := (.slice (some ⟨bb, off, none⟩) 0 0)) (v2' := (.slice (some ⟨bc, ofc + 2, none⟩) (n2 - 1) (c2 - 1))) (B := W.heap.size) (W5 := w5) HB1.out (by rw [HW5.out]; exact (((HM4.out.k1.set_ 0 _).far HB12.out _).drewN 1)) (by rw [HW5.out]; exact (((HM4.out.k2.far (fun h => HB12.out h.symm) _).set_ 0 _).drewN 1)) (by rw [HW5.out]; exact (below_drewN (((Below.refl _ _).setCell (p := ⟨b1, 0, none⟩) hn1 _).setCell (p := ⟨b2, 0, none⟩) hn2 _) 1)) (by rw [HW5.out]; simp) hkp)
            clear hR hy hkp e1 e2 q0 q1 q2 q3 q4 g1 g2 g3 t1 t2 t3
            gi_wp2
            gi_roundg ((xs : Vw).length + (ys : Vw).length)
            case measure => have := HG.out; simp at this ⊢; omega
            case rel =>
              obtain ⟨k1, k2, k3, k4⟩ := HE.out
              exact ⟨xs, ys, k + 1, _, _, _, _, _, _, rfl, HX.out.2.1, HX.out.2.2, k1, k2, (HT1.out.1 trivial).keep (fun p hp => k4 p hp), HT2.out.2.keep (fun p hp => k4 p hp), k3, hJ'⟩
        · have hc1' : 1 < c1 := by omega
          clear hc1
          by_cases hc2 : c2 = 1
          · have hn2' : n2 = 1 := by omega
            subst hn2' hc2
            have hbn := HB12.out
            have hbn' := hbn.symm
            gi_wp2
            refine wpIn_wide.2 ?_
            go_region
            obtain ⟨w5, hw5⟩ : ∃ w5, w5 = ((wq.setCell ⟨b1, 0, none⟩ (.slice (some ⟨bb, off + 2, none⟩) (n1 - 1) (c1 - 1))).setCell ⟨b2, 0, none⟩ (.slice (some ⟨bc, ofc, none⟩) 0 0)).drew := ⟨_, rfl⟩
            have HW5 := Lib.hid hw5
            obtain ⟨fn, tmps, assign, body, hy, hR⟩ := HY.out k _ w5 (by rw [hw5]; exact (HJ'.out.grow k _ _ none (HJ'.out.box k _ b2 _ (.inr rfl) (HJ'.out.box k _ b1 _ (.inl rfl) HJ4.out)) (grownBy_drewN (World.grownBy.refl _ none) 1) (fun r h => by cases h))) HX.out.1
            rw [hw5] at hy hR
            dsimp only [encPr] at hy
            clear hw5
            gi_wp2
            refine ⟨(fun h => by cases h), hR.mono ?_⟩
            rintro e W' ⟨rfl, hJ', hkp⟩
            rw [← HW5.out] at hkp
            have HE := Lib.hid (HM4.out.back hn1 hn2 hst (v1' := (.slice (some ⟨bb, off + 2, none⟩) (n1 - 1) (c1 - 1))) (v2' := (.slice (some ⟨bc, ofc, none⟩) 0 0)) (B := W.heap.size) (W5 := w5) HB1.out (by rw [HW5.out]; exact (((HM4.out.k1.set_ 0 _).far HB12.out _).drewN 1)) (by rw [HW5.out]; exact (((HM4.out.k2.far (fun h => HB12.out h.symm) _).set_ 0 _).drewN 1)) (by rw [HW5.out]; exact (below_drewN (((Below.refl _ _).setCell (p := ⟨b1, 0, none⟩) hn1 _).setCell (p := ⟨b2, 0, none⟩) hn2 _) 1)) (by rw [HW5.out]; simp) hkp)
            clear hR hy hkp e1 e2 q0 q1 q2 q3 q4 g1 g2 g3 t1 t2 t3
            gi_wp2
            gi_roundg ((xs : Vw).length + (ys : Vw).length)
            case measure => have := HG.out; simp at this ⊢; omega
            case rel =>
              obtain ⟨k1, k2, k3, k4⟩ := HE.out
              exact ⟨xs, ys, k + 1, _, _, _, _, _, _, rfl, HX.out.2.1, HX.out.2.2, k1, k2, HT1.out.2.keep (fun p hp => k4 p hp), (HT2.out.1 trivial).keep (fun p hp => k4 p hp), k3, hJ'⟩
          · have hc2' : 1 < c2 := by omega
            clear hc2
            have hbn := HB12.out
            have hbn' := hbn.symm
            gi_wp2
            refine wpIn_wide.2 ?_
            go_region
            obtain ⟨w5, hw5⟩ : ∃ w5, w5 = ((wq.setCell ⟨b1, 0, none⟩ (.slice (some ⟨bb, off + 2, none⟩) (n1 - 1) (c1 - 1))).setCell ⟨b2, 0, none⟩ (.slice (some ⟨bc, ofc + 2, none⟩) (n2 - 1) (c2 - 1))).drew := ⟨_, rfl⟩
            have HW5 := Lib.hid hw5
            obtain ⟨fn, tmps, assign, body, hy, hR⟩ := HY.out k _ w5 (by rw [hw5]; exact (HJ'.out.grow k _ _ none (HJ'.out.box k _ b2 _ (.inr rfl) (HJ'.out.box k _ b1 _ (.inl rfl) HJ4.out)) (grownBy_drewN (World.grownBy.refl _ none) 1) (fun r h => by cases h))) HX.out.1
            rw [hw5] at hy hR
            dsimp only [encPr] at hy
            clear hw5
            gi_wp2
            refine ⟨(fun h => by cases h), hR.mono ?_⟩
            rintro e W' ⟨rfl, hJ', hkp⟩
            rw [← HW5.out] at hkp
            have HE := Lib.hid (HM4.out.back hn1 hn2 hst (v1' := (.slice (some ⟨bb, off + 2, none⟩) (n1 - 1) (c1 - 1))) (v2' := (.slice (some ⟨bc, ofc + 2, none⟩) (n2 - 1) (c2 - 1))) (B := W.heap.size) (W5 := w5) HB1.out (by rw [HW5.out]; exact (((HM4.out.k1.set_ 0 _).far HB12.out _).drewN 1)) (by rw [HW5.out]; exact (((HM4.out.k2.far (fun h => HB12.out h.symm) _).set_ 0 _).drewN 1)) (by rw [HW5.out]; exact (below_drewN (((Below.refl _ _).setCell (p := ⟨b1, 0, none⟩) hn1 _).setCell (p := ⟨b2, 0, none⟩) hn2 _) 1)) (by rw [HW5.out]; simp) hkp)
            clear hR hy hkp e1 e2 q0 q1 q2 q3 q4 g1 g2 g3 t1 t2 t3
            gi_wp2
            gi_roundg ((xs : Vw).length + (ys : Vw).length)
            case measure => have := HG.out; simp at this ⊢; omega
            case rel =>
              obtain ⟨k1, k2, k3, k4⟩ := HE.out
              exact ⟨xs, ys, k + 1, _, _, _, _, _, _, rfl, HX.out.2.1, HX.out.2.2, k1, k2, HT1.out.2.keep (fun p hp => k4 p hp), HT2.out.2.keep (fun p hp => k4 p hp), k3, hJ'⟩
      · have HX : Hid ((mrg a b)[k]? = some ⟨j, 0, q, false, true⟩ ∧ mrg (x :: xs) (ys) = (mrg a b).drop (k + 1) ∧ k + 1 ≤ (mrg a b).length) := by
          have h := HM.out
          have e : mrg (x :: xs) (y :: ys) = ⟨j, 0, q, false, true⟩ :: mrg (x :: xs) (ys) := by
            rw [mrg]
            rw [if_neg (by rw [← Hi.out, ← Hj.out]; omega), if_pos (by rw [← Hi.out, ← Hj.out]; exact hij), Hj.out, Hq.out]
          rw [e] at h
          refine ⟨?_, ?_, ?_⟩
          · have := congrArg (fun l => l[0]?) h
            simp only [List.getElem?_drop, Nat.add_zero] at this
            rw [← this]; rfl
          · have := congrArg List.tail h
            simpa [List.tail_drop] using this
          · have := congrArg List.length h
            rw [List.length_drop, List.length_cons] at this
            omega
        have hlss : decide (i < j) = false := decide_eq_false (by omega)
        have hlss2 : decide (j < i) = true := decide_eq_true hij
        have hw1 : ∀ i o n u v, MW wr (wr.alloc (.cells #[i, o, n, u, v] 87)) b1 b2 (.slice (some ⟨bb, off, none⟩) n1 c1) (.slice (some ⟨bc, ofc, none⟩) n2 c2) i o n u v := MW.new h1 h2
        gi_wp2
        obtain ⟨w1, hw1'⟩ : ∃ w1, w1 = wr.alloc (.cells #[.int .i64 0, .int .i64 0, .int .i64 0, .bool false, .bool false] 87) := ⟨_, rfl⟩
        have m1 := hw1 (.int .i64 0) (.int .i64 0) (.int .i64 0) (.bool false) (.bool false)
        rw [← hw1'] at m1 ⊢
        clear hw1 hw1' c1_0 c2_0
        have f1 := (m1.old (p := ⟨bb, off, none⟩) hltbb).trans d11
        have f2 := (m1.old (p := ⟨bb, off + 1, none⟩) hltbb).trans d12
        have f3 := (m1.old (p := ⟨bc, ofc, none⟩) hltbc).trans d21
        have f4 := (m1.old (p := ⟨bc, ofc + 1, none⟩) hltbc).trans d22
        obtain ⟨e1, e2, q0, q1, q2, q3, q4, g1, g2, g3, t1, t2, t3⟩ := m1.facts
        have HM1 := Lib.hid m1
        clear m1
        refine wpIn_wide.2 ?_
        go_quiet (fail)
        gi_wp2
        clear f1 f2 f3 f4 e1 e2 q0 q1 q2 q3 q4 g1 g2 g3 t1 t2 t3
        obtain ⟨w2, hw2⟩ : ∃ w2, w2 = w1.drewN nq := ⟨_, rfl⟩
        have m2 := HM1.out.drewN nq
        rw [← hw2] at m2 ⊢
        clear hw2 HM1
        have f1 := (m2.old (p := ⟨bb, off, none⟩) hltbb).trans d11
        have f2 := (m2.old (p := ⟨bb, off + 1, none⟩) hltbb).trans d12
        have f3 := (m2.old (p := ⟨bc, ofc, none⟩) hltbc).trans d21
        have f4 := (m2.old (p := ⟨bc, ofc + 1, none⟩) hltbc).trans d22
        obtain ⟨e1, e2, q0, q1, q2, q3, q4, g1, g2, g3, t1, t2, t3⟩ := m2.facts
        have HM2 := Lib.hid m2
        clear m2
        refine wpIn_wide.2 ?_
        go_quiet (fail)
        gi_wp2
        clear f1 f2 f3 f4 e1 e2 q0 q1 q2 q3 q4 g1 g2 g3 t1 t2 t3
        obtain ⟨w3, hw3⟩ : ∃ w3, w3 = w2.drewN nq := ⟨_, rfl⟩
        have m3 := HM2.out.drewN nq
        rw [← hw3] at m3 ⊢
        clear hw3 HM2
        have f1 := (m3.old (p := ⟨bb, off, none⟩) hltbb).trans d11
        have f2 := (m3.old (p := ⟨bb, off + 1, none⟩) hltbb).trans d12
        have f3 := (m3.old (p := ⟨bc, ofc, none⟩) hltbc).trans d21
        have f4 := (m3.old (p := ⟨bc, ofc + 1, none⟩) hltbc).trans d22
        obtain ⟨e1, e2, q0, q1, q2, q3, q4, g1, g2, g3, t1, t2, t3⟩ := m3.facts
        have HM3 := Lib.hid m3
        clear m3
        refine wpIn_wide.2 ?_
        go_still_tail 9, (by kernel_rfl)
        change wpList _ _ _ _ _ (World.drewN w3 1)
        clear f1 f2 f3 f4 e1 e2 q0 q1 q2 q3 q4 g1 g2 g3 t1 t2 t3
        have m4 := HM3.out.drewN 1
        obtain ⟨w4, hw4⟩ : ∃ w4, w4 = w3.drewN 1 := ⟨_, rfl⟩
        rw [← hw4] at m4 ⊢
        clear hw4 HM3
        have f1 := (m4.old (p := ⟨bb, off, none⟩) hltbb).trans d11
        have f2 := (m4.old (p := ⟨bb, off + 1, none⟩) hltbb).trans d12
        have f3 := (m4.old (p := ⟨bc, ofc, none⟩) hltbc).trans d21
        have f4 := (m4.old (p := ⟨bc, ofc + 1, none⟩) hltbc).trans d22
        obtain ⟨e1, e2, q0, q1, q2, q3, q4, g1, g2, g3, t1, t2, t3⟩ := m4.facts
        have HM4 := Lib.hid m4
        clear m4
        go_wp2
        have m4 := HM4.out.set5 (.int .i64 j) (.int .i64 0) (.int .i64 q) (.bool false) (.bool true)
        obtain ⟨wq, hwq⟩ : ∃ wq, wq = (((((w4.setCell ⟨wr.heap.size, 0, none⟩ (.int .i64 j)).setCell ⟨wr.heap.size, 1, none⟩ (.int .i64 0)).setCell ⟨wr.heap.size, 2, none⟩ (.int .i64 q)).setCell ⟨wr.heap.size, 3, none⟩ (.bool false)).setCell ⟨wr.heap.size, 4, none⟩ (.bool true)) := ⟨_, rfl⟩
        rw [← hwq] at m4 ⊢
        clear f1 f2 f3 f4 e1 e2 q0 q1 q2 q3 q4 g1 g2 g3 t1 t2 t3
        clear hwq HM4
        have f1 := (m4.old (p := ⟨bb, off, none⟩) hltbb).trans d11
        have f2 := (m4.old (p := ⟨bb, off + 1, none⟩) hltbb).trans d12
        have f3 := (m4.old (p := ⟨bc, ofc, none⟩) hltbc).trans d21
        have f4 := (m4.old (p := ⟨bc, ofc + 1, none⟩) hltbc).trans d22
        obtain ⟨e1, e2, q0, q1, q2, q3, q4, g1, g2, g3, t1, t2, t3⟩ := m4.facts
        have hJ4 : J k wq := hJ.grow k _ _ none hJk m4.gr (fun r h => by cases h)
        have HM4 := Lib.hid m4
        have HJ4 := Lib.hid hJ4
        have HJ' := Lib.hid hJ
        clear m4 hJ4 hJk hJ
        by_cases hc2 : c2 = 1
        · have hn2' : n2 = 1 := by omega
          subst hn2' hc2
          obtain ⟨w5, hw5⟩ : ∃ w5, w5 = (wq.setCell ⟨b2, 0, none⟩ (.slice (some ⟨bc, ofc, none⟩) 0 0)) := ⟨_, rfl⟩
          have HW5 := Lib.hid hw5
          obtain ⟨fn, tmps, assign, body, hy, hR⟩ := HY.out k _ w5 (by rw [hw5]; exact (HJ'.out.box k _ b2 _ (.inr rfl) HJ4.out)) HX.out.1
          rw [hw5] at hy hR
          dsimp only [encPr] at hy
          clear hw5
          gi_wp2
          refine ⟨(fun h => by cases h), hR.mono ?_⟩
          rintro e W' ⟨rfl, hJ', hkp⟩
          rw [← HW5.out] at hkp
          have HE := Lib.hid (HM4.out.back hn1 hn2 hst (v1' := (.slice (some ⟨bb, off, none⟩) n1 c1)) (v2' := (.slice (some ⟨bc, ofc, none⟩) 0 0)) (B := W.heap.size) (W5 := w5) HB1.out (by rw [HW5.out]; exact (HM4.out.k1.far HB12.out _)) (by rw [HW5.out]; exact (HM4.out.k2.set_ 0 _)) (by rw [HW5.out]; exact ((Below.refl _ _).setCell (p := ⟨b2, 0, none⟩) hn2 _)) (by rw [HW5.out]; simp) hkp)
          clear hR hy hkp e1 e2 q0 q1 q2 q3 q4 g1 g2 g3 t1 t2 t3
          gi_wp2
          gi_roundg ((x :: xs : Vw).length + (ys : Vw).length)
          case measure => have := HG.out; simp at this ⊢; omega
          case rel =>
            obtain ⟨k1, k2, k3, k4⟩ := HE.out
            exact ⟨x :: xs, ys, k + 1, _, _, _, _, _, _, rfl, HX.out.2.1, HX.out.2.2, k1, k2, HO1.out.keep (fun p hp => k4 p hp), (HT2.out.1 trivial).keep (fun p hp => k4 p hp), k3, hJ'⟩
        · have hc2' : 1 < c2 := by omega
          clear hc2
          obtain ⟨w5, hw5⟩ : ∃ w5, w5 = (wq.setCell ⟨b2, 0, none⟩ (.slice (some ⟨bc, ofc + 2, none⟩) (n2 - 1) (c2 - 1))) := ⟨_, rfl⟩
          have HW5 := Lib.hid hw5
          obtain ⟨fn, tmps, assign, body, hy, hR⟩ := HY.out k _ w5 (by rw [hw5]; exact (HJ'.out.box k _ b2 _ (.inr rfl) HJ4.out)) HX.out.1
          rw [hw5] at hy hR
          dsimp only [encPr] at hy
          clear hw5
          gi_wp2
          refine ⟨(fun h => by cases h), hR.mono ?_⟩
          rintro e W' ⟨rfl, hJ', hkp⟩
          rw [← HW5.out] at hkp
          have HE := Lib.hid (HM4.out.back hn1 hn2 hst (v1' := (.slice (some ⟨bb, off, none⟩) n1 c1)) (v2' := (.slice (some ⟨bc, ofc + 2, none⟩) (n2 - 1) (c2 - 1))) (B := W.heap.size) (W5 := w5) HB1.out (by rw [HW5.out]; exact (HM4.out.k1.far HB12.out _)) (by rw [HW5.out]; exact (HM4.out.k2.set_ 0 _)) (by rw [HW5.out]; exact ((Below.refl _ _).setCell (p := ⟨b2, 0, none⟩) hn2 _)) (by rw [HW5.out]; simp) hkp)
          clear hR hy hkp e1 e2 q0 q1 q2 q3 q4 g1 g2 g3 t1 t2 t3
          gi_wp2
          gi_roundg ((x :: xs : Vw).length + (ys : Vw).length)
          case measure => have := HG.out; simp at this ⊢; omega
          case rel =>
            obtain ⟨k1, k2, k3, k4⟩ := HE.out
            exact ⟨x :: xs, ys, k + 1, _, _, _, _, _, _, rfl, HX.out.2.1, HX.out.2.2, k1, k2, HO1.out.keep (fun p hp => k4 p hp), HT2.out.2.keep (fun p hp => k4 p hp), k3, hJ'⟩
end Go.Proofs.Ytcniepogobgaoaa
