/-
  Package arenanetref27: Room, connected; positions of bodies.
-/
import Derived.Test.YtfnoeolngdhjfaaVis3
import Derived.Test.YtfnoeolngdhjfaaSet6
import Derived.StillTailTactics
namespace Go.Proofs.Ytfnoeolngdhjfaa
set_option linter.unusedVariables false
set_option linter.unusedSimpArgs false
set_option maxRecDepth 4000
open Go.RowKit

set_option maxHeartbeats 2000000 in
theorem rroom_any (cs : Array Value) (s : Su) (m : SuM) (B : Nat) (x y : Int) (w : World) (hcs : cs = suVals s m) (hnr : m.nr = 3) (hr : RdRooms w B m.Ar) (hB : B ≤ w.heap.size) :
    Calls Try.prog 74 #[.agg cs, .agg #[.int .i64 x, .int .i64 y]] w fun e w' => e = .returned (.int .i64 (roomFrom 0 x y)) ∧ Below w.heap.size w w' := by
  have hc6 := su_c6 hcs
  obtain ⟨b, hA, hbB, hc⟩ := hr.at
  rw [hA, hnr] at hc6
  have HC := Lib.hid hc
  have HBS0 := Lib.hid ((Blk.new w 49 cs).alloc (.cells #[.int .i64 x, .int .i64 y] 47))
  have HBV0 : Hid (Blk ((w.alloc (.cells cs 49)).alloc (.cells #[.int .i64 x, .int .i64 y] 47)) (w.heap.size + 1) 47 #[.int .i64 x, .int .i64 y]) := by
    have h := Blk.new (w.alloc (.cells cs 49)) 47 #[.int .i64 x, .int .i64 y]
    rw [World.size_alloc] at h
    exact h
  have HB0 : Hid (Below w.heap.size w ((w.alloc (.cells cs 49)).alloc (.cells #[.int .i64 x, .int .i64 y] 47))) := ((Below.refl _ _).alloc (Nat.le_refl _) _).alloc (by simp) _
  clear hc hr hA hnr hcs
  go_enter Try.func74, Try.ntmps74
  go_wp2
  go_loopw [5] (fun i wr => ∃ k : Nat, k ≤ 3 ∧ i = .int .i64 (k : Int) ∧ Hid (roomFrom 0 x y = roomFrom k x y) ∧ Below w.heap.size w wr ∧ Hid (Blk wr w.heap.size 49 cs) ∧ Hid (Blk wr (w.heap.size + 1) 47 #[.int .i64 x, .int .i64 y]))  (fun i _ => 3 - (intOf i).toNat)
  case atStart => exact ⟨0, by omega, rfl, Lib.hid rfl, HB0.out, HBS0, HBV0⟩
  case round =>
    obtain ⟨k, hk, rfl, HR, hb, HB, HBV⟩ := hrel
    have p0 : wr.cell? ⟨w.heap.size + 1, 0, none⟩ = some (.int .i64 x) := HBV.out.cell 0
    have p1 : wr.cell? ⟨w.heap.size + 1, 1, none⟩ = some (.int .i64 y) := HBV.out.cell 1
    have p2 : wr.cell? ⟨w.heap.size, 6, none⟩ = some (.slice (some ⟨b, 0, none⟩) 3 m.cr) := (HB.out.cell 6).trans hc6
    by_cases hlt : k < 3
    · obtain ⟨q0, q1, q2, q3⟩ := HC.out k hlt
      have c0 := (hb.cell (p := ⟨b, k * 4, none⟩) (by show b < _; omega)).trans q0
      have c1 := (hb.cell (p := ⟨b, k * 4 + 1, none⟩) (by show b < _; omega)).trans q1
      have c2 := (hb.cell (p := ⟨b, k * 4 + 2, none⟩) (by show b < _; omega)).trans q2
      have c3 := (hb.cell (p := ⟨b, k * 4 + 3, none⟩) (by show b < _; omega)).trans q3
      obtain ⟨x0, hx0⟩ : ∃ z, z = rx0 k := ⟨_, rfl⟩
      obtain ⟨y0, hy0⟩ : ∃ z, z = ry0 k := ⟨_, rfl⟩
      obtain ⟨x1, hx1⟩ : ∃ z, z = rx1 k := ⟨_, rfl⟩
      obtain ⟨y1, hy1⟩ : ∃ z, z = ry1 k := ⟨_, rfl⟩
      rw [← hx0] at c0
      rw [← hy0] at c1
      rw [← hx1] at c2
      rw [← hy1] at c3
      have hin : inRoom k x y = inBox x0 y0 x1 y1 x y := by unfold inRoom; rw [hx0, hy0, hx1, hy1]
      have HIN := Lib.hid hin
      have HN := Lib.hid (hb.alloc hb.size (.cells #[.int .i64 x0, .int .i64 y0, .int .i64 x1, .int .i64 y1] 43))
      clear q0 q1 q2 q3 hx0 hy0 hx1 hy1 hin
      have hz : w.heap.size + 1 < wr.heap.size := HBV.out.lt
      by_cases hin : inBox x0 y0 x1 y1 x y = true
      · have HF := Lib.hid (HR.out.trans (roomFrom_hit hlt (HIN.out.trans hin)))
        have h4 : x0 ≤ x ∧ x ≤ x1 ∧ y0 ≤ y ∧ y ≤ y1 := by unfold inBox at hin; simpa using hin
        obtain ⟨g1, g2, g3, g4⟩ := h4
        clear hin HIN
        go_wp2
        go_ret
        exact ⟨ret_int HF.out.symm, hb.alloc hb.size _⟩
      · have hin' : inBox x0 y0 x1 y1 x y = false := by simpa using hin
        have HF := Lib.hid (HR.out.trans (roomFrom_miss hlt (HIN.out.trans hin')))
        have HX : Hid (¬ (x0 ≤ x ∧ x ≤ x1 ∧ y0 ≤ y ∧ y ≤ y1)) := by intro h; apply hin; unfold inBox; simpa using h
        clear hin hin' HIN
        go_wp2
        all_goals first
          | (go_roundw
             case rel => exact ⟨k + 1, by omega, by go_num, HF, hb.alloc hb.size _, Lib.hid (HB.out.alloc _), Lib.hid (HBV.out.alloc _)⟩
             case measure => simp [intOf]; omega)
          | (exact absurd ⟨by assumption, by assumption, by assumption, by assumption⟩ HX.out)
    · have hk3 : k = 3 := by omega
      have HF : Hid (roomFrom 0 x y = -1) := by
        have := HR.out
        rw [hk3, roomFrom_end] at this
        exact Lib.hid this
      clear HR
      have hd : decide ((k : Int) < 3) = false := decide_eq_false (by omega)
      clear hk3 hlt
      go_wp2
      go_ret
      exact ⟨ret_int HF.out.symm, hb⟩

def doorM (a b : Int) (d : Int × Int) : Bool := decide (d.1 = a) && decide (d.2 = b) || decide (d.1 = b) && decide (d.2 = a)
theorem connD_hit {ds : List (Int × Int)} {a b : Int} {d : Int × Int} (hd : d ∈ ds) (h : doorM a b d = true) : connD ds a b = true := by
  unfold connD
  rw [Bool.or_eq_true]
  exact .inl (List.any_eq_true.2 ⟨d, hd, h⟩)
theorem connD_miss {ds : List (Int × Int)} {a b : Int} (h : ds.any (doorM a b) = false) : connD ds a b = decide (a = b) := by
  have : (ds.any fun d => decide (d.1 = a) && decide (d.2 = b) || decide (d.1 = b) && decide (d.2 = a)) = false := h
  unfold connD
  rw [this, Bool.false_or]
set_option maxHeartbeats 2000000 in
theorem rconn_any (cs : Array Value) (s : Su) (m : SuM) (B : Nat) (x y : Int) (ds : List (Int × Int)) (w : World) (hcs : cs = suVals s m) (hr : RdP w B m.Ad ds) (hn : ds.length = m.nd) (hnn : m.nd ≤ 100) (hB : B ≤ w.heap.size) :
    Calls Try.prog 77 #[.agg cs, .int .i64 x, .int .i64 y] w fun e w' => e = .returned (.bool (connD ds x y)) ∧ Below w.heap.size w w' := by
  have hc7 := su_c7 hcs
  rw [← hn] at hc7 hnn
  obtain ⟨Ad, hAd⟩ : ∃ A, A = m.Ad := ⟨_, rfl⟩
  rw [← hAd] at hr hc7
  have HC := Lib.hid hr
  have HB0 : Hid (Below w.heap.size w (w.alloc (.cells cs 49))) := (Below.refl _ _).alloc (Nat.le_refl _) _
  have HBS0 := Lib.hid (Blk.new w 49 cs)
  clear hr hAd hn hcs
  go_enter Try.func77, Try.ntmps77
  go_wp2
  go_loopw [7] (fun i wr => ∃ k : Nat, k ≤ ds.length ∧ i = .int .i64 (k : Int) ∧ Hid ((ds.take k).any (doorM x y) = false) ∧ wr = w.alloc (.cells cs 49)) (fun i _ => ds.length - (intOf i).toNat)
  case atStart => exact ⟨0, by omega, rfl, Lib.hid rfl, rfl⟩
  case round =>
    obtain ⟨k, hk, rfl, HM, rfl⟩ := hrel
    by_cases hlt : k < ds.length
    · obtain ⟨b, off, rfl, hbb, hc⟩ := HC.out (by omega)
      obtain ⟨q0, q1⟩ := hc k hlt
      have c0 := (HB0.out.cell (p := ⟨b, off + k * 2, none⟩) (by show b < _; omega)).trans q0
      have c1 := (HB0.out.cell (p := ⟨b, off + k * 2 + 1, none⟩) (by show b < _; omega)).trans q1
      have hmem := pair_mem hlt
      have hsn := take_snoc_pair hlt
      obtain ⟨d1, hd1⟩ : ∃ z, z = ea ds k := ⟨_, rfl⟩
      obtain ⟨d2, hd2⟩ : ∃ z, z = eb ds k := ⟨_, rfl⟩
      rw [← hd1] at c0 hmem hsn
      rw [← hd2] at c1 hmem hsn
      have HSN := Lib.hid hsn
      have HMEM := Lib.hid hmem
      have hz7 : (w.alloc (.cells cs 49)).cell? ⟨w.heap.size, 7, none⟩ = some (.slice (some ⟨b, off, none⟩) ds.length m.cd) := (HBS0.out.cell 7).trans hc7
      clear q0 q1 hc hd1 hd2 hsn hmem
      by_cases hm : doorM x y (d1, d2) = true
      · have HF := Lib.hid (connD_hit HMEM.out hm)
        have HM2 := Lib.hid hm
        clear hm HM
        by_cases t1 : d1 = x
        · by_cases t2 : d2 = y
          · have e1 : (d1 == x) = true := by simp [t1]
            have e2 : (d2 == y) = true := by simp [t2]
            clear t1 t2
            go_wp2
            go_ret
            exact ⟨ret_bool HF.out.symm, HB0.out⟩
          · have e1 : (d1 == x) = true := by simp [t1]
            have e2 : (d2 == y) = false := by simp [t2]
            have hm := HM2.out
            have h34 : d1 = y ∧ d2 = x := by unfold doorM at hm; simpa [t1, t2] using hm
            have e3 : (d1 == y) = true := by simp [h34.1]
            have e4 : (d2 == x) = true := by simp [h34.2]
            clear t1 t2 hm h34
            go_wp2
            go_ret
            exact ⟨ret_bool HF.out.symm, HB0.out⟩
        · have e1 : (d1 == x) = false := by simp [t1]
          have hm := HM2.out
          have h34 : d1 = y ∧ d2 = x := by unfold doorM at hm; simpa [t1] using hm
          have e3 : (d1 == y) = true := by simp [h34.1]
          have e4 : (d2 == x) = true := by simp [h34.2]
          clear t1 hm h34
          go_wp2
          go_ret
          exact ⟨ret_bool HF.out.symm, HB0.out⟩
      · have hm' : doorM x y (d1, d2) = false := by simpa using hm
        have HN : Hid ((ds.take (k + 1)).any (doorM x y) = false) := by
          show _ = _
          rw [HSN.out, List.any_append, HM.out]; simp [hm']
        have HM2 := Lib.hid hm'
        clear hm hm'
        by_cases t1 : d1 = x
        · have e1 : (d1 == x) = true := by simp [t1]
          have e2 : (d2 == y) = false := by
            have hm := HM2.out
            unfold doorM at hm
            simp [t1] at hm
            simp [hm.1]
          by_cases t3 : d1 = y
          · have e3 : (d1 == y) = true := by simp [t3]
            have e4 : (d2 == x) = false := by
              have hm := HM2.out
              unfold doorM at hm
              simp [t3] at hm
              simp [hm.2]
            clear t1 t3
            go_wp2
            go_roundw
            case rel => exact ⟨k + 1, by omega, by go_num, HN, trivial⟩
            case measure => simp [intOf]; omega
          · have e3 : (d1 == y) = false := by simp [t3]
            clear t1 t3
            go_wp2
            go_roundw
            case rel => exact ⟨k + 1, by omega, by go_num, HN, trivial⟩
            case measure => simp [intOf]; omega
        · have e1 : (d1 == x) = false := by simp [t1]
          by_cases t3 : d1 = y
          · have e3 : (d1 == y) = true := by simp [t3]
            have e4 : (d2 == x) = false := by
              have hm := HM2.out
              unfold doorM at hm
              simp [t3] at hm
              simp [hm.2]
            clear t1 t3
            go_wp2
            go_roundw
            case rel => exact ⟨k + 1, by omega, by go_num, HN, trivial⟩
            case measure => simp [intOf]; omega
          · have e3 : (d1 == y) = false := by simp [t3]
            clear t1 t3
            go_wp2
            go_roundw
            case rel => exact ⟨k + 1, by omega, by go_num, HN, trivial⟩
            case measure => simp [intOf]; omega
    · have HF : Hid (connD ds x y = decide (x = y)) := by
        have := HM.out
        rw [List.take_of_length_le (by omega)] at this
        exact Lib.hid (connD_miss this)
      have hd : decide (k < ds.length) = false := decide_eq_false hlt
      clear hlt HM
      go_wp2
      go_ret
      exact ⟨ret_bool (by rw [HF.out]; by_cases h : x = y <;> simp [h]), HB0.out⟩

end Go.Proofs.Ytfnoeolngdhjfaa
