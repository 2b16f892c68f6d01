/-
  Package visibility: Room.
-/
import Derived.Test.YtfnoeolngdhjfaaVis1
namespace Go.Proofs.Ytfnoeolngdhjfaa
set_option linter.unusedVariables false
set_option linter.unusedSimpArgs false
set_option maxRecDepth 4000
open Go.RowKit

def rx0 (k : Nat) : Int := if k = 0 then -12000 else 0
def ry0 (k : Nat) : Int := if k = 1 then 0 else -9000
def rx1 (k : Nat) : Int := if k = 0 then -1 else 12000
def ry1 (k : Nat) : Int := if k = 2 then -1 else 9000
def inRoom (k : Nat) (x y : Int) : Bool := inBox (rx0 k) (ry0 k) (rx1 k) (ry1 k) x y
def roomFrom (k : Nat) (x y : Int) : Int := if k ≤ 0 ∧ inRoom 0 x y then 0 else if k ≤ 1 ∧ inRoom 1 x y then 1 else if k ≤ 2 ∧ inRoom 2 x y then 2 else -1
theorem RdRooms.at {w : World} {B : Nat} {A : Option Addr} (h : RdRooms w B A) : ∃ b, A = some ⟨b, 0, none⟩ ∧ b < B ∧ ∀ k, k < 3 → w.cell? ⟨b, k * 4, none⟩ = some (.int .i64 (rx0 k)) ∧ w.cell? ⟨b, k * 4 + 1, none⟩ = some (.int .i64 (ry0 k)) ∧ w.cell? ⟨b, k * 4 + 2, none⟩ = some (.int .i64 (rx1 k)) ∧ w.cell? ⟨b, k * 4 + 3, none⟩ = some (.int .i64 (ry1 k)) := by
  obtain ⟨b, e, hb, h0, h1, h2, h3, h4, h5, h6, h7, h8, h9, h10, h11⟩ := h
  refine ⟨b, e, hb, fun k hk => ?_⟩
  match k, hk with
  | 0, _ => exact ⟨h0, h1, h2, h3⟩
  | 1, _ => exact ⟨h4, h5, h6, h7⟩
  | 2, _ => exact ⟨h8, h9, h10, h11⟩
theorem roomFrom_hit {k : Nat} {x y : Int} (h : k < 3) (hi : inRoom k x y = true) : roomFrom k x y = (k : Int) := by
  unfold roomFrom
  match k, h with
  | 0, _ => simp [hi]
  | 1, _ => simp [hi]
  | 2, _ => simp [hi]
theorem roomFrom_miss {k : Nat} {x y : Int} (h : k < 3) (hi : inRoom k x y = false) : roomFrom k x y = roomFrom (k + 1) x y := by
  unfold roomFrom
  match k, h with
  | 0, _ => simp [hi]
  | 1, _ => simp [hi]
  | 2, _ => simp [hi]
theorem roomFrom_end (x y : Int) : roomFrom 3 x y = -1 := by simp [roomFrom]
set_option maxHeartbeats 2000000 in
theorem room_any (cs : Array Value) (s : Su) (m : SuM) (B : Nat) (x y : Int) (w : World) (hcs : cs = suVals s m) (hnr : m.nr = 3) (hr : RdRooms w B m.Ar) (hB : B ≤ w.heap.size) :
    Calls Try.prog 66 #[.agg cs, .agg #[.int .i64 x, .int .i64 y]] w fun e w' => e = .returned (.int .i64 (roomFrom 0 x y)) ∧ Below w.heap.size w w' := by
  have hc6 := su_c6 hcs
  obtain ⟨b, hA, hbB, hc⟩ := hr.at
  rw [hA, hnr] at hc6
  have HC := Lib.hid hc
  clear hc hr hA hnr hcs
  go_enter Try.func66, Try.ntmps66
  go_wp2
  go_loopw [10] (fun i wr => ∃ k : Nat, k ≤ 3 ∧ i = .int .i64 (k : Int) ∧ Hid (roomFrom 0 x y = roomFrom k x y) ∧ Below w.heap.size w wr ∧ Hid (Blk wr (w.heap.size + 1) 47 #[.int .i64 x, .int .i64 y]))  (fun i _ => 3 - (intOf i).toNat)
  case atStart =>
    refine ⟨0, by omega, rfl, Lib.hid rfl, ((Below.refl _ _).alloc (Nat.le_refl _) _).alloc (by simp) _, Lib.hid ?_⟩
    have h := Blk.new (w.alloc (.cells cs 49)) 47 #[.int .i64 x, .int .i64 y]
    rw [World.size_alloc] at h
    exact h
  case round =>
    obtain ⟨k, hk, rfl, HR, hb, HB⟩ := hrel
    have p0 : wr.cell? ⟨w.heap.size + 1, 0, none⟩ = some (.int .i64 x) := HB.out.cell 0
    have p1 : wr.cell? ⟨w.heap.size + 1, 1, none⟩ = some (.int .i64 y) := HB.out.cell 1
    by_cases hlt : k < 3
    · obtain ⟨q0, q1, q2, q3⟩ := HC.out k hlt
      have c0 := (hb.cell (p := ⟨b, k * 4, none⟩) (by show b < _; omega)).trans q0
      have c1 := (hb.cell (p := ⟨b, k * 4 + 1, none⟩) (by show b < _; omega)).trans q1
      have c2 := (hb.cell (p := ⟨b, k * 4 + 2, none⟩) (by show b < _; omega)).trans q2
      have c3 := (hb.cell (p := ⟨b, k * 4 + 3, none⟩) (by show b < _; omega)).trans q3
      obtain ⟨x0, hx0⟩ : ∃ z, z = rx0 k := ⟨_, rfl⟩
      obtain ⟨y0, hy0⟩ : ∃ z, z = ry0 k := ⟨_, rfl⟩
      obtain ⟨x1, hx1⟩ : ∃ z, z = rx1 k := ⟨_, rfl⟩
      obtain ⟨y1, hy1⟩ : ∃ z, z = ry1 k := ⟨_, rfl⟩
      rw [← hx0] at c0
      rw [← hy0] at c1
      rw [← hx1] at c2
      rw [← hy1] at c3
      have hin : inRoom k x y = inBox x0 y0 x1 y1 x y := by unfold inRoom; rw [hx0, hy0, hx1, hy1]
      have HIN := Lib.hid hin
      clear q0 q1 q2 q3 hx0 hy0 hx1 hy1 hin
      have hz : w.heap.size + 1 < wr.heap.size := HB.out.lt
      go_wp2_with fail
      refine (contains_any x0 y0 x1 y1 x y _).mono ?_
      rintro e w1 ⟨rfl, hb1⟩
      rw [← HIN.out]
      have hb2 : Below w.heap.size w w1 := by
        have hs := hb.size
        exact (hb.alloc hs _).trans (hb1.mono (by simp; omega))
      have hB2 : Blk w1 (w.heap.size + 1) 47 #[.int .i64 x, .int .i64 y] := by
        refine (hb1.block _ (by simp; omega)).trans ?_
        exact HB.out.alloc _
      have HB1 := Lib.hid hb1
      have HB2 := Lib.hid hB2
      clear hb1 hB2
      by_cases hin : inRoom k x y = true
      · rw [hin]
        have HF := Lib.hid (HR.out.trans (roomFrom_hit hlt hin))
        clear hin HIN
        go_wp2
        go_ret
        exact ⟨ret_int HF.out.symm, hb2⟩
      · have hin' : inRoom k x y = false := by simpa using hin
        rw [hin']
        have HF := Lib.hid (HR.out.trans (roomFrom_miss hlt hin'))
        clear hin hin' HIN
        go_wp2
        go_roundw
        case rel => exact ⟨k + 1, by omega, by go_num, HF, hb2, HB2⟩
        case measure => simp [intOf]; omega
    · have hk3 : k = 3 := by omega
      have HF : Hid (roomFrom 0 x y = -1) := by
        have := HR.out
        rw [hk3, roomFrom_end] at this
        exact Lib.hid this
      clear HR
      have hd : decide ((k : Int) < 3) = false := decide_eq_false (by omega)
      clear hk3 hlt
      go_wp2
      go_ret
      exact ⟨ret_int HF.out.symm, hb⟩
end Go.Proofs.Ytfnoeolngdhjfaa
