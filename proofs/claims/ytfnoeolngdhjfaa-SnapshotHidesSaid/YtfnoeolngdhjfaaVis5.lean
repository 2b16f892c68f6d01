/-
  Positions of bodies.
-/
import Derived.Test.YtfnoeolngdhjfaaVis4
import Derived.Test.YtfnoeolngdhjfaaSet6
import Derived.StillTailTactics
namespace Go.Proofs.Ytfnoeolngdhjfaa
set_option linter.unusedVariables false
set_option linter.unusedSimpArgs false
set_option maxRecDepth 4000
open Go.RowKit

theorem wrapI (x : Int) : IntKind.i64.wrap x = wrap64 x := by unfold wrap64; exact IntKind.wrap_i64 x
/-- Body i of a state lies at (bx, by). -/
def posX (p : Nat) (zs : List Int) (i : Nat) : Int := ix zs (48 + 4 * p + 8 * i)
def posY (p : Nat) (zs : List Int) (i : Nat) : Int := ix zs (48 + 4 * p + 8 * i + 1)
set_option maxHeartbeats 2000000 in
theorem pos_any (cs : Array Value) (s : Su) (m : SuM) (A : Option Addr) (N c B i : Nat) (zs : List Int) (w : World) (hcs : cs = suVals s m) (hp8 : s.players ≤ 100) (hn8 : m.nb ≤ 100) (hi : i < m.nb) (hN : 48 + 4 * s.players + 8 * m.nb = N) (hl : zs.length = N) (hr : Rd w B A zs) (hB : B ≤ w.heap.size) :
    Calls Try.prog 65 #[.agg cs, .slice A N c, .int .i64 (i : Int)] w fun e w' => e = .returned (.agg #[.int .i64 (posX s.players zs i), .int .i64 (posY s.players zs i)]) ∧ Below w.heap.size w w' := by
  obtain ⟨b, off, rfl, hbb, hc⟩ := hr (by omega)
  have HCS := Lib.hid hcs
  have HBS := Lib.hid ((Blk.new w 49 cs).alloc (.cells #[.int .i64 0, .int .i64 0] 47))
  have HB0 : Hid (Below w.heap.size w ((w.alloc (.cells cs 49)).alloc (.cells #[.int .i64 0, .int .i64 0] 47))) := ((Below.refl _ _).alloc (Nat.le_refl _) _).alloc (by simp) _
  have HBV : Hid (Blk ((w.alloc (.cells cs 49)).alloc (.cells #[.int .i64 0, .int .i64 0] 47)) (w.heap.size + 1) 47 #[.int .i64 0, .int .i64 0]) := by
    have h := Blk.new (w.alloc (.cells cs 49)) 47 #[.int .i64 0, .int .i64 0]
    rw [World.size_alloc] at h
    exact h
  obtain ⟨a0, ha0⟩ : ∃ a0, a0 = 48 + 4 * s.players + 8 * i := ⟨_, rfl⟩
  have c0 := hc a0 (by omega)
  have c1 := hc (a0 + 1) (by omega)
  simp only [] at c0 c1
  have hx : posX s.players zs i = ix zs a0 := by unfold posX; rw [ha0]
  have hy : posY s.players zs i = ix zs (a0 + 1) := by unfold posY; rw [ha0]
  obtain ⟨x, hxx⟩ : ∃ x, x = ix zs a0 := ⟨_, rfl⟩
  obtain ⟨y, hyy⟩ : ∃ y, y = ix zs (a0 + 1) := ⟨_, rfl⟩
  rw [hx, hy, ← hxx, ← hyy]
  rw [← hxx] at c0
  rw [← hyy] at c1
  have ha1 : a0 + 1 < N := by omega
  have haN : N < 2000 := by omega
  have HA0 := Lib.hid ha0
  have C0 := Lib.hid c0
  have C1 := Lib.hid c1
  clear hcs hc hl hN ha0 hx hy hxx hyy c0 c1 hr
  go_enter Try.func65, Try.ntmps65
  go_wp2_with (refine wpList_load_row rfl 49 _ rfl _ rfl 49 cs (0, 0) _ HBS.out Try.underlying49 rfl (su_info' HCS.out) ?_)
  refine (lbody_any cs s m i _ HCS.out hp8 hn8 hi).mono ?_
  rintro e w1 ⟨rfl, hb1⟩
  rw [← HA0.out]
  have hbw : b < w.heap.size := by omega
  have hb2 : Below w.heap.size w w1 := HB0.out.trans (hb1.mono HB0.out.size)
  have c0 := (hb2.cell (p := ⟨b, off + a0, none⟩) hbw).trans C0.out
  have c1 := (hb2.cell (p := ⟨b, off + (a0 + 1), none⟩) hbw).trans C1.out
  have HV := Lib.hid (HBV.out.below hb1 (by simp))
  have v0 : w1.cell? ⟨w.heap.size + 1, 0, none⟩ = some (.int .i64 0) := HV.out.cell 0
  have v1 : w1.cell? ⟨w.heap.size + 1, 1, none⟩ = some (.int .i64 0) := HV.out.cell 1
  have vf : ∀ j, w1.frozen? ⟨w.heap.size + 1, j, none⟩ = false := fun j => HV.out.frozen j
  have hw1 : IntKind.i64.wrap ((a0 : Int) + 1) = (a0 : Int) + 1 := by rw [wrapI]; exact wr64 (by omega) (by omega)
  have hw0 : IntKind.i64.wrap (a0 : Int) = (a0 : Int) := by rw [wrapI]; exact wr64 (by omega) (by omega)
  have k0 : a0 < N := by omega
  have k1 : (0 : Int) ≤ (a0 : Int) + 1 := by omega
  have k2 : ((a0 : Int) + 1).toNat = a0 + 1 := by omega
  have k3 : ((a0 : Int) + 1) < (N : Int) := by omega
  have HB2 := Lib.hid hb2
  clear hb1 hb2
  go_wp2
  go_still_tail 11, (by kernel_rfl)
  change wpList _ _ _ _ _ (World.drewN w1 1)
  have HV2 := Lib.hid (HV.out.drewN 1)
  have HB3 := Lib.hid (below_drewN HB2.out 1)
  clear c0 c1 v0 v1 vf
  obtain ⟨w2, hw2⟩ : ∃ w2, w2 = w1.drewN 1 := ⟨_, rfl⟩
  rw [← hw2] at HV2 HB3 ⊢
  clear hw2
  have v0 : w2.cell? ⟨w.heap.size + 1, 0, none⟩ = some (.int .i64 0) := HV2.out.cell 0
  have v1 : w2.cell? ⟨w.heap.size + 1, 1, none⟩ = some (.int .i64 0) := HV2.out.cell 1
  have vf : ∀ j, w2.frozen? ⟨w.heap.size + 1, j, none⟩ = false := fun j => HV2.out.frozen j
  go_wp2
  exact bodyPost_ret (v := .agg #[.int .i64 x, .int .i64 y]) (by simp [results, Try.results65, go_sem, v0, v1]) rfl ⟨rfl, (HB3.out.setCell (p := ⟨w.heap.size + 1, 0, none⟩) (by exact Nat.le_succ _) _).setCell (p := ⟨w.heap.size + 1, 1, none⟩) (by exact Nat.le_succ _) _⟩
set_option maxHeartbeats 2000000 in
theorem rpos_any (cs : Array Value) (s : Su) (m : SuM) (A : Option Addr) (N c B i : Nat) (zs : List Int) (w : World) (hcs : cs = suVals s m) (hp8 : s.players ≤ 100) (hn8 : m.nb ≤ 100) (hi : i < m.nb) (hN : 48 + 4 * s.players + 8 * m.nb = N) (hl : zs.length = N) (hr : Rd w B A zs) (hB : B ≤ w.heap.size) :
    Calls Try.prog 73 #[.agg cs, .slice A N c, .int .i64 (i : Int)] w fun e w' => e = .returned (.agg #[.int .i64 (posX s.players zs i), .int .i64 (posY s.players zs i)]) ∧ Below w.heap.size w w' := by
  obtain ⟨b, off, rfl, hbb, hc⟩ := hr (by omega)
  have HCS := Lib.hid hcs
  have HBS := Lib.hid ((Blk.new w 49 cs).alloc (.cells #[.int .i64 0, .int .i64 0] 47))
  have HB0 : Hid (Below w.heap.size w ((w.alloc (.cells cs 49)).alloc (.cells #[.int .i64 0, .int .i64 0] 47))) := ((Below.refl _ _).alloc (Nat.le_refl _) _).alloc (by simp) _
  have HBV : Hid (Blk ((w.alloc (.cells cs 49)).alloc (.cells #[.int .i64 0, .int .i64 0] 47)) (w.heap.size + 1) 47 #[.int .i64 0, .int .i64 0]) := by
    have h := Blk.new (w.alloc (.cells cs 49)) 47 #[.int .i64 0, .int .i64 0]
    rw [World.size_alloc] at h
    exact h
  obtain ⟨a0, ha0⟩ : ∃ a0, a0 = 48 + 4 * s.players + 8 * i := ⟨_, rfl⟩
  have c0 := hc a0 (by omega)
  have c1 := hc (a0 + 1) (by omega)
  simp only [] at c0 c1
  have hx : posX s.players zs i = ix zs a0 := by unfold posX; rw [ha0]
  have hy : posY s.players zs i = ix zs (a0 + 1) := by unfold posY; rw [ha0]
  obtain ⟨x, hxx⟩ : ∃ x, x = ix zs a0 := ⟨_, rfl⟩
  obtain ⟨y, hyy⟩ : ∃ y, y = ix zs (a0 + 1) := ⟨_, rfl⟩
  rw [hx, hy, ← hxx, ← hyy]
  rw [← hxx] at c0
  rw [← hyy] at c1
  have ha1 : a0 + 1 < N := by omega
  have haN : N < 2000 := by omega
  have HA0 := Lib.hid ha0
  have C0 := Lib.hid c0
  have C1 := Lib.hid c1
  clear hcs hc hl hN ha0 hx hy hxx hyy c0 c1 hr
  go_enter Try.func73, Try.ntmps73
  go_wp2_with (refine wpList_load_row rfl 49 _ rfl _ rfl 49 cs (0, 0) _ HBS.out Try.underlying49 rfl (su_info' HCS.out) ?_)
  refine (rbody_any cs s m i _ HCS.out hp8 hn8 hi).mono ?_
  rintro e w1 ⟨rfl, hb1⟩
  rw [← HA0.out]
  have hbw : b < w.heap.size := by omega
  have hb2 : Below w.heap.size w w1 := HB0.out.trans (hb1.mono HB0.out.size)
  have c0 := (hb2.cell (p := ⟨b, off + a0, none⟩) hbw).trans C0.out
  have c1 := (hb2.cell (p := ⟨b, off + (a0 + 1), none⟩) hbw).trans C1.out
  have HV := Lib.hid (HBV.out.below hb1 (by simp))
  have v0 : w1.cell? ⟨w.heap.size + 1, 0, none⟩ = some (.int .i64 0) := HV.out.cell 0
  have v1 : w1.cell? ⟨w.heap.size + 1, 1, none⟩ = some (.int .i64 0) := HV.out.cell 1
  have vf : ∀ j, w1.frozen? ⟨w.heap.size + 1, j, none⟩ = false := fun j => HV.out.frozen j
  have hw1 : IntKind.i64.wrap ((a0 : Int) + 1) = (a0 : Int) + 1 := by rw [wrapI]; exact wr64 (by omega) (by omega)
  have hw0 : IntKind.i64.wrap (a0 : Int) = (a0 : Int) := by rw [wrapI]; exact wr64 (by omega) (by omega)
  have k0 : a0 < N := by omega
  have k1 : (0 : Int) ≤ (a0 : Int) + 1 := by omega
  have k2 : ((a0 : Int) + 1).toNat = a0 + 1 := by omega
  have k3 : ((a0 : Int) + 1) < (N : Int) := by omega
  have HB2 := Lib.hid hb2
  clear hb1 hb2
  go_wp2
  go_still_tail 10, (by kernel_rfl)
  change wpList _ _ _ _ _ (World.drewN w1 1)
  have HV2 := Lib.hid (HV.out.drewN 1)
  have HB3 := Lib.hid (below_drewN HB2.out 1)
  clear c0 c1 v0 v1 vf
  obtain ⟨w2, hw2⟩ : ∃ w2, w2 = w1.drewN 1 := ⟨_, rfl⟩
  rw [← hw2] at HV2 HB3 ⊢
  clear hw2
  have v0 : w2.cell? ⟨w.heap.size + 1, 0, none⟩ = some (.int .i64 0) := HV2.out.cell 0
  have v1 : w2.cell? ⟨w.heap.size + 1, 1, none⟩ = some (.int .i64 0) := HV2.out.cell 1
  have vf : ∀ j, w2.frozen? ⟨w.heap.size + 1, j, none⟩ = false := fun j => HV2.out.frozen j
  go_wp2
  exact bodyPost_ret (v := .agg #[.int .i64 x, .int .i64 y]) (by simp [results, Try.results73, go_sem, v0, v1]) rfl ⟨rfl, (HB3.out.setCell (p := ⟨w.heap.size + 1, 0, none⟩) (by exact Nat.le_succ _) _).setCell (p := ⟨w.heap.size + 1, 1, none⟩) (by exact Nat.le_succ _) _⟩
end Go.Proofs.Ytfnoeolngdhjfaa
