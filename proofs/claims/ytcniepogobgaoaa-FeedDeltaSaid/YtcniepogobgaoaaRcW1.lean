/-
  The range coder's state in memory; model.update, coder.split.
-/
import Derived.Test.YtcniepogobgaoaaRc
import Derived.Test.YtcniepogobgaoaaMem
import Derived.Test.YtcniepogobgaoaaRef01
import Derived.Test.YtcniepogobgaoaaLd
import Derived.Deep.DeepCutAuto
import Derived.Deep.CutBlock
import Derived.StillTailTactics
namespace Go.Proofs.Ytcniepogobgaoaa
set_option linter.unusedVariables false
set_option linter.unusedSimpArgs false
set_option maxRecDepth 4000
open Go.RowKit

/-- The coder's block: 256 predictions, the range, the function that takes the settled bytes. -/
structure RcC (cs : Array Value) (r : Rc) (f : Value) : Prop where
  size : cs.size = 259
  p : ∀ i, i < 256 → cs[i]? = some (.int .u32 (r.p i : Int))
  lo : cs[256]? = some (.int .u32 (r.lo : Int))
  hi : cs[257]? = some (.int .u32 (r.hi : Int))
  fn : cs[258]? = some f
theorem RcC.setp {cs : Array Value} {r : Rc} {f : Value} (h : RcC cs r f) (c b : Nat) (hc : c < 256) : RcC (cs.setIfInBounds c (.int .u32 (rcUpd r.p c b c : Int))) ⟨rcUpd r.p c b, r.lo, r.hi⟩ f := by
  have hs := h.size
  refine ⟨by simp [hs], fun i hi => ?_, ?_, ?_, ?_⟩
  · rw [Array.getElem?_setIfInBounds]
    split
    · rename_i e; subst e; rw [if_pos (by omega)]
    · rename_i e; rw [h.p i hi]; simp [rcUpd, Ne.symm e]
  · rw [Array.getElem?_setIfInBounds_ne (by omega)]; exact h.lo
  · rw [Array.getElem?_setIfInBounds_ne (by omega)]; exact h.hi
  · rw [Array.getElem?_setIfInBounds_ne (by omega)]; exact h.fn
def RcM (W : World) (g : Nat) (f : Value) (r : Rc) : Prop := ∃ cs, Blk W g 102 cs ∧ RcC cs r f
set_option maxHeartbeats 2000000 in
theorem split_any (g c : Nat) (r : Rc) (f : Value) (w : World) (h : RcM w g f r) (hok : RcOk r) (hc : c < 256) :
    Calls Try.prog 38 #[.pointer (some ⟨g, 0, none⟩), .int .i64 (c : Int)] w fun e w' => e = .returned (.int .u32 (rcMid r c : Int)) ∧ ∃ n, w' = w.drewN n := by
  obtain ⟨cs, hb, hcs⟩ := h
  have b1 := rcMid_bd hok c
  have b2 := hok.le
  have b3 := hok.hi
  have b4 := hok.p c
  have HM : Hid (rcMid r c = r.lo + (r.hi - r.lo) / 4096 * r.p c) := rfl
  obtain ⟨m, hm⟩ : ∃ m, m = rcMid r c := ⟨_, rfl⟩
  have q0 : w.cell? ⟨g, c, none⟩ = some (.int .u32 (r.p c : Int)) := (hb.cell _).trans (hcs.p c hc)
  have q1 : w.cell? ⟨g, 256, none⟩ = some (.int .u32 (r.lo : Int)) := (hb.cell _).trans hcs.lo
  have q2 : w.cell? ⟨g, 257, none⟩ = some (.int .u32 (r.hi : Int)) := (hb.cell _).trans hcs.hi
  obtain ⟨pc, hpc⟩ : ∃ pc, pc = r.p c := ⟨_, rfl⟩
  obtain ⟨lo, hlo⟩ : ∃ lo, lo = r.lo := ⟨_, rfl⟩
  obtain ⟨hi, hhi⟩ : ∃ hi, hi = r.hi := ⟨_, rfl⟩
  rw [← hm] at b1 ⊢
  have hm2 := HM.out
  rw [← hm, ← hlo, ← hhi, ← hpc] at hm2
  rw [← hlo, ← hhi] at b1
  rw [← hlo, ← hhi] at b2
  rw [← hhi] at b3
  rw [← hpc] at b4 q0
  rw [← hlo] at q1
  rw [← hhi] at q2
  clear hm hpc hlo hhi HM hb hcs hok
  have HM2 := Lib.hid hm2
  clear hm2
  go_enter Try.func38, Try.ntmps38
  go_upto_region 1 with (fail)
  go_quiet (fail)
  go_wp2
  go_ret
  refine ⟨ret_int ?_, _, rfl⟩
  have hm2 := HM2.out
  obtain ⟨u, hu⟩ : ∃ u, u = (hi - lo) / 4096 * pc := ⟨_, rfl⟩
  have hv : ((hi : Int) - (lo : Int)) / 4096 * (pc : Int) = (u : Int) := by
    rw [hu, Int.natCast_mul, Int.natCast_ediv, Int.ofNat_sub b2]; rfl
  rw [hv]
  rw [← hu] at hm2
  omega
theorem rcUpd_cell (p : Nat → Nat) (c b : Nat) : rcUpd p c b c = if b = 1 then p c + (4096 - p c) / 16 else p c - p c / 16 := by simp [rcUpd]
set_option maxHeartbeats 2000000 in
theorem update_any (g c b : Nat) (r : Rc) (f : Value) (w : World) (h : RcM w g f r) (hok : ∀ i, r.p i < 4096) (hc : c < 256) (hb : b = 0 ∨ b = 1) :
    Calls Try.prog 61 #[.pointer (some ⟨g, 0, none⟩), .int .i64 (c : Int), .int .u32 (b : Int)] w fun e w' => e = .returned (.tuple #[]) ∧ ∃ n, w' = (w.setCell ⟨g, c, none⟩ (.int .u32 (rcUpd r.p c b c : Int))).drewN n := by
  obtain ⟨cs, hblk, hcs⟩ := h
  have b4 := hok c
  have q0 : w.cell? ⟨g, c, none⟩ = some (.int .u32 (r.p c : Int)) := (hblk.cell _).trans (hcs.p c hc)
  have q1 := hblk.frozen c
  rw [rcUpd_cell]
  obtain ⟨pc, hpc⟩ : ∃ pc, pc = r.p c := ⟨_, rfl⟩
  rw [← hpc] at b4 q0 ⊢
  clear hpc hblk hcs hok
  have i1 : (0 : Int) ≤ (c : Int) := by omega
  have i2 : ((c : Int)).toNat = c := by omega
  have i3 : (c : Int) < 256 := by omega
  rcases hb with rfl | rfl
  · rw [if_neg (by omega)]
    go_enter Try.func61, Try.ntmps61
    go_wp2
    go_still_tail 17, (by kernel_rfl)
    change wpList _ _ _ _ _ w.drew
    go_wp2
    go_end0
    exact ⟨rfl, 1, by rw [show ((pc : Int) - (pc : Int) / 16) = ((pc - pc / 16 : Nat) : Int) by omega]; rfl⟩
  · rw [if_pos rfl]
    go_enter Try.func61, Try.ntmps61
    go_wp2
    go_still_tail 18, (by kernel_rfl)
    change wpList _ _ _ _ _ w.drew
    go_wp2
    go_end0
    exact ⟨rfl, 1, by rw [show ((pc : Int) + (4096 - (pc : Int)) / 16) = ((pc + (4096 - pc) / 16 : Nat) : Int) by omega]; rfl⟩
theorem RcM.upd {w : World} {g c b : Nat} {r : Rc} {f : Value} (h : RcM w g f r) (hc : c < 256) (n : Nat) : RcM ((w.setCell ⟨g, c, none⟩ (.int .u32 (rcUpd r.p c b c : Int))).drewN n) g f ⟨rcUpd r.p c b, r.lo, r.hi⟩ := by
  obtain ⟨cs, hblk, hcs⟩ := h
  exact ⟨_, (hblk.set_ c _).drewN n, hcs.setp c b hc⟩
theorem RcM.setlo {w : World} {g : Nat} {r : Rc} {f : Value} (h : RcM w g f r) (l : Nat) : RcM (w.setCell ⟨g, 256, none⟩ (.int .u32 (l : Int))) g f ⟨r.p, l, r.hi⟩ := by
  obtain ⟨cs, hblk, hcs⟩ := h
  have hs := hcs.size
  refine ⟨_, hblk.set_ 256 _, by simp [hs], fun i hi => ?_, ?_, ?_, ?_⟩
  · rw [Array.getElem?_setIfInBounds_ne (by omega)]; exact hcs.p i hi
  · rw [Array.getElem?_setIfInBounds_self_of_lt (by omega)]
  · rw [Array.getElem?_setIfInBounds_ne (by omega)]; exact hcs.hi
  · rw [Array.getElem?_setIfInBounds_ne (by omega)]; exact hcs.fn
theorem RcM.sethi {w : World} {g : Nat} {r : Rc} {f : Value} (h : RcM w g f r) (l : Nat) : RcM (w.setCell ⟨g, 257, none⟩ (.int .u32 (l : Int))) g f ⟨r.p, r.lo, l⟩ := by
  obtain ⟨cs, hblk, hcs⟩ := h
  have hs := hcs.size
  refine ⟨_, hblk.set_ 257 _, by simp [hs], fun i hi => ?_, ?_, ?_, ?_⟩
  · rw [Array.getElem?_setIfInBounds_ne (by omega)]; exact hcs.p i hi
  · rw [Array.getElem?_setIfInBounds_ne (by omega)]; exact hcs.lo
  · rw [Array.getElem?_setIfInBounds_self_of_lt (by omega)]
  · rw [Array.getElem?_setIfInBounds_ne (by omega)]; exact hcs.fn
theorem RcM.drewN {w : World} {g : Nat} {r : Rc} {f : Value} (h : RcM w g f r) (n : Nat) : RcM (w.drewN n) g f r := h
set_option maxHeartbeats 2000000 in
theorem reset_any (g : Nat) (cs : Array Value) (w : World) (hb : Blk w g 102 cs) (hs : cs.size = 259) (hu : ∀ i, i < 256 → ∃ z : Int, cs[i]? = some (.int .u32 z)) :
    Calls Try.prog 60 #[.pointer (some ⟨g, 0, none⟩)] w fun e w' => e = .returned (.tuple #[]) ∧ (∃ cs', Blk w' g 102 cs' ∧ cs'.size = 259 ∧ (∀ i, i < 256 → cs'[i]? = some (.int .u32 2048)) ∧ ∀ i, 256 ≤ i → cs'[i]? = cs[i]?) ∧ Below g w w' := by
  have HS := Lib.hid hs
  have HU := Lib.hid hu
  have HB := Lib.hid hb
  clear hs hu hb
  go_enter Try.func60, Try.ntmps60
  go_wp2
  go_loopw [3] (fun i W => ∃ k : Nat, k ≤ 256 ∧ i = .int .i64 (k : Int) ∧ Hid (∃ cs', Blk W g 102 cs' ∧ cs'.size = 259 ∧ (∀ i, i < k → cs'[i]? = some (.int .u32 2048)) ∧ (∀ i, k ≤ i → cs'[i]? = cs[i]?)) ∧ Hid (Below g w W)) (fun i _ => 256 - (intOf i).toNat)
  case atStart => exact ⟨0, by omega, rfl, Lib.hid ⟨cs, HB.out, HS.out, fun i h => absurd h (by omega), fun i _ => rfl⟩, Lib.hid (Below.refl _ _)⟩
  case round =>
    obtain ⟨k, hk, rfl, HC, HBL⟩ := hrel
    obtain ⟨cs', h1, h2, h3, h4⟩ := HC.out
    by_cases hlt : k < 256
    · obtain ⟨z, hz⟩ := HU.out k hlt
      have q0 : wr.cell? ⟨g, k, none⟩ = some (.int .u32 z) := (h1.cell k).trans ((h4 k (Nat.le_refl _)).trans hz)
      have q1 := h1.frozen k
      have HN : Hid (∃ cs'', Blk (wr.setCell ⟨g, k, none⟩ (.int .u32 2048)) g 102 cs'' ∧ cs''.size = 259 ∧ (∀ i, i < k + 1 → cs''[i]? = some (.int .u32 2048)) ∧ (∀ i, k + 1 ≤ i → cs''[i]? = cs[i]?)) := by
        refine ⟨_, h1.set_ k _, by simp [h2], fun i hi => ?_, fun i hi => ?_⟩
        · by_cases e : k = i
          · subst e; rw [Array.getElem?_setIfInBounds_self_of_lt (by omega)]
          · rw [Array.getElem?_setIfInBounds_ne e]; exact h3 i (by omega)
        · rw [Array.getElem?_setIfInBounds_ne (by omega)]; exact h4 i (by omega)
      clear h1 h2 h3 h4 hz
      go_wp2
      go_roundw
      case rel => exact ⟨k + 1, by omega, by go_num, HN, Lib.hid (HBL.out.setCell (p := ⟨g, k, none⟩) (Nat.le_refl _) _)⟩
      case measure => simp [intOf]; omega
    · obtain rfl : k = 256 := by omega
      clear h1 h2 h3 h4
      go_wp2
      go_end0
      obtain ⟨cs', h1, h2, h3, h4⟩ := HC.out
      exact ⟨rfl, ⟨cs', h1, h2, h3, h4⟩, HBL.out⟩
end Go.Proofs.Ytcniepogobgaoaa
