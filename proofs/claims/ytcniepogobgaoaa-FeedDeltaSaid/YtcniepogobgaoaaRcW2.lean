/-
  rangecoder.newCoder.
-/
import Derived.Test.YtcniepogobgaoaaRcW1
namespace Go.Proofs.Ytcniepogobgaoaa
set_option linter.unusedVariables false
set_option linter.unusedSimpArgs false
set_option maxRecDepth 4000
open Go.RowKit

theorem zc_size : Try.zeroCells102.size = 259 := by kernel_rfl
theorem zc_list : Try.zeroCells102.toList = List.replicate 258 (.int .u32 0) ++ [Try.zeroCells102[258]?.getD undef] := by kernel_rfl
theorem zc_get (i : Nat) (h : i < 258) : Try.zeroCells102[i]? = some (.int .u32 0) := by
  rw [← Array.getElem?_toList, zc_list, List.getElem?_append_left (by simp; omega), List.getElem?_replicate, if_pos h]
set_option maxHeartbeats 2000000 in
theorem newc_any (F : Nat) (caps : Array Value) (w : World) :
    Calls Try.prog 37 #[.func (.func F) #[] caps] w fun e w' => e = .returned (.pointer (some ⟨w.heap.size, 0, none⟩)) ∧ RcM w' w.heap.size (.func (.func F) #[] caps) rc0 ∧ Below w.heap.size w w' := by
  go_enter Try.func37, Try.ntmps37
  go_upto_region 2 with (fail)
  obtain ⟨cs, hcs⟩ : ∃ cs, cs = (Try.zeroCells102.setIfInBounds 257 (Value.int IntKind.u32 4294967295)).setIfInBounds 258 (Value.func (Fn.func F) #[] caps) := ⟨_, rfl⟩
  rw [← hcs]
  have hsz : cs.size = 259 := by rw [hcs]; simp [zc_size]
  have hp : ∀ i, i < 257 → cs[i]? = some (.int .u32 0) := fun i hi => by
    rw [hcs, Array.getElem?_setIfInBounds_ne (by omega), Array.getElem?_setIfInBounds_ne (by omega)]; exact zc_get i (by omega)
  have hhi : cs[257]? = some (.int .u32 4294967295) := by
    rw [hcs, Array.getElem?_setIfInBounds_ne (by omega), Array.getElem?_setIfInBounds_self_of_lt (by rw [zc_size]; omega)]
  have hfn : cs[258]? = some (.func (.func F) #[] caps) := by
    rw [hcs, Array.getElem?_setIfInBounds_self_of_lt (by simp [zc_size])]
  clear hcs
  have HP := Lib.hid hp
  have HHI := Lib.hid hhi
  have HFN := Lib.hid hfn
  clear hp hhi hfn
  go_wp2_with fail
  refine (reset_any w.heap.size cs _ (Blk.new _ _ _) hsz (fun i hi => ⟨0, HP.out i (by omega)⟩)).mono ?_
  rintro e w2 ⟨rfl, ⟨cs', h1, h2, h3, h4⟩, h5⟩
  have HR : Hid (RcM w2 w.heap.size (.func (.func F) #[] caps) rc0) := ⟨cs', h1, h2, fun i hi => h3 i hi, (h4 256 (by omega)).trans (HP.out 256 (by omega)), (h4 257 (by omega)).trans HHI.out, (h4 258 (by omega)).trans HFN.out⟩
  have HB : Hid (Below w.heap.size w w2) := ((Below.refl _ _).alloc (Nat.le_refl _) _).trans h5
  clear h1 h2 h3 h4 h5
  go_wp2
  go_ret
  exact ⟨rfl, HR.out, HB.out⟩
end Go.Proofs.Ytcniepogobgaoaa
