/-
  Package snapshot: what Apply calls of the library: maps.Keys, slices.Sorted, maps.DeleteFunc, maps.Copy; its closure.
-/
import Derived.Test.YtcniepogobgaoaaSnMap
import Derived.Test.YtcniepogobgaoaaShelf
import Derived.Maps.GroupsBeside
import Derived.Shelf.SlIterI.Sorted
import Derived.Shelf.SlIterI.Collect
import Derived.Shelf.AbstractIn
import Derived.Shelf.SlMaps.DeleteFunc
import Derived.Shelf.SlMaps.Copy
namespace Go.Proofs.Ytcniepogobgaoaa
set_option linter.unusedVariables false
set_option linter.unusedSimpArgs false
set_option maxRecDepth 4000
open Go.RowKit Go.Maps Go.Sort Go.Shelf

theorem sortsA (m : Nat) : AnyZI.SortsIn Try.prog Try.sortedA_ren Fence.wide m :=
  ⟨fun blk off cap ss W hH hblk hsz => callsIn_wide.2 (AnyM.slices_Sort_int Try.sortA blk off cap ss W hH hblk hsz),
   fun p cap W => callsIn_wide.2 (AnyM.slices_Sort_int_none Try.sortA p cap W)⟩

theorem keys_any (mb : Option Nat) (W : World) : Calls Try.prog 58 #[.map mb] W fun e w' => e = .returned (.func (.func 66) #[] #[.pointer (some ⟨W.heap.size, 0, none⟩)]) ∧ w' = W.alloc (.cells #[.map mb] 106) :=
  (callsIn_wide (n := 5)).1 (AnyZI.keys_in Try.keysA Fence.wide 5 trivial rfl mb W)

theorem sorted_keys {H : Type} (b nn : Nat) (D0 : DataW H) (R : Value → Option (DataW H × List MemPlace)) (w : World) (hown : w.ownsMap Try.prog 3 R b nn D0) (hmax : Maps.size D0 ≤ 1000000) :
    Calls Try.prog 57 #[.func (.func 66) #[] #[.pointer (some ⟨w.heap.size, 0, none⟩)]] (w.alloc (.cells #[.map (some b)] 106)) fun e w' => ∃ (v : Value) (ss : List Int), e = .returned v ∧ ss.Perm (intKeys D0) ∧
      Own 3 w' (w.heap.size + 1) v (ss.mergeSort leI) ∧ Below (w.heap.size + 1) (w.alloc (.cells #[.map (some b)] 106)) w' := by
  have hbl := hown.lt
  have hseq : SeqGives Fence.wide 2 Try.prog 66 #[.pointer (some ⟨w.heap.size, 0, none⟩)] encZ (fun ss => ss.Perm (intKeys D0)) (Maps.size D0) (w.alloc (.cells #[.map (some b)] 106)) :=
    AnyZI.keys_gives (ρ := Try.keysA_ren) { Try.keysA with } Fence.wide _ trivial rfl (by omega) w.heap.size b nn D0 _ (by simp) (by simp) (by
      obtain ⟨es, clock, hb, Ft, hs, hD⟩ := hown
      exact ⟨es, clock, (Below.heap_alloc _ _ b hbl).trans hb, Ft, hs, hD⟩)
  have cS := AnyZI.sorted_in Try.sortedA Fence.wide 5 trivial trivial trivial trivial rfl (by omega) (sortsA _) (enters_of Try.func65 (by kernel_rfl) rfl) 66 #[.pointer (some ⟨w.heap.size, 0, none⟩)] trivial (enters_of Try.func66 (by kernel_rfl) rfl) _ _ (by simp [maxLen]; omega) (by omega) _ hseq
  change CallsIn _ _ Try.prog 57 _ _ _ at cS
  refine ((callsIn_wide (n := 5)).1 cS).mono ?_
  rintro e w' ⟨v, ss, rfl, hS, hrow, _, hb⟩
  refine ⟨v, ss, rfl, hS, ?_, by simpa using hb⟩
  unfold Own
  have hl : (ss.mergeSort leI).length = ss.length := List.length_mergeSort _
  rw [hl]
  have h1 := hrow
  rw [World.size_alloc] at h1
  exact h1

/-- A map of ints, of bools, among the call's own blocks. -/
abbrev OwnI (w : World) (b n : Nat) (D : DataW Unit) : Prop := w.ownsMap Try.prog 3 (plainElem Try.prog 3) b n D
abbrev OwnB (w : World) (b n : Nat) (D : DataW Unit) : Prop := w.ownsMap Try.prog 3 (plainElem Try.prog 4) b n D

theorem zeroB (w : World) : (zeroValue 4).run Try.prog w = .ok (.bool false) w := Try.zeroValue4 w
theorem zeroI (w : World) : (zeroValue 3).run Try.prog w = .ok (.int .i64 0) w := Try.zeroValue3 w

theorem apply1_any (i v : Int) (gb gg ng : Nat) (D : DataW Unit) (f : Int → Option Lit) (c : Bool) (w : World) (hf : MI D f) (hown : OwnB w gg ng D) (hc : w.cell? ⟨gb, 0, none⟩ = some (.map (some gg))) (hi : (Lit.int .i64 i).wf = true) (hfc : (f i).getD (.bool false) = .bool c) :
    Calls Try.prog 55 #[.int .i64 i, .int .i64 v, .pointer (some ⟨gb, 0, none⟩)] w fun e w' => e = .returned (.bool c) ∧ w = w' := by
  have HF := Lib.hid hf
  have HC := Lib.hid hfc
  clear hf hfc
  go_enter Try.func55, Try.ntmps55
  go_wp2_with (first | (at_lookup; refine wpl_lookup_bool _ rfl _ _ 107 rfl 3 4 Try.underlying3 Try.underlying107 Try.underlying4 (zeroB _) gg ng D f HF.out rfl hown i hi rfl c HC.out ?_))
  go_ret
  exact ⟨rfl, rfl⟩

/-- The predicate of Apply's closure, on data. -/
def pdG (f : Int → Option Lit) (k : Lit) (_ : DataW Unit) : Bool :=
  match k with
  | .int .i64 x => (f x).isSome
  | _ => false

theorem delf_any (bv nv gb gg ng : Nat) (D G : DataW Unit) (f : Int → Option Lit) (w : World) (hown : OwnI w bv nv D) (hg : OwnB w gg ng G) (hf : MI G f) (hb : ∀ i, f i = none ∨ f i = some (.bool true)) (hc : w.cell? ⟨gb, 0, none⟩ = some (.map (some gg))) (hne : gg ≠ bv) (hne2 : gb ≠ bv) :
    Calls Try.prog 54 #[.map (some bv), .func (.func 55) #[] #[.pointer (some ⟨gb, 0, none⟩)]] w fun e w' => e = .returned (.tuple #[]) ∧ OwnI w' bv nv (Lib.deleteFuncD (pdG f) D) ∧ w.grownBy w' (some bv) := by
  refine AnyDf.maps_DeleteFunc Try.dfA (int_keyed Try.underlying3) (plainElem Try.prog 3) (pdG f) 55 #[.pointer (some ⟨gb, 0, none⟩)] bv nv D w (enters_of Try.func55 (by kernel_rfl) rfl) hown ?_
  intro W key val kl yd yp hgw hkey hval
  obtain ⟨x, rfl, rfl, hx⟩ := Maps.keyOf_i64 Try.underlying3 hkey
  obtain ⟨u, rfl, _, _⟩ := plainElem_int_inv Try.underlying3 hval
  have hg' : OwnB W gg ng G := hg.kept hgw (fun e => by injection e with e; exact hne e)
  have hc' : W.cell? ⟨gb, 0, none⟩ = some (.map (some gg)) := hgw.cell hc (fun e => by injection e with e; exact hne2 e)
  have hcc : (f x).getD (.bool false) = .bool (pdG f (.int .i64 x) yd) := by
    unfold pdG
    rcases hb x with h | h <;> simp [h]
  exact (apply1_any x u gb gg ng G f _ W hf hg' hc' hx hcc).mono fun e w' ⟨he, hw⟩ => ⟨he, by rw [← hw]; exact World.grownBy.refl _ _⟩

theorem copy_any (bd bs nd ns : Nat) (D C : DataW Unit) (w : World) (hd : OwnI w bd nd D) (hs : OwnI w bs ns C) (hne : bd ≠ bs) (hroom : nd + Maps.size C ≤ maxLen) :
    Calls Try.prog 56 #[.map (some bd), .map (some bs)] w fun e w' => e = .returned (.tuple #[]) ∧ OwnI w' bd (nd + Maps.size C) (Lib.mergeD D C) ∧ w.grownBy w' (some bd) :=
  (AnyX.maps_Copy Try.copyA (int_keyed Try.underlying3) (plainElem Try.prog 3) bd bs nd ns D C w hd hs hne hroom).mono fun e w' ⟨he, h1, _, h3⟩ => ⟨he, h1, h3⟩
end Go.Proofs.Ytcniepogobgaoaa
