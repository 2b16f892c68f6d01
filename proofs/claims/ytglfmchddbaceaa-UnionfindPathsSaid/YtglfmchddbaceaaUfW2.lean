/-
  Package unionfind, Groups called: it returns the sets in new memory, and only the parents have turned.
-/
import Derived.Test.YtglfmchddbaceaaUfW1
import Derived.Test.YtglfmchddbaceaaUfMap
import Derived.Test.YtglfmchddbaceaaShelf
import Derived.Maps.GroupsBeside
import Derived.Shelf.SlIterI.Sorted
import Derived.Shelf.SlIterI.Collect
import Derived.Shelf.AbstractIn
namespace Go.Proofs.Ytglfmchddbaceaa
set_option linter.unusedVariables false
set_option linter.unusedSimpArgs false
open Go.RowKit Go.Maps Go.Sort Go.Shelf
open Go.ChangeShapes (lits)

theorem sortsA (m : Nat) : AnyZI.SortsIn Try.prog Try.sortedA_ren Fence.wide m :=
  ⟨fun blk off cap ss W hH hblk hsz => callsIn_wide.2 (AnyM.slices_Sort_int Try.sortA blk off cap ss W hH hblk hsz),
   fun p cap W => callsIn_wide.2 (AnyM.slices_Sort_int_none Try.sortA p cap W)⟩

theorem keys_any (mb : Option Nat) (W : World) : Calls Try.prog 31 #[.map mb] W fun e w' => e = .returned (.func (.func 36) #[] #[.pointer (some ⟨W.heap.size, 0, none⟩)]) ∧ w' = W.alloc (.cells #[.map mb] 47) :=
  (callsIn_wide (n := 5)).1 (AnyZI.keys_in Try.keysA Fence.wide 5 trivial rfl mb W)

theorem sorted_keys {H : Type} (b nn : Nat) (D0 : DataW H) (R : Value → Option (DataW H × List MemPlace)) (w : World) (hown : w.ownsMap Try.prog 3 R b nn D0) (hmax : Maps.size D0 ≤ 1000000) :
    Calls Try.prog 30 #[.func (.func 36) #[] #[.pointer (some ⟨w.heap.size, 0, none⟩)]] (w.alloc (.cells #[.map (some b)] 47)) fun e w' => ∃ (v : Value) (ss : List Int), e = .returned v ∧ ss.Perm (intKeys D0) ∧
      Own 3 w' (w.heap.size + 1) v (ss.mergeSort leI) ∧ Below (w.heap.size + 1) (w.alloc (.cells #[.map (some b)] 47)) w' := by
  have hbl := hown.lt
  have hseq : SeqGives Fence.wide 2 Try.prog 36 #[.pointer (some ⟨w.heap.size, 0, none⟩)] encZ (fun ss => ss.Perm (intKeys D0)) (Maps.size D0) (w.alloc (.cells #[.map (some b)] 47)) :=
    AnyZI.keys_gives (ρ := Try.keysA_ren) { Try.keysA with } Fence.wide _ trivial rfl (by omega) w.heap.size b nn D0 _ (by simp) (by simp) (by
      obtain ⟨es, clock, hb, Ft, hs, hD⟩ := hown
      exact ⟨es, clock, (Below.heap_alloc _ _ b hbl).trans hb, Ft, hs, hD⟩)
  have cS := AnyZI.sorted_in Try.sortedA Fence.wide 5 trivial trivial trivial trivial rfl (by omega) (sortsA _) (enters_of Try.func35 (by kernel_rfl) rfl) 36 #[.pointer (some ⟨w.heap.size, 0, none⟩)] trivial (enters_of Try.func36 (by kernel_rfl) rfl) _ _ (by simp [maxLen]; omega) (by omega) _ hseq
  change CallsIn _ _ Try.prog 30 _ _ _ at cS
  refine ((callsIn_wide (n := 5)).1 cS).mono ?_
  rintro e w' ⟨v, ss, rfl, hS, hrow, _, hb⟩
  refine ⟨v, ss, rfl, hS, ?_, by simpa using hb⟩
  unfold Own
  have hl : (ss.mergeSort leI).length = ss.length := List.length_mergeSort _
  rw [hl]
  have h1 := hrow
  rw [World.size_alloc] at h1
  exact h1

/-- Only block gp has turned of what was there. -/
def OnlyG (gp : Nat) (w w' : World) : Prop := w.grownBy w' (some gp)
theorem OnlyG.step {gp : Nat} {a b c : World} {row : Option Nat} (h : OnlyG gp a b) (k : b.grownBy c row) (hr : ∀ j, row = some j → a.heap.size ≤ j ∨ j = gp) : OnlyG gp a c :=
  ⟨k.os.trans h.os, k.tape.trans h.tape, k.output.trans h.output, Nat.le_trans h.size k.size, fun i hi hne => (k.block i (Nat.lt_of_lt_of_le hi h.size) (fun e => by
    rcases hr i e.symm with h1 | h1
    · omega
    · exact hne (by rw [h1]))).trans (h.block i hi hne)⟩
theorem OnlyG.refl (gp : Nat) (w : World) : OnlyG gp w w := World.grownBy.refl w _
theorem OnlyG.below {gp B : Nat} {w w' : World} (h : OnlyG gp w w') (hB : B ≤ w.heap.size) (hg : B ≤ gp) : Below B w w' :=
  (Below.refl _ _).grown h hB (fun k hk => by injection hk with hk; omega)
theorem grown_of_below {w w' : World} (hb : Below w.heap.size w w') (row : Option Nat) : w.grownBy w' row := ⟨hb.os, hb.tape, hb.output, hb.size, fun i hi _ => hb.block i hi⟩
theorem OnlyG.stepB {gp : Nat} {a b c : World} (h : OnlyG gp a b) (k : Below b.heap.size b c) : OnlyG gp a c := h.step (grown_of_below k none) (fun j hj => by cases hj)

theorem lits_inj {H : Type} {a b : List Int} (h : lits (H := H) .i64 a = lits .i64 b) : a = b := by
  unfold lits at h
  exact List.map_inj_right (fun x y e => by injection e with e; injection e) |>.1 h

/-- A slice of slices of numbers: its own cells lie from block Bo on, each slice owns its numbers from block Bi on. -/
def OwnM (w : World) (Bo Bi : Nat) (v : Value) (gs : List (List Int)) : Prop :=
  ∃ vals, w.ownsRow Bo 22 1 v gs.length vals ∧ ∀ j, j < gs.length → ∃ A c, vals[j]? = some (.slice A (gs.getD j []).length c) ∧ Own 3 w Bi (.slice A (gs.getD j []).length c) (gs.getD j [])

/-- Two rows of different types do not share a block. -/
theorem own_apart {w w' : World} {B B' n m : Nat} {v u : Value} {xs : List Value} {zs : List Int} (h : w.ownsRow B 22 1 v n xs) (hz : Own 3 w B' u zs) (hg : w.grownBy w' v.ownBlock) : Own 3 w' B' u zs := by
  refine ⟨hz.1, ?_⟩
  rcases hz.2 with h0 | ⟨g, cap, cur, hv, hb, hh, hr⟩
  · exact .inl h0
  · refine .inr ⟨g, cap, cur, hv, hb, (hg.block g (Array.getElem?_eq_some_iff.1 hh).1 ?_).trans hh, hr⟩
    intro e
    rcases h.2 with ⟨rfl, _⟩ | ⟨g', cap', cur', rfl, _, hh', _⟩
    · simp [Value.ownBlock] at e
    · have : g' = g := by simpa [Value.ownBlock] using e.symm
      subst this
      rw [hh] at hh'
      injection hh' with h1
      injection h1 with _ h2
      exact absurd h2 (by decide)
theorem OwnM.nil (w : World) (Bo Bi : Nat) : OwnM w Bo Bi (.slice none 0 0) [] := ⟨[], World.ownsRow_nil _ _ _ _, fun j hj => absurd hj (by simp)⟩
theorem ownsRow_below {w w' : World} {B : Nat} {e : TypeId} {size n : Nat} {v : Value} {xs : List Value} (h : w.ownsRow B e size v n xs) (hb : Below w.heap.size w w') : w'.ownsRow B e size v n xs := by
  refine ⟨h.1, ?_⟩
  rcases h.2 with h0 | ⟨g, cap, cur, hv, hg, hh, hr⟩
  · exact .inl h0
  · exact .inr ⟨g, cap, cur, hv, hg, (hb.block g (Array.getElem?_eq_some_iff.1 hh).1).trans hh, hr⟩
theorem ownsRow_lower {w : World} {B B' : Nat} {e : TypeId} {size n : Nat} {v : Value} {xs : List Value} (h : w.ownsRow B e size v n xs) (hB : B' ≤ B) : w.ownsRow B' e size v n xs := by
  refine ⟨h.1, ?_⟩
  rcases h.2 with h0 | ⟨g, cap, cur, hv, hg, hr⟩
  · exact .inl h0
  · exact .inr ⟨g, cap, cur, hv, by omega, hr⟩
theorem OwnM.below {w w' : World} {Bo Bi : Nat} {v : Value} {gs : List (List Int)} (h : OwnM w Bo Bi v gs) (hb : Below w.heap.size w w') : OwnM w' Bo Bi v gs := by
  obtain ⟨vals, h1, h2⟩ := h
  refine ⟨vals, ownsRow_below h1 hb, fun j hj => ?_⟩
  obtain ⟨A, c, e, ho⟩ := h2 j hj
  exact ⟨A, c, e, ho.below hb⟩
theorem OwnM.lower {w : World} {Bo Bi Bo' Bi' : Nat} {v : Value} {gs : List (List Int)} (h : OwnM w Bo Bi v gs) (h1 : Bo' ≤ Bo) (h2 : Bi' ≤ Bi) : OwnM w Bo' Bi' v gs := by
  obtain ⟨vals, g1, g2⟩ := h
  refine ⟨vals, ownsRow_lower g1 h1, fun j hj => ?_⟩
  obtain ⟨A, c, e, ho⟩ := g2 j hj
  exact ⟨A, c, e, ho.lower h2⟩
theorem OwnM.form {w : World} {Bo Bi : Nat} {v : Value} {gs : List (List Int)} (h : OwnM w Bo Bi v gs) : ∃ A c, v = .slice A gs.length c := by
  obtain ⟨vals, h1, _⟩ := h
  rcases h1.2 with ⟨rfl, h0⟩ | ⟨g, cap, cur, rfl, _⟩
  · exact ⟨none, 0, by rw [h0]⟩
  · exact ⟨_, cap, rfl⟩

theorem ints_info : (Try.prog.info? 22).map (fun i => (i.zero, i.size, i.bytes)) = some (some (.slice none 0 0), 1, 24) := by kernel_rfl
theorem law : Keyed Try.prog 3 := int_keyed Try.underlying3
theorem zeroS (w : World) : (zeroValue 22).run Try.prog w = .ok (.slice none 0 0) w := by kernel_rfl

/-- One round of the first loop, on the map: what is stored is the next map. -/
theorem GD_step {H : Type} {w : World} {base : Nat} {r : Nat → Nat} {k x : Nat} {v : Value} {zs : List Int} (ho : w.ownsInts base 3 .i64 v zs)
    (hat : (GD (H := H) r k).atKey (.int .i64 (x : Int)) .nil = rowDatum .i64 v zs) : zs = grp r x k := by
  rw [GD_at] at hat
  unfold gdat at hat
  rcases ho.datum (H := H) with ⟨h1, h2⟩ | h1
  · rw [h1] at hat
    split at hat
    · rename_i h; rw [h2, h]
    · cases hat
  · rw [h1] at hat
    split at hat
    · cases hat
    · injection hat with h2 _
      exact (lits_inj h2).symm

/-- 'out = append(out, zs)' on a slice of slices. -/
theorem wpl_append_slice {w : World} {ops : Array Oper} {rest : List Oper} {o : Oper} {a : Act} {Q : Exit → Act → World → Prop} (hgd : o.guard = none) (s x : Operand)
    (ho : o.op = .call { callee := .builtin .append, args := #[s, x], argTypes := #[27, 27] })
    (Bo Bi : Nat) (v : Value) (gs : List (List Int)) (hs : a.eval s = v) (hown : OwnM w Bo Bi v gs)
    (ad : Addr) (c : Nat) (A : Option Addr) (m cc : Nat) (zs : List Int) (hm : zs.length = m) (n' : Nat) (hn' : gs.length + 1 = n') (hx : a.eval x = .slice (some ad) 1 c) (hc : w.cell? ad = some (.slice A m cc)) (hz : Own 3 w Bi (.slice A m cc) zs)
    (hlen : gs.length < 100000000) (hB : Bo ≤ w.heap.size)
    (h : ∀ A' c' w', Hid (OwnM w' Bo Bi (.slice A' n' c') (gs ++ [zs])) → Hid (w.grownBy w' v.ownBlock) → Below Bo w w' → wpList Try.prog ops Q rest (a.put o.dst (.slice A' n' c')) w') : wpList Try.prog ops Q (o :: rest) a w := by
  obtain ⟨i0, hi0, hz0, hz1, hz2⟩ := info_parts ints_info
  obtain ⟨vals, h1, h2⟩ := hown
  have hvl : vals.length = gs.length := by have := h1.1; omega
  refine wpList_append_own w hgd s x 27 ho Bo 22 i0 (.slice none 0 0) 1 24 Try.underlying27 hi0 hz0 hz1 hz2 rfl (by decide) v gs.length vals hs h1 ad 1 c [.slice A m cc] hx rfl ?_ ?_ ?_ ?_ hB ?_
  · intro j u hj
    match j, hj with
    | 0, hj => simp at hj; subst hj; simpa [Addr.add] using hc
  · intro u hu; simp at hu; subst hu; rfl
  · simp [maxLen]; omega
  · omega
  · intro v' w' g1 g2 _
    have hO : OwnM w' Bo Bi v' (gs ++ [zs]) := by
      refine ⟨vals ++ [.slice A m cc], by rw [List.length_append]; exact g1, fun j hj => ?_⟩
      rcases Nat.lt_or_ge j gs.length with hj2 | hj2
      · obtain ⟨A1, c1, e1, ho1⟩ := h2 j hj2
        have e2 : (gs ++ [zs]).getD j [] = gs.getD j [] := by simp [List.getD, List.getElem?_append_left hj2]
        rw [e2]
        exact ⟨A1, c1, by rw [List.getElem?_append_left (by omega)]; exact e1, own_apart (m := 0) h1 ho1 g2⟩
      · obtain rfl : j = gs.length := by simp at hj; omega
        have e2 : (gs ++ [zs]).getD gs.length [] = zs := by simp [List.getD]
        rw [e2, hm]
        exact ⟨A, cc, by rw [List.getElem?_append_right (by omega), hvl]; simp, own_apart (m := 0) h1 hz g2⟩
    have hbase : ∀ j, v.ownBlock = some j → Bo ≤ j := by
      intro j hj
      rcases h1.2 with ⟨rfl, _⟩ | ⟨g, cap, cur, rfl, hb, _⟩
      · simp [Value.ownBlock] at hj
      · simp [Value.ownBlock] at hj; omega
    obtain ⟨A', c', rfl⟩ := hO.form
    rw [List.length_append, List.length_singleton, hn'] at hO ⊢
    exact h A' c' w' hO g2 ((Below.refl _ _).grown g2 hB hbase)

theorem ownsGroups_below {H : Type} {w w' : World} {base b n : Nat} {D : DataW H} (h : w.ownsGroups Try.prog 3 base 3 .i64 b n D) (hb : Below w.heap.size w w') : w'.ownsGroups Try.prog 3 base 3 .i64 b n D :=
  h.kept (grown_of_below hb none) (by simp) (fun es clock _ x _ => by cases x.val.ownBlock <;> simp)

set_option maxHeartbeats 2000000 in
theorem groups_any (g gp n : Nat) (r : Nat → Nat) (w : World) (h : IsSets w g gp n r) :
    Calls Try.prog 21 #[.pointer (some ⟨g, 0, none⟩)] w fun e w' => ∃ A c, e = .returned (.slice A (groups r n).length c) ∧ OwnM w' w.heap.size w.heap.size (.slice A (groups r n).length c) (groups r n) ∧ IsSets w' g gp n r ∧ OnlyG gp w w' := by
  have hmm := @run_makeMap Try.prog
  have hlt := h.lt
  have hro : ∀ i, i < n → r i < n ∧ r (r i) = r i := fun i hi => by
    obtain ⟨p, _, _, h3, _⟩ := h
    have := h3.root_le i hi
    exact ⟨by omega, this.2⟩
  have hn : n ≤ 1000 := by obtain ⟨p, _, _, _, h4⟩ := h; exact h4
  obtain ⟨p0, g1, _⟩ := id h
  have c0 : w.cell? ⟨g, 0, none⟩ = some (.slice (some ⟨gp, 0, none⟩) n n) := by rw [g1.cell]; rfl
  have H0 : Hid (IsSets (w.alloc (.map #[] 0)) g gp n r) := by
    show IsSets _ _ _ _ _
    exact IsSets.below h ((Below.refl w.heap.size _).alloc (Nat.le_refl _) _) hlt.1 hlt.2
  have HRO := Lib.hid hro
  clear hro g1
  go_enter Try.func21, Try.ntmps21
  go_wp2
  go_loopw [15] (fun i wr => ∃ k : Nat, k ≤ n ∧ i = .int .i64 k ∧ IsSets wr g gp n r ∧ wr.ownsGroups Try.prog 3 (w.heap.size + 1) 3 .i64 w.heap.size k (GD (H := Unit) r k) ∧ OnlyG gp w wr ∧ w.heap.size + 1 ≤ wr.heap.size) (fun i _ => n - (intOf i).toNat)
  case atStart => exact ⟨0, Nat.zero_le _, rfl, H0.out, World.ownsGroups_made _ _ _ _ _, (OnlyG.refl _ _).stepB ((Below.refl _ _).alloc (Nat.le_refl _) _), by simp⟩
  case round =>
    obtain ⟨k, hk, rfl, hs, hown, ho, hws⟩ := hrel
    by_cases hlt2 : k < n
    · go_wp2_with fail
      refine (find_any g gp n r k _ hs hlt2).mono ?_
      rintro e w1 ⟨rfl, hs1, ho1⟩
      have hown1 := hown.kept ho1.1 (by intro e; injection e with e; omega) (hown.rowsAbove (by intro j hj; injection hj with hj; omega))
      have hog1 : OnlyG gp w w1 := ho.step ho1.1 (by intro j hj; injection hj with hj; exact .inr hj.symm)
      have hws1 : w.heap.size + 1 ≤ w1.heap.size := by rw [ho1.2]; exact hws
      have hkey : keyOf Try.prog 3 (.int .i64 (r k : Int)) = some (.int .i64 (r k : Int)) := keyOf_int_mk Try.underlying3 (WalkArith.wf_i64 (by have := (HRO.out k hlt2).1; omega))
      have hin : Hid (∀ v zs, w1.ownsInts (w.heap.size + 1) 3 .i64 v zs → zs.length ≤ k → (zs.map (Value.int .i64)).length = zs.length) := fun v zs _ _ => by simp
      obtain ⟨i0, hi0, hz0, hz1, hz2⟩ := info_parts int_info3
      clear ho hown hs
      go_wp2_with (first
        | (at_lookup; refine wpList_lookup_groups _ rfl _ _ 47 rfl 3 22 3 .i64 law Try.underlying47 (zeroS _) (w.heap.size + 1) w.heap.size k _ rfl hown1 (by unfold maxLen; omega) _ _ rfl hkey ?_; intro v zs hat hoi hzl hback)
        | (at_builtin; refine wpList_append_own_at _ rfl _ _ 22 rfl (w.heap.size + 1) 3 i0 (.int .i64 0) 1 8 Try.underlying22 hi0 hz0 hz1 hz2 rfl (by decide) _ _ _ rfl (hoi.1.alloc _) ⟨w1.heap.size, 0, none⟩ 1 1 [.int .i64 k] rfl rfl (cell_one_new _ _ _) (ints_oneCell .i64 [(k : Int)]) (by unfold maxLen; omega) (by omega) (by simp; omega) ?_; intro v' w2 hown2 hgrow hnil hloc)
        | (at_mapUpdate; refine wpList_mapUpdate_back _ rfl _ _ _ 47 rfl hback rfl rfl rfl ((World.grownBy_alloc _ _ _).trans hgrow) (hoi.appended hown2 (WalkArith.wf_i64 (by omega))) (by simp; omega) (hloc.imp id (fun h => ⟨_, h, by simp⟩)) ?_; intro w3 hown3 hgrow3))
      have hall := (World.grownBy_alloc w1 _ _).trans hgrow
      have hz := GD_step hoi hat
      have hlow : ∀ j, v.ownBlock = some j → w.heap.size + 1 ≤ j := fun j hj => (hoi.1.lt j hj).1
      go_roundw
      case rel =>
        refine ⟨k + 1, by omega, by go_num, ?_, ?_, ?_, Nat.le_trans hws1 (Nat.le_trans hall.size hgrow3.size)⟩
        · refine IsSets.grown (IsSets.grown hs1 hall ?_ ?_) hgrow3 ?_ ?_
          · intro e; have := hlow _ e.symm; omega
          · intro e; have := hlow _ e.symm; omega
          · intro e; injection e with e; omega
          · intro e; injection e with e; omega
        · have e1 := (hoi.appended hown2 (WalkArith.wf_i64 (n := (k : Int)) (by omega))).datum_pos (H := Unit) (by simp)
          have e2 : w3.ownsGroups Try.prog 3 (w.heap.size + 1) 3 .i64 w.heap.size (k + 1) ((GD (H := Unit) r k).put (.int .i64 (r k : Int)) (rowDatum .i64 v' (zs ++ [(k : Int)]))) := hown3
          rw [e1, hz] at e2
          exact e2
        · refine (hog1.step hall ?_).step hgrow3 ?_
          · intro j hj; have := hlow j hj; exact .inl (by omega)
          · intro j hj; injection hj with hj; exact .inl (by omega)
      case measure => simp [intOf]; omega
    · obtain rfl : k = n := by omega
      have hsz : Maps.size (GD (H := Unit) r k) ≤ 1000000 := Nat.le_trans (GD_size r k) (by omega)
      have howm : wr.ownsMap Try.prog 3 (rowElem (H := Unit) wr (w.heap.size + 1) 3 .i64) w.heap.size k (GD (H := Unit) r k) := by
        obtain ⟨es, clock, g1, g2, g3, g4, _⟩ := hown
        exact ⟨es, clock, g1, g2, g3, g4⟩
      have HM := Lib.hid howm
      clear howm
      go_wp2_with fail
      refine (keys_any (some w.heap.size) wr).mono ?_
      rintro e w1 ⟨rfl, rfl⟩
      go_wp2_with fail
      refine (sorted_keys w.heap.size k _ _ wr HM.out hsz).mono ?_
      rintro e w2 ⟨v, ss, rfl, hperm, hrow, hb2⟩
      have hsr := keys_roots r (n := k) HRO.out hperm
      rw [hsr] at hrow
      obtain ⟨A, c, hv, hc1, hc2, hrd⟩ := hrow.form
      rw [hv]
      clear hrow hv hsr hperm
      have hb12 : Below wr.heap.size wr w2 := ((Below.refl _ _).alloc (Nat.le_refl _) _).trans (hb2.mono (Nat.le_succ _))
      have hgr2 := ownsGroups_below hown hb12
      have hs2 := hs.below hb12 hs.lt.1 hs.lt.2
      have ho2 := ho.stepB hb12
      have hrl := roots_length r k
      obtain ⟨m, hm⟩ : ∃ m, (roots r k).length = m := ⟨_, rfl⟩
      rw [hm] at hrl hc1 ⊢
      have hgl : (groups r k).length = m := by rw [groups_length, hm]
      have HMM := Lib.hid hm
      have HGL := Lib.hid hgl
      have hws2 : wr.heap.size ≤ w2.heap.size := hb12.size
      clear hm hgl hb12 hb2 hown hs ho c0
      go_wp2_with fail
      go_loopw [6, 8, 34] (fun v _ i wx => ∃ q : Nat, q ≤ m ∧ i = .int .i64 q ∧ (∃ A2 c2, v = .slice A2 q c2 ∧ OwnM wx w2.heap.size w.heap.size (.slice A2 q c2) ((groups r k).take q)) ∧ Below w2.heap.size w2 wx) (fun _ _ i _ => m - (intOf i).toNat)
      case atStart => exact ⟨0, Nat.zero_le _, rfl, ⟨none, 0, rfl, OwnM.nil _ _ _⟩, Below.refl _ _⟩
      case round =>
        obtain ⟨q, hq, rfl, ⟨A2, c2, rfl, hom⟩, hbx⟩ := hrel
        by_cases hqm : q < m
        · have hql : q < (roots r k).length := by rw [HMM.out]; exact hqm
          obtain ⟨b, off, rfl, hbb, hcell⟩ := hrd (by omega)
          have hck : wr.cell? ⟨b, off + q, none⟩ = some (.int .i64 (ix (roots r k) q)) := (hbx.cell (p := ⟨b, off + q, none⟩) hbb).trans (hcell q hql)
          obtain ⟨x, hx1, hx2, hx3⟩ := (roots_mem r).1 (ix_mem hql)
          rw [hx3] at hck
          have HX := Lib.hid hx3
          have HXR := Lib.hid hx2
          have hkey : keyOf Try.prog 3 (.int .i64 (x : Int)) = some (.int .i64 (x : Int)) := keyOf_int_mk Try.underlying3 (WalkArith.wf_i64 (by omega))
          have hgx := ownsGroups_below hgr2 hbx
          have hsn := groups_snoc r hql
          rw [hx3, Int.toNat_natCast] at hsn
          have HSN := Lib.hid hsn
          have hlq : Hid (((groups r k).take q).length + 1 = q + 1) := by show _ = _; rw [List.length_take, HGL.out]; omega
          have hlq' : ((groups r k).take q).length < 100000000 := by rw [List.length_take, HGL.out]; omega
          have hszx := hbx.size
          clear hcell hx2 hx3 hsn
          go_wp2_with (first
            | (at_lookup; refine wpList_lookup_groups _ rfl _ _ 47 rfl 3 22 3 .i64 law Try.underlying47 (zeroS _) (w.heap.size + 1) w.heap.size k _ rfl hgx (by unfold maxLen; omega) _ _ rfl hkey ?_; intro v5 zs hat hoi hzl hback; have hz := Lib.hid (GD_step hoi hat); obtain ⟨A5, c5, hv5, _⟩ := Own.form (T := 3) hoi.1; subst hv5; have hoi2 : Own 3 wr w.heap.size (.slice A5 zs.length c5) zs := Own.lower (T := 3) hoi.1 (Nat.le_succ _); clear hat hback hoi)
            | (at_builtin; refine wpl_append_slice rfl (.tmp 38) (.tmp 42) rfl w2.heap.size w.heap.size _ _ rfl (hom.below ((Below.refl _ _).alloc (Nat.le_refl _) (.cells #[.slice A5 zs.length c5] 22))) ⟨wr.heap.size, 0, none⟩ 1 A5 zs.length c5 zs rfl (q + 1) hlq.out rfl (by rw [World.cell?_alloc_at _ _ _ _ rfl]; rfl) (hoi2.alloc _) hlq' (by simp; omega) ?_; intro A6 c6 w6 hown6 _ hb6))
          go_roundw
          case rel => exact ⟨q + 1, by omega, by go_num, ⟨A6, c6, rfl, by rw [HSN.out, ← hz.out]; exact hown6.out⟩, (hbx.alloc hbx.size _).trans hb6⟩
          case measure => simp [intOf]; omega
        · obtain rfl : q = m := by omega
          have htk : (groups r k).take q = groups r k := List.take_of_length_le (by rw [HGL.out]; exact Nat.le_refl _)
          have HTK := Lib.hid htk
          clear htk
          go_wp2
          go_ret
          refine ⟨A2, c2, by rw [HGL.out]; rfl, ?_, hs2.below hbx (by omega) (by omega), ho2.stepB hbx⟩
          rw [HTK.out] at hom
          rw [HGL.out]
          exact hom.lower (by omega) (Nat.le_refl _)

end Go.Proofs.Ytglfmchddbaceaa
