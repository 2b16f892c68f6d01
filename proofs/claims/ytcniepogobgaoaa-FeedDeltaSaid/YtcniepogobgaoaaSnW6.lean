/-
  Package snapshot: Diff, called.
-/
import Derived.Test.YtcniepogobgaoaaSnW5
namespace Go.Proofs.Ytcniepogobgaoaa
set_option linter.unusedVariables false
set_option linter.unusedSimpArgs false
set_option maxRecDepth 4000
open Go.RowKit
attribute [local go_sem] Oper.semAt_some

theorem OwnU.keepRow {T : TypeId} {w w' : World} {B : Nat} {v : Value} {zs : List Int} (h : OwnU T w B v zs) (hr : ∀ r, v.ownBlock = some r → w'.heap[r]? = w.heap[r]?) : OwnU T w' B v zs := by
  refine ⟨h.1, ?_⟩
  rcases h.2 with h0 | ⟨g, cap, cur, hv, hg, hh, hx⟩
  · exact .inl h0
  · exact .inr ⟨g, cap, cur, hv, hg, (hr g (by rw [hv]; rfl)).trans hh, hx⟩
theorem OwnU.rowLt {T : TypeId} {w : World} {B : Nat} {v : Value} {zs : List Int} (h : OwnU T w B v zs) : ∀ r, v.ownBlock = some r → B ≤ r ∧ r < w.heap.size ∧ ∃ o : Obj, w.heap[r]? = some o ∧ o.isCells = true := by
  intro r hr
  rcases h.2 with ⟨h', _⟩ | ⟨g', cap', cur', h', hb, hh', _⟩
  · rw [h'] at hr; simp [Value.ownBlock] at hr
  · rw [h'] at hr
    have e : g' = r := by simpa [Value.ownBlock] using hr
    subst e
    exact ⟨hb, (Array.getElem?_eq_some_iff.1 hh').1, _, hh', rfl⟩
theorem SecAt.keepRow {w w' : World} {B g n : Nat} {last : Int} {v : Value} {bs : List Int} (h : SecAt w B g n last v bs) (hg : w'.heap[g]? = w.heap[g]?) (hr : ∀ r, v.ownBlock = some r → w'.heap[r]? = w.heap[r]?) : SecAt w' B g n last v bs :=
  ⟨hg.trans h.1, h.2.keepRow hr⟩
/-- Both sections: what has come of the merged walk is in them. -/
def DI (n₀ B gg gs : Nat) (w0 : World) (ps : List Pr) (W : World) : Prop :=
  ∃ (Ag : Option Addr) (tg cg : Nat) (As : Option Addr) (ts cs : Nat),
    SecAt W B gg (gP ps).length (lastI (-1) (gP ps) + 1) (.slice Ag tg cg) (gapsB (-1) (gP ps)) ∧
    SecAt W B gs (sP ps).length (lastI (-1) ((sP ps).map (·.i)) + 1) (.slice As ts cs) (setPB (-1) (sP ps)) ∧
    (∀ r, Value.ownBlock (.slice Ag tg cg) = some r → Value.ownBlock (.slice As ts cs) ≠ some r) ∧ Below n₀ w0 W ∧ B ≤ W.heap.size
theorem isCells_blk {W : World} {g : Nat} {t : TypeId} {cs : Array Value} (h : Blk W g t cs) : ∀ o : Obj, W.heap[g]? = some o → o.isCells = true := by
  intro o ho
  rw [h] at ho
  injection ho with ho
  rw [← ho]; rfl
theorem DI.box {n₀ B gg gs b1 b2 : Nat} {w0 : World} (hn : n₀ ≤ B) (hb1 : n₀ ≤ b1 ∧ b1 < B) (hb2 : n₀ ≤ b2 ∧ b2 < B) (hg : gg ≠ b1 ∧ gg ≠ b2) (hs : gs ≠ b1 ∧ gs ≠ b2) (xs : List Pr) :
    Abox B (fun k => k = b1 ∨ k = b2) (fun (k : Nat) W => DI n₀ B gg gs w0 (xs.take k) W) where
  grow := by
    rintro k W W' row ⟨Ag, tg, cg, As, ts, cs, h1, h2, h3, h4, h5⟩ hgr hrow
    have keep : ∀ (j : Nat) (o : Obj), W.heap[j]? = some o → o.isCells = true → W'.heap[j]? = W.heap[j]? := fun j o hj ho => by
      refine hgr.block j (Array.getElem?_eq_some_iff.1 hj).1 (fun e => ?_)
      obtain ⟨_, o', ho', hc⟩ := hrow j e.symm
      rw [hj] at ho'; cases ho'; rw [ho] at hc; cases hc
    have kb : ∀ (g : Nat) (t : TypeId) (cs : Array Value), Blk W g t cs → W'.heap[g]? = W.heap[g]? := fun g t cs h => keep g _ h rfl
    have kr : ∀ {v : Value} {zs : List Int}, OwnU 5 W B v zs → ∀ r, v.ownBlock = some r → W'.heap[r]? = W.heap[r]? := fun ho r hr => by
      obtain ⟨_, _, o, h, hc⟩ := ho.rowLt r hr
      exact keep r o h hc
    exact ⟨Ag, tg, cg, As, ts, cs, h1.keepRow (kb _ _ _ h1.1) (kr h1.2), h2.keepRow (kb _ _ _ h2.1) (kr h2.2), h3, h4.grown hgr (by omega) (fun k e => by have := (hrow k e).1; omega), Nat.le_trans h5 hgr.size⟩
  box := by
    rintro k W b v hb ⟨Ag, tg, cg, As, ts, cs, h1, h2, h3, h4, h5⟩
    have hbB : n₀ ≤ b ∧ b < B ∧ gg ≠ b ∧ gs ≠ b := by rcases hb with rfl | rfl; exact ⟨hb1.1, hb1.2, hg.1, hs.1⟩; exact ⟨hb2.1, hb2.2, hg.2, hs.2⟩
    have kr : ∀ {v' : Value} {zs : List Int}, OwnU 5 W B v' zs → ∀ r, v'.ownBlock = some r → (W.setCell ⟨b, 0, none⟩ v).heap[r]? = W.heap[r]? := fun ho r hr => by
      have := (ho.rowLt r hr).1
      exact setCell_other (by omega)
    exact ⟨Ag, tg, cg, As, ts, cs, h1.keepRow (setCell_other hbB.2.2.1) (kr h1.2), h2.keepRow (setCell_other hbB.2.2.2) (kr h2.2), h3, h4.setCell (p := ⟨b, 0, none⟩) hbB.1 _, by simpa using h5⟩

/-- What the body of a round leaves alone. -/
theorem frm_body {S : Nat → Prop} {W W' : World} {n₀ b1 b2 B gg gs : Nat} {ng ns : Nat} {lg ls : Int} {vg vs : Value} {zg zs : List Int} (h1 : SecAt W B gg ng lg vg zg) (h2 : SecAt W B gs ns ls vs zs) (hf : Frm S W W') (hS : ∀ k, S k → k = gg ∨ k = gs ∨ vg.ownBlock = some k ∨ vs.ownBlock = some k)
    (hn : n₀ ≤ B) (hB : B ≤ W.heap.size) (hb1 : b1 < B) (hb2 : b2 < B) (hgg : n₀ ≤ gg ∧ gg ≠ b1 ∧ gg ≠ b2) (hgs : n₀ ≤ gs ∧ gs ≠ b1 ∧ gs ≠ b2) : KeepsOthers W W' ∧ KpB n₀ b1 b2 W W' := by
  have hlow : ∀ k, S k → n₀ ≤ k ∧ k ≠ b1 ∧ k ≠ b2 := fun k hk => by
    rcases hS k hk with rfl | rfl | h | h
    · exact hgg
    · exact hgs
    · have := (h1.2.rowLt k h).1; omega
    · have := (h2.2.rowLt k h).1; omega
  have hcell : ∀ k, S k → ∀ o : Obj, W.heap[k]? = some o → o.isCells = true := fun k hk o ho => by
    rcases hS k hk with rfl | rfl | h | h
    · exact isCells_blk h1.1 o ho
    · exact isCells_blk h2.1 o ho
    · obtain ⟨_, _, o', h', hc⟩ := h1.2.rowLt k h; rw [ho] at h'; cases h'; exact hc
    · obtain ⟨_, _, o', h', hc⟩ := h2.2.rowLt k h; rw [ho] at h'; cases h'; exact hc
  refine ⟨⟨hf.size, fun k o hk ho => ?_⟩, hf.below (by omega) (fun k hk => (hlow k hk).1), ?_, ?_⟩
  · refine (hf.block k (Array.getElem?_eq_some_iff.1 hk).1 (fun hs => ?_)).trans hk
    have := hcell k hs o hk
    rw [ho] at this; cases this
  · exact hf.block b1 (by omega) (fun hs => (hlow b1 hs).2.1 rfl)
  · exact hf.block b2 (by omega) (fun hs => (hlow b2 hs).2.2 rfl)

set_option maxHeartbeats 2000000 in
theorem diff_any (A1 : Option Addr) (n1 c1 : Nat) (a : Vw) (A2 : Option Addr) (n2 c2 : Nat) (b : Vw) (w : World) (hs1 : SlP w w.heap.size A1 n1 c1 a) (hs2 : SlP w w.heap.size A2 n2 c2 b) (hn1 : n1 ≤ 1000) (hn2 : n2 ≤ 1000) (hv1 : IsV a) (hv2 : IsV b) (out : List Int) (m : Nat) (ho : out = difD a b) (hm : out.length = m) :
    Calls Try.prog 22 #[.slice A1 n1 c1, .slice A2 n2 c2] w fun e w' => ∃ A c, e = .returned (.slice A m c) ∧ OwnU 5 w' w.heap.size (.slice A m c) out ∧ Below w.heap.size w w' := by
  have HS1 := Lib.hid hs1
  have HS2 := Lib.hid hs2
  have HV1 := Lib.hid hv1
  have HV2 := Lib.hid hv2
  have HO := Lib.hid ho
  have HM := Lib.hid hm
  clear hs1 hs2 hv1 hv2 ho hm
  refine (callsIn_wide (n := 3)).1 ?_
  refine callsIn_of_wp_marks Try.func22 rfl trivial ?_ rfl
  simp only [Try.ntmps22, List.size_toArray, List.length_cons, List.length_nil, Nat.reduceAdd, Nat.reduceSub, Array.replicate_succ, Array.replicate_zero, List.push_toArray, List.append_toArray, List.nil_append, List.cons_append]
  obtain ⟨n₀, hn₀⟩ : ∃ n₀, n₀ = w.heap.size := ⟨_, rfl⟩
  gi_wp2_with (refine ⟨trivial, ?_⟩; gi_at_call 41; refine (callsIn_wide.2 (merge_any A1 n1 c1 A2 n2 c2 _)).mono ?_; rintro e w' ⟨rfl, rfl⟩)
  simp only [World.size_alloc, Nat.add_assoc, Nat.reduceAdd]
  obtain ⟨W0, hW0⟩ : ∃ W0, W0 = ((((w.alloc (.cells #[.int .u64 0, .int .i64 0, .slice none 0 0] 82)).alloc (.cells #[.int .u64 0, .int .i64 0, .slice none 0 0] 82)).alloc (.cells #[.slice A1 n1 c1] 30)).alloc (.cells #[.slice A2 n2 c2] 30)) := ⟨_, rfl⟩
  have hz0 : W0.heap.size = w.heap.size + 4 := by rw [hW0]; simp
  have hb0 : Below w.heap.size w W0 := by rw [hW0]; exact ((((Below.refl _ _).alloc (Nat.le_refl _) _).alloc (by simp) _).alloc (by simp; omega) _).alloc (by simp; omega) _
  have hk1 : Blk W0 w.heap.size 82 #[.int .u64 0, .int .i64 0, .slice none 0 0] := by rw [hW0]; exact (((Blk.new w _ _).alloc _).alloc _).alloc _
  have hk2 : Blk W0 (w.heap.size + 1) 82 #[.int .u64 0, .int .i64 0, .slice none 0 0] := by
    rw [hW0]
    have := (((Blk.new (w.alloc (.cells #[.int .u64 0, .int .i64 0, .slice none 0 0] 82)) 82 #[.int .u64 0, .int .i64 0, .slice none 0 0]).alloc (.cells #[.slice A1 n1 c1] 30)).alloc (.cells #[.slice A2 n2 c2] 30))
    rwa [World.size_alloc] at this
  have hk3 : Blk W0 (w.heap.size + 2) 30 #[.slice A1 n1 c1] := by
    rw [hW0]
    have := ((Blk.new ((w.alloc (.cells #[.int .u64 0, .int .i64 0, .slice none 0 0] 82)).alloc (.cells #[.int .u64 0, .int .i64 0, .slice none 0 0] 82)) 30 #[.slice A1 n1 c1]).alloc (.cells #[.slice A2 n2 c2] 30))
    rwa [World.size_alloc, World.size_alloc, Nat.add_assoc] at this
  have hk4 : Blk W0 (w.heap.size + 3) 30 #[.slice A2 n2 c2] := by
    rw [hW0]
    have := (Blk.new (((w.alloc (.cells #[.int .u64 0, .int .i64 0, .slice none 0 0] 82)).alloc (.cells #[.int .u64 0, .int .i64 0, .slice none 0 0] 82)).alloc (.cells #[.slice A1 n1 c1] 30)) 30 #[.slice A2 n2 c2])
    rwa [World.size_alloc, World.size_alloc, World.size_alloc, Nat.add_assoc, Nat.add_assoc] at this
  rw [← hW0]
  have HS1' := Lib.hid (HS1.out.keep (fun p hp => hb0.cell hp))
  have HS2' := Lib.hid (HS2.out.keep (fun p hp => hb0.cell hp))
  clear hW0
  refine wpIn_range_boxes2 (α := Pr) (F := Fence.wide) (n := 3) (P := Try.prog) rfl (by omega) (gf := 62) (lb := #[.pointer (some ⟨w.heap.size + 2, 0, none⟩), .pointer (some ⟨w.heap.size + 3, 0, none⟩)]) rfl trivial (enters_of Try.func62 (by kernel_rfl) rfl)
    (encs := encPr) (Kp := KpB w.heap.size (w.heap.size + 2) (w.heap.size + 3)) (xs := mrg a b) (bx := fun k => k = w.heap.size + 2 ∨ k = w.heap.size + 3) (fun k hk => by rcases hk with rfl | rfl <;> omega) (fun x => rfl) ?seq ?kt ?kb
    (fun k W => DI w.heap.size W0.heap.size w.heap.size (w.heap.size + 1) w ((mrg a b).take k) W) (DI.box (by omega) (by omega) (by omega) (by omega) (by omega) _) ?start ?kg
    (fun (x : Pr) (a' : Act) (W : World) => ∃ Bx, W0.heap.size ≤ Bx ∧ Blk W Bx 87 #[.int .i64 x.i, .int .i64 x.o, .int .i64 x.n, .bool x.was, .bool x.stays] ∧ a' = { tmps := List.toArray ((.slice A1 n1 c1) :: (.slice A2 n2 c2) :: undef :: undef :: (.slice none 0 0) :: (.pointer (some ⟨w.heap.size, 0, none⟩)) :: (.pointer (some ⟨w.heap.size + 1, 0, none⟩)) :: (.pointer (some ⟨Bx, 0, none⟩)) :: undef :: (.slice A1 n1 c1) :: (.slice A2 n2 c2) :: (.func (.func 62) #[] #[.pointer (some ⟨w.heap.size + 2, 0, none⟩), .pointer (some ⟨w.heap.size + 3, 0, none⟩)]) :: (.agg #[.int .i64 x.i, .int .i64 x.o, .int .i64 x.n, .bool x.was, .bool x.stays]) :: undef :: undef :: undef :: undef :: undef :: undef :: undef :: undef :: undef :: undef :: undef :: undef :: undef :: undef :: undef :: undef :: undef :: undef :: undef :: undef :: undef :: undef :: undef :: undef :: undef :: undef :: undef :: undef :: undef :: undef :: undef :: undef :: undef :: undef :: undef :: undef :: undef :: undef :: undef :: undef :: undef :: undef :: undef :: undef :: []), defers := [] }) ?hAx ?assign ?body ?done
  case seq =>
    intro W hW
    exact merge1_seq _ _ _ _ A1 n1 c1 A2 n2 c2 a b W (by omega) (by omega) (by omega) (hk3.below hW (by omega)) (hk4.below hW (by omega)) (HS1'.out.keep (fun p hp => hW.cell (by omega))) (HS2'.out.keep (fun p hp => hW.cell (by omega)))
  case kt =>
    rintro A B C ⟨h1, h2, h3⟩ ⟨k1, k2, k3⟩
    exact ⟨h1.trans k1, k2.trans h2, k3.trans h3⟩
  case kb =>
    intro W l o o' hl ho hc
    have hlt := (Array.getElem?_eq_some_iff.1 ho).1
    exact ⟨(Below.refl _ _).grown (grownBy_putObj' W l o') (by omega) (fun k e => by cases e; omega), World.putObj_heap_other (by omega), World.putObj_heap_other (by omega)⟩
  case start =>
    exact ⟨none, 0, 0, none, 0, 0, ⟨hk1, OwnU.nil _ _ _⟩, ⟨hk2, OwnU.nil _ _ _⟩, (fun r h => by cases h), hb0, Nat.le_refl _⟩
  case kg =>
    intro W W' hz hg
    exact ⟨(Below.refl _ _).grown hg (by omega) (fun k e => by cases e), hg.block _ (by omega) (by simp), hg.block _ (by omega) (by simp)⟩
  case hAx =>
    rintro x a' W W' row ⟨Bx, h1, h2, rfl⟩ hg hr
    refine ⟨Bx, h1, ?_, rfl⟩
    refine (hg.block Bx h2.lt (fun e => ?_)).trans h2
    obtain ⟨_, o, ho, hc⟩ := hr Bx e.symm
    rw [isCells_blk h2 o ho] at hc; cases hc
  case assign =>
    intro l k x W K hi hz hK
    dsimp only [encPr]
    gi_wp2
    exact hK _ _ (World.grownBy_alloc W _ none) ⟨W.heap.size, hz, Blk.new W _ _, rfl⟩
  case body =>
    rintro l k x a' W ⟨Ag, tg, cg, As, ts, cs, hg, hs, hap, hbel, hzB⟩ ⟨Bx, hBx, hx, rfl⟩ hz hxk
    have hkl : k < (mrg a b).length := (List.getElem?_eq_some_iff.1 hxk).1
    have hxm : x ∈ mrg a b := List.mem_of_getElem? hxk
    obtain ⟨ps, hps⟩ : ∃ ps, ps = (mrg a b).take k := ⟨_, rfl⟩
    have htk : (mrg a b).take (k + 1) = ps ++ [x] := by
      rw [List.take_add_one, hxk, hps]; rfl
    have hall : ∀ p ∈ mrg a b, PrB p := mrg_bd a b HV1.out.bd HV2.out.bd
    have hlt : ∀ p ∈ ps, PrB p ∧ p.i < x.i := fun p hp => by
      refine ⟨hall p (by rw [hps] at hp; exact List.mem_of_mem_take hp), ?_⟩
      have hup := mrg_up a b HV1.out.up HV2.out.up
      rw [hps] at hp
      obtain ⟨j, hj, rfl⟩ := List.getElem_of_mem hp
      rw [List.length_take] at hj
      have hk' := (List.getElem?_eq_some_iff.1 hxk).2
      rw [List.getElem_take, ← hk']
      exact List.pairwise_iff_getElem.1 hup _ _ _ _ (by omega)
    have hxb : PrB x := hall x hxm
    have hkl2 : ps.length ≤ 2000 := by
      have := mrg_len a b
      have h1 := HS1.out.len
      have h2 := HS2.out.len
      rw [hps, List.length_take]; omega
    have g1 := lastI_bd (l := gP ps) (z := x.i) (fun y hy => by obtain ⟨p, hp, rfl⟩ := List.mem_map.1 hy; exact (hlt p (List.mem_filter.1 hp).1).1.1.1) (fun y hy => by obtain ⟨p, hp, rfl⟩ := List.mem_map.1 hy; exact (hlt p (List.mem_filter.1 hp).1).2) hxb.1.1
    have g2 := lastI_bd (l := (sP ps).map (·.i)) (z := x.i) (fun y hy => by obtain ⟨p, hp, rfl⟩ := List.mem_map.1 hy; exact (hlt p (List.mem_filter.1 hp).1).1.1.1) (fun y hy => by obtain ⟨p, hp, rfl⟩ := List.mem_map.1 hy; exact (hlt p (List.mem_filter.1 hp).1).2) hxb.1.1
    have gl1 : (gP ps).length ≤ 2000 := by unfold gP; rw [List.length_map]; exact Nat.le_trans (List.length_filter_le _ _) hkl2
    have gl2 : (sP ps).length ≤ 2000 := Nat.le_trans (List.length_filter_le _ _) hkl2
    have gb1 := gapsB_len (l := gP ps) (fun y hy => by obtain ⟨p, hp, rfl⟩ := List.mem_map.1 hy; exact (hlt p (List.mem_filter.1 hp).1).1.1)
    have gb2 := setPB_len (l := sP ps) (fun p hp => (hlt p (List.mem_filter.1 hp).1).1.1)
    have ht1 := hg.2.len
    have ht2 := hs.2.len
    rw [← hps] at hg hs ht1 ht2
    rw [htk]
    clear hps htk hall hlt hxk hxm hkl
    obtain ⟨i, o, q, was, stays⟩ := x
    have hib : 0 ≤ i ∧ i ≤ 2147483647 := hxb.1
    have hob : -9223372036854775808 ≤ o ∧ o ≤ 9223372036854775807 := hxb.2.1
    have hqb : -9223372036854775808 ≤ q ∧ q ≤ 9223372036854775807 := hxb.2.2
    have d0 : W.cell? ⟨Bx, 0, none⟩ = some (.int .i64 i) := hx.cell 0
    have d1 : W.cell? ⟨Bx, 1, none⟩ = some (.int .i64 o) := hx.cell 1
    have d2 : W.cell? ⟨Bx, 2, none⟩ = some (.int .i64 q) := hx.cell 2
    have d3 : W.cell? ⟨Bx, 3, none⟩ = some (.bool was) := hx.cell 3
    have d4 : W.cell? ⟨Bx, 4, none⟩ = some (.bool stays) := hx.cell 4
    have hd1 : 0 ≤ lastI (-1) (gP ps) + 1 ∧ lastI (-1) (gP ps) + 1 ≤ i := by have := g1.1; have := g1.2; simp at this; omega
    have hd2 : 0 ≤ lastI (-1) ((sP ps).map (·.i)) + 1 ∧ lastI (-1) ((sP ps).map (·.i)) + 1 ≤ i := by have := g2.1; have := g2.2; simp at this; omega
    have htg : tg < 90000 := by omega
    have hts : ts < 89000 := by omega
    have hng : (gP ps).length < 1000000 := by omega
    have hns : (sP ps).length < 1000000 := by omega
    have HG := Lib.hid hg
    have HS := Lib.hid hs
    have HAP := Lib.hid hap
    have HBEL := Lib.hid hbel
    have HX := Lib.hid hx
    have HT1 := Lib.hid ht1
    have HT2 := Lib.hid ht2
    clear g1 g2 gb1 gb2 ht1 ht2 hg hs hap hbel hx hxb
    cases stays
    · have hidx : Hid (∀ W' , W = W' → Calls Try.prog 42 #[.pointer (some ⟨w.heap.size, 0, none⟩), .int .i64 i] W' fun e W' => e = .returned (.tuple #[]) ∧ KeepsOthers W W' ∧ KpB w.heap.size (w.heap.size + 2) (w.heap.size + 3) W W' ∧ DI w.heap.size W0.heap.size w.heap.size (w.heap.size + 1) w (ps ++ [⟨i, o, q, was, false⟩]) W') := by
        rintro W' rfl
        obtain ⟨ob, hob'⟩ : ∃ ob, ob = gapsB (-1) (gP ps) ++ enc (i - (lastI (-1) (gP ps) + 1)).toNat := ⟨_, rfl⟩
        obtain ⟨mb, hmb⟩ : ∃ mb, ob.length = mb := ⟨_, rfl⟩
        refine (index_any w.heap.size _ _ Ag tg cg _ i _ W0.heap.size W HG.out hzB htg hng hd1.1 hd1.2 hib.2 rfl ob mb hob' hmb).mono ?_
        rintro e W' ⟨rfl, A', c', hsec, hfrm, hrow⟩
        obtain ⟨k1, k2⟩ := frm_body (n₀ := w.heap.size) (b1 := w.heap.size + 2) (b2 := w.heap.size + 3) HG.out HS.out hfrm (fun k hk => by rcases hk with h | h; exact .inl h; exact .inr (.inr (.inl h))) (by omega) hzB (by omega) (by omega) (by omega) (by omega)
        refine ⟨rfl, k1, k2, A', mb, c', As, ts, cs, ?_, ?_, ?_, HBEL.out.trans k2.1, Nat.le_trans hzB hfrm.size⟩
        · have e1 : gP (ps ++ [⟨i, o, q, was, false⟩]) = gP ps ++ [i] := by rw [gP_snoc]; rfl
          rw [e1, lastI_snoc, List.length_append, gapsB_snoc]
          have e2 : (i - lastI (-1) (gP ps) - 1).toNat = (i - (lastI (-1) (gP ps) + 1)).toNat := by congr 1; omega
          rw [e2, ← hob']
          exact hsec
        · have e1 : sP (ps ++ [⟨i, o, q, was, false⟩]) = sP ps := by rw [sP_snoc]; simp [selP]
          rw [e1]
          refine HS.out.keepRow (hfrm.block _ HS.out.1.lt ?_) (fun r hr => hfrm.block _ (HS.out.2.rowLt r hr).2.1 ?_)
          · rintro (h | h)
            · omega
            · exact HS.out.1.apartU (by decide) HG.out.2 h
          · rintro (h | h)
            · subst h; exact HG.out.1.apartU (by decide) HS.out.2 hr
            · exact HAP.out r h hr
        · intro r hr hr'
          rcases hrow r hr with h | h
          · exact HAP.out r h hr'
          · have := (HS.out.2.rowLt r hr').2.1; omega
      clear HG HS HAP HBEL HX HT1 HT2
      gi_wp2_with (refine ⟨trivial, ?_⟩; gi_at_call 42; refine (CallsIn.inRound l (callsIn_wide.2 (hidx.out _ rfl))).mono ?_; rintro e W' ⟨rfl, k1, k2, k3⟩)
      exact ⟨k1, k2, k3⟩
    · have hcase : (was = true ∧ o = q) ∨ (was = false ∨ (was = true ∧ o ≠ q)) := by
        cases was
        · exact .inr (.inl rfl)
        · by_cases h : o = q
          · exact .inl ⟨rfl, h⟩
          · exact .inr (.inr ⟨rfl, h⟩)
      rcases hcase with ⟨rfl, rfl⟩ | hsel
      · have hfin : Hid (KeepsOthers W W ∧ KpB w.heap.size (w.heap.size + 2) (w.heap.size + 3) W W ∧ DI w.heap.size W0.heap.size w.heap.size (w.heap.size + 1) w (ps ++ [⟨i, o, o, true, true⟩]) W) := by
          refine ⟨KeepsOthers.refl W, ⟨Below.refl _ _, rfl, rfl⟩, Ag, tg, cg, As, ts, cs, ?_, ?_, HAP.out, HBEL.out, hzB⟩
          · have e1 : gP (ps ++ [⟨i, o, o, true, true⟩]) = gP ps := by rw [gP_snoc]; simp
            rw [e1]; exact HG.out
          · have e1 : sP (ps ++ [⟨i, o, o, true, true⟩]) = sP ps := by rw [sP_snoc]; simp [selP]
            rw [e1]; exact HS.out
        clear HG HS HAP HBEL HX HT1 HT2
        gi_wp2
        have h := hfin.out
        rw [hz0] at h
        exact h
      · obtain ⟨ob, hob'⟩ : ∃ ob, ob = setPB (-1) (sP ps) ++ enc (i - (lastI (-1) ((sP ps).map (·.i)) + 1)).toNat := ⟨_, rfl⟩
        obtain ⟨mb, hmb⟩ : ∃ mb, ob.length = mb := ⟨_, rfl⟩
        obtain ⟨dd, hdd⟩ : ∃ dd, dd = w64 (q - o) := ⟨_, rfl⟩
        have hdb := w64_bd (q - o)
        rw [← hdd] at hdb
        have hwr : IntKind.i64.wrap (q - o) = dd := hdd.symm
        have hzl := zig_lt hdb.1 hdb.2
        obtain ⟨zz, hzz⟩ : ∃ zz, zz = zig dd := ⟨_, rfl⟩
        rw [← hzz] at hzl
        obtain ⟨oc, hoc⟩ : ∃ oc, oc = ob ++ enc zz := ⟨_, rfl⟩
        obtain ⟨mc, hmc⟩ : ∃ mc, oc.length = mc := ⟨_, rfl⟩
        have hmb2 : mb < 100000 := by
          have := HT2.out
          have := enc_len10 (n := (i - (lastI (-1) ((sP ps).map (·.i)) + 1)).toNat) (by omega)
          rw [← hmb, hob', List.length_append]; omega
        have hidx : Hid (∀ W' , W = W' → Calls Try.prog 42 #[.pointer (some ⟨w.heap.size + 1, 0, none⟩), .int .i64 i] W' fun e W1 => e = .returned (.tuple #[]) ∧ ∃ A' c', SecAt W1 W0.heap.size (w.heap.size + 1) ((sP ps).length + 1) (i + 1) (.slice A' mb c') ob ∧
            Frm (fun k => k = w.heap.size + 1 ∨ Value.ownBlock (.slice As ts cs) = some k) W W1 ∧ RowAt W.heap.size (.slice As ts cs) (.slice A' mb c') ∧ Blk W1 Bx 87 #[.int .i64 i, .int .i64 o, .int .i64 q, .bool was, .bool true]) := by
          rintro W' rfl
          refine (index_any (w.heap.size + 1) _ _ As ts cs _ i _ W0.heap.size W HS.out hzB (by omega) hns hd2.1 hd2.2 hib.2 rfl ob mb hob' hmb).mono ?_
          rintro e W1 ⟨rfl, A', c', hsec, hfrm, hrow⟩
          refine ⟨rfl, A', c', hsec, hfrm, hrow, (hfrm.block _ HX.out.lt ?_).trans HX.out⟩
          rintro (h | h)
          · subst h
            have h1 := HX.out
            have h2 := HS.out.1
            unfold Blk at h1 h2
            rw [h1] at h2
            injection h2 with h2
            injection h2 with _ h2
            exact absurd h2 (by decide)
          · exact HX.out.apartU (by decide) HS.out.2 h
        have HZG : Hid (∀ W, Calls Try.prog 44 #[.int .i64 dd] W fun e w' => e = .returned (.int .u64 (zz : Int)) ∧ W = w') := fun W => by rw [hzz]; exact zig_any dd W hdb.1 hdb.2
        have HOB := Lib.hid hob'
        have HMB := Lib.hid hmb
        have HZZ := Lib.hid hzz
        have HDD := Lib.hid hdd
        have HOC := Lib.hid hoc
        have HMC := Lib.hid hmc
        clear hob' hmb hzz hdd hoc hmc
        have FIN : Hid (∀ (W1 : World) (A' : Option Addr) (c' : Nat), SecAt W1 W0.heap.size (w.heap.size + 1) ((sP ps).length + 1) (i + 1) (.slice A' mb c') ob → Frm (fun k => k = w.heap.size + 1 ∨ Value.ownBlock (.slice As ts cs) = some k) W W1 → RowAt W.heap.size (.slice As ts cs) (.slice A' mb c') →
            ∀ (A2' : Option Addr) (c2' : Nat) (w2 : World), OwnU 5 w2 W0.heap.size (.slice A2' mc c2') oc → W1.drew.grownBy w2 (Value.ownBlock (.slice A' mb c')) → RowAt W1.drew.heap.size (.slice A' mb c') (.slice A2' mc c2') →
              KeepsOthers W (w2.setCell ⟨w.heap.size + 1, 2, none⟩ (.slice A2' mc c2')) ∧ KpB w.heap.size (w.heap.size + 2) (w.heap.size + 3) W (w2.setCell ⟨w.heap.size + 1, 2, none⟩ (.slice A2' mc c2')) ∧
              DI w.heap.size (w.heap.size + 4) w.heap.size (w.heap.size + 1) w (ps ++ [⟨i, o, q, was, true⟩]) (w2.setCell ⟨w.heap.size + 1, 2, none⟩ (.slice A2' mc c2'))) := by
          intro W1 A' c' hsec hfrm hrow A2' c2' w2 ho2 hg2 hr2
          have f1 : Frm (fun k => k = w.heap.size + 1 ∨ Value.ownBlock (.slice As ts cs) = some k) W w2 := (hfrm.drewN 1).trans (Frm.of_grown hg2) (fun k hk => by
            rcases hrow k hk with h | h
            · exact .inl (.inr h)
            · exact .inr h)
          have f2 := f1.trans (Frm.setCell w2 ⟨w.heap.size + 1, 2, none⟩ (.slice A2' mc c2')) (fun k hk => .inl (.inl hk))
          obtain ⟨k1, k2⟩ := frm_body (n₀ := w.heap.size) (b1 := w.heap.size + 2) (b2 := w.heap.size + 3) HG.out HS.out f2 (fun k hk => by rcases hk with h | h; exact .inr (.inl h); exact .inr (.inr (.inr h))) (by omega) hzB (by omega) (by omega) (by omega) (by omega)
          have hd : Blk W1.drew (w.heap.size + 1) 82 #[.int .u64 (((sP ps).length + 1 : Nat) : Int), .int .i64 (i + 1), .slice A' mb c'] := hsec.1
          have hb2 : Blk w2 (w.heap.size + 1) 82 #[.int .u64 (((sP ps).length + 1 : Nat) : Int), .int .i64 (i + 1), .slice A' mb c'] := (hg2.block _ hd.lt (fun e => hsec.1.apartU (by decide) hsec.2 e.symm)).trans hd
          have hrow2 := hb2.apartU (by decide) ho2
          refine ⟨k1, k2, Ag, tg, cg, A2', mc, c2', ?_, ?_, ?_, HBEL.out.trans k2.1, by have := f2.size; omega⟩
          · have e1 : gP (ps ++ [⟨i, o, q, was, true⟩]) = gP ps := by rw [gP_snoc]; simp
            rw [e1, ← hz0]
            refine HG.out.keepRow (f2.block _ HG.out.1.lt ?_) (fun r hr => f2.block _ (HG.out.2.rowLt r hr).2.1 ?_)
            · rintro (h | h)
              · omega
              · exact HG.out.1.apartU (by decide) HS.out.2 h
            · rintro (h | h)
              · subst h; exact HS.out.1.apartU (by decide) HG.out.2 hr
              · exact HAP.out r hr h
          · have hsel' : selP ⟨i, o, q, was, true⟩ = true := by
              unfold selP
              rcases hsel with h | ⟨h, hne⟩
              · simp [h]
              · simp [h, hne]
            have e1 : sP (ps ++ [⟨i, o, q, was, true⟩]) = sP ps ++ [⟨i, o, q, was, true⟩] := by rw [sP_snoc, hsel']; rfl
            rw [e1, ← hz0, setPB_snoc, List.map_append, List.length_append]
            simp only [List.map_cons, List.map_nil, lastI_snoc]
            have e2 : (i - lastI (-1) ((sP ps).map (·.i)) - 1).toNat = (i - (lastI (-1) ((sP ps).map (·.i)) + 1)).toNat := by congr 1; omega
            have e3 : setPB (-1) (sP ps) ++ (enc (i - lastI (-1) ((sP ps).map (·.i)) - 1).toNat ++ enc (zig (w64 (q - o)))) = oc := by
              rw [HOC.out, HOB.out, HZZ.out, HDD.out, e2, List.append_assoc]
            rw [e3]
            refine ⟨?_, OwnU.far_ ho2 hrow2 _⟩
            have := hb2.set_ 2 (.slice A2' mc c2')
            simpa using this
          · intro r hr hr'
            have hlt := (HG.out.2.rowLt r hr).2.1
            rcases hr2 r hr' with h | h
            · rcases hrow r h with h' | h'
              · exact HAP.out r hr h'
              · omega
            · have := hfrm.size
              have h' : W1.heap.size ≤ r := h
              omega
        have FIN := Lib.hid FIN
        rcases hsel with rfl | ⟨rfl, hne⟩
        case' inr => have hne2 : (o == q) = false := beq_eq_false_iff_ne.2 hne
        case' inr => clear hne
        all_goals
          gi_wp2_with (first | (refine ⟨trivial, ?_⟩; gi_at_call 42; refine (CallsIn.inRound l (callsIn_wide.2 (hidx.out _ rfl))).mono ?_; rintro e W1 ⟨rfl, A', c', hsec, hfrm, hrow, hx1⟩))
          have FIN' := Lib.hid (FIN.out W1 A' c' hsec hfrm hrow)
          obtain ⟨hb1, ho1⟩ := hsec
          have x0 : W1.cell? ⟨w.heap.size + 1, 2, none⟩ = some (.slice A' mb c') := hb1.cell 2
          have x1 : W1.cell? ⟨Bx, 1, none⟩ = some (.int .i64 o) := hx1.cell 1
          have x2 : W1.cell? ⟨Bx, 2, none⟩ = some (.int .i64 q) := hx1.cell 2
          have HF : Hid (∀ w2, W1.drew.grownBy w2 (Value.ownBlock (.slice A' mb c')) → Blk w2 (w.heap.size + 1) 82 #[.int .u64 (((sP ps).length + 1 : Nat) : Int), .int .i64 (i + 1), .slice A' mb c']) := fun w2 hg => by
            have hd : Blk W1.drew (w.heap.size + 1) 82 #[.int .u64 (((sP ps).length + 1 : Nat) : Int), .int .i64 (i + 1), .slice A' mb c'] := hb1
            exact (hg.block _ hd.lt (fun e => hb1.apartU (by decide) ho1 e.symm)).trans hd
          have HO1 : Hid (OwnU 5 W1.drew W0.heap.size (.slice A' mb c') ob) := ho1
          have HB1 := Lib.hid hb1
          have HOW := Lib.hid ho1
          have HFR := Lib.hid hfrm
          have HRW := Lib.hid hrow
          have hBd : W0.heap.size ≤ W1.drew.heap.size := by have := hfrm.size; show _ ≤ W1.heap.size; omega
          clear hb1 ho1 hfrm hrow hx1 d0 d1 d2 d3 d4
          refine wpIn_region_any (by kernel_rfl) ?_
          change wpAnyIn _ _ _ _ _ _ _ _ _ (World.drew _)
          refine wpAnyIn_inRound (by kernel_rfl) rfl _ _ _ _ ?_
          --REGION8
          refine wpAnyIn_take (i := 0) (v := .pointer (some ⟨w.heap.size + 1, 2, none⟩)) rfl rfl (by kernel_rfl) (by kernel_rfl) (by kernel_rfl) (fun _ _ _ h => h) ⟨Or.inl ⟨by rfl, by intro w; go_simp⟩, fun _ => rfl⟩ ?_
          simp only [Act.put, List.setIfInBounds_toArray, List.set_cons_zero, List.set_cons_succ]
          refine wpAnyIn_take (i := 2) (v := .pointer (some ⟨Bx, 2, none⟩)) rfl rfl (by kernel_rfl) (by kernel_rfl) (by kernel_rfl) (fun _ _ _ h => h) ⟨Or.inl ⟨by rfl, by intro w; go_simp⟩, fun _ => rfl⟩ ?_
          simp only [Act.put, List.setIfInBounds_toArray, List.set_cons_zero, List.set_cons_succ]
          refine wpAnyIn_take (i := 4) (v := .pointer (some ⟨Bx, 1, none⟩)) rfl rfl (by kernel_rfl) (by kernel_rfl) (by kernel_rfl) (fun _ _ _ h => h) ⟨Or.inl ⟨by rfl, by intro w; go_simp⟩, fun _ => rfl⟩ ?_
          simp only [Act.put, List.setIfInBounds_toArray, List.set_cons_zero, List.set_cons_succ]
          refine wpAnyIn_ready (rs := [1, 3, 5]) (by kernel_rfl) (by simp) ?_
          refine AllReadyIn.cons rfl (fun K hK => ?_) ?_
          · go_simp
            refine hK _ _ ?_; clear hK K
            refine wpAnyIn_ready (rs := [3, 5]) (by kernel_rfl) (by simp) ?_
            refine AllReadyIn.cons rfl (fun K hK => ?_) ?_
            · go_simp
              refine hK _ _ ?_; clear hK K
              refine wpAnyIn_ready (rs := [5]) (by kernel_rfl) (by simp) ?_
              refine AllReadyIn.cons rfl (fun K hK => ?_) AllReadyIn.nil
              go_simp
              refine hK _ _ ?_; clear hK K
              refine wpAnyIn_take (i := 6) (v := .int .i64 dd) rfl rfl (by kernel_rfl) (by kernel_rfl) (by kernel_rfl) (fun _ _ _ h => h) ⟨Or.inl ⟨by rfl, by intro w; go_simp⟩, fun _ => rfl⟩ ?_
              simp only [Act.put, List.setIfInBounds_toArray, List.set_cons_zero, List.set_cons_succ]
              refine wpAnyIn_ready (rs := [7]) (by kernel_rfl) (by simp) ?_
              refine AllReadyIn.cons rfl (fun K hK => ?_) AllReadyIn.nil
              go_simp
              refine ⟨trivial, ?_⟩
              refine (callsIn_wide.2 (HZG.out _)).mono ?_
              rintro e w' ⟨rfl, rfl⟩
              refine hK _ _ ?_; clear hK K
              refine wpAnyIn_ready (rs := [8]) (by kernel_rfl) (by simp) ?_
              refine AllReadyIn.cons rfl (fun K hK => ?_) AllReadyIn.nil
              go_simp
              refine ⟨trivial, ?_⟩
              refine (callsIn_wide.2 (appn_g _ _ W0.heap.size mb A' c' zz _ hzl rfl HO1.out hmb2 hBd oc mc HOC.out HMC.out)).mono ?_
              rintro e w2 ⟨A2', c2', rfl, ho2, hg2, hr2⟩
              have hb2 := HF.out w2 hg2
              have y0 : w2.cell? ⟨w.heap.size + 1, 2, none⟩ = some (.slice A' mb c') := hb2.cell 2
              have hfz := hb2.frozen 2
              refine hK _ _ ?_; clear hK K
              refine wpAnyIn_take (i := 9) (v := .pointer (some ⟨w.heap.size + 1, 2, none⟩)) rfl rfl (by kernel_rfl) (by kernel_rfl) (by kernel_rfl) (fun _ _ _ h => h) ⟨Or.inl ⟨by rfl, by intro w; go_simp⟩, fun _ => rfl⟩ ?_
              simp only [Act.put, List.setIfInBounds_toArray, List.set_cons_zero, List.set_cons_succ]
              refine wpAnyIn_ready (rs := [10]) (by kernel_rfl) (by simp) ?_
              refine AllReadyIn.cons rfl (fun K hK => ?_) AllReadyIn.nil
              go_simp
              refine hK _ _ ?_; clear hK K
              refine wpAnyIn_done (by kernel_rfl) ?_ _
              gi_wp2
              have hF := FIN'.out _ _ _ ho2 hg2 hr2
              first | exact hF | (rw [← hz0] at hF; exact hF)
            refine AllReadyIn.cons rfl (fun K hK => ?_) ?_
            · go_simp
              refine hK _ _ ?_; clear hK K
              refine wpAnyIn_ready (rs := [3]) (by kernel_rfl) (by simp) ?_
              refine AllReadyIn.cons rfl (fun K hK => ?_) AllReadyIn.nil
              go_simp
              refine hK _ _ ?_; clear hK K
              refine wpAnyIn_take (i := 6) (v := .int .i64 dd) rfl rfl (by kernel_rfl) (by kernel_rfl) (by kernel_rfl) (fun _ _ _ h => h) ⟨Or.inl ⟨by rfl, by intro w; go_simp⟩, fun _ => rfl⟩ ?_
              simp only [Act.put, List.setIfInBounds_toArray, List.set_cons_zero, List.set_cons_succ]
              refine wpAnyIn_ready (rs := [7]) (by kernel_rfl) (by simp) ?_
              refine AllReadyIn.cons rfl (fun K hK => ?_) AllReadyIn.nil
              go_simp
              refine ⟨trivial, ?_⟩
              refine (callsIn_wide.2 (HZG.out _)).mono ?_
              rintro e w' ⟨rfl, rfl⟩
              refine hK _ _ ?_; clear hK K
              refine wpAnyIn_ready (rs := [8]) (by kernel_rfl) (by simp) ?_
              refine AllReadyIn.cons rfl (fun K hK => ?_) AllReadyIn.nil
              go_simp
              refine ⟨trivial, ?_⟩
              refine (callsIn_wide.2 (appn_g _ _ W0.heap.size mb A' c' zz _ hzl rfl HO1.out hmb2 hBd oc mc HOC.out HMC.out)).mono ?_
              rintro e w2 ⟨A2', c2', rfl, ho2, hg2, hr2⟩
              have hb2 := HF.out w2 hg2
              have y0 : w2.cell? ⟨w.heap.size + 1, 2, none⟩ = some (.slice A' mb c') := hb2.cell 2
              have hfz := hb2.frozen 2
              refine hK _ _ ?_; clear hK K
              refine wpAnyIn_take (i := 9) (v := .pointer (some ⟨w.heap.size + 1, 2, none⟩)) rfl rfl (by kernel_rfl) (by kernel_rfl) (by kernel_rfl) (fun _ _ _ h => h) ⟨Or.inl ⟨by rfl, by intro w; go_simp⟩, fun _ => rfl⟩ ?_
              simp only [Act.put, List.setIfInBounds_toArray, List.set_cons_zero, List.set_cons_succ]
              refine wpAnyIn_ready (rs := [10]) (by kernel_rfl) (by simp) ?_
              refine AllReadyIn.cons rfl (fun K hK => ?_) AllReadyIn.nil
              go_simp
              refine hK _ _ ?_; clear hK K
              refine wpAnyIn_done (by kernel_rfl) ?_ _
              gi_wp2
              have hF := FIN'.out _ _ _ ho2 hg2 hr2
              first | exact hF | (rw [← hz0] at hF; exact hF)
            exact AllReadyIn.nil
          refine AllReadyIn.cons rfl (fun K hK => ?_) ?_
          · go_simp
            refine hK _ _ ?_; clear hK K
            refine wpAnyIn_ready (rs := [1, 5]) (by kernel_rfl) (by simp) ?_
            refine AllReadyIn.cons rfl (fun K hK => ?_) ?_
            · go_simp
              refine hK _ _ ?_; clear hK K
              refine wpAnyIn_ready (rs := [5]) (by kernel_rfl) (by simp) ?_
              refine AllReadyIn.cons rfl (fun K hK => ?_) AllReadyIn.nil
              go_simp
              refine hK _ _ ?_; clear hK K
              refine wpAnyIn_take (i := 6) (v := .int .i64 dd) rfl rfl (by kernel_rfl) (by kernel_rfl) (by kernel_rfl) (fun _ _ _ h => h) ⟨Or.inl ⟨by rfl, by intro w; go_simp⟩, fun _ => rfl⟩ ?_
              simp only [Act.put, List.setIfInBounds_toArray, List.set_cons_zero, List.set_cons_succ]
              refine wpAnyIn_ready (rs := [7]) (by kernel_rfl) (by simp) ?_
              refine AllReadyIn.cons rfl (fun K hK => ?_) AllReadyIn.nil
              go_simp
              refine ⟨trivial, ?_⟩
              refine (callsIn_wide.2 (HZG.out _)).mono ?_
              rintro e w' ⟨rfl, rfl⟩
              refine hK _ _ ?_; clear hK K
              refine wpAnyIn_ready (rs := [8]) (by kernel_rfl) (by simp) ?_
              refine AllReadyIn.cons rfl (fun K hK => ?_) AllReadyIn.nil
              go_simp
              refine ⟨trivial, ?_⟩
              refine (callsIn_wide.2 (appn_g _ _ W0.heap.size mb A' c' zz _ hzl rfl HO1.out hmb2 hBd oc mc HOC.out HMC.out)).mono ?_
              rintro e w2 ⟨A2', c2', rfl, ho2, hg2, hr2⟩
              have hb2 := HF.out w2 hg2
              have y0 : w2.cell? ⟨w.heap.size + 1, 2, none⟩ = some (.slice A' mb c') := hb2.cell 2
              have hfz := hb2.frozen 2
              refine hK _ _ ?_; clear hK K
              refine wpAnyIn_take (i := 9) (v := .pointer (some ⟨w.heap.size + 1, 2, none⟩)) rfl rfl (by kernel_rfl) (by kernel_rfl) (by kernel_rfl) (fun _ _ _ h => h) ⟨Or.inl ⟨by rfl, by intro w; go_simp⟩, fun _ => rfl⟩ ?_
              simp only [Act.put, List.setIfInBounds_toArray, List.set_cons_zero, List.set_cons_succ]
              refine wpAnyIn_ready (rs := [10]) (by kernel_rfl) (by simp) ?_
              refine AllReadyIn.cons rfl (fun K hK => ?_) AllReadyIn.nil
              go_simp
              refine hK _ _ ?_; clear hK K
              refine wpAnyIn_done (by kernel_rfl) ?_ _
              gi_wp2
              have hF := FIN'.out _ _ _ ho2 hg2 hr2
              first | exact hF | (rw [← hz0] at hF; exact hF)
            refine AllReadyIn.cons rfl (fun K hK => ?_) ?_
            · go_simp
              refine hK _ _ ?_; clear hK K
              refine wpAnyIn_take (i := 6) (v := .int .i64 dd) rfl rfl (by kernel_rfl) (by kernel_rfl) (by kernel_rfl) (fun _ _ _ h => h) ⟨Or.inl ⟨by rfl, by intro w; go_simp⟩, fun _ => rfl⟩ ?_
              simp only [Act.put, List.setIfInBounds_toArray, List.set_cons_zero, List.set_cons_succ]
              refine wpAnyIn_ready (rs := [1, 7]) (by kernel_rfl) (by simp) ?_
              refine AllReadyIn.cons rfl (fun K hK => ?_) ?_
              · go_simp
                refine hK _ _ ?_; clear hK K
                refine wpAnyIn_ready (rs := [7]) (by kernel_rfl) (by simp) ?_
                refine AllReadyIn.cons rfl (fun K hK => ?_) AllReadyIn.nil
                go_simp
                refine ⟨trivial, ?_⟩
                refine (callsIn_wide.2 (HZG.out _)).mono ?_
                rintro e w' ⟨rfl, rfl⟩
                refine hK _ _ ?_; clear hK K
                refine wpAnyIn_ready (rs := [8]) (by kernel_rfl) (by simp) ?_
                refine AllReadyIn.cons rfl (fun K hK => ?_) AllReadyIn.nil
                go_simp
                refine ⟨trivial, ?_⟩
                refine (callsIn_wide.2 (appn_g _ _ W0.heap.size mb A' c' zz _ hzl rfl HO1.out hmb2 hBd oc mc HOC.out HMC.out)).mono ?_
                rintro e w2 ⟨A2', c2', rfl, ho2, hg2, hr2⟩
                have hb2 := HF.out w2 hg2
                have y0 : w2.cell? ⟨w.heap.size + 1, 2, none⟩ = some (.slice A' mb c') := hb2.cell 2
                have hfz := hb2.frozen 2
                refine hK _ _ ?_; clear hK K
                refine wpAnyIn_take (i := 9) (v := .pointer (some ⟨w.heap.size + 1, 2, none⟩)) rfl rfl (by kernel_rfl) (by kernel_rfl) (by kernel_rfl) (fun _ _ _ h => h) ⟨Or.inl ⟨by rfl, by intro w; go_simp⟩, fun _ => rfl⟩ ?_
                simp only [Act.put, List.setIfInBounds_toArray, List.set_cons_zero, List.set_cons_succ]
                refine wpAnyIn_ready (rs := [10]) (by kernel_rfl) (by simp) ?_
                refine AllReadyIn.cons rfl (fun K hK => ?_) AllReadyIn.nil
                go_simp
                refine hK _ _ ?_; clear hK K
                refine wpAnyIn_done (by kernel_rfl) ?_ _
                gi_wp2
                have hF := FIN'.out _ _ _ ho2 hg2 hr2
                first | exact hF | (rw [← hz0] at hF; exact hF)
              refine AllReadyIn.cons rfl (fun K hK => ?_) ?_
              · go_simp
                refine ⟨trivial, ?_⟩
                refine (callsIn_wide.2 (HZG.out _)).mono ?_
                rintro e w' ⟨rfl, rfl⟩
                refine hK _ _ ?_; clear hK K
                refine wpAnyIn_ready (rs := [1]) (by kernel_rfl) (by simp) ?_
                refine AllReadyIn.cons rfl (fun K hK => ?_) AllReadyIn.nil
                go_simp
                refine hK _ _ ?_; clear hK K
                refine wpAnyIn_ready (rs := [8]) (by kernel_rfl) (by simp) ?_
                refine AllReadyIn.cons rfl (fun K hK => ?_) AllReadyIn.nil
                go_simp
                refine ⟨trivial, ?_⟩
                refine (callsIn_wide.2 (appn_g _ _ W0.heap.size mb A' c' zz _ hzl rfl HO1.out hmb2 hBd oc mc HOC.out HMC.out)).mono ?_
                rintro e w2 ⟨A2', c2', rfl, ho2, hg2, hr2⟩
                have hb2 := HF.out w2 hg2
                have y0 : w2.cell? ⟨w.heap.size + 1, 2, none⟩ = some (.slice A' mb c') := hb2.cell 2
                have hfz := hb2.frozen 2
                refine hK _ _ ?_; clear hK K
                refine wpAnyIn_take (i := 9) (v := .pointer (some ⟨w.heap.size + 1, 2, none⟩)) rfl rfl (by kernel_rfl) (by kernel_rfl) (by kernel_rfl) (fun _ _ _ h => h) ⟨Or.inl ⟨by rfl, by intro w; go_simp⟩, fun _ => rfl⟩ ?_
                simp only [Act.put, List.setIfInBounds_toArray, List.set_cons_zero, List.set_cons_succ]
                refine wpAnyIn_ready (rs := [10]) (by kernel_rfl) (by simp) ?_
                refine AllReadyIn.cons rfl (fun K hK => ?_) AllReadyIn.nil
                go_simp
                refine hK _ _ ?_; clear hK K
                refine wpAnyIn_done (by kernel_rfl) ?_ _
                gi_wp2
                have hF := FIN'.out _ _ _ ho2 hg2 hr2
                first | exact hF | (rw [← hz0] at hF; exact hF)
              exact AllReadyIn.nil
            exact AllReadyIn.nil
          refine AllReadyIn.cons rfl (fun K hK => ?_) ?_
          · go_simp
            refine hK _ _ ?_; clear hK K
            refine wpAnyIn_ready (rs := [1, 3]) (by kernel_rfl) (by simp) ?_
            refine AllReadyIn.cons rfl (fun K hK => ?_) ?_
            · go_simp
              refine hK _ _ ?_; clear hK K
              refine wpAnyIn_ready (rs := [3]) (by kernel_rfl) (by simp) ?_
              refine AllReadyIn.cons rfl (fun K hK => ?_) AllReadyIn.nil
              go_simp
              refine hK _ _ ?_; clear hK K
              refine wpAnyIn_take (i := 6) (v := .int .i64 dd) rfl rfl (by kernel_rfl) (by kernel_rfl) (by kernel_rfl) (fun _ _ _ h => h) ⟨Or.inl ⟨by rfl, by intro w; go_simp⟩, fun _ => rfl⟩ ?_
              simp only [Act.put, List.setIfInBounds_toArray, List.set_cons_zero, List.set_cons_succ]
              refine wpAnyIn_ready (rs := [7]) (by kernel_rfl) (by simp) ?_
              refine AllReadyIn.cons rfl (fun K hK => ?_) AllReadyIn.nil
              go_simp
              refine ⟨trivial, ?_⟩
              refine (callsIn_wide.2 (HZG.out _)).mono ?_
              rintro e w' ⟨rfl, rfl⟩
              refine hK _ _ ?_; clear hK K
              refine wpAnyIn_ready (rs := [8]) (by kernel_rfl) (by simp) ?_
              refine AllReadyIn.cons rfl (fun K hK => ?_) AllReadyIn.nil
              go_simp
              refine ⟨trivial, ?_⟩
              refine (callsIn_wide.2 (appn_g _ _ W0.heap.size mb A' c' zz _ hzl rfl HO1.out hmb2 hBd oc mc HOC.out HMC.out)).mono ?_
              rintro e w2 ⟨A2', c2', rfl, ho2, hg2, hr2⟩
              have hb2 := HF.out w2 hg2
              have y0 : w2.cell? ⟨w.heap.size + 1, 2, none⟩ = some (.slice A' mb c') := hb2.cell 2
              have hfz := hb2.frozen 2
              refine hK _ _ ?_; clear hK K
              refine wpAnyIn_take (i := 9) (v := .pointer (some ⟨w.heap.size + 1, 2, none⟩)) rfl rfl (by kernel_rfl) (by kernel_rfl) (by kernel_rfl) (fun _ _ _ h => h) ⟨Or.inl ⟨by rfl, by intro w; go_simp⟩, fun _ => rfl⟩ ?_
              simp only [Act.put, List.setIfInBounds_toArray, List.set_cons_zero, List.set_cons_succ]
              refine wpAnyIn_ready (rs := [10]) (by kernel_rfl) (by simp) ?_
              refine AllReadyIn.cons rfl (fun K hK => ?_) AllReadyIn.nil
              go_simp
              refine hK _ _ ?_; clear hK K
              refine wpAnyIn_done (by kernel_rfl) ?_ _
              gi_wp2
              have hF := FIN'.out _ _ _ ho2 hg2 hr2
              first | exact hF | (rw [← hz0] at hF; exact hF)
            refine AllReadyIn.cons rfl (fun K hK => ?_) ?_
            · go_simp
              refine hK _ _ ?_; clear hK K
              refine wpAnyIn_take (i := 6) (v := .int .i64 dd) rfl rfl (by kernel_rfl) (by kernel_rfl) (by kernel_rfl) (fun _ _ _ h => h) ⟨Or.inl ⟨by rfl, by intro w; go_simp⟩, fun _ => rfl⟩ ?_
              simp only [Act.put, List.setIfInBounds_toArray, List.set_cons_zero, List.set_cons_succ]
              refine wpAnyIn_ready (rs := [1, 7]) (by kernel_rfl) (by simp) ?_
              refine AllReadyIn.cons rfl (fun K hK => ?_) ?_
              · go_simp
                refine hK _ _ ?_; clear hK K
                refine wpAnyIn_ready (rs := [7]) (by kernel_rfl) (by simp) ?_
                refine AllReadyIn.cons rfl (fun K hK => ?_) AllReadyIn.nil
                go_simp
                refine ⟨trivial, ?_⟩
                refine (callsIn_wide.2 (HZG.out _)).mono ?_
                rintro e w' ⟨rfl, rfl⟩
                refine hK _ _ ?_; clear hK K
                refine wpAnyIn_ready (rs := [8]) (by kernel_rfl) (by simp) ?_
                refine AllReadyIn.cons rfl (fun K hK => ?_) AllReadyIn.nil
                go_simp
                refine ⟨trivial, ?_⟩
                refine (callsIn_wide.2 (appn_g _ _ W0.heap.size mb A' c' zz _ hzl rfl HO1.out hmb2 hBd oc mc HOC.out HMC.out)).mono ?_
                rintro e w2 ⟨A2', c2', rfl, ho2, hg2, hr2⟩
                have hb2 := HF.out w2 hg2
                have y0 : w2.cell? ⟨w.heap.size + 1, 2, none⟩ = some (.slice A' mb c') := hb2.cell 2
                have hfz := hb2.frozen 2
                refine hK _ _ ?_; clear hK K
                refine wpAnyIn_take (i := 9) (v := .pointer (some ⟨w.heap.size + 1, 2, none⟩)) rfl rfl (by kernel_rfl) (by kernel_rfl) (by kernel_rfl) (fun _ _ _ h => h) ⟨Or.inl ⟨by rfl, by intro w; go_simp⟩, fun _ => rfl⟩ ?_
                simp only [Act.put, List.setIfInBounds_toArray, List.set_cons_zero, List.set_cons_succ]
                refine wpAnyIn_ready (rs := [10]) (by kernel_rfl) (by simp) ?_
                refine AllReadyIn.cons rfl (fun K hK => ?_) AllReadyIn.nil
                go_simp
                refine hK _ _ ?_; clear hK K
                refine wpAnyIn_done (by kernel_rfl) ?_ _
                gi_wp2
                have hF := FIN'.out _ _ _ ho2 hg2 hr2
                first | exact hF | (rw [← hz0] at hF; exact hF)
              refine AllReadyIn.cons rfl (fun K hK => ?_) ?_
              · go_simp
                refine ⟨trivial, ?_⟩
                refine (callsIn_wide.2 (HZG.out _)).mono ?_
                rintro e w' ⟨rfl, rfl⟩
                refine hK _ _ ?_; clear hK K
                refine wpAnyIn_ready (rs := [1]) (by kernel_rfl) (by simp) ?_
                refine AllReadyIn.cons rfl (fun K hK => ?_) AllReadyIn.nil
                go_simp
                refine hK _ _ ?_; clear hK K
                refine wpAnyIn_ready (rs := [8]) (by kernel_rfl) (by simp) ?_
                refine AllReadyIn.cons rfl (fun K hK => ?_) AllReadyIn.nil
                go_simp
                refine ⟨trivial, ?_⟩
                refine (callsIn_wide.2 (appn_g _ _ W0.heap.size mb A' c' zz _ hzl rfl HO1.out hmb2 hBd oc mc HOC.out HMC.out)).mono ?_
                rintro e w2 ⟨A2', c2', rfl, ho2, hg2, hr2⟩
                have hb2 := HF.out w2 hg2
                have y0 : w2.cell? ⟨w.heap.size + 1, 2, none⟩ = some (.slice A' mb c') := hb2.cell 2
                have hfz := hb2.frozen 2
                refine hK _ _ ?_; clear hK K
                refine wpAnyIn_take (i := 9) (v := .pointer (some ⟨w.heap.size + 1, 2, none⟩)) rfl rfl (by kernel_rfl) (by kernel_rfl) (by kernel_rfl) (fun _ _ _ h => h) ⟨Or.inl ⟨by rfl, by intro w; go_simp⟩, fun _ => rfl⟩ ?_
                simp only [Act.put, List.setIfInBounds_toArray, List.set_cons_zero, List.set_cons_succ]
                refine wpAnyIn_ready (rs := [10]) (by kernel_rfl) (by simp) ?_
                refine AllReadyIn.cons rfl (fun K hK => ?_) AllReadyIn.nil
                go_simp
                refine hK _ _ ?_; clear hK K
                refine wpAnyIn_done (by kernel_rfl) ?_ _
                gi_wp2
                have hF := FIN'.out _ _ _ ho2 hg2 hr2
                first | exact hF | (rw [← hz0] at hF; exact hF)
              exact AllReadyIn.nil
            exact AllReadyIn.nil
          exact AllReadyIn.nil
          --END8
  case done =>
    intro D W hD hi hK
    rw [List.take_length] at hi
    obtain ⟨Ag, tg, cg, As, ts, cs, hg, hs, hap, hbel, hzB⟩ := hi
    have hdif : Hid (out = enc (gP (mrg a b)).length ++ gapsB (-1) (gP (mrg a b)) ++ enc (sP (mrg a b)).length ++ setPB (-1) (sP (mrg a b))) := by
      show _ = _
      rw [HO.out]; exact mrg_dif HV1.out.up HV2.out.up
    have hall : ∀ p ∈ mrg a b, PrB p := mrg_bd a b HV1.out.bd HV2.out.bd
    have hkl2 : (mrg a b).length ≤ 2000 := by
      have := mrg_len a b
      have h1 := HS1.out.len
      have h2 := HS2.out.len
      omega
    have gl1 : (gP (mrg a b)).length ≤ 2000 := by unfold gP; rw [List.length_map]; exact Nat.le_trans (List.length_filter_le _ _) hkl2
    have gl2 : (sP (mrg a b)).length ≤ 2000 := Nat.le_trans (List.length_filter_le _ _) hkl2
    have gb1 := gapsB_len (l := gP (mrg a b)) (fun y hy => by obtain ⟨p, hp, rfl⟩ := List.mem_map.1 hy; exact (hall p (List.mem_filter.1 hp).1).1)
    have gb2 := setPB_len (l := sP (mrg a b)) (fun p hp => (hall p (List.mem_filter.1 hp).1).1)
    obtain ⟨ng, hng⟩ : ∃ ng, ng = (gP (mrg a b)).length := ⟨_, rfl⟩
    obtain ⟨ns, hns⟩ : ∃ ns, ns = (sP (mrg a b)).length := ⟨_, rfl⟩
    obtain ⟨zg, hzg⟩ : ∃ zg, zg = gapsB (-1) (gP (mrg a b)) := ⟨_, rfl⟩
    obtain ⟨zs, hzs⟩ : ∃ zs, zs = setPB (-1) (sP (mrg a b)) := ⟨_, rfl⟩
    obtain ⟨lg, hlg⟩ : ∃ lg, lg = lastI (-1) (gP (mrg a b)) + 1 := ⟨_, rfl⟩
    obtain ⟨ls, hls⟩ : ∃ ls, ls = lastI (-1) ((sP (mrg a b)).map (·.i)) + 1 := ⟨_, rfl⟩
    rw [← hng, ← hzg, ← hns, ← hzs] at hdif
    rw [← hng, ← hzg, ← hlg] at hg
    rw [← hns, ← hzs, ← hls] at hs
    rw [← hng] at gl1 gb1
    rw [← hns] at gl2 gb2
    rw [← hzg] at gb1
    rw [← hzs] at gb2
    have HTG := Lib.hid hg.2.len
    have HTS := Lib.hid hs.2.len
    have htg : tg ≤ 20000 := by have := HTG.out; omega
    have hts : ts ≤ 40000 := by have := HTS.out; omega
    clear hng hns hzg hzs hlg hls hall hkl2 gb1 gb2
    obtain ⟨e1, he1⟩ : ∃ e1, e1 = enc ng := ⟨_, rfl⟩
    obtain ⟨l1, hl1⟩ : ∃ l1, e1.length = l1 := ⟨_, rfl⟩
    have hl1b : l1 ≤ 10 := by rw [← hl1, he1]; exact enc_len10 (by omega)
    obtain ⟨o2, ho2⟩ : ∃ o2, o2 = e1 ++ zg := ⟨_, rfl⟩
    obtain ⟨o3, ho3⟩ : ∃ o3, o3 = o2 ++ enc ns := ⟨_, rfl⟩
    obtain ⟨l3, hl3⟩ : ∃ l3, o3.length = l3 := ⟨_, rfl⟩
    have ho2l : o2.length = l1 + tg := by rw [ho2, List.length_append, hl1, HTG.out]
    have hl3b : l3 ≤ l1 + tg + 10 := by rw [← hl3, ho3, List.length_append, ho2l]; have := enc_len10 (n := ns) (by omega); omega
    have HOUT : Hid (out = o3 ++ zs) := by show _ = _; rw [hdif.out, ho3, ho2, he1]
    have HMM : Hid (l3 + ts = m) := by show _ = _; rw [← HM.out, HOUT.out, List.length_append, hl3, HTS.out]
    have HE1 : Hid (e1 = [] ++ enc ng) := by show _ = _; rw [he1]; rfl
    have HL1 := Lib.hid hl1
    have HO2 := Lib.hid ho2
    have HO2L := Lib.hid ho2l
    have HO3 := Lib.hid ho3
    have HL3 := Lib.hid hl3
    have HG := Lib.hid hg
    have HS := Lib.hid hs
    have HAP := Lib.hid hap
    have HBEL := Lib.hid hbel
    have HKD := Lib.hid hK
    have MKG : Hid (∀ W', Frm (fun _ => False) W W' → W'.cell? ⟨w.heap.size, 0, none⟩ = some (.int .u64 (ng : Int)) ∧ W'.cell? ⟨w.heap.size, 2, none⟩ = some (.slice Ag tg cg)) := fun W' h => by
      have : Blk W' w.heap.size 82 _ := (h.block _ HG.out.1.lt (fun h => h)).trans HG.out.1
      exact ⟨this.cell 0, this.cell 2⟩
    have MKS : Hid (∀ W', Frm (fun _ => False) W W' → W'.cell? ⟨w.heap.size + 1, 0, none⟩ = some (.int .u64 (ns : Int)) ∧ W'.cell? ⟨w.heap.size + 1, 2, none⟩ = some (.slice As ts cs)) := fun W' h => by
      have : Blk W' (w.heap.size + 1) 82 _ := (h.block _ HS.out.1.lt (fun h => h)).trans HS.out.1
      exact ⟨this.cell 0, this.cell 2⟩
    have MRG : Hid (∀ W', Frm (fun _ => False) W W' → RdU W' W'.heap.size Ag zg) := fun W' h => (HG.out.2.keepRow (fun r hr => h.block _ (HG.out.2.rowLt r hr).2.1 (fun h => h))).rd
    have MRS : Hid (∀ W', Frm (fun _ => False) W W' → RdU W' W'.heap.size As zs) := fun W' h => (HS.out.2.keepRow (fun r hr => h.block _ (HS.out.2.rowLt r hr).2.1 (fun h => h))).rd
    have hncg := HG.out.2.nilcap
    have hncs := HS.out.2.nilcap
    have HNG := Lib.hid hncg
    have HNS := Lib.hid hncs
    have hS0 := MKG.out W.drew ((Frm.refl _ _).drewN 1)
    have hWz : W.heap.size ≤ W.drew.heap.size := Nat.le_refl _
    have hngb : ng < 18446744073709551616 := by omega
    have hnsb : ns < 18446744073709551616 := by omega
    have HF0 : Hid (Frm (fun _ => False) W W.drew) := (Frm.refl _ _).drewN 1
    have hbs := Lib.hid (trivial : True)
    clear hg hs hap hbel hK he1 hl1 ho2 ho2l ho3 hl3 hncg hncs
    gi_wp2
    refine wpIn_wide.2 ?_
    have hln : e1.length + tg < 1000000000000 := by rw [HL1.out]; omega
    have hln' : Hid (e1.length + tg = l1 + tg) := by show _ = _; rw [HL1.out]
    go_region_held3 (fun W' => W'.cell? ⟨w.heap.size, 0, none⟩ = some (.int .u64 (ng : Int)) ∧ W'.cell? ⟨w.heap.size, 2, none⟩ = some (.slice Ag tg cg)) (first | exact hS0 | assumption) (first
      | (go_at_call 43; (with_reducible refine (appn_g (.slice none 0 0) [] W.heap.size 0 none 0 ng _ hngb rfl (OwnU.nil _ _ _) (by omega) hWz e1 l1 HE1.out HL1.out).mono ?_); rintro e w1 ⟨A1', c1', rfl, hoa, hga, hra⟩; have hfa : Frm (fun _ => False) W w1 := HF0.out.trans (Frm.of_grown hga) (fun k hk => by cases hk); have hS1 := MKG.out w1 hfa; have hza : W.heap.size ≤ w1.heap.size := hfa.size)
      | (refine stp_appendsU rfl (.tmp 46) (.tmp 48) 33 rfl 5 Try.underlying33 u8_info W.heap.size _ _ zg rfl hoa Ag tg cg _ (l1 + tg) hln'.out rfl HTG.out (MRG.out w1 hfa) HNG.out hln hza ?_; intro A2' c2' w2 hob hgb hbb; have hfb : Frm (fun _ => False) W w2 := hfa.trans (Frm.of_grown hgb.out) (fun k hk => by rcases hra k hk with h | h; cases h; exact .inr h); have hS2 := MKG.out w2 hfb))
    rename Frm (fun _ => False) W w2 => hfb
    rename Hid (OwnU _ w2 _ _ _) => hob
    have HOB : Hid (OwnU 5 w2.drew W.heap.size (.slice A2' (l1 + tg) c2') o2) := by have := hob.out; rw [← HO2.out] at this; exact this
    have HFB : Hid (Frm (fun _ => False) W w2.drew) := hfb.drewN 1
    clear hS0 hob
    have hS3 := MKS.out w2.drew HFB.out
    have hz3 : W.heap.size ≤ w2.drew.heap.size := hfb.size
    have hlt3 : l1 + tg < 100000 := by omega
    have hln3 : o3.length + ts < 1000000000000 := by rw [HL3.out]; omega
    have hln3' : Hid (o3.length + ts = m) := by show _ = _; rw [HL3.out]; exact HMM.out
    clear hfb
    gi_wp2
    refine wpIn_wide.2 ?_
    go_region_held3 (fun W' => W'.cell? ⟨w.heap.size + 1, 0, none⟩ = some (.int .u64 (ns : Int)) ∧ W'.cell? ⟨w.heap.size + 1, 2, none⟩ = some (.slice As ts cs)) (first | exact hS3 | assumption) (first
      | (go_at_call 43; (with_reducible refine (appn_g (.slice A2' (l1 + tg) c2') o2 W.heap.size (l1 + tg) A2' c2' ns _ hnsb rfl HOB.out hlt3 hz3 o3 l3 HO3.out HL3.out).mono ?_); rintro e w3 ⟨A3', c3', rfl, hoc, hgc, hrc⟩; have hfc : Frm (fun _ => False) W w3 := HFB.out.trans (Frm.of_grown hgc) (fun k hk => .inr (HOB.out.rowLt k hk).1); have hS4 := MKS.out w3 hfc; have hzc : W.heap.size ≤ w3.heap.size := hfc.size)
      | (refine stp_appendsU rfl (.tmp 53) (.tmp 55) 33 rfl 5 Try.underlying33 u8_info W.heap.size _ _ zs rfl hoc As ts cs _ m hln3'.out rfl HTS.out (MRS.out w3 hfc) HNS.out hln3 hzc ?_; intro A4' c4' w4 hod hgd hbd; have hfd : Frm (fun _ => False) W w4 := hfc.trans (Frm.of_grown hgd.out) (fun k hk => .inr (hoc.rowLt k hk).1); have hS5 := MKS.out w4 hfd))
    rename Frm (fun _ => False) W w4 => hfd
    rename Hid (OwnU _ w4 _ _ _) => hod
    gi_wp2
    have hKD : w4.heap[D]? = some (.deferred (some [])) := (hfd.block D (Array.getElem?_eq_some_iff.1 HKD.out).1 (fun h => h)).trans HKD.out
    refine ⟨by simp, .inl ⟨_, _, rfl, run_takeDeferred hKD, ?_⟩⟩
    refine ⟨_, results_tmp rfl _ _ _, A4', c4', rfl, ?_, ?_⟩
    · rw [HOUT.out]
      refine ((hod.out).keepRow (fun r hr => World.putObj_heap_other ?_)).lower (by omega)
      intro e
      subst e
      obtain ⟨_, _, o, h, hc⟩ := hod.out.rowLt _ hr
      rw [hKD] at h; cases h; cases hc
    · refine Below.grown (HBEL.out.trans (hfd.below (by omega) (fun k hk => hk.elim))) (grownBy_putObj' w4 D _) (by have := hfd.size; omega) (fun k e => by cases e; omega)
end Go.Proofs.Ytcniepogobgaoaa
