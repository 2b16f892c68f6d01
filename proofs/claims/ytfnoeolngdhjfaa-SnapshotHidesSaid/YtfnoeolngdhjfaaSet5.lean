/-
  Package arenanetref12: Initial.
-/
import Derived.Test.YtfnoeolngdhjfaaSet4
import Derived.Deep.DeepCutAuto
import Derived.Deep.CutBlock
namespace Go.Proofs.Ytfnoeolngdhjfaa
set_option linter.unusedVariables false
set_option linter.unusedSimpArgs false
set_option maxRecDepth 4000
open Go.RowKit

/-- In a round: the setup's box, the body's box, the cells. -/
structure IWS (w W : World) (bx g : Nat) (cs bcs : Array Value) (zs : List Int) : Prop where
  su : Blk W w.heap.size 49 cs
  bd : Blk W bx 100 bcs
  out : Blk W g 3 (ints zs)
  below : Below w.heap.size w W
  g1 : w.heap.size < g
  g2 : g < bx
theorem IWS.store {w W : World} {bx g : Nat} {cs bcs : Array Value} {zs : List Int} (h : IWS w W bx g cs bcs zs) (i : Nat) (v : Int) : IWS w (W.setCell ⟨g, i, none⟩ (.int .i64 v)) bx g cs bcs (zs.set i v) := by
  have h1 := h.g1
  have h2 := h.g2
  refine ⟨h.su.far (p := ⟨g, i, none⟩) (by show _ ≠ g; omega) _, h.bd.far (p := ⟨g, i, none⟩) (by show _ ≠ g; omega) _, ?_, h.below.setCell (p := ⟨g, i, none⟩) (by show _ ≤ g; omega) _, h1, h2⟩
  rw [← ints_set]; exact h.out.set_ i _
theorem initAt_zero0 {p j : Nat} {bs : List Bd} : initAt p bs 0 j = 0 := by
  unfold initAt; rw [if_neg (by omega)]
theorem ix_rep (N j : Nat) : ix (List.replicate N 0) j = 0 := by
  simp only [ix, List.getD, List.getElem?_replicate]; split <;> rfl
set_option maxHeartbeats 1000000 in
theorem rinit_any (cs : Array Value) (s : Su) (m : SuM) (B N : Nat) (w : World) (hcs : cs = suVals s m) (hp8 : s.players ≤ 100) (hn : s.bodies.length = m.nb) (hn8 : m.nb ≤ 100) (hr : RdBs w B m.Ab s.bodies) (hB : B ≤ w.heap.size) (hN : szOf s = N) :
    Calls Try.prog 47 #[.agg cs] w fun e w' => ∃ g, e = .returned (.slice (some ⟨g, 0, none⟩) N N) ∧ w.heap.size ≤ g ∧ Blk w' g 3 (ints (initC s)) ∧ Below w.heap.size w w' := by
  have HNB := Lib.hid hn
  have HR := Lib.hid hr
  have hN' : 48 + 4 * s.players + 8 * m.nb = N := by rw [← hN]; unfold szOf; rw [hn]
  have HN := Lib.hid hN
  have HN' := Lib.hid hN'
  have hmk := run_make_ints N (by omega)
  have HCS := Lib.hid hcs
  have HBS := Lib.hid (Blk.new w 49 cs)
  have hc1 := su_c1 hcs
  have HNL := Lib.hid (show N < 1300 by omega)
  clear hN hn hr hN' hcs
  go_enter Try.func47, Try.ntmps47
  go_wp2_with (refine wpList_load_row rfl 49 _ rfl _ rfl 49 cs (0, 0) _ HBS.out Try.underlying49 rfl (su_info' HCS.out) ?_)
  refine (size_any cs s m _ HCS.out hp8 hn8).mono ?_
  rintro e w1 ⟨rfl, hb1⟩
  rw [HN'.out]
  have HB1 := Lib.hid (((Below.refl _ w).alloc (Nat.le_refl _) _).trans (hb1.mono (by simp)))
  have HBS1 := Lib.hid (HBS.out.below hb1 (by simp))
  clear hb1
  go_wp2
  clear hmk
  go_loopw [4] (fun i W => ∃ k : Nat, k ≤ m.nb ∧ i = .int .i64 (k : Int) ∧ Below w.heap.size w W ∧ Hid (Blk W w.heap.size 49 cs) ∧ Hid (∃ zs : List Int, zs.length = N ∧ Blk W w1.heap.size 3 (ints zs) ∧ ∀ j, j < N → ix zs j = initAt s.players s.bodies k j)) (fun i _ => m.nb - (intOf i).toNat)
  case atStart =>
    refine ⟨0, Nat.zero_le _, rfl, HB1.out.alloc HB1.out.size _, Lib.hid (HBS1.out.alloc _), Lib.hid ⟨List.replicate N 0, by simp, ?_, fun j hj => ?_⟩⟩
    · rw [← made_ints]; exact Blk.new _ _ _
    · rw [initAt_zero0]; exact ix_rep N j
  case round =>
    obtain ⟨k, hk, rfl, hb, HB, HZ⟩ := hrel
    obtain ⟨zs, hl, hzb, hz⟩ := HZ.out
    have hc1' : wr.cell? ⟨w.heap.size, 1, none⟩ = some (.slice m.Ab m.nb m.cb) := by rw [HB.out.cell]; exact hc1
    have hsz : w.heap.size < w1.heap.size := HBS1.out.lt
    have hsz2 : w1.heap.size < wr.heap.size := hzb.lt
    have HZB := Lib.hid hzb
    have HZZ := Lib.hid hz
    have HL := Lib.hid hl
    clear hzb hz hl
    by_cases hlt : k < m.nb
    · have hkb : k < s.bodies.length := by rw [HNB.out]; exact hlt
      obtain ⟨b, off, hA, hbB, hcb⟩ := HR.out (by omega)
      obtain ⟨pv, hpv, hcells⟩ := hcb k hkb
      obtain ⟨bd, hbd⟩ : ∃ bd, bd = s.bodies[k] := ⟨_, rfl⟩
      rw [← hbd] at hpv hcells
      have hbl : b < w.heap.size := by omega
      rw [hA] at hc1'
      have HBD := Lib.hid hbd
      have HPV := Lib.hid hpv
      have HCE := Lib.hid hcells
      clear hpv hcells hcb hbd hA
      go_wp2_with (refine wpList_load_row rfl 49 _ rfl _ rfl 49 cs (0, 0) _ HB.out Try.underlying49 rfl (su_info' HCS.out) ?_)
      refine (rbody_any cs s m k _ HCS.out hp8 hn8 hlt).mono ?_
      rintro e w2 ⟨rfl, hb2⟩
      obtain ⟨a0, ha0⟩ : ∃ a0, a0 = 48 + 4 * s.players + 8 * k := ⟨_, rfl⟩
      rw [← ha0]
      have HA0 := Lib.hid ha0
      have ha8 : a0 + 8 ≤ N := by have := HN'.out; omega
      clear ha0
      have hs2 := hb2.size
      have d1 := (hb2.cell (p := ⟨w.heap.size, 1, none⟩) (by exact HB.out.lt)).trans hc1'
      have hob : ∀ j u, (bodyVals pv bd)[j]? = some u → w2.cell? ⟨b, off + k * 9 + j, none⟩ = some u := fun j u hu => (hb2.cell (p := ⟨b, off + k * 9 + j, none⟩) (by exact Nat.lt_of_lt_of_le hbl hb.size)).trans ((hb.cell (p := ⟨b, off + k * 9 + j, none⟩) hbl).trans (HCE.out j u hu))
      obtain ⟨pA, pc, hpv, _⟩ := HPV.out
      subst hpv
      have q0 := hob 0 _ rfl
      have q1 := hob 1 _ rfl
      have q2 := hob 2 _ rfl
      have q3 := hob 3 _ rfl
      have q4 := hob 4 _ rfl
      have q5 := hob 5 _ rfl
      have q6 := hob 6 _ rfl
      have q7 := hob 7 _ rfl
      have q8 := hob 8 _ rfl
      rw [Nat.add_zero] at q0
      have hz2 : w1.heap.size < w2.heap.size := by omega
      have HB2 := Lib.hid hb2
      clear hob hb2 hs2
      go_upto_region 7 with (fail)
      obtain ⟨bcs, hbcs⟩ : ∃ bcs : Array Value, bcs = #[.int .i64 bd.rad, .slice pA bd.poly.length pc, .int .i64 bd.px, .int .i64 bd.py, .int .i64 bd.vx, .int .i64 bd.vy, .int .i64 bd.im, .int .i64 bd.a, .int .i64 bd.b] := ⟨_, rfl⟩
      have b2 : bcs[2]? = some (.int .i64 bd.px) := by rw [hbcs]; rfl
      have b3 : bcs[3]? = some (.int .i64 bd.py) := by rw [hbcs]; rfl
      have b4 : bcs[4]? = some (.int .i64 bd.vx) := by rw [hbcs]; rfl
      have b5 : bcs[5]? = some (.int .i64 bd.vy) := by rw [hbcs]; rfl
      have b7 : bcs[7]? = some (.int .i64 bd.a) := by rw [hbcs]; rfl
      have b8 : bcs[8]? = some (.int .i64 bd.b) := by rw [hbcs]; rfl
      have I0' : Hid (IWS w (w2.alloc (.cells bcs 100)) w2.heap.size w1.heap.size cs bcs zs) := by
        refine Lib.hid ⟨?_, Blk.new _ _ _, ?_, ?_, hsz, hz2⟩
        · exact Blk.alloc ((HB2.out.block _ HB.out.lt).trans HB.out) _
        · exact Blk.alloc ((HB2.out.block _ HZB.out.lt).trans HZB.out) _
        · exact (hb.trans (HB2.out.mono hb.size)).alloc (Nat.le_trans hb.size HB2.out.size) _
      rw [← hbcs]
      obtain ⟨bx, hbx⟩ : ∃ bx, bx = w2.heap.size := ⟨_, rfl⟩
      obtain ⟨g, hg⟩ : ∃ g, g = w1.heap.size := ⟨_, rfl⟩
      obtain ⟨W0, hW0⟩ : ∃ W0, W0 = w2.alloc (.cells bcs 100) := ⟨_, rfl⟩
      rw [← hbx, ← hg, ← hW0] at I0'
      rw [← hbx, ← hg, ← hW0]
      have I0 := I0'
      have hN1 : N < 1300 := HNL.out
      have HBX := Lib.hid hbx
      have HG := Lib.hid hg
      clear hbx hg hW0
      have c0 : W0.cell? ⟨bx, 2, none⟩ = some (.int .i64 bd.px) := (I0.out.bd.cell 2).trans b2
      have c1 : W0.cell? ⟨g, a0, none⟩ = some (.int .i64 (ix zs (a0))) := by rw [I0.out.out.cell, ints_get (by simp only [List.length_set, HL.out]; omega)]
      have c2 : W0.frozen? ⟨g, a0, none⟩ = false := I0.out.out.frozen _
      have IN := Lib.hid (I0.out.store a0 bd.px)
      obtain ⟨y, hy⟩ : ∃ y, y = ix zs (a0) := ⟨_, rfl⟩
      rw [← hy] at c1
      clear hy
      go_cut [] (fun W => Hid (IWS w W bx g cs bcs (zs.set a0 bd.px)))
      case first =>
        go_wp2
        go_meet
        case rel => exact IN
      case rest =>
        clear c0 c1 c2 IN I0
        rename World => W1
        rename Hid (IWS w W1 bx g cs bcs _) => I1
        go_upto_region 8 with (fail)
        have c0 : W1.cell? ⟨bx, 3, none⟩ = some (.int .i64 bd.py) := (I1.out.bd.cell 3).trans b3
        have c1 : W1.cell? ⟨g, a0 + 1, none⟩ = some (.int .i64 (ix (zs.set a0 bd.px) (a0 + 1))) := by rw [I1.out.out.cell, ints_get (by simp only [List.length_set, HL.out]; omega)]
        have c2 : W1.frozen? ⟨g, a0 + 1, none⟩ = false := I1.out.out.frozen _
        have IN := Lib.hid (I1.out.store (a0 + 1) bd.py)
        obtain ⟨y, hy⟩ : ∃ y, y = ix (zs.set a0 bd.px) (a0 + 1) := ⟨_, rfl⟩
        rw [← hy] at c1
        clear hy
        go_cut [] (fun W => Hid (IWS w W bx g cs bcs ((zs.set a0 bd.px).set (a0 + 1) bd.py)))
        case first =>
          go_wp2
          go_meet
          case rel => exact IN
        case rest =>
          clear c0 c1 c2 IN I1
          rename World => W2
          rename Hid (IWS w W2 bx g cs bcs _) => I2
          go_upto_region 9 with (fail)
          have c0 : W2.cell? ⟨bx, 4, none⟩ = some (.int .i64 bd.vx) := (I2.out.bd.cell 4).trans b4
          have c1 : W2.cell? ⟨g, a0 + 2, none⟩ = some (.int .i64 (ix ((zs.set a0 bd.px).set (a0 + 1) bd.py) (a0 + 2))) := by rw [I2.out.out.cell, ints_get (by simp only [List.length_set, HL.out]; omega)]
          have c2 : W2.frozen? ⟨g, a0 + 2, none⟩ = false := I2.out.out.frozen _
          have IN := Lib.hid (I2.out.store (a0 + 2) bd.vx)
          obtain ⟨y, hy⟩ : ∃ y, y = ix ((zs.set a0 bd.px).set (a0 + 1) bd.py) (a0 + 2) := ⟨_, rfl⟩
          rw [← hy] at c1
          clear hy
          go_cut [] (fun W => Hid (IWS w W bx g cs bcs (((zs.set a0 bd.px).set (a0 + 1) bd.py).set (a0 + 2) bd.vx)))
          case first =>
            go_wp2
            go_meet
            case rel => exact IN
          case rest =>
            clear c0 c1 c2 IN I2
            rename World => W3
            rename Hid (IWS w W3 bx g cs bcs _) => I3
            go_upto_region 10 with (fail)
            have c0 : W3.cell? ⟨bx, 5, none⟩ = some (.int .i64 bd.vy) := (I3.out.bd.cell 5).trans b5
            have c1 : W3.cell? ⟨g, a0 + 3, none⟩ = some (.int .i64 (ix (((zs.set a0 bd.px).set (a0 + 1) bd.py).set (a0 + 2) bd.vx) (a0 + 3))) := by rw [I3.out.out.cell, ints_get (by simp only [List.length_set, HL.out]; omega)]
            have c2 : W3.frozen? ⟨g, a0 + 3, none⟩ = false := I3.out.out.frozen _
            have IN := Lib.hid (I3.out.store (a0 + 3) bd.vy)
            obtain ⟨y, hy⟩ : ∃ y, y = ix (((zs.set a0 bd.px).set (a0 + 1) bd.py).set (a0 + 2) bd.vx) (a0 + 3) := ⟨_, rfl⟩
            rw [← hy] at c1
            clear hy
            go_cut [] (fun W => Hid (IWS w W bx g cs bcs ((((zs.set a0 bd.px).set (a0 + 1) bd.py).set (a0 + 2) bd.vx).set (a0 + 3) bd.vy)))
            case first =>
              go_wp2
              go_meet
              case rel => exact IN
            case rest =>
              clear c0 c1 c2 IN I3
              rename World => W4
              rename Hid (IWS w W4 bx g cs bcs _) => I4
              go_upto_region 11 with (fail)
              have c0 : W4.cell? ⟨bx, 7, none⟩ = some (.int .i64 bd.a) := (I4.out.bd.cell 7).trans b7
              have c1 : W4.cell? ⟨g, a0 + 4, none⟩ = some (.int .i64 (ix ((((zs.set a0 bd.px).set (a0 + 1) bd.py).set (a0 + 2) bd.vx).set (a0 + 3) bd.vy) (a0 + 4))) := by rw [I4.out.out.cell, ints_get (by simp only [List.length_set, HL.out]; omega)]
              have c2 : W4.frozen? ⟨g, a0 + 4, none⟩ = false := I4.out.out.frozen _
              have IN := Lib.hid (I4.out.store (a0 + 4) bd.a)
              obtain ⟨y, hy⟩ : ∃ y, y = ix ((((zs.set a0 bd.px).set (a0 + 1) bd.py).set (a0 + 2) bd.vx).set (a0 + 3) bd.vy) (a0 + 4) := ⟨_, rfl⟩
              rw [← hy] at c1
              clear hy
              go_cut [] (fun W => Hid (IWS w W bx g cs bcs (((((zs.set a0 bd.px).set (a0 + 1) bd.py).set (a0 + 2) bd.vx).set (a0 + 3) bd.vy).set (a0 + 4) bd.a)))
              case first =>
                go_wp2
                go_meet
                case rel => exact IN
              case rest =>
                clear c0 c1 c2 IN I4
                rename World => W5
                rename Hid (IWS w W5 bx g cs bcs _) => I5
                go_upto_region 12 with (fail)
                have c0 : W5.cell? ⟨bx, 8, none⟩ = some (.int .i64 bd.b) := (I5.out.bd.cell 8).trans b8
                have c1 : W5.cell? ⟨g, a0 + 5, none⟩ = some (.int .i64 (ix (((((zs.set a0 bd.px).set (a0 + 1) bd.py).set (a0 + 2) bd.vx).set (a0 + 3) bd.vy).set (a0 + 4) bd.a) (a0 + 5))) := by rw [I5.out.out.cell, ints_get (by simp only [List.length_set, HL.out]; omega)]
                have c2 : W5.frozen? ⟨g, a0 + 5, none⟩ = false := I5.out.out.frozen _
                have IN := Lib.hid (I5.out.store (a0 + 5) bd.b)
                obtain ⟨y, hy⟩ : ∃ y, y = ix (((((zs.set a0 bd.px).set (a0 + 1) bd.py).set (a0 + 2) bd.vx).set (a0 + 3) bd.vy).set (a0 + 4) bd.a) (a0 + 5) := ⟨_, rfl⟩
                rw [← hy] at c1
                clear hy
                have hg := HG.out
                have HAT := Lib.hid HA0.out
                have HE : Hid (∃ zs' : List Int, zs'.length = N ∧ Blk (W5.setCell ⟨w1.heap.size, a0 + 5, none⟩ (.int .i64 bd.b)) w1.heap.size 3 (ints zs') ∧ ∀ j, j < N → ix zs' j = initAt s.players s.bodies (k + 1) j) := by
                  refine Lib.hid ⟨_, ?_, by have := IN.out.out; rw [hg] at this; exact this, init_step HL.out HZZ.out HA0.out ha8 bd (by rw [HBD.out]; simp [List.getD, List.getElem?_eq_getElem hkb])⟩
                  simp [HL.out]
                have HF := Lib.hid IN.out.su
                have HFB := Lib.hid IN.out.below
                subst hg
                go_wp2
                go_roundw
                case rel => exact ⟨k + 1, by omega, by go_num, HFB.out, HF, HE⟩
                case measure => simp [intOf]; omega
    · have hkn : k = m.nb := by omega
      have hd : decide (k < m.nb) = false := decide_eq_false hlt
      have HKN := Lib.hid hkn
      clear hlt hkn
      go_wp2
      go_ret
      refine ⟨w1.heap.size, rfl, Nat.le_of_lt hsz, ?_, hb⟩
      have : zs = initC s := by
        apply ext_ix
        · rw [HL.out, initC_len, HN.out]
        · intro j hj
          rw [HL.out] at hj
          rw [HZZ.out j hj, initC_ix (by rw [HN.out]; exact hj), HKN.out, HNB.out]
      rw [← this]; exact HZB.out
end Go.Proofs.Ytfnoeolngdhjfaa
