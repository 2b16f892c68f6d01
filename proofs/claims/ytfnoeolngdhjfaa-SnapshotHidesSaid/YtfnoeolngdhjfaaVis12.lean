/-
  Package arenanetref28: View.
-/
import Derived.Test.YtfnoeolngdhjfaaVis11
namespace Go.Proofs.Ytfnoeolngdhjfaa
set_option linter.unusedVariables false
set_option linter.unusedSimpArgs false
set_option maxRecDepth 4000
open Go.RowKit

theorem OwnP.lit1 (w : World) (a b : Int) : OwnP (w.alloc (.cells #[.int .i64 a, .int .i64 b] 38)) w.heap.size (.slice (some ⟨w.heap.size, 0, none⟩) 1 1) [(a, b)] :=
  ⟨rfl, .inr ⟨w.heap.size, 1, #[.int .i64 a, .int .i64 b], rfl, Nat.le_refl _, Blk.new w 38 _, by simp, by simp [maxLen], rfl, rfl⟩⟩
theorem OwnP.below {w w' : World} {B : Nat} {v : Value} {es : List (Int × Int)} (h : OwnP w B v es) (hb : Below w.heap.size w w') : OwnP w' B v es := ownsRow_below h hb
/-- A row of numbers stays while a row of pairs grows. -/
theorem Own.apart {w w' : World} {B B' : Nat} {v u : Value} {r' : Option Nat} {zs : List Int} {es : List (Int × Int)} (h : Own 3 w B v zs) (hp : OwnP w B' u es) (hg : Grw u.ownBlock r' w w') : Own 3 w' B v zs :=
  h.keepRow fun r hr => hg.block r (h.rowLt r hr).2.1 fun e => by
    rcases hp.2 with ⟨h', _⟩ | ⟨g', cap', cur', h', hb, hh', _⟩
    · rw [h'] at e; simp [Value.ownBlock] at e
    · rw [h'] at e
      have e : g' = r := by simpa [Value.ownBlock] using e
      subst e
      rcases h.2 with ⟨h2, _⟩ | ⟨g2, cap2, cur2, h2, hb2, hh2, _⟩
      · rw [h2] at hr; simp [Value.ownBlock] at hr
      · rw [h2] at hr
        have e2 : g2 = g' := by simpa [Value.ownBlock] using hr
        subst e2
        rw [hh2] at hh'
        injection hh' with hh'
        injection hh' with _ h3 _
        exact absurd h3 (by decide)
theorem Grw.below {B : Nat} {r r' : Option Nat} {a b : World} (h : Grw r r' a b) (h2 : ∀ k, r = some k → B ≤ k) (h3 : B ≤ a.heap.size) : Below B a b := ⟨h.os, h.tape, h.output, h.size, fun k hk => h.block k (by omega) (fun e => by have := h2 _ e; omega)⟩
theorem wpl_append_pair_at {w : World} {ops : Array Oper} {rest : List Oper} {o : Oper} {a : Act} {Q : Exit → Act → World → Prop} (hgd : o.guard = none) (s x : Operand)
    (ho : o.op = .call { callee := .builtin .append, args := #[s, x], argTypes := #[23, 23] })
    (B : Nat) (v : Value) (es : List (Int × Int)) (hs : a.eval s = v) (hown : OwnP w B v es)
    (ad : Addr) (c : Nat) (p : Int × Int) (n' : Nat) (hn' : es.length + 1 = n') (hx : a.eval x = .slice (some ad) 1 c) (hc : w.cell? ad = some (.int .i64 p.1)) (hc2 : w.cell? (ad.add 1) = some (.int .i64 p.2))
    (hlen : es.length < 1000000000) (hB : B ≤ w.heap.size)
    (h : ∀ A' c' w', Hid (OwnP w' B (.slice A' n' c') (es ++ [p])) → Hid (Grw v.ownBlock (Value.slice A' n' c').ownBlock w w') → wpList Try.prog ops Q rest (a.put o.dst (.slice A' n' c')) w') : wpList Try.prog ops Q (o :: rest) a w :=
  wpList_plain hgd fun _ hK => wp_append_pair_at s x ho B v es hs hown ad c p n' hn' hx hc hc2 hlen hB fun A' c' w' h1 h2 => hK _ _ (h A' c' w' h1 h2)
theorem seenN_yes {s : Su} {zs : List Int} {pl n : Nat} (h : seesB s zs pl n = true) : seenN s zs pl (n + 1) = seenN s zs pl n ++ [n] := by
  unfold seenN; rw [List.range_succ, List.filter_append]; simp [h]
theorem seenN_no {s : Su} {zs : List Int} {pl n : Nat} (h : seesB s zs pl n = false) : seenN s zs pl (n + 1) = seenN s zs pl n := by
  unfold seenN; rw [List.range_succ, List.filter_append]; simp [h]
theorem seenL_mem {s : Su} {zs : List Int} {pl n i : Nat} (h : i < n) : decide (((i : Nat) : Int) ∈ seenL s zs pl n) = seesB s zs pl i := by
  have : ((i : Nat) : Int) ∈ seenL s zs pl n ↔ seesB s zs pl i = true := by
    unfold seenL seenN
    constructor
    · intro hm
      obtain ⟨j, hj, e⟩ := List.mem_map.1 hm
      have : j = i := by omega
      subst this
      exact (List.mem_filter.1 hj).2
    · intro hs
      exact List.mem_map.2 ⟨i, List.mem_filter.2 ⟨List.mem_range.2 h, hs⟩, rfl⟩
  cases hb : seesB s zs pl i with
  | true => simp [this.2 hb]
  | false => rw [decide_eq_false]; intro hm; rw [this.1 hm] at hb; cases hb
theorem cellsFrom_next (zs : List Int) (first n : Nat) : cellsFrom zs first (n + 1) = cellsFrom zs first n ++ [((first : Int) + (n : Int), ix zs (first + n))] := by
  rw [cellsFrom_snoc]; simp
set_option maxHeartbeats 2000000 in
theorem rview_any (cs : Array Value) (s : Su) (m : SuM) (A : Option Addr) (N c B pl : Nat) (zs : List Int) (w : World) (hv : VisIn w B cs s m A N zs) (hpl : pl < s.players) :
    Calls Try.prog 23 #[.agg cs, .slice A N c, .int .i64 (pl : Int)] w fun e w' => ∃ A' n' c', e = .returned (.slice A' n' c') ∧ OwnP w' w.heap.size (.slice A' n' c') (viewL s zs pl m.nb) ∧ Below w.heap.size w w' := by
  have hBw := hv.B
  have hN := hv.hN
  have hp8 := hv.p8
  have hn8 := hv.n8
  have hpn := hv.pn
  have HL := Lib.hid hv.len
  have HN := Lib.hid hN
  have hN2 : N < 2000 := by omega
  have hN3 : 48 + 4 * pl + 4 ≤ N := by omega
  obtain ⟨b, off, hA, hbB, hcl⟩ := hv.rd (by rw [hv.len]; omega)
  have HC := Lib.hid hcl
  have HV := Lib.hid hv
  have HC1 := Lib.hid (su_c1 hv.su.eq)
  have hx0 : w.cell? ⟨b, off, none⟩ = some (.int .i64 (ix zs 0)) := hcl 0 (by rw [hv.len]; omega)
  obtain ⟨x0, hxx⟩ : ∃ x, x = ix zs 0 := ⟨_, rfl⟩
  rw [← hxx] at hx0
  have HXX := Lib.hid hxx
  have hbw : b < w.heap.size := by omega
  have HBS0 := Lib.hid ((Blk.new w 49 cs).alloc (.cells #[.int .i64 0, .int .i64 x0] 38))
  have HB0 : Hid (Below w.heap.size w ((w.alloc (.cells cs 49)).alloc (.cells #[.int .i64 0, .int .i64 x0] 38))) := ((Below.refl _ _).alloc (Nat.le_refl _) _).alloc (by simp) _
  have HO0 := Lib.hid (OwnP.lit1 (w.alloc (.cells cs 49)) 0 x0)
  subst hA
  have hN0 : 0 < N := by omega
  clear hv hN hcl hxx
  go_enter Try.func23, Try.ntmps23
  go_wp2_with (refine wpl_load_g rfl 49 _ rfl _ rfl 49 cs (0, 0) _ HBS0.out Try.underlying49 rfl (su_info' HV.out.su.eq) ?_)
  refine (rplayer_any cs s m pl _ HV.out.su.eq hp8 hpl).mono ?_
  rintro e w1 ⟨rfl, hb1⟩
  obtain ⟨f1, hf1⟩ : ∃ f1, f1 = 48 + 4 * pl := ⟨_, rfl⟩
  have HF1 := Lib.hid hf1
  rw [← hf1] at hN3 ⊢
  have HB1 := Lib.hid (HB0.out.trans (hb1.mono HB0.out.size))
  have HBS1 := Lib.hid (HBS0.out.below hb1 (by simp; omega))
  have HO1 : Hid (OwnP w1 (w.heap.size + 1) (.slice (some ⟨w.heap.size + 1, 0, none⟩) 1 1) (cellsFrom zs 0 1)) := by
    have := ownsRow_below HO0.out hb1
    rw [World.size_alloc] at this
    have e : cellsFrom zs 0 1 = [(0, x0)] := by rw [HXX.out]; rfl
    rw [e]; exact Lib.hid this
  clear hb1 hf1
  go_wp2
  go_loopw [7, 9] (fun o i W => ∃ k : Nat, k ≤ 4 ∧ i = .int .i64 (k : Int) ∧ ∃ A' c', o = .slice A' (1 + k) c' ∧ Hid (OwnP W (w.heap.size + 1) (.slice A' (1 + k) c') (cellsFrom zs 0 1 ++ cellsFrom zs f1 k)) ∧ Below w.heap.size w W ∧ Hid (Blk W w.heap.size 49 cs)) (fun _ i _ => 4 - (intOf i).toNat)
  case atStart => exact ⟨0, by omega, rfl, _, 1, rfl, by simpa [cellsFrom] using HO1, HB1.out, HBS1⟩
  case round =>
    obtain ⟨k, hk, rfl, A1, c1, rfl, HO, hb, HBS⟩ := hrel
    by_cases hlt : k < 4
    · have hck : wr.cell? ⟨b, off + (f1 + k), none⟩ = some (.int .i64 (ix zs (f1 + k))) := (hb.cell (p := ⟨b, off + (f1 + k), none⟩) hbw).trans (HC.out (f1 + k) (by rw [HL.out]; omega))
      obtain ⟨v, hv⟩ : ∃ v, v = ix zs (f1 + k) := ⟨_, rfl⟩
      rw [← hv] at hck
      have HVV := Lib.hid hv
      have HLE := Lib.hid HO.out.len
      have hsz : w.heap.size + 1 ≤ wr.heap.size := HBS.out.lt
      have hfk : f1 + k < N := by omega
      have hn1 : (1 + k) + 1 = 1 + (k + 1) := by omega
      have HN1 := Lib.hid hn1
      clear hv hn1
      go_wp2_with (at_builtin; refine wpl_append_pair rfl (.tmp 26) (.tmp 37) rfl (w.heap.size + 1) _ (cellsFrom zs 0 1 ++ cellsFrom zs f1 k) rfl (HO.out.alloc _) ⟨wr.heap.size, 0, none⟩ 1 ((f1 : Int) + (k : Int), v) (1 + (k + 1)) (by rw [HLE.out]; exact HN1.out) rfl (pair_cells ((f1 : Int) + (k : Int), v) wr).1 (pair_cells ((f1 : Int) + (k : Int), v) wr).2 (by rw [HLE.out]; omega) (by simp; omega) ?_; intro A2 c2 w2 ho2 hb2)
      have HO2 : Hid (OwnP w2 (w.heap.size + 1) (.slice A2 (1 + (k + 1)) c2) (cellsFrom zs 0 1 ++ cellsFrom zs f1 (k + 1))) := by
        rw [cellsFrom_next zs f1 k, ← List.append_assoc, ← HVV.out]; exact ho2
      have HB2 := Lib.hid ((hb.alloc hb.size _).trans (hb2.mono (by omega)))
      have HBS2 := Lib.hid ((HBS.out.alloc (.cells #[.int .i64 ((f1 : Int) + (k : Int)), .int .i64 v] 38)).below hb2 (by omega))
      clear ho2 hb2
      go_roundw
      case rel => exact ⟨k + 1, by omega, by go_num, A2, c2, rfl, HO2, HB2.out, HBS2⟩
      case measure => simp [intOf]; omega
    · have hk4 : k = 4 := by omega
      subst hk4
      rename World => wq
      obtain ⟨E0, hE0⟩ : ∃ E0, E0 = cellsFrom zs 0 1 ++ cellsFrom zs f1 4 := ⟨_, rfl⟩
      have HE0 := Lib.hid hE0
      have HEL : Hid (E0.length = 5) := by
        show _ = _
        rw [hE0, List.length_append, cellsFrom_len, cellsFrom_len]
      rw [← hE0] at HO
      have hq4 : decide ((4 : Nat) < 4) = false := rfl
      clear hE0 hlt hq4
      go_wp2_with (refine wpl_load_g rfl 49 _ rfl _ rfl 49 cs (0, 0) _ HBS.out Try.underlying49 rfl (su_info' HV.out.su.eq) ?_)
      refine (rseen_any cs s m (some ⟨b, off, none⟩) N c B pl zs _ (HV.out.below (hb.mono hBw)) hpl).mono ?_
      rintro e w3 ⟨A3, n3, c3, rfl, ho3, hb3⟩
      have HO3 := Lib.hid ho3
      have HOP := Lib.hid (OwnP.below HO.out hb3)
      have HB3 := Lib.hid (hb.trans (hb3.mono hb.size))
      have HBS3 := Lib.hid (HBS.out.below hb3 HBS.out.lt)
      have hn3 : n3 ≤ 100 := by have := ho3.len; have := seenL_len s zs pl m.nb; omega
      have hz13 : wq.heap.size ≤ w3.heap.size := hb3.size
      clear ho3 hb3
      go_wp2
      go_loopw [7, 11] (fun o i W => ∃ k : Nat, k ≤ m.nb ∧ i = .int .i64 (k : Int) ∧ ∃ A' n' c', o = .slice A' n' c' ∧ Hid (OwnP W (w.heap.size + 1) (.slice A' n' c') (E0 ++ bodiesC s.players zs (seenN s zs pl k))) ∧ Below w.heap.size w W ∧ Hid (Blk W w.heap.size 49 cs) ∧ Hid (Own 3 W (w.heap.size + 1) (.slice A3 n3 c3) (seenL s zs pl m.nb))) (fun _ i _ => m.nb - (intOf i).toNat)
      case atStart => exact ⟨0, by omega, rfl, _, _, _, rfl, by simpa [seenN, bodiesC] using HOP, HB3.out, HBS3, Lib.hid (HO3.out.lower (by have := HBS.out.lt; omega))⟩
      case round =>
        obtain ⟨k, hk, rfl, A4, n4, c4, rfl, HO4, hb4, HBS4, HR4⟩ := hrel
        have hlen4 := HO4.out.len
        rw [List.length_append, HEL.out, bodiesC_len] at hlen4
        have hsl := seenN_len s zs pl k
        have hn4 : n4 ≤ 5000 := by omega
        have hc1 : wr.cell? ⟨w.heap.size, 1, none⟩ = some (.slice m.Ab m.nb m.cb) := (HBS4.out.cell 1).trans HC1.out
        by_cases hkn : k < m.nb
        · clear hlen4 hsl
          go_wp2_with (refine wpl_load_g rfl 49 _ rfl _ rfl 49 cs (0, 0) _ HBS4.out Try.underlying49 rfl (su_info' HV.out.su.eq) ?_)
          refine (rbody_any cs s m k _ HV.out.su.eq hp8 hn8 hkn).mono ?_
          rintro e w5 ⟨rfl, hb5⟩
          obtain ⟨f2, hf2⟩ : ∃ f2, f2 = 48 + 4 * s.players + 8 * k := ⟨_, rfl⟩
          have hf2N : f2 + 8 ≤ N := by have := HN.out; omega
          rw [← hf2]
          have HF2 := Lib.hid hf2
          have HO5 := Lib.hid (OwnP.below HO4.out hb5)
          have HB5 := Lib.hid (hb4.trans (hb5.mono hb4.size))
          have HBS5 := Lib.hid (HBS4.out.below hb5 HBS4.out.lt)
          have HR5 := Lib.hid (HR4.out.below hb5)
          clear hb5 hf2
          go_wp2
          cases hsee : seesB s zs pl k with
          | true =>
            have HS := Lib.hid (seenN_yes hsee)
            have HH : Hid (decide (((k : Nat) : Int) ∈ seenL s zs pl m.nb) = true) := by show _ = _; rw [seenL_mem hkn, hsee]
            clear hsee
            go_loopw [7, 13] (fun o i W => ∃ j : Nat, j ≤ 8 ∧ i = .int .i64 (j : Int) ∧ ∃ A' n' c', o = .slice A' n' c' ∧ n' = n4 + j ∧ Hid (OwnP W (w.heap.size + 1) (.slice A' n' c') (E0 ++ bodiesC s.players zs (seenN s zs pl k) ++ cellsFrom zs f2 j)) ∧ Below w.heap.size w W ∧ Hid (Blk W w.heap.size 49 cs) ∧ Hid (Own 3 W (w.heap.size + 1) (.slice A3 n3 c3) (seenL s zs pl m.nb))) (fun _ i _ => 8 - (intOf i).toNat)
            case atStart => exact ⟨0, by omega, rfl, A4, n4, c4, rfl, by omega, by simpa [cellsFrom] using HO5, HB5.out, HBS5, HR5⟩
            case round =>
              obtain ⟨j, hj, rfl, A6, n6, c6, rfl, hn6, HO6, hb6, HBS6, HR6⟩ := hrel
              by_cases hj8 : j < 8
              · have hck : wr.cell? ⟨b, off + (f2 + j), none⟩ = some (.int .i64 (ix zs (f2 + j))) := (hb6.cell (p := ⟨b, off + (f2 + j), none⟩) hbw).trans (HC.out (f2 + j) (by rw [HL.out]; omega))
                obtain ⟨v, hv⟩ : ∃ v, v = ix zs (f2 + j) := ⟨_, rfl⟩
                rw [← hv] at hck
                have HVV := Lib.hid hv
                have HLE := Lib.hid HO6.out.len
                have hsz : w.heap.size + 1 ≤ wr.heap.size := HBS6.out.lt
                have hfk : f2 + j < N := by omega
                have hn6b : n6 < 10000 := by omega
                have HN6 := Lib.hid hn6
                clear hv hn6
                go_wp2_with (first
                  | (go_at_call 28; refine (hasInt_any A3 n3 c3 (seenL s zs pl m.nb) (k : Int) true _ _ HO3.out.len HR6.out.rd (by omega) HH.out).mono ?_; rintro e w7 ⟨rfl, rfl⟩)
                  | (at_builtin; refine wpl_append_pair_at rfl (.tmp 62) (.tmp 73) rfl (w.heap.size + 1) _ (E0 ++ bodiesC s.players zs (seenN s zs pl k) ++ cellsFrom zs f2 j) rfl (HO6.out.alloc _) ⟨wr.heap.size, 0, none⟩ 1 ((f2 : Int) + (j : Int), v) (n6 + 1) (by rw [HLE.out]) rfl (pair_cells ((f2 : Int) + (j : Int), v) wr).1 (pair_cells ((f2 : Int) + (j : Int), v) wr).2 (by rw [HLE.out]; omega) (by simp; omega) ?_; intro A8 c8 w8 ho8 hb8))
                have HO8 : Hid (OwnP w8 (w.heap.size + 1) (.slice A8 (n6 + 1) c8) (E0 ++ bodiesC s.players zs (seenN s zs pl k) ++ cellsFrom zs f2 (j + 1))) := by
                  rw [cellsFrom_next zs f2 j, ← List.append_assoc, ← HVV.out]; exact ho8
                have HG8 := Lib.hid (hb8.out.below (B := w.heap.size + 1) HO6.out.base (by simp; omega))
                have HB8 := Lib.hid ((hb6.alloc hb6.size _).trans (HG8.out.mono (Nat.le_succ _)))
                have HBS8 := Lib.hid ((HBS6.out.alloc (.cells #[.int .i64 ((f2 : Int) + (j : Int)), .int .i64 v] 38)).below HG8.out (Nat.lt_succ_self _))
                have HR8 := Lib.hid ((HR6.out.alloc (.cells #[.int .i64 ((f2 : Int) + (j : Int)), .int .i64 v] 38)).apart (HO6.out.alloc _) hb8.out)
                clear ho8 hb8
                go_roundw
                case rel => exact ⟨j + 1, by omega, by go_num, A8, n6 + 1, c8, rfl, by have := HN6.out; omega, HO8, HB8.out, HBS8, HR8⟩
                case measure => simp [intOf]; omega
              · have hj88 : j = 8 := by omega
                subst hj88
                have HO9 : Hid (OwnP wr (w.heap.size + 1) (.slice A6 n6 c6) (E0 ++ bodiesC s.players zs (seenN s zs pl (k + 1)))) := by
                  rw [HS.out, bodiesC_snoc, ← List.append_assoc, ← HF2.out]; exact HO6
                clear hj8
                go_wp2
                go_roundw
                case rel => exact ⟨k + 1, by omega, by go_num, A6, n6, c6, rfl, HO9, hb6, HBS6, HR6⟩
                case measure => simp [intOf]; omega
          | false =>
            have HS := Lib.hid (seenN_no hsee)
            have HH : Hid (decide (((k : Nat) : Int) ∈ seenL s zs pl m.nb) = false) := by show _ = _; rw [seenL_mem hkn, hsee]
            clear hsee
            go_loopw [7, 13] (fun o i W => i = .int .i64 0 ∧ o = .slice A4 n4 c4 ∧ W = w5) (fun _ i _ => 8 - (intOf i).toNat)
            case atStart => exact ⟨rfl, rfl, rfl⟩
            case round =>
              obtain ⟨rfl, rfl, rfl⟩ := hrel
              go_wp2_with (go_at_call 28; refine (hasInt_any A3 n3 c3 (seenL s zs pl m.nb) (k : Int) false _ _ HO3.out.len HR5.out.rd (by omega) HH.out).mono ?_; rintro e w7 ⟨rfl, rfl⟩)
              go_roundw
              case rel => exact ⟨k + 1, by omega, by go_num, A4, n4, c4, rfl, by rw [HS.out]; exact HO5, HB5.out, HBS5, HR5⟩
              case measure => simp [intOf]; omega
        · have hkm : k = m.nb := by omega
          have hd : decide (k < m.nb) = false := decide_eq_false hkn
          have HK := Lib.hid hkm
          clear hlen4 hsl hkn hkm
          go_wp2
          go_ret
          refine ⟨A4, n4, c4, rfl, ?_, hb4⟩
          have := HO4.out
          rw [HE0.out, HK.out, HF1.out] at this
          exact ownsRow_lower this (Nat.le_succ _)
end Go.Proofs.Ytfnoeolngdhjfaa
