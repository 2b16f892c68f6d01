/-
  Package snapshot: View's closure.
-/
import Derived.Test.YtfnoeolngdhjfaaVis8
import Derived.Test.YtfnoeolngdhjfaaPair
import Derived.Test.YtfnoeolngdhjfaaAny
import Derived.Maps.AppendAt
namespace Go.Proofs.Ytfnoeolngdhjfaa
set_option linter.unusedVariables false
set_option linter.unusedSimpArgs false
set_option maxRecDepth 4000
open Go.RowKit

/-- n cells of a state from one on, with their indices. -/
def cellsFrom (zs : List Int) (first n : Nat) : List (Int × Int) := (List.range n).map fun k : Nat => (((first + k : Nat) : Int), ix zs (first + k))
theorem cellsFrom_snoc (zs : List Int) (first n : Nat) : cellsFrom zs first (n + 1) = cellsFrom zs first n ++ [(((first + n : Nat) : Int), ix zs (first + n))] := by
  unfold cellsFrom; rw [List.range_succ, List.map_append]; rfl
theorem cellsFrom_len (zs : List Int) (first n : Nat) : (cellsFrom zs first n).length = n := by simp [cellsFrom]
/-- Only the row r, and new blocks, may differ; the row r' is that row or a new block. -/
structure Grw (r r' : Option Nat) (w w' : World) : Prop where
  os : w'.os = w.os
  tape : w'.tape = w.tape
  output : w'.output = w.output
  size : w.heap.size ≤ w'.heap.size
  block : ∀ k, k < w.heap.size → r ≠ some k → w'.heap[k]? = w.heap[k]?
  row : r' = r ∨ ∃ j, r' = some j ∧ w.heap.size ≤ j
/-- Only block ob, the row r, and new blocks, may differ. -/
structure But (ob : Nat) (r r' : Option Nat) (w w' : World) : Prop where
  os : w'.os = w.os
  tape : w'.tape = w.tape
  output : w'.output = w.output
  size : w.heap.size ≤ w'.heap.size
  block : ∀ k, k < w.heap.size → k ≠ ob → r ≠ some k → w'.heap[k]? = w.heap[k]?
  row : r' = r ∨ ∃ j, r' = some j ∧ w.heap.size ≤ j
theorem But.refl (ob : Nat) (r : Option Nat) (w : World) : But ob r r w w := ⟨rfl, rfl, rfl, Nat.le_refl _, fun _ _ _ _ => rfl, .inl rfl⟩
theorem But.trans {ob : Nat} {r r' r'' : Option Nat} {a b c : World} (h : But ob r r' a b) (h' : But ob r' r'' b c) : But ob r r'' a c := by
  refine ⟨h'.os.trans h.os, h'.tape.trans h.tape, h'.output.trans h.output, Nat.le_trans h.size h'.size, fun k h1 h2 h3 => ?_, ?_⟩
  · refine (h'.block k (Nat.lt_of_lt_of_le h1 h.size) h2 ?_).trans (h.block k h1 h2 h3)
    rcases h.row with e | ⟨j, e, hj⟩
    · rw [e]; exact h3
    · rw [e]; intro e2; injection e2 with e2; omega
  · rcases h'.row with e | ⟨j, e, hj⟩
    · rw [e]; exact h.row
    · exact .inr ⟨j, e, Nat.le_trans h.size hj⟩
theorem But.of {ob : Nat} {r r' : Option Nat} {a b : World} (h : Grw r r' a b) : But ob r r' a b := ⟨h.os, h.tape, h.output, h.size, fun k h1 _ h3 => h.block k h1 h3, h.row⟩
theorem But.ofBelow {ob : Nat} {r : Option Nat} {a b : World} (h : Below a.heap.size a b) : But ob r r a b := ⟨h.os, h.tape, h.output, h.size, fun k h1 _ _ => h.block k h1, .inl rfl⟩
theorem But.set_ {ob : Nat} {r r' : Option Nat} {a b : World} (h : But ob r r' a b) (i : Nat) (u : Value) : But ob r r' a (b.setCell ⟨ob, i, none⟩ u) :=
  ⟨h.os, h.tape, h.output, by have := h.size; simpa using this, fun k h1 h2 h3 => (Below.heap_setCell b ⟨ob, i, none⟩ u k h2).trans (h.block k h1 h2 h3), h.row⟩
theorem But.below {ob B : Nat} {r r' : Option Nat} {a b : World} (h : But ob r r' a b) (h1 : B ≤ ob) (h2 : ∀ k, r = some k → B ≤ k) (h3 : B ≤ a.heap.size) : Below B a b := ⟨h.os, h.tape, h.output, h.size, fun k hk => h.block k (by omega) (by omega) (fun e => by have := h2 _ e; omega)⟩
theorem But.cell {ob : Nat} {r r' : Option Nat} {a b : World} (h : But ob r r' a b) {p : Addr} (h1 : p.block < a.heap.size) (h2 : p.block ≠ ob) (h3 : r ≠ some p.block) : b.cell? p = a.cell? p := World.cell?_of_block (h.block _ h1 h2 h3)
theorem OwnP.base {w : World} {B : Nat} {v : Value} {es : List (Int × Int)} (h : OwnP w B v es) : ∀ k, v.ownBlock = some k → B ≤ k := by
  intro k hk
  rcases h.2 with ⟨rfl, _⟩ | ⟨g, cap, cur, rfl, hb, _⟩
  · simp [Value.ownBlock] at hk
  · simp [Value.ownBlock] at hk; omega
theorem OwnP.ne {w : World} {B : Nat} {v : Value} {es : List (Int × Int)} (h : OwnP w B v es) {k : Nat} (hk : k < B) : v.ownBlock ≠ some k := fun e => by have := h.base k e; omega
theorem wp_append_pair_at {w : World} {o : Oper} {a : Act} {K : Act → World → Prop} {Q : Exit → Act → World → Prop} (s x : Operand)
    (ho : o.op = .call { callee := .builtin .append, args := #[s, x], argTypes := #[23, 23] })
    (B : Nat) (v : Value) (es : List (Int × Int)) (hs : a.eval s = v) (hown : OwnP w B v es)
    (ad : Addr) (c : Nat) (p : Int × Int) (n' : Nat) (hn' : es.length + 1 = n') (hx : a.eval x = .slice (some ad) 1 c) (hc : w.cell? ad = some (.int .i64 p.1)) (hc2 : w.cell? (ad.add 1) = some (.int .i64 p.2))
    (hlen : es.length < 1000000000) (hB : B ≤ w.heap.size)
    (h : ∀ A' c' w', OwnP w' B (.slice A' n' c') (es ++ [p]) → Grw v.ownBlock (Value.slice A' n' c').ownBlock w w' → K (a.put o.dst (.slice A' n' c')) w') : o.wp Try.prog a w K Q := by
  obtain ⟨i0, hi0, hz0, hz1, hz2⟩ := info_parts pair_info
  obtain ⟨v', w', hr, h2, h3, h4, h5⟩ := run_append_own_at (P := Try.prog) w B 23 o.type 38 i0 (.agg #[.int .i64 0, .int .i64 0]) 2 16 Try.underlying23 hi0 hz0 hz1 hz2 rfl (by decide) v es.length (flat es) hown ad 1 c [.int .i64 p.1, .int .i64 p.2] rfl (fun j u hj => by
      match j, hj with
      | 0, hj => simp at hj; subst hj; simpa [Addr.add] using hc
      | 1, hj => simp at hj; subst hj; exact hc2) (fun u hu => by simp at hu; rcases hu with rfl | rfl <;> rfl) (by simp [maxLen]; omega) (by omega) hB
  have h1' : OwnP w' B v' (es ++ [p]) := by
    unfold OwnP flat at *
    rw [List.length_append, List.flatMap_append]
    exact h2
  obtain ⟨A', c', rfl, _⟩ := h1'.form
  rw [List.length_append, List.length_singleton, hn'] at h1' h5 hr
  unfold Oper.wp execOp
  simp [ho, resolve, invoke, builtin, hs, hx, hr, Result.andThen]
  exact h A' c' w' h1' ⟨h3.os, h3.tape, h3.output, h3.size, fun k hk hne => h3.block k hk (fun e => hne e.symm), h5.imp id fun e => ⟨_, e, Nat.le_refl _⟩⟩
theorem OwnP.set_ {w : World} {B : Nat} {v : Value} {es : List (Int × Int)} (h : OwnP w B v es) {p : Addr} (hp : p.block < B) (u : Value) : OwnP (w.setCell p u) B v es := by
  refine ⟨h.1, ?_⟩
  rcases h.2 with h0 | ⟨g, cap, cur, hv, hg, hh, hr⟩
  · exact .inl h0
  · exact .inr ⟨g, cap, cur, hv, hg, (Below.heap_setCell w p u g (by omega)).trans hh, hr⟩
theorem OwnP.len {w : World} {B n c : Nat} {A : Option Addr} {es : List (Int × Int)} (h : OwnP w B (.slice A n c) es) : es.length = n := by
  obtain ⟨A', c', hv, _⟩ := h.form
  injection hv with _ h2 _
  exact h2.symm

theorem grw_alloc {r r' : Option Nat} {w w' : World} {o : Obj} (h : Grw r r' (w.drew.alloc o) w') : Grw r r' w w' :=
  ⟨h.os, h.tape, h.output, by have := h.size; simp at this; omega, fun k hk hne => (h.block k (by simp; omega) hne).trans (Below.heap_alloc w.drew o k hk), h.row.imp id fun ⟨j, e, hj⟩ => ⟨j, e, by simp at hj; omega⟩⟩
set_option maxHeartbeats 2000000 in
theorem view1_any (A : Option Addr) (N c B first n ob bc Bq : Nat) (zs : List Int) (A0 : Option Addr) (n0 c0 : Nat) (es : List (Int × Int)) (w : World) (hl : zs.length = N) (hr : Rd w B A zs) (hN : N < 2000) (hfn : first + n ≤ N)
    (hbc : Blk w bc 22 #[.slice A N c]) (hob : Blk w ob 23 #[.slice A0 n0 c0]) (ho : OwnP w Bq (.slice A0 n0 c0) es) (k1 : bc < Bq) (k2 : ob < Bq) (k3 : B ≤ Bq) (k4 : Bq ≤ w.heap.size) (k5 : bc ≠ ob) (k6 : B ≤ ob) (hes : n0 ≤ 1000000) :
    Calls Try.prog 49 #[.int .i64 (first : Int), .int .i64 (n : Int), .pointer (some ⟨ob, 0, none⟩), .pointer (some ⟨bc, 0, none⟩)] w fun e w' => e = .returned (.tuple #[]) ∧
      ∃ A' c', Blk w' ob 23 #[.slice A' (n0 + n) c'] ∧ OwnP w' Bq (.slice A' (n0 + n) c') (es ++ cellsFrom zs first n) ∧ But ob (Value.slice A0 n0 c0).ownBlock (Value.slice A' (n0 + n) c').ownBlock w w' := by
  have HR := Lib.hid hr
  have HL := Lib.hid hl
  have HBC := Lib.hid hbc
  have HOB := Lib.hid hob
  have HO := Lib.hid ho
  have HEL := Lib.hid ho.len
  have H5 := Lib.hid k5
  have hd0 : first + n < 3000 := by omega
  clear hr hl hbc hob ho k5
  go_enter Try.func49, Try.ntmps49
  go_wp2
  go_loopw [6] (fun i wr => ∃ k : Nat, k ≤ n ∧ i = .int .i64 ((first + k : Nat) : Int) ∧ ∃ A' c', Hid (Blk wr ob 23 #[.slice A' (n0 + k) c']) ∧ Hid (OwnP wr Bq (.slice A' (n0 + k) c') (es ++ cellsFrom zs first k)) ∧ Hid (But ob (Value.slice A0 n0 c0).ownBlock (Value.slice A' (n0 + k) c').ownBlock w wr)) (fun i _ => first + n - (intOf i).toNat)
  case atStart => exact ⟨0, by omega, rfl, A0, c0, HOB, Lib.hid (by simpa [cellsFrom] using HO.out), Lib.hid (But.refl _ _ _)⟩
  case round =>
    obtain ⟨k, hk, rfl, A1, c1, HOBr, HOr, HBU⟩ := hrel
    obtain ⟨x, hx⟩ : ∃ x : Nat, x = first + k := ⟨_, rfl⟩
    obtain ⟨n1, hn1⟩ : ∃ n1 : Nat, n1 = n0 + k := ⟨_, rfl⟩
    rw [← hn1] at HOBr HOr HBU
    rw [← hx]
    have HX := Lib.hid hx
    have HN1 := Lib.hid hn1
    have hk' : x ≤ first + n := by omega
    by_cases hlt : x < first + n
    · have hxN : x < N := by omega
      obtain ⟨b, off, hA, hbB, hcl⟩ := HR.out (by rw [HL.out]; omega)
      have hcv : wr.cell? ⟨b, off + x, none⟩ = some (.int .i64 (ix zs x)) := (HBU.out.cell (p := ⟨b, off + x, none⟩) (by show b < _; omega) (by show b ≠ ob; omega) (HO.out.ne (by show b < Bq; omega))).trans (hcl x (by rw [HL.out]; exact hxN))
      obtain ⟨v, hv⟩ : ∃ v, v = ix zs x := ⟨_, rfl⟩
      rw [← hv] at hcv
      have HV := Lib.hid hv
      have hco : wr.cell? ⟨ob, 0, none⟩ = some (.slice A1 n1 c1) := HOBr.out.cell 0
      have hcb : wr.cell? ⟨bc, 0, none⟩ = some (.slice A N c) := (HBU.out.cell (p := ⟨bc, 0, none⟩) (by show bc < _; omega) H5.out (HO.out.ne k1)).trans (HBC.out.cell 0)
      rw [hA] at hcb
      have HCO := Lib.hid hco
      have HCB := Lib.hid hcb
      have HCV := Lib.hid hcv
      have hbW : b < wr.heap.size := by have := HBU.out.size; omega
      have hobW : ob < wr.heap.size := HOBr.out.lt
      have HBW := Lib.hid hbW
      have HOBW := Lib.hid hobW
      have hBqW : Bq ≤ wr.heap.size := by have := HBU.out.size; omega
      have HEL1 := Lib.hid HOr.out.len
      have HFR : Hid (wr.frozen? ⟨ob, 0, none⟩ = false) := HOBr.out.frozen 0
      have hn1b : n1 < 2000000 := by omega
      have i1 : (0 : Int) ≤ (x : Int) := by omega
      clear hx hn1 hcl hv hA hco hcb hcv hbW hobW
      go_upto_region 3 with (fail)
      refine region_start ?_
      intro a0 ha0
      have hsz : a0.tmps.size = 24 := by rw [ha0]; rfl
      have q2 : a0.tmps[2]? = some (.pointer (some ⟨ob, 0, none⟩)) := by rw [ha0]; rfl
      have q3 : a0.tmps[3]? = some (.pointer (some ⟨bc, 0, none⟩)) := by rw [ha0]; rfl
      have q6 : a0.tmps[6]? = some (.int .i64 (x : Int)) := by rw [ha0]; rfl
      refine wp_region_inv (by kernel_rfl) (fun L a W => ∃ A4 : Option Addr, ∃ c4 : Nat, Fr a0 [15, 16, 17, 18, 19, 20, 21, 22, 23] a ∧ ((L 7 = false → W = wr.drew) ∧ (L 7 = true → L 8 = false → W = wr.drew.alloc (.cells #[.int .i64 (x : Int), .int .i64 v] 38)) ∧ (L 8 = true → L 9 = false → OwnP W Bq (.slice A4 (n1 + 1) c4) (es ++ cellsFrom zs first k ++ [((x : Int), v)]) ∧ Grw (Value.slice A1 n1 c1).ownBlock (Value.slice A4 (n1 + 1) c4).ownBlock wr W) ∧ (L 9 = true → ∃ W', W = W'.setCell ⟨ob, 0, none⟩ (.slice A4 (n1 + 1) c4) ∧ OwnP W' Bq (.slice A4 (n1 + 1) c4) (es ++ cellsFrom zs first k ++ [((x : Int), v)]) ∧ Grw (Value.slice A1 n1 c1).ownBlock (Value.slice A4 (n1 + 1) c4).ownBlock wr W')) ∧ (L 0 = true → a.tmps[15]? = some (.slice A1 n1 c1)) ∧ (L 1 = true → a.tmps[16]? = some (.int .i64 (x : Int))) ∧ (L 2 = true → a.tmps[17]? = some (.slice (some ⟨b, off, none⟩) N c)) ∧ (L 3 = true → a.tmps[18]? = some (.int .i64 (x : Int))) ∧ (L 4 = true → a.tmps[19]? = some (.pointer (some ⟨b, off + x, none⟩))) ∧ (L 5 = true → a.tmps[20]? = some (.int .i64 v)) ∧ (L 6 = true → a.tmps[21]? = some (.agg #[.int .i64 (x : Int), .int .i64 v])) ∧ (L 7 = true → a.tmps[22]? = some (.slice (some ⟨wr.heap.size, 0, none⟩) 1 1)) ∧ (L 8 = true → a.tmps[23]? = some (.slice A4 (n1 + 1) c4))) [[], [], [], [], [2, 3], [4], [1, 5], [6], [0, 7], [8]] (by kernel_rfl) ?_ ?_ ?_
      · exact ⟨none, 0, Fr.refl _ _, ⟨fun _ => rfl, (fun h => by cases h), (fun h => by cases h), (fun h => by cases h)⟩, (fun h => by cases h), (fun h => by cases h), (fun h => by cases h), (fun h => by cases h), (fun h => by cases h), (fun h => by cases h), (fun h => by cases h), (fun h => by cases h), (fun h => by cases h)⟩
      · intro i hi
        clear ha0
        match i, hi with
        | 0, _ =>
          rintro L a W ⟨A4, c4, hF, hE, h0, h1, h2, h3, h4, h5, h6, h7, h8⟩ hclo hL hd
          have x2 := (hF.same 2 (by decide)).trans q2
          refine wpOp_yes rfl rfl (fun K hK => ?_)
          have g8 : L 8 = false := by
            cases h : L 8 with
            | false => rfl
            | true => exact absurd (all_mem (d := 0) (hclo 8 h) (by decide)) (by rw [hL]; exact Bool.false_ne_true)
          have cx : W.cell? ⟨ob, 0, none⟩ = some (.slice A1 n1 c1) := by
            cases h7 : L 7 with
            | false => rw [hE.1 h7]; exact HCO.out
            | true => rw [hE.2.1 h7 g8]; exact (World.cell?_alloc_lt wr.drew _ ⟨ob, 0, none⟩ HOBW.out).trans HCO.out
          go_simp
          refine hK _ _ ?_
          exact ⟨A4, c4, hF.put (by decide) _, hE, (fun _ => put_same (by rw [hF.size, hsz]; decide) _), (fun h => (put_other (by decide) _).trans (h1 h)), (fun h => (put_other (by decide) _).trans (h2 h)), (fun h => (put_other (by decide) _).trans (h3 h)), (fun h => (put_other (by decide) _).trans (h4 h)), (fun h => (put_other (by decide) _).trans (h5 h)), (fun h => (put_other (by decide) _).trans (h6 h)), (fun h => (put_other (by decide) _).trans (h7 h)), (fun h => (put_other (by decide) _).trans (h8 h))⟩
        | 1, _ =>
          rintro L a W ⟨A4, c4, hF, hE, h0, h1, h2, h3, h4, h5, h6, h7, h8⟩ hclo hL hd
          have x6 := (hF.same 6 (by decide)).trans q6
          refine wpOp_yes rfl rfl (fun K hK => ?_)
          go_simp
          refine hK _ _ ?_
          exact ⟨A4, c4, hF.put (by decide) _, hE, (fun h => (put_other (by decide) _).trans (h0 h)), (fun _ => put_same (by rw [hF.size, hsz]; decide) _), (fun h => (put_other (by decide) _).trans (h2 h)), (fun h => (put_other (by decide) _).trans (h3 h)), (fun h => (put_other (by decide) _).trans (h4 h)), (fun h => (put_other (by decide) _).trans (h5 h)), (fun h => (put_other (by decide) _).trans (h6 h)), (fun h => (put_other (by decide) _).trans (h7 h)), (fun h => (put_other (by decide) _).trans (h8 h))⟩
        | 2, _ =>
          rintro L a W ⟨A4, c4, hF, hE, h0, h1, h2, h3, h4, h5, h6, h7, h8⟩ hclo hL hd
          have x3 := (hF.same 3 (by decide)).trans q3
          refine wpOp_yes rfl rfl (fun K hK => ?_)
          have g7 : L 7 = false := by
            cases h : L 7 with
            | false => rfl
            | true => exact absurd (all_mem (d := 2) (hclo 4 (all_mem (d := 4) (hclo 5 (all_mem (d := 5) (hclo 6 (all_mem (d := 6) (hclo 7 h) (by decide))) (by decide))) (by decide))) (by decide)) (by rw [hL]; exact Bool.false_ne_true)
          have hW := hE.1 g7
          subst hW
          have cx := HCB.out
          go_simp
          refine hK _ _ ?_
          exact ⟨A4, c4, hF.put (by decide) _, hE, (fun h => (put_other (by decide) _).trans (h0 h)), (fun h => (put_other (by decide) _).trans (h1 h)), (fun _ => put_same (by rw [hF.size, hsz]; decide) _), (fun h => (put_other (by decide) _).trans (h3 h)), (fun h => (put_other (by decide) _).trans (h4 h)), (fun h => (put_other (by decide) _).trans (h5 h)), (fun h => (put_other (by decide) _).trans (h6 h)), (fun h => (put_other (by decide) _).trans (h7 h)), (fun h => (put_other (by decide) _).trans (h8 h))⟩
        | 3, _ =>
          rintro L a W ⟨A4, c4, hF, hE, h0, h1, h2, h3, h4, h5, h6, h7, h8⟩ hclo hL hd
          have x6 := (hF.same 6 (by decide)).trans q6
          refine wpOp_yes rfl rfl (fun K hK => ?_)
          go_simp
          refine hK _ _ ?_
          exact ⟨A4, c4, hF.put (by decide) _, hE, (fun h => (put_other (by decide) _).trans (h0 h)), (fun h => (put_other (by decide) _).trans (h1 h)), (fun h => (put_other (by decide) _).trans (h2 h)), (fun _ => put_same (by rw [hF.size, hsz]; decide) _), (fun h => (put_other (by decide) _).trans (h4 h)), (fun h => (put_other (by decide) _).trans (h5 h)), (fun h => (put_other (by decide) _).trans (h6 h)), (fun h => (put_other (by decide) _).trans (h7 h)), (fun h => (put_other (by decide) _).trans (h8 h))⟩
        | 4, _ =>
          rintro L a W ⟨A4, c4, hF, hE, h0, h1, h2, h3, h4, h5, h6, h7, h8⟩ hclo hL hd
          have x17 := h2 (all_mem hd (by decide))
          have x18 := h3 (all_mem hd (by decide))
          refine wpOp_yes rfl rfl (fun K hK => ?_)
          go_simp
          refine hK _ _ ?_
          exact ⟨A4, c4, hF.put (by decide) _, hE, (fun h => (put_other (by decide) _).trans (h0 h)), (fun h => (put_other (by decide) _).trans (h1 h)), (fun h => (put_other (by decide) _).trans (h2 h)), (fun h => (put_other (by decide) _).trans (h3 h)), (fun _ => put_same (by rw [hF.size, hsz]; decide) _), (fun h => (put_other (by decide) _).trans (h5 h)), (fun h => (put_other (by decide) _).trans (h6 h)), (fun h => (put_other (by decide) _).trans (h7 h)), (fun h => (put_other (by decide) _).trans (h8 h))⟩
        | 5, _ =>
          rintro L a W ⟨A4, c4, hF, hE, h0, h1, h2, h3, h4, h5, h6, h7, h8⟩ hclo hL hd
          have x19 := h4 (all_mem hd (by decide))
          refine wpOp_yes rfl rfl (fun K hK => ?_)
          have g7 : L 7 = false := by
            cases h : L 7 with
            | false => rfl
            | true => exact absurd (all_mem (d := 5) (hclo 6 (all_mem (d := 6) (hclo 7 h) (by decide))) (by decide)) (by rw [hL]; exact Bool.false_ne_true)
          have hW := hE.1 g7
          subst hW
          have cx := HCV.out
          go_simp
          refine hK _ _ ?_
          exact ⟨A4, c4, hF.put (by decide) _, hE, (fun h => (put_other (by decide) _).trans (h0 h)), (fun h => (put_other (by decide) _).trans (h1 h)), (fun h => (put_other (by decide) _).trans (h2 h)), (fun h => (put_other (by decide) _).trans (h3 h)), (fun h => (put_other (by decide) _).trans (h4 h)), (fun _ => put_same (by rw [hF.size, hsz]; decide) _), (fun h => (put_other (by decide) _).trans (h6 h)), (fun h => (put_other (by decide) _).trans (h7 h)), (fun h => (put_other (by decide) _).trans (h8 h))⟩
        | 6, _ =>
          rintro L a W ⟨A4, c4, hF, hE, h0, h1, h2, h3, h4, h5, h6, h7, h8⟩ hclo hL hd
          have x16 := h1 (all_mem hd (by decide))
          have x20 := h5 (all_mem hd (by decide))
          refine wpOp_yes rfl rfl (fun K hK => ?_)
          go_simp
          refine hK _ _ ?_
          exact ⟨A4, c4, hF.put (by decide) _, hE, (fun h => (put_other (by decide) _).trans (h0 h)), (fun h => (put_other (by decide) _).trans (h1 h)), (fun h => (put_other (by decide) _).trans (h2 h)), (fun h => (put_other (by decide) _).trans (h3 h)), (fun h => (put_other (by decide) _).trans (h4 h)), (fun h => (put_other (by decide) _).trans (h5 h)), (fun _ => put_same (by rw [hF.size, hsz]; decide) _), (fun h => (put_other (by decide) _).trans (h7 h)), (fun h => (put_other (by decide) _).trans (h8 h))⟩
        | 7, _ =>
          rintro L a W ⟨A4, c4, hF, hE, h0, h1, h2, h3, h4, h5, h6, h7, h8⟩ hclo hL hd
          have x21 := h6 (all_mem hd (by decide))
          refine wpOp_yes rfl rfl (fun K hK => ?_)
          have hW := hE.1 hL
          subst hW
          go_simp
          refine hK _ _ ?_
          exact ⟨A4, c4, hF.put (by decide) _, ⟨(fun h => absurd h (by simp)), (fun _ _ => rfl), (fun j8 _ => absurd (all_mem (d := 7) (hclo 8 j8) (by decide)) (by rw [hL]; exact Bool.false_ne_true)), (fun j9 => absurd (all_mem (d := 7) (hclo 8 (all_mem (d := 8) (hclo 9 j9) (by decide))) (by decide)) (by rw [hL]; exact Bool.false_ne_true))⟩, (fun h => (put_other (by decide) _).trans (h0 h)), (fun h => (put_other (by decide) _).trans (h1 h)), (fun h => (put_other (by decide) _).trans (h2 h)), (fun h => (put_other (by decide) _).trans (h3 h)), (fun h => (put_other (by decide) _).trans (h4 h)), (fun h => (put_other (by decide) _).trans (h5 h)), (fun h => (put_other (by decide) _).trans (h6 h)), (fun _ => put_same (by rw [hF.size, hsz]; decide) _), (fun h => (put_other (by decide) _).trans (h8 h))⟩
        | 8, _ =>
          rintro L a W ⟨A4, c4, hF, hE, h0, h1, h2, h3, h4, h5, h6, h7, h8⟩ hclo hL hd
          have x15 := h0 (all_mem hd (by decide))
          have x22 := h7 (all_mem hd (by decide))
          refine wpOp_yes rfl rfl (fun K hK => ?_)
          have g7 : L 7 = true := all_mem hd (by decide)
          have hW := hE.2.1 g7 hL
          subst hW
          refine wp_append_pair_at (.tmp 15) (.tmp 22) rfl Bq (.slice A1 n1 c1) (es ++ cellsFrom zs first k) (ev x15) (OwnP.alloc HOr.out _) ⟨wr.heap.size, 0, none⟩ 1 ((x : Int), v) (n1 + 1) (by rw [HEL1.out]) (ev x22) (pair_cells ((x : Int), v) wr).1 (pair_cells ((x : Int), v) wr).2 (by rw [HEL1.out]; omega) (by simp; omega) ?_
          intro A5 c5 w5 ho5 hb5
          refine hK _ _ ?_
          exact ⟨A5, c5, hF.put (by decide) _, ⟨(fun h => absurd g7 (by have h' : L 7 = false := h; rw [h']; exact Bool.false_ne_true)), (fun _ h8 => absurd h8 (by simp)), (fun _ _ => ⟨ho5, grw_alloc hb5⟩), (fun j9 => absurd (all_mem (d := 8) (hclo 9 j9) (by decide)) (by rw [hL]; exact Bool.false_ne_true))⟩, (fun h => (put_other (by decide) _).trans (h0 h)), (fun h => (put_other (by decide) _).trans (h1 h)), (fun h => (put_other (by decide) _).trans (h2 h)), (fun h => (put_other (by decide) _).trans (h3 h)), (fun h => (put_other (by decide) _).trans (h4 h)), (fun h => (put_other (by decide) _).trans (h5 h)), (fun h => (put_other (by decide) _).trans (h6 h)), (fun h => (put_other (by decide) _).trans (h7 h)), (fun _ => put_same (by rw [hF.size, hsz]; decide) _)⟩
        | 9, _ =>
          rintro L a W ⟨A4, c4, hF, hE, h0, h1, h2, h3, h4, h5, h6, h7, h8⟩ hclo hL hd
          have x2 := (hF.same 2 (by decide)).trans q2
          have x23 := h8 (all_mem hd (by decide))
          refine wpOp_yes rfl rfl (fun K hK => ?_)
          have g8 : L 8 = true := all_mem hd (by decide)
          obtain ⟨ho, hb⟩ := hE.2.2.1 g8 hL
          have cx : W.cell? ⟨ob, 0, none⟩ = some (.slice A1 n1 c1) := (World.cell?_of_block (a := ⟨ob, 0, none⟩) (hb.block ob HOBW.out (HOr.out.ne k2))).trans HCO.out
          have cf : W.frozen? ⟨ob, 0, none⟩ = false := (World.frozen?_of_block (a := ⟨ob, 0, none⟩) (hb.block ob HOBW.out (HOr.out.ne k2))).trans HFR.out
          go_simp
          refine hK _ _ ?_
          exact ⟨A4, c4, hF, ⟨(fun h => absurd (all_mem (d := 7) (hclo 8 g8) (by decide)) (by have h' : L 7 = false := h; rw [h']; exact Bool.false_ne_true)), (fun _ h8' => absurd g8 (by have h' : L 8 = false := h8'; rw [h']; exact Bool.false_ne_true)), (fun _ h9 => absurd h9 (by simp)), (fun _ => ⟨W, rfl, ho, hb⟩)⟩, (fun h => h0 h), (fun h => h1 h), (fun h => h2 h), (fun h => h3 h), (fun h => h4 h), (fun h => h5 h), (fun h => h6 h), (fun h => h7 h), (fun h => h8 h)⟩
        | k + 10, h => exact absurd (show k + 10 < 10 from h) (by omega)
      · rintro L a W ⟨A4, c4, hF, hE, h0, h1, h2, h3, h4, h5, h6, h7, h8⟩ hall
        have hfa : a = fill a0 [(15, .slice A1 n1 c1), (16, .int .i64 (x : Int)), (17, .slice (some ⟨b, off, none⟩) N c), (18, .int .i64 (x : Int)), (19, .pointer (some ⟨b, off + x, none⟩)), (20, .int .i64 v), (21, .agg #[.int .i64 (x : Int), .int .i64 v]), (22, .slice (some ⟨wr.heap.size, 0, none⟩) 1 1), (23, .slice A4 (n1 + 1) c4)] := fill_eq hF (FillOk.cons (by rw [hsz]; decide) (h0 (hall 0 (by decide))) (FillOk.cons (by rw [hsz]; decide) (h1 (hall 1 (by decide))) (FillOk.cons (by rw [hsz]; decide) (h2 (hall 2 (by decide))) (FillOk.cons (by rw [hsz]; decide) (h3 (hall 3 (by decide))) (FillOk.cons (by rw [hsz]; decide) (h4 (hall 4 (by decide))) (FillOk.cons (by rw [hsz]; decide) (h5 (hall 5 (by decide))) (FillOk.cons (by rw [hsz]; decide) (h6 (hall 6 (by decide))) (FillOk.cons (by rw [hsz]; decide) (h7 (hall 7 (by decide))) (FillOk.cons (by rw [hsz]; decide) (h8 (hall 8 (by decide))) (FillOk.nil)))))))))) (by simp)
        rw [hfa, ha0]
        clear hfa ha0
        simp only [fill, List.foldl_cons, List.foldl_nil, List.setIfInBounds_toArray, List.set_cons_zero, List.set_cons_succ]
        obtain ⟨W', rfl, ho, hb⟩ := hE.2.2.2 (hall 9 (by decide))
        have HO2 := Lib.hid ho
        have HB2 := Lib.hid hb
        clear ho hb hE h0 h1 h2 h3 h4 h5 h6 h7 h8
        have hb3 : (Blk (W'.setCell ⟨ob, 0, none⟩ (.slice A4 (n1 + 1) c4)) ob 23 #[.slice A4 (n1 + 1) c4]) := by
          have := (Blk.set_ (show Blk W' ob 23 _ from (HB2.out.block ob HOBW.out (HOr.out.ne k2)).trans HOBr.out) 0 (.slice A4 (n1 + 1) c4))
          simpa using this
        have HB3 := Lib.hid hb3
        clear hb3
        have HO3 : Hid (OwnP (W'.setCell ⟨ob, 0, none⟩ (.slice A4 (n1 + 1) c4)) Bq (.slice A4 (n1 + 1) c4) (es ++ cellsFrom zs first (k + 1))) := by
          rw [cellsFrom_snoc, ← List.append_assoc, ← HX.out, ← HV.out]
          exact Lib.hid (HO2.out.set_ k2 _)
        have HB4 : Hid (But ob (Value.slice A0 n0 c0).ownBlock (Value.slice A4 (n1 + 1) c4).ownBlock w (W'.setCell ⟨ob, 0, none⟩ (.slice A4 (n1 + 1) c4))) := Lib.hid ((HBU.out.trans (But.of HB2.out)).set_ 0 _)
        have he : n1 + 1 = n0 + (k + 1) := by have := HN1.out; omega
        rw [he] at HB3 HO3 HB4
        have HE := Lib.hid he
        clear he
        go_wp2
        rw [HE.out]
        have hxx : ((x : Int) + 1) = ((first + (k + 1) : Nat) : Int) := by have := HX.out; omega
        have HXX := Lib.hid hxx
        clear hxx
        go_roundw
        case rel => exact ⟨k + 1, by have := HX.out; omega, by rw [HXX.out], A4, c4, HB3, HO3, HB4⟩
        case measure => simp [intOf]; omega
    · have hkn : k = n := by omega
      have hd : decide (x < first + n) = false := decide_eq_false hlt
      have hd2 : decide ((x : Int) < (first : Int) + (n : Int)) = false := decide_eq_false (by omega)
      have HK := Lib.hid hkn
      have HD := Lib.hid hd
      clear hlt hkn hx hn1 hd
      go_wp2
      go_end0
      exact ⟨rfl, A1, c1, by rw [← HK.out, ← HN1.out]; exact HOBr.out, by rw [← HK.out, ← HN1.out]; exact HOr.out, by rw [← HK.out, ← HN1.out]; exact HBU.out⟩
end Go.Proofs.Ytfnoeolngdhjfaa
