/-
  Package snapshot: appendNumber with what it leaves alone; section.index.
-/
import Derived.Test.YtcniepogobgaoaaSnW4
namespace Go.Proofs.Ytcniepogobgaoaa
set_option linter.unusedVariables false
set_option linter.unusedSimpArgs false
set_option maxRecDepth 4000
open Go.RowKit

/-- Only the blocks of S, and new ones, may differ. -/
structure Frm (S : Nat → Prop) (w w' : World) : Prop where
  os : w'.os = w.os
  tape : w'.tape = w.tape
  output : w'.output = w.output
  size : w.heap.size ≤ w'.heap.size
  block : ∀ k, k < w.heap.size → ¬ S k → w'.heap[k]? = w.heap[k]?
theorem Frm.refl (S : Nat → Prop) (w : World) : Frm S w w := ⟨rfl, rfl, rfl, Nat.le_refl _, fun _ _ _ => rfl⟩
theorem Frm.trans {S S' : Nat → Prop} {a b c : World} (h : Frm S a b) (h' : Frm S' b c) (hs : ∀ k, S' k → S k ∨ a.heap.size ≤ k) : Frm S a c :=
  ⟨h'.os.trans h.os, h'.tape.trans h.tape, h'.output.trans h.output, Nat.le_trans h.size h'.size, fun k hk hn =>
    (h'.block k (Nat.lt_of_lt_of_le hk h.size) (fun e => (hs k e).elim hn (fun h => by omega))).trans (h.block k hk hn)⟩
theorem Frm.of_grown {w w' : World} {row : Option Nat} (h : w.grownBy w' row) : Frm (fun k => row = some k) w w' :=
  ⟨h.os, h.tape, h.output, h.size, fun k hk hn => h.block k hk (fun e => hn e.symm)⟩
theorem Frm.mono {S S' : Nat → Prop} {a b : World} (h : Frm S a b) (hs : ∀ k, S k → S' k) : Frm S' a b := ⟨h.os, h.tape, h.output, h.size, fun k hk hn => h.block k hk (fun e => hn (hs k e))⟩
theorem Frm.setCell (w : World) (p : Addr) (v : Value) : Frm (fun k => k = p.block) w (w.setCell p v) :=
  ⟨rfl, rfl, rfl, by simp, fun k _ hn => Below.heap_setCell w p v k hn⟩
theorem Frm.drewN {S : Nat → Prop} {a b : World} (h : Frm S a b) (n : Nat) : Frm S a (b.drewN n) := ⟨h.os, h.tape, h.output, h.size, h.block⟩
theorem Frm.below {S : Nat → Prop} {a b : World} (h : Frm S a b) {B : Nat} (hB : B ≤ a.heap.size) (hs : ∀ k, S k → B ≤ k) : Below B a b :=
  ⟨h.os, h.tape, h.output, h.size, fun k hk => h.block k (by omega) (fun e => by have := hs k e; omega)⟩
/-- The new slice value lies where the old one lay, or beyond W. -/
def RowAt (B : Nat) (v0 v : Value) : Prop := ∀ r, v.ownBlock = some r → v0.ownBlock = some r ∨ B ≤ r
theorem RowAt.refl (B : Nat) (v : Value) : RowAt B v v := fun _ h => .inl h

section
variable {P : Program}
theorem wpl_append1V {w : World} {ops : Array Oper} {rest : List Oper} {o : Oper} {a : Act} {Q : Exit → Act → World → Prop} (hgd : o.guard = none) (s x : Operand) (t : TypeId)
    (ho : o.op = .call { callee := .builtin .append, args := #[s, x], argTypes := #[t, t] })
    (T : TypeId) (ht : P.underlying t = some (.slice T)) (hi : (P.info? T).map (fun i => (i.zero, i.size, i.bytes)) = some (some (.int .u8 0), 1, 1))
    (B : Nat) (v : Value) (zs : List Int) (hs : a.eval s = v) (hown : OwnU T w B v zs)
    (ad : Addr) (c : Nat) (z : Int) (n' : Nat) (hn' : zs.length + 1 = n') (hx : a.eval x = .slice (some ad) 1 c) (hc : w.cell? ad = some (.int .u8 z))
    (hlen : zs.length < 1000000000000) (hB : B ≤ w.heap.size)
    (h : ∀ A' c' w', Hid (OwnU T w' B (.slice A' n' c') (zs ++ [z])) → Hid (w.grownBy w' v.ownBlock) → Hid (RowAt w.heap.size v (.slice A' n' c')) → wpList P ops Q rest (a.put o.dst (.slice A' n' c')) w') : wpList P ops Q (o :: rest) a w := by
  obtain ⟨i0, hi0, hz0, hz1, hz2⟩ := info_parts hi
  refine wpList_append_own_at w hgd s x t ho B T i0 (.int .u8 0) 1 1 ht hi0 hz0 hz1 hz2 rfl (by decide) v zs.length (zs.map (Value.int .u8)) hs hown ad 1 c [.int .u8 z] hx rfl ?_ ?_ ?_ ?_ hB ?_
  · intro j u hj
    match j, hj with
    | 0, hj => simp at hj; subst hj; simpa [Addr.add] using hc
  · intro u hu; simp at hu; subst hu; rfl
  · simp [maxLen]; omega
  · omega
  · intro v' w' h1 h2 _ h4
    have h1' : OwnU T w' B v' (zs ++ [z]) := by
      unfold OwnU
      rw [List.map_append, List.length_append]
      exact h1
    obtain ⟨A', c', rfl, _⟩ := h1'.form
    rw [List.length_append, List.length_singleton, hn'] at h1' h4 ⊢
    refine h A' c' w' h1' h2 (fun r hr => ?_)
    rcases h4 with h4 | h4
    · exact .inl (by rw [← h4]; exact hr)
    · rw [hr] at h4; injection h4 with h4; exact .inr (by omega)
end

set_option maxHeartbeats 1000000 in
theorem appn_g (v0 : Value) (pre0 : List Int) (B : Nat) (t0 : Nat) (A0 : Option Addr) (c0 : Nat) (n : Nat) (w : World) (hn : n < 18446744073709551616) (hv : v0 = .slice A0 t0 c0) (hown0 : OwnU 5 w B v0 pre0) (ht0 : t0 < 100000) (hB : B ≤ w.heap.size) (out : List Int) (m : Nat) (ho : out = pre0 ++ enc n) (hm : out.length = m) :
    Calls Try.prog 43 #[v0, .int .u64 (n : Int)] w fun e w' => ∃ A c, e = .returned (.slice A m c) ∧ OwnU 5 w' B (.slice A m c) out ∧ w.grownBy w' v0.ownBlock ∧ RowAt w.heap.size v0 (.slice A m c) := by
  obtain ⟨V0, hV0⟩ : ∃ V0, V0 = v0.ownBlock := ⟨_, rfl⟩
  have HV0 := Lib.hid hV0
  subst hv
  have HO := Lib.hid ho
  have HM := Lib.hid hm
  have HL0 := Lib.hid hown0.len
  clear ho hm hV0
  go_enter Try.func43, Try.ntmps43
  go_wp2
  go_loopw [0, 1] (fun o v wr => ∃ (x t : Nat) (pre : List Int), x < 18446744073709551616 ∧ v = .int .u64 (x : Int) ∧ pre ++ enc x = pre0 ++ enc n ∧ pre.length = t ∧ t < 101000 ∧ (∃ A c, o = .slice A t c ∧ OwnU 5 wr B (.slice A t c) pre ∧ RowAt w.heap.size (.slice A0 t0 c0) (.slice A t c)) ∧ w.grownBy wr V0) (fun _ v _ => (intOf v).toNat)
  case atStart => exact ⟨n, t0, pre0, hn, rfl, rfl, HL0.out, by omega, ⟨A0, c0, rfl, hown0, RowAt.refl _ _⟩, World.grownBy.refl _ _⟩
  case round =>
    obtain ⟨x, t, pre, hx, rfl, hpre, ht, ht9, ⟨A, c, rfl, hown, hrow⟩, hg⟩ := hrel
    have HP := Lib.hid hpre
    have HT := Lib.hid ht
    have HR := Lib.hid hrow
    have HG := Lib.hid hg
    have hsz := hg.size
    have hln : pre.length < 1000000000000 := by omega
    clear hpre ht hrow hg
    have hln2 : Hid (pre.length + 1 = t + 1) := by show _ = _; rw [HT.out]
    have hstep : Hid (∀ A3 c3 w1, (wr.alloc (.cells #[.int .u8 0] 5)).heap.size = wr.heap.size + 1 → ∀ y : Int, (wr.alloc (.cells #[.int .u8 y] 5)).grownBy w1 (Value.ownBlock (.slice A t c)) → RowAt (wr.alloc (.cells #[.int .u8 y] 5)).heap.size (.slice A t c) (.slice A3 (t + 1) c3) → w.grownBy w1 V0 ∧ RowAt w.heap.size (.slice A0 t0 c0) (.slice A3 (t + 1) c3)) := fun A3 c3 w1 _ y h1 h2 => by
      refine ⟨((HG.out.trans (World.grownBy_alloc wr _ _)).andThen h1 fun j hj => ?_), fun r hr => ?_⟩
      · rcases HR.out j hj with h | h
        · exact .inr (by rw [HV0.out]; exact h)
        · exact .inl h
      · rcases h2 r hr with h | h
        · exact HR.out r h
        · rw [World.size_alloc] at h; exact .inr (by omega)
    by_cases hbig : 128 ≤ x
    · have hbi : (128 : Int) ≤ (x : Int) := by omega
      have hor := or_bits x
      have HE : Hid (pre ++ [((x % 128 + 128 : Nat) : Int)] ++ enc (x / 128) = pre0 ++ enc n) := by
        show _ = _
        rw [← HP.out, enc_big (n := x) (by omega), List.append_assoc]; rfl
      have HL : Hid ((pre ++ [((x % 128 + 128 : Nat) : Int)]).length = t + 1) := by show _ = _; rw [List.length_append, HT.out]; rfl
      have htn : t + 1 < 101000 := by
        have h1 := congrArg List.length HE.out
        have h2 := enc_len10 hn
        rw [List.length_append, HL.out, List.length_append, HL0.out] at h1
        omega
      obtain ⟨y, hy⟩ : ∃ y : Int, y = ((x % 128 + 128 : Nat) : Int) := ⟨_, rfl⟩
      rw [← hy] at hor HE HL
      clear hy
      go_wp2_with (at_builtin; refine wpl_append1V rfl (.tmp 9) (.tmp 13) 33 rfl 5 Try.underlying33 u8_info B _ _ rfl (hown.alloc _) ⟨wr.heap.size, 0, none⟩ 1 y (t + 1) hln2.out rfl (u8_one _ _) hln (by simp; omega) ?_; intro A3 c3 w1 hown' hg' hr')
      go_roundw
      case rel =>
        obtain ⟨k1, k2⟩ := hstep.out A3 c3 w1 (by simp) y hg'.out hr'.out
        exact ⟨x / 128, t + 1, _, by omega, by go_num, HE.out, HL.out, htn, ⟨A3, c3, rfl, hown'.out, k2⟩, k1⟩
      case measure => simp [intOf]; omega
    · have hbi : (x : Int) < 128 := by omega
      have hwr : (x : Int) % 256 = (x : Int) := by omega
      have hov : out = pre ++ [(x : Int)] := by rw [HO.out, ← HP.out, enc_small (by omega)]
      have hmm : m = t + 1 := by rw [← HM.out, hov, List.length_append, HT.out]; rfl
      subst hmm
      have HOV := Lib.hid hov
      clear hov
      go_wp2_with (at_builtin; refine wpl_append1V rfl (.tmp 15) (.tmp 18) 33 rfl 5 Try.underlying33 u8_info B _ _ rfl (hown.alloc _) ⟨wr.heap.size, 0, none⟩ 1 (x : Int) (t + 1) hln2.out rfl (u8_one _ _) hln (by simp; omega) ?_; intro A3 c3 w1 hown' hg' hr')
      go_ret
      obtain ⟨k1, k2⟩ := hstep.out A3 c3 w1 (by simp) (x : Int) hg'.out hr'.out
      exact ⟨A3, c3, rfl, by rw [HOV.out]; exact hown'.out, by rw [← HV0.out]; exact k1, k2⟩

theorem merge_any (A1 : Option Addr) (n1 c1 : Nat) (A2 : Option Addr) (n2 c2 : Nat) (w : World) :
    Calls Try.prog 41 #[.slice A1 n1 c1, .slice A2 n2 c2] w fun e w' => e = .returned (.func (.func 62) #[] #[.pointer (some ⟨w.heap.size, 0, none⟩), .pointer (some ⟨w.heap.size + 1, 0, none⟩)]) ∧ w' = (w.alloc (.cells #[.slice A1 n1 c1] 30)).alloc (.cells #[.slice A2 n2 c2] 30) := by
  go_enter Try.func41, Try.ntmps41
  go_wp2
  go_ret
  exact ⟨rfl, rfl⟩

theorem Blk.apartU {w : World} {g B : Nat} {T U : TypeId} {cs : Array Value} {v : Value} {bs : List Int} (h : Blk w g T cs) (hT : U ≠ T) (ho : OwnU U w B v bs) : v.ownBlock ≠ some g := by
  intro e
  rcases ho.2 with ⟨h', _⟩ | ⟨g', cap', cur', h', _, hh', _⟩
  · rw [h'] at e; simp [Value.ownBlock] at e
  · rw [h'] at e
    have e' : g' = g := by simpa [Value.ownBlock] using e
    subst e'
    unfold Blk at h
    rw [hh'] at h
    injection h with h
    injection h with _ h2
    exact hT h2
theorem OwnU.far_ {T : TypeId} {w : World} {B : Nat} {v : Value} {zs : List Int} (h : OwnU T w B v zs) {p : Addr} (hp : v.ownBlock ≠ some p.block) (u : Value) : OwnU T (w.setCell p u) B v zs := by
  refine ⟨h.1, ?_⟩
  rcases h.2 with h0 | ⟨g, cap, cur, hv, hg, hh, hr⟩
  · exact .inl h0
  · refine .inr ⟨g, cap, cur, hv, hg, (Below.heap_setCell w p u g ?_).trans hh, hr⟩
    intro e
    rw [hv] at hp
    exact hp (by simp [Value.ownBlock, e])
/-- A section in its box: how many entries, the last index's successor, the bytes. -/
def SecAt (w : World) (B g : Nat) (n : Nat) (last : Int) (v : Value) (bs : List Int) : Prop :=
  Blk w g 82 #[.int .u64 (n : Int), .int .i64 last, v] ∧ OwnU 5 w B v bs
set_option maxHeartbeats 1000000 in
theorem index_any (g n : Nat) (last : Int) (A : Option Addr) (t c : Nat) (bs : List Int) (i : Int) (d : Nat) (B : Nat) (w : World) (hs : SecAt w B g n last (.slice A t c) bs) (hB : B ≤ w.heap.size) (ht : t < 90000) (hn : n < 1000000)
    (hl0 : 0 ≤ last) (hi : last ≤ i) (hi2 : i ≤ 2147483647) (hd : d = (i - last).toNat) (out : List Int) (m : Nat) (ho : out = bs ++ enc d) (hm : out.length = m) :
    Calls Try.prog 42 #[.pointer (some ⟨g, 0, none⟩), .int .i64 i] w fun e w' => e = .returned (.tuple #[]) ∧ ∃ A' c', SecAt w' B g (n + 1) (i + 1) (.slice A' m c') out ∧
      Frm (fun k => k = g ∨ Value.ownBlock (.slice A t c) = some k) w w' ∧ RowAt w.heap.size (.slice A t c) (.slice A' m c') := by
  obtain ⟨hk, hown⟩ := hs
  have c0 : w.cell? ⟨g, 0, none⟩ = some (.int .u64 (n : Int)) := hk.cell 0
  have c1 : w.cell? ⟨g, 1, none⟩ = some (.int .i64 last) := hk.cell 1
  have c2 : w.cell? ⟨g, 2, none⟩ = some (.slice A t c) := hk.cell 2
  have HD : Hid ((d : Int) = i - last) := by show _ = _; omega
  have hd32 : d ≤ 2147483647 := by omega
  have hdb : d < 18446744073709551616 := by omega
  have HO := Lib.hid ho
  have HM := Lib.hid hm
  have HK := Lib.hid hk
  have HOW := Lib.hid hown
  clear ho hm hd hown
  have hw1 : IntKind.i64.wrap (i - last) = (d : Int) := by rw [← HD.out]; exact IntWalk.i64_in _ (by omega)
  have hw2 : IntKind.u64.wrap (d : Int) = (d : Int) := by rw [IntKind.wrap_u64]; omega
  have hS0 : w.drew.cell? ⟨g, 2, none⟩ = some (.slice A t c) ∧ w.drew.cell? ⟨g, 1, none⟩ = some (.int .i64 last) := ⟨c2, c1⟩
  have HF : Hid (∀ w1, w.drew.grownBy w1 (Value.ownBlock (.slice A t c)) → Blk w1 g 82 #[.int .u64 (n : Int), .int .i64 last, .slice A t c]) := fun w1 hg => by
    have hd : Blk w.drew g 82 #[.int .u64 (n : Int), .int .i64 last, .slice A t c] := HK.out
    exact (hg.block g hd.lt (fun e => HK.out.apartU (by decide) HOW.out e.symm)).trans hd
  have hown' : Hid (OwnU 5 w.drew B (.slice A t c) bs) := HOW.out
  have hBd : B ≤ w.drew.heap.size := hB
  have ht' : t < 100000 := by omega
  go_enter Try.func42, Try.ntmps42
  go_wp2
  go_region_with (first | (go_at_call 43; (with_reducible refine (appn_g _ _ B t A c d _ hdb rfl hown'.out ht' hBd out m HO.out HM.out).mono ?_); rintro e w1 ⟨A1, c3, rfl, ho1, hg1, hr1⟩; have hb1 := HF.out w1 hg1; have hS1 : w1.cell? ⟨g, 2, none⟩ = some (.slice A t c) ∧ w1.cell? ⟨g, 1, none⟩ = some (.int .i64 last) := ⟨hb1.cell 2, hb1.cell 1⟩; have hfz := hb1.frozen 2; have HB1 := Lib.hid hb1; have HO1 := Lib.hid ho1; have HG1 := Lib.hid hg1; have HR1 := Lib.hid hr1; clear hb1 ho1 hg1 hr1))
  all_goals
    clear hw1 hw2 hfz hS1
    obtain ⟨w2, hw2⟩ : ∃ w2, w2 = w1.setCell ⟨g, 2, none⟩ (.slice A1 m c3) := ⟨_, rfl⟩
    have hb2 : Blk w2 g 82 #[.int .u64 (n : Int), .int .i64 last, .slice A1 m c3] := by rw [hw2]; simpa using HB1.out.set_ 2 (.slice A1 m c3)
    have d0 : w2.cell? ⟨g, 0, none⟩ = some (.int .u64 (n : Int)) := hb2.cell 0
    have d1 : w2.cell? ⟨g, 1, none⟩ = some (.int .i64 last) := hb2.cell 1
    have dz := hb2.frozen
    rw [← hw2]
    have HB2 := Lib.hid hb2
    have HW2 := Lib.hid hw2
    clear hb2 hw2
    go_wp2
    go_end0
    have hrow := HB1.out.apartU (by decide) HO1.out
    have hrow0 := HK.out.apartU (by decide) HOW.out
    have ho3 : ∀ (u v : Value), OwnU 5 ((w2.setCell ⟨g, 0, none⟩ u).setCell ⟨g, 1, none⟩ v) B (.slice A1 m c3) out := fun u v => by
      refine OwnU.far_ (OwnU.far_ ?_ hrow _) hrow _
      rw [HW2.out]; exact OwnU.far_ HO1.out hrow _
    refine ⟨rfl, A1, c3, ⟨?_, ho3 _ _⟩, ?_, HR1.out⟩
    · have := (HB2.out.set_ 0 (.int .u64 (((n + 1 : Nat)) : Int))).set_ 1 (.int .i64 (i + 1))
      simpa using this
    · have f1 : Frm (fun k => k = g ∨ Value.ownBlock (.slice A t c) = some k) w w1 := ((Frm.refl _ w).drewN 1).trans (Frm.of_grown HG1.out) (fun k hk => .inl (.inr hk))
      have f2 : Frm (fun k => k = g ∨ Value.ownBlock (.slice A t c) = some k) w w2 := by rw [HW2.out]; exact f1.trans (Frm.setCell _ _ _) (fun k hk => .inl (.inl hk))
      exact (f2.trans (Frm.setCell _ _ _) (fun k hk => .inl (.inl hk))).trans (Frm.setCell _ _ _) (fun k hk => .inl (.inl hk))
end Go.Proofs.Ytcniepogobgaoaa
