/-
  Package unionfind: edges, Islands and the law's helper merged, called.
-/
import Derived.Test.YtglfmchddbaceaaUfW2
namespace Go.Proofs.Ytglfmchddbaceaa
set_option linter.unusedVariables false
set_option linter.unusedSimpArgs false
open Go.RowKit

def ea (es : List (Int × Int)) (i : Nat) : Int := (es.getD i (0, 0)).1
def eb (es : List (Int × Int)) (i : Nat) : Int := (es.getD i (0, 0)).2
theorem take_snoc_pair {es : List (Int × Int)} {k : Nat} (h : k < es.length) : es.take (k + 1) = es.take k ++ [(ea es k, eb es k)] := by
  rw [List.take_succ_eq_append_getElem h]
  congr 1
  simp [ea, eb, List.getD, List.getElem?_eq_getElem h]
theorem pair_mem {es : List (Int × Int)} {k : Nat} (h : k < es.length) : (ea es k, eb es k) ∈ es := by
  have : (ea es k, eb es k) = es[k] := by simp [ea, eb, List.getD, List.getElem?_eq_getElem h]
  rw [this]; exact List.getElem_mem h

/-- The slice reads as the pairs es. -/
def RdP (w : World) (B : Nat) (A : Option Addr) (es : List (Int × Int)) : Prop :=
  0 < es.length → ∃ b off, A = some ⟨b, off, none⟩ ∧ b < B ∧ ∀ i, i < es.length → w.cell? ⟨b, off + i * 2, none⟩ = some (.int .i64 (ea es i)) ∧ w.cell? ⟨b, off + i * 2 + 1, none⟩ = some (.int .i64 (eb es i))
theorem RdP.keep {w w' : World} {B : Nat} {A : Option Addr} {es : List (Int × Int)} (h : RdP w B A es) (hk : ∀ p : Addr, p.block < B → w'.cell? p = w.cell? p) : RdP w' B A es := fun hn => by
  obtain ⟨b, off, e, hb, hc⟩ := h hn
  exact ⟨b, off, e, hb, fun i hi => ⟨(hk _ hb).trans (hc i hi).1, (hk _ hb).trans (hc i hi).2⟩⟩
theorem RdP.more {w : World} {B B' : Nat} {A : Option Addr} {es : List (Int × Int)} (h : RdP w B A es) (hB : B ≤ B') : RdP w B' A es := fun hn => by
  obtain ⟨b, off, e, hb, hc⟩ := h hn
  exact ⟨b, off, e, by omega, hc⟩
theorem RdP.below {w w' : World} {B B' : Nat} {A : Option Addr} {es : List (Int × Int)} (h : RdP w B A es) (hb : Below B' w w') (hB : B ≤ B') : RdP w' B A es := h.keep fun _ hp => hb.cell (Nat.lt_of_lt_of_le hp hB)

def flat (es : List (Int × Int)) : List Value := es.flatMap fun p => [.int .i64 p.1, .int .i64 p.2]
theorem flat_len (es : List (Int × Int)) : (flat es).length = es.length * 2 := by
  induction es with
  | nil => rfl
  | cons p t ih => simp only [flat, List.flatMap_cons, List.length_append] at *; simp [ih]; omega
theorem flat_get (es : List (Int × Int)) (i : Nat) (h : i < es.length) : (flat es)[i * 2]? = some (.int .i64 (ea es i)) ∧ (flat es)[i * 2 + 1]? = some (.int .i64 (eb es i)) := by
  induction es generalizing i with
  | nil => simp at h
  | cons p t ih =>
    match i with
    | 0 => exact ⟨rfl, rfl⟩
    | i + 1 =>
      have := ih i (by simpa using h)
      have e : (i + 1) * 2 = i * 2 + 2 := by omega
      rw [e]
      exact this
def OwnP (w : World) (B : Nat) (v : Value) (es : List (Int × Int)) : Prop := w.ownsRow B 32 2 v es.length (flat es)
theorem OwnP.nil (w : World) (B : Nat) : OwnP w B (.slice none 0 0) [] := World.ownsRow_nil _ _ _ _
theorem OwnP.form {w : World} {B : Nat} {v : Value} {es : List (Int × Int)} (h : OwnP w B v es) : ∃ A c, v = .slice A es.length c ∧ (A = none → c = 0) ∧ RdP w w.heap.size A es := by
  rcases h.2 with ⟨rfl, h0⟩ | ⟨g, cap, cur, rfl, hb, hh, hn, hc, hs, ht⟩
  · exact ⟨none, 0, by rw [h0], fun _ => rfl, fun hn => absurd hn (by omega)⟩
  · refine ⟨_, cap, rfl, (fun e => by cases e), fun hp => ⟨g, 0, rfl, (Array.getElem?_eq_some_iff.1 hh).1, fun i hi => ?_⟩⟩
    have hg := flat_get es i hi
    rw [← ht, List.getElem?_take_of_lt (by omega), List.getElem?_take_of_lt (by omega)] at hg
    have key : ∀ j u, cur.toList[j]? = some u → w.cell? ⟨g, 0 + j, none⟩ = some u := by
      intro j u hj
      simp only [World.cell?, hh, Nat.zero_add]
      simp only [Option.isSome_none, Bool.false_eq_true, if_false]
      rw [← Array.getElem?_toList, hj]
    exact ⟨key _ _ hg.1, key _ _ hg.2⟩
theorem OwnP.alloc {w : World} {B : Nat} {v : Value} {es : List (Int × Int)} (h : OwnP w B v es) (o : Obj) : OwnP (w.alloc o) B v es := World.ownsRow.alloc h o
theorem OwnP.nilcap {w : World} {B n c : Nat} {A : Option Addr} {es : List (Int × Int)} (h : OwnP w B (.slice A n c) es) : A = none → c = 0 := by
  obtain ⟨A', c', hv, h1, _⟩ := h.form
  injection hv with e1 e2 e3
  subst e1 e3
  exact h1
theorem pair_cells (p : Int × Int) (w : World) : (w.alloc (.cells #[.int .i64 p.1, .int .i64 p.2] 32)).cell? ⟨w.heap.size, 0, none⟩ = some (.int .i64 p.1) ∧ (w.alloc (.cells #[.int .i64 p.1, .int .i64 p.2] 32)).cell? (Addr.add ⟨w.heap.size, 0, none⟩ 1) = some (.int .i64 p.2) := by
  constructor
  · rw [World.cell?_alloc_at _ _ _ _ rfl]; rfl
  · show (w.alloc (.cells #[.int .i64 p.1, .int .i64 p.2] 32)).cell? ⟨w.heap.size, 1, none⟩ = _
    rw [World.cell?_alloc_at _ _ _ _ rfl]; rfl
theorem OwnP.rd {w : World} {B n c : Nat} {A : Option Addr} {es : List (Int × Int)} (h : OwnP w B (.slice A n c) es) : RdP w w.heap.size A es := by
  obtain ⟨A', c', hv, _, hr⟩ := h.form
  injection hv with h1 h2 h3
  subst h1
  exact hr

theorem pair_info : (Try.prog.info? 32).map (fun i => (i.zero, i.size, i.bytes)) = some (some (.agg #[.int .i64 0, .int .i64 0]), 2, 16) := by kernel_rfl
/-- 'out = append(out, [2]int{x, y})'. -/
theorem wp_append_pair {w : World} {o : Oper} {a : Act} {K : Act → World → Prop} {Q : Exit → Act → World → Prop} (s x : Operand)
    (ho : o.op = .call { callee := .builtin .append, args := #[s, x], argTypes := #[24, 24] })
    (B : Nat) (v : Value) (es : List (Int × Int)) (hs : a.eval s = v) (hown : OwnP w B v es)
    (ad : Addr) (c : Nat) (p : Int × Int) (n' : Nat) (hn' : es.length + 1 = n') (hx : a.eval x = .slice (some ad) 1 c) (hc : w.cell? ad = some (.int .i64 p.1)) (hc2 : w.cell? (ad.add 1) = some (.int .i64 p.2))
    (hlen : es.length < 1000000000) (hB : B ≤ w.heap.size)
    (h : ∀ A' c' w', Hid (OwnP w' B (.slice A' n' c') (es ++ [p])) → Below B w w' → K (a.put o.dst (.slice A' n' c')) w') : o.wp Try.prog a w K Q := by
  obtain ⟨i0, hi0, hz0, hz1, hz2⟩ := info_parts pair_info
  refine wp_append_own w s x 24 ho B 32 i0 (.agg #[.int .i64 0, .int .i64 0]) 2 16 Try.underlying24 hi0 hz0 hz1 hz2 rfl (by decide) v es.length (flat es) hs hown ad 1 c [.int .i64 p.1, .int .i64 p.2] hx rfl ?_ ?_ ?_ ?_ hB ?_
  · intro j u hj
    match j, hj with
    | 0, hj => simp at hj; subst hj; simpa [Addr.add] using hc
    | 1, hj => simp at hj; subst hj; exact hc2
  · intro u hu; simp at hu; rcases hu with rfl | rfl <;> rfl
  · simp [maxLen]; omega
  · omega
  · intro v' w' h1 h2 _
    have h1' : OwnP w' B v' (es ++ [p]) := by
      unfold OwnP flat at *
      rw [List.length_append, List.flatMap_append]
      exact h1
    have hbase : ∀ j, v.ownBlock = some j → B ≤ j := by
      intro j hj
      rcases hown.2 with ⟨rfl, _⟩ | ⟨g, cap, cur, rfl, hb, _⟩
      · simp [Value.ownBlock] at hj
      · simp [Value.ownBlock] at hj; omega
    obtain ⟨A', c', rfl, _⟩ := h1'.form
    rw [List.length_append, List.length_singleton, hn'] at h1' ⊢
    exact h A' c' w' h1' ((Below.refl _ _).grown h2 hB hbase)
theorem wpl_append_pair {w : World} {ops : Array Oper} {rest : List Oper} {o : Oper} {a : Act} {Q : Exit → Act → World → Prop} (hgd : o.guard = none) (s x : Operand)
    (ho : o.op = .call { callee := .builtin .append, args := #[s, x], argTypes := #[24, 24] })
    (B : Nat) (v : Value) (es : List (Int × Int)) (hs : a.eval s = v) (hown : OwnP w B v es)
    (ad : Addr) (c : Nat) (p : Int × Int) (n' : Nat) (hn' : es.length + 1 = n') (hx : a.eval x = .slice (some ad) 1 c) (hc : w.cell? ad = some (.int .i64 p.1)) (hc2 : w.cell? (ad.add 1) = some (.int .i64 p.2))
    (hlen : es.length < 1000000000) (hB : B ≤ w.heap.size)
    (h : ∀ A' c' w', Hid (OwnP w' B (.slice A' n' c') (es ++ [p])) → Below B w w' → wpList Try.prog ops Q rest (a.put o.dst (.slice A' n' c')) w') : wpList Try.prog ops Q (o :: rest) a w :=
  wpList_plain hgd fun _ hK => wp_append_pair s x ho B v es hs hown ad c p n' hn' hx hc hc2 hlen hB fun A' c' w' h1 h2 => hK _ _ (h A' c' w' h1 h2)

/-- arenanetref08.Edges: one edge, and all. -/
def mkEdge (z : Int) : Int × Int := (around z 10000 % 15 - around z 10000 % 100 / 99, around z 10000 / 15 % 15)
def mkEdges (l : List Int) : List (Int × Int) := (l.take 30).map mkEdge
theorem mkEdges_len (l : List Int) : (mkEdges l).length ≤ 30 := by simp [mkEdges]; omega
theorem mkEdge_bd (z : Int) : -1 ≤ (mkEdge z).1 ∧ (mkEdge z).1 ≤ 14 ∧ 0 ≤ (mkEdge z).2 ∧ (mkEdge z).2 ≤ 14 := by
  have h1 := around_lo (n := z) (m := 10000) (by omega)
  have h2 := around_hi (n := z) (m := 10000) (by omega)
  unfold mkEdge
  simp only []
  omega
theorem mkEdges_bd (l : List Int) : ∀ e ∈ mkEdges l, -1 ≤ e.1 ∧ e.1 ≤ 14 ∧ 0 ≤ e.2 ∧ e.2 ≤ 14 := by
  intro e he
  simp only [mkEdges, List.mem_map] at he
  obtain ⟨z, _, rfl⟩ := he
  exact mkEdge_bd z

set_option maxHeartbeats 1000000 in
theorem edges_any (A : Option Addr) (n c : Nat) (xs : List Int) (w : World) (hl : xs.length = n) (hr : Rd w w.heap.size A xs) (hx : ∀ x ∈ xs, -9223372036854775808 ≤ x ∧ x ≤ 9223372036854775807) (hn : n ≤ maxLen) (m : Nat) (es : List (Int × Int)) (he : es = mkEdges xs) (hm : es.length = m) :
    Calls Try.prog 12 #[.slice A n c] w fun e w' => ∃ A' c', e = .returned (.slice A' m c') ∧ OwnP w' w.heap.size (.slice A' m c') es ∧ (A' = none → c' = 0) ∧ Below w.heap.size w w' := by
  subst hl
  have HX := Lib.hid hx
  have HE := Lib.hid he
  have HM := Lib.hid hm
  clear hx he hm
  unfold maxLen at hn
  go_enter Try.func12, Try.ntmps12
  go_wp2
  go_loopw [3, 4] (fun v i wr => ∃ k : Nat, k ≤ xs.length ∧ k ≤ 30 ∧ i = .int .i64 k ∧ (∃ A2 c2, v = .slice A2 k c2 ∧ OwnP wr w.heap.size (.slice A2 k c2) ((xs.take k).map mkEdge)) ∧ Below w.heap.size w wr) (fun _ i _ => 30 - (intOf i).toNat)
  case atStart => exact ⟨0, Nat.zero_le _, by omega, rfl, ⟨none, 0, rfl, OwnP.nil _ _⟩, Below.refl _ _⟩
  case round =>
    obtain ⟨k, hk, hk4, rfl, ⟨A2, c2, rfl, hown⟩, hb⟩ := hrel
    by_cases hlt : k < xs.length
    · by_cases h40 : k < 30
      · obtain ⟨b, off, rfl, hbb, hc⟩ := hr (by omega)
        have hck : wr.cell? ⟨b, off + k, none⟩ = some (.int .i64 (ix xs k)) := (hb.cell (p := ⟨b, off + k, none⟩) hbb).trans (hc k hlt)
        have hbd := HX.out _ (ix_mem hlt)
        have h1 := around_lo (n := ix xs k) (m := 10000) (by omega)
        have h2 := around_hi (n := ix xs k) (m := 10000) (by omega)
        have HS : Hid ((xs.take (k + 1)).map mkEdge = (xs.take k).map mkEdge ++ [mkEdge (ix xs k)]) := by show _ = _; rw [take_snoc_ix hlt, List.map_append]; rfl
        have hln : ((xs.take k).map mkEdge).length < 1000000000 := by simp; omega
        have hln2 : Hid (((xs.take k).map mkEdge).length + 1 = k + 1) := by show _ = _; simp; omega
        have hsz := hb.size
        obtain ⟨ar, har⟩ : ∃ ar, ar = around (ix xs k) 10000 := ⟨_, rfl⟩
        rw [← har] at h1 h2
        have HAR : Hid (mkEdge (ix xs k) = (ar % 15 - ar % 100 / 99, ar / 15 % 15)) := by show _ = _; rw [har]; rfl
        have hca : Calls Try.prog 17 #[.int .i64 (ix xs k), .int .i64 10000] wr fun e w' => e = .returned (.int .i64 ar) ∧ wr = w' := by rw [har]; exact around_any _ 10000 _ hbd.1 hbd.2 (by omega) (by omega)
        have HCA := Lib.hid hca
        clear hc har hca
        go_wp2_with (first | (go_at_call 17; refine HCA.out.mono ?_; rintro e w2 ⟨rfl, rfl⟩) | (at_builtin; refine wpl_append_pair rfl (.tmp 21) (.tmp 32) rfl w.heap.size _ _ rfl (hown.alloc _) ⟨wr.heap.size, 0, none⟩ 1 (ar % 15 - ar % 100 / 99, ar / 15 % 15) (k + 1) hln2.out rfl (pair_cells (ar % 15 - ar % 100 / 99, ar / 15 % 15) _).1 (pair_cells (ar % 15 - ar % 100 / 99, ar / 15 % 15) _).2 hln (by simp; omega) ?_; intro A3 c3 w1 hown' hb'))
        go_roundw
        case rel => exact ⟨k + 1, by omega, by omega, by go_num, ⟨A3, c3, rfl, by rw [HS.out, HAR.out]; exact hown'.out⟩, (hb.alloc hb.size _).trans hb'⟩
        case measure => simp [intOf]; omega
      · have hk' : (xs.take k).map mkEdge = es := by rw [HE.out]; unfold mkEdges; rw [show k = 30 from by omega]
        rw [hk'] at hown
        have hkm : k = m := by rw [← HM.out, ← hk']; simp; omega
        subst hkm
        clear hk'
        go_wp2
        go_ret
        exact ⟨A2, c2, rfl, hown, hown.nilcap, hb⟩
    · have hk' : (xs.take k).map mkEdge = es := by rw [HE.out]; unfold mkEdges; rw [List.take_of_length_le (by omega), List.take_of_length_le (by omega)]
      rw [hk'] at hown
      have hkm : k = m := by rw [← HM.out, ← hk']; simp; omega
      subst hkm
      clear hk'
      go_wp2
      go_ret
      exact ⟨A2, c2, rfl, hown, hown.nilcap, hb⟩

theorem runE_take {n : Nat} {es : List (Int × Int)} {k : Nat} (h : k < es.length) : runE n (es.take (k + 1)) = uniE n (runE n (es.take k)) (ea es k, eb es k) := by
  rw [take_snoc_pair h, runE_snoc]

set_option maxHeartbeats 1000000 in
theorem islands_any (n : Nat) (A : Option Addr) (m c : Nat) (es : List (Int × Int)) (w : World) (hl : es.length = m) (hr : RdP w w.heap.size A es) (hm : m ≤ 1000) (hn : n ≤ 1000) (j : Nat) (gs : List (List Int)) (hg : gs = groups (runE n es) n) (hj : gs.length = j) :
    Calls Try.prog 14 #[.int .i64 (n : Int), .slice A m c] w fun e w' => ∃ A' c', e = .returned (.slice A' j c') ∧ OwnM w' w.heap.size w.heap.size (.slice A' j c') gs ∧ Below w.heap.size w w' := by
  subst hl
  have HG := Lib.hid hg
  have HJ := Lib.hid hj
  clear hg hj
  go_enter Try.func14, Try.ntmps14
  go_wp2_with (go_at_call 22; refine (new_any n _ hn).mono ?_; rintro e w1 ⟨g, gp, rfl, hg1, hgp1, hs1, hb1⟩)
  go_loopw [7, 12] (fun _ i wr => ∃ k : Nat, k ≤ es.length ∧ i = .int .i64 k ∧ IsSets wr g gp n (runE n (es.take k)) ∧ Below w.heap.size w wr) (fun _ i _ => es.length - (intOf i).toNat)
  case atStart => exact ⟨0, Nat.zero_le _, rfl, hs1, hb1⟩
  case round =>
    obtain ⟨k, hk, rfl, hs, hb⟩ := hrel
    by_cases hlt : k < es.length
    · obtain ⟨b, off, rfl, hbb, hc⟩ := hr (by omega)
      have hca : wr.cell? ⟨b, off + k * 2, none⟩ = some (.int .i64 (ea es k)) := (hb.cell (p := ⟨b, _, none⟩) hbb).trans (hc k hlt).1
      have hcb : wr.cell? ⟨b, off + k * 2 + 1, none⟩ = some (.int .i64 (eb es k)) := (hb.cell (p := ⟨b, _, none⟩) hbb).trans (hc k hlt).2
      have HR := Lib.hid (runE_take (n := n) hlt)
      clear hc
      have hlts := hs.lt
      have hsz := hb.size
      have hs' := fun o => IsSets.below hs ((Below.refl wr.heap.size wr).alloc (Nat.le_refl _) o) hlts.1 hlts.2
      have HS := Lib.hid hs'
      clear hs hs'
      go_wp2_with fail
      refine (union_s g gp n (runE n (es.take k)) _ _ _ _ _ (HS.out _) HR.out rfl).mono ?_
      rintro e w2 ⟨rfl, hs2, ho2⟩
      have hb2 := OnlyP.below (hb.alloc hsz _) ho2 (by simp; omega) hgp1
      clear ho2
      go_wp2
      go_roundw
      case rel => exact ⟨k + 1, by omega, by go_num, hs2, hb2⟩
      case measure => simp [intOf]; omega
    · obtain rfl : k = es.length := by omega
      rw [List.take_length] at hs
      have HC := Lib.hid (groups_any g gp n (runE n es) wr hs)
      have hsz := hb.size
      clear hs
      go_wp2_with fail
      refine HC.out.mono ?_
      rintro e w2 ⟨A2, c2, rfl, ho, _, hog⟩
      rw [← HG.out, HJ.out] at ho
      have HO := Lib.hid ho
      have HB := Lib.hid (hb.trans (hog.below hsz hgp1))
      rw [← HG.out, HJ.out]
      clear ho hog
      go_wp2
      go_ret
      exact ⟨A2, c2, rfl, HO.out.lower hsz hsz, HB.out⟩

end Go.Proofs.Ytglfmchddbaceaa
