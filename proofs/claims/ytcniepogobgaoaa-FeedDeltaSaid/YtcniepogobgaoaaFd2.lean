/-
  Package feed: what its store is made of: slices.Clone, slices.Min, maps.Keys, slices.Collect; store.has.
-/
import Derived.Test.YtcniepogobgaoaaFd1
import Derived.Test.YtcniepogobgaoaaFdP
import Derived.Test.YtcniepogobgaoaaShelfB
import Derived.Deep.RegionLaw
namespace Go.Proofs.Ytcniepogobgaoaa
set_option linter.unusedVariables false
set_option linter.unusedSimpArgs false
set_option maxRecDepth 4000
open Go.RowKit Go.Maps Go.Sort Go.Shelf

def ClonePost (w : World) (n : Nat) (es : Vw) (e : Ending) (w' : World) : Prop := ∃ A' c', e = .returned (.slice A' n c') ∧ OwnP w' w.heap.size (.slice A' n c') es ∧ Below w.heap.size w w'
theorem ownP_empty (w : World) : OwnP (w.alloc (.cells #[] 48)) w.heap.size (.slice (some ⟨w.heap.size, 0, none⟩) 0 0) [] :=
  ⟨rfl, .inr ⟨w.heap.size, 0, #[], rfl, Nat.le_refl _, heap_alloc_new w _, Nat.le_refl _, by simp [maxLen], rfl, rfl⟩⟩
theorem nil_eq (W : World) : Sem.run Try.prog (binOp .eql 30 (.slice none 0 0) (.slice none 0 0)) W = .ok (.bool true) W ∧ ∀ ad n c, Sem.run Try.prog (binOp .eql 30 (.slice (some ad) n c) (.slice none 0 0)) W = .ok (.bool false) W :=
  ⟨rfl, fun _ _ _ => rfl⟩
set_option maxHeartbeats 2000000 in
theorem clone_any (A : Option Addr) (n c : Nat) (es : Vw) (w : World) (h : SlP w w.heap.size A n c es) (hn : n < 100000) :
    Calls Try.prog 33 #[.slice A n c] w (ClonePost w n es) := by
  have hl := h.len
  have hc0 := h.nil
  have hcap := h.cap
  have HR := Lib.hid h.rd
  have HL := Lib.hid hl
  have HN := Lib.hid hc0
  clear h hl hc0
  rcases A with _ | ad
  · have h0 : c = 0 := HN.out rfl
    subst h0
    have hn0 : n = 0 := by omega
    subst hn0
    have hes : es = [] := List.eq_nil_of_length_eq_zero HL.out
    have HES := Lib.hid hes
    clear hes
    go_enter Try.func33, Try.ntmps33
    have hnil := fun W => (nil_eq W).1
    go_wp2
    go_ret
    exact ⟨none, 0, rfl, by rw [HES.out]; exact OwnP.nil _ _, Below.refl _ _⟩
  · have hnil := fun W => (nil_eq W).2 ad n c
    have hl2 : Hid (([] : Vw).length + n = n) := by show _ = _; simp
    go_enter Try.func33, Try.ntmps33
    go_wp2_with (at_builtin; refine wpl_append_pairs rfl (.tmp 5) (.tmp 6) rfl w.heap.size _ [] es rfl (ownP_empty w) (some ad) n c w.heap.size n hl2.out rfl HL.out (HR.out.below ((Below.refl _ _).alloc (Nat.le_refl _) _) (Nat.le_refl _)) HN.out (by simp; omega) (by simp) ?_; intro A3 c3 w1 ho1 hb1)
    go_ret
    refine ⟨A3, c3, rfl, ?_, ((Below.refl _ _).alloc (Nat.le_refl _) _).trans hb1⟩
    have := ho1.out
    rwa [List.nil_append] at this

def MinPost (ss : List Int) (w : World) (e : Ending) (w' : World) : Prop := ∃ z, e = .returned (.int .i64 z) ∧ z ∈ ss ∧ (∀ y ∈ ss, z ≤ y) ∧ w = w'
set_option maxHeartbeats 2000000 in
theorem min_any (A : Option Addr) (n c : Nat) (ss : List Int) (B : Nat) (w : World) (hl : ss.length = n) (hn : 0 < n) (hn2 : n < 1000000) (hr : Rd w B A ss) :
    Calls Try.prog 47 #[.slice A n c] w (MinPost ss w) := by
  obtain ⟨b, off, rfl, _, hc⟩ := hr (by omega)
  have HC := Lib.hid hc
  have HL := Lib.hid hl
  have q0 : w.cell? ⟨b, off, none⟩ = some (.int .i64 (ix ss 0)) := hc 0 (by omega)
  have hni : ¬ ((n : Int) < 1) := by omega
  clear hc hl hr
  go_enter Try.func47, Try.ntmps47
  go_wp2
  go_loopw [3, 4] (fun zv iv W => ∃ (i : Nat) (z : Int), 1 ≤ i ∧ i ≤ n ∧ iv = .int .i64 (i : Int) ∧ zv = .int .i64 z ∧ Hid (z ∈ ss.take i ∧ ∀ y ∈ ss.take i, z ≤ y) ∧ w = W) (fun _ iv _ => n - (intOf iv).toNat)
  case atStart =>
    refine ⟨1, ix ss 0, by omega, by omega, rfl, rfl, ?_, rfl⟩
    obtain ⟨x, t, rfl⟩ : ∃ x t, ss = x :: t := by
      rcases ss with _ | ⟨x, t⟩
      · have := HL.out; simp at this; omega
      · exact ⟨x, t, rfl⟩
    exact Lib.hid ⟨by simp [ix_of_cons], by simp [ix_of_cons]⟩
  case round =>
    obtain ⟨i, z, h1, h2, rfl, rfl, HZ, rfl⟩ := hrel
    by_cases hin : i < n
    · have hii : (i : Int) < (n : Int) := by omega
      have q1 : w.cell? ⟨b, off + i, none⟩ = some (.int .i64 (ix ss i)) := HC.out i (by rw [HL.out]; exact hin)
      obtain ⟨x, hx⟩ : ∃ x, x = ix ss i := ⟨_, rfl⟩
      rw [← hx] at q1
      have HX := Lib.hid hx
      clear hx
      go_wp2
      go_roundw
      case rel =>
        refine ⟨i + 1, min z x, by omega, by omega, by go_num, rfl, ?_, trivial⟩
        have e : ss.take (i + 1) = ss.take i ++ [x] := by rw [HX.out]; exact take_snoc_ix (by rw [HL.out]; exact hin)
        rw [e]
        obtain ⟨k1, k2⟩ := HZ.out
        refine Lib.hid ⟨?_, fun y hy => ?_⟩
        · rcases Int.le_total z x with h | h
          · rw [Int.min_eq_left h]; exact List.mem_append_left _ k1
          · rw [Int.min_eq_right h]; simp
        · rcases List.mem_append.1 hy with h | h
          · have := k2 y h; omega
          · rw [List.mem_singleton] at h; omega
      case measure => simp [intOf]; omega
    · have hii : ¬ ((i : Int) < (n : Int)) := by omega
      obtain rfl : i = n := by omega
      go_wp2
      go_ret
      have k := HZ.out
      rw [List.take_of_length_le (by rw [HL.out]; exact Nat.le_refl _)] at k
      exact ⟨z, rfl, k.1, k.2, rfl⟩

theorem keysv_any (mb : Option Nat) (W : World) : Calls Try.prog 49 #[.map mb] W fun e w' => e = .returned (.func (.func 64) #[] #[.pointer (some ⟨W.heap.size, 0, none⟩)]) ∧ w' = W.alloc (.cells #[.map mb] 53) :=
  (callsIn_wide (n := 5)).1 (AnyZI.keys_in Try.keysV Fence.wide 5 trivial rfl mb W)
/-- slices.Collect(maps.Keys(m)). -/
def CollPost {H : Type} (D0 : DataW H) (w : World) (e : Ending) (w' : World) : Prop := ∃ (A : Option Addr) (n c : Nat) (ss : List Int), e = .returned (.slice A n c) ∧ ss.Perm (intKeys D0) ∧ ss.length = n ∧ Rd w' w'.heap.size A ss ∧ Below (w.heap.size + 1) (w.alloc (.cells #[.map (some w.heap.size)] 53)) (w.alloc (.cells #[.map (some w.heap.size)] 53)) ∧ Below w.heap.size w w'
theorem coll_keys {H : Type} (b nn : Nat) (D0 : DataW H) (R : Value → Option (DataW H × List MemPlace)) (w : World) (hown : w.ownsMap Try.prog 3 R b nn D0) (hmax : Maps.size D0 ≤ 1000000) :
    Calls Try.prog 48 #[.func (.func 64) #[] #[.pointer (some ⟨w.heap.size, 0, none⟩)]] (w.alloc (.cells #[.map (some b)] 53)) fun e w' => ∃ (A : Option Addr) (n c : Nat) (ss : List Int), e = .returned (.slice A n c) ∧ ss.Perm (intKeys D0) ∧
      ss.length = n ∧ Rd w' w'.heap.size A ss ∧ Below w.heap.size w w' := by
  have hbl := hown.lt
  have hseq : SeqGives Fence.wide 3 Try.prog 64 #[.pointer (some ⟨w.heap.size, 0, none⟩)] encZ (fun ss => ss.Perm (intKeys D0)) (Maps.size D0) (w.alloc (.cells #[.map (some b)] 53)) :=
    AnyZI.keys_gives (ρ := Try.keysV_ren) { Try.keysV with } Fence.wide _ trivial rfl (by omega) w.heap.size b nn D0 _ (by simp) (by simp) (by
      obtain ⟨es, clock, hb, Ft, hs, hD⟩ := hown
      exact ⟨es, clock, (Below.heap_alloc _ _ b hbl).trans hb, Ft, hs, hD⟩)
  have cS := AnyZI.collect_in Try.collV Fence.wide 5 trivial trivial rfl (by omega) 64 #[.pointer (some ⟨w.heap.size, 0, none⟩)] trivial (enters_of Try.func64 (by kernel_rfl) rfl) _ _ (by simp [maxLen]; omega) (by omega) _ hseq
  change CallsIn _ _ Try.prog 48 _ _ _ at cS
  refine ((callsIn_wide (n := 5)).1 cS).mono ?_
  rintro e w' ⟨v, ss, rfl, hS, hrow, _, hb⟩
  have ho : Own 3 w' (w.heap.size + 1) v ss := by
    unfold Own
    have h1 := hrow
    rw [World.size_alloc] at h1
    exact h1
  obtain ⟨A, c, rfl, _, _, hr⟩ := ho.form
  exact ⟨A, ss.length, c, ss, rfl, hS, rfl, hr, ((Below.refl _ _).alloc (Nat.le_refl _) _).trans (hb.mono (by simp))⟩

section
variable {P : Program}
theorem rv_inv {v : Value} {d : DataW Value} {ps : List MemPlace} (h : RV v = some (d, ps)) : d = .held v := by
  unfold RV at h; injection h with h; injection h with h _; exact h.symm
/-- 'v, ok := m[k]'. -/
theorem wpl_lookup_ok_v (w : World) {ops : Array Oper} {rest : List Oper} {o : Oper} {a : Act} {Q : Exit → Act → World → Prop}
    (hg : o.guard = none) (m x : Operand) (t : TypeId) (hop : o.op = Op.lookup t m x true)
    (k e : TypeId) (hk : P.underlying k = some (.int .i64)) (ht : P.underlying t = some (.map k e)) (z : Value) (hz : (zeroValue e).run P w = .ok z w) (b n : Nat) (D : DataW Value) (f : Int → Option Value) (hf : MV D f)
    (hm : a.eval m = .map (some b)) (hown : w.ownsMap P k RV b n D) (i : Int) (hi : (Lit.int .i64 i).wf = true) (hx : a.eval x = .int .i64 i) (u : Value) (hu : (f i).getD z = u) (is : Bool) (his : (f i).isSome = is)
    (hK : wpList P ops Q rest (a.put o.dst (.tuple #[u, .bool is])) w) : wpList P ops Q (o :: rest) a w := by
  refine wpList_lookup_own_ok w hg m x t hop k e (int_keyed hk) ht RV hz (.held z) [] rfl b n D hm hown (.int .i64 i) (.int .i64 i) hx (keyOf_int_mk hk hi) ?_
  intro v ps hv
  have e1 := rv_inv hv
  rw [hf.at_ i z, hu] at e1
  injection e1 with e1
  subst e1
  rw [hf.has i, his]
  exact hK
/-- 'm[k]'. -/
theorem wpl_lookup_v (w : World) {ops : Array Oper} {rest : List Oper} {o : Oper} {a : Act} {Q : Exit → Act → World → Prop}
    (hg : o.guard = none) (m x : Operand) (t : TypeId) (hop : o.op = Op.lookup t m x false)
    (k e : TypeId) (hk : P.underlying k = some (.int .i64)) (ht : P.underlying t = some (.map k e)) (z : Value) (hz : (zeroValue e).run P w = .ok z w) (b n : Nat) (D : DataW Value) (f : Int → Option Value) (hf : MV D f)
    (hm : a.eval m = .map (some b)) (hown : w.ownsMap P k RV b n D) (i : Int) (hi : (Lit.int .i64 i).wf = true) (hx : a.eval x = .int .i64 i) (u : Value) (hu : (f i).getD z = u)
    (hK : wpList P ops Q rest (a.put o.dst u) w) : wpList P ops Q (o :: rest) a w := by
  refine wpList_plain hg fun K' hK' => ?_
  obtain ⟨v, ps, hrun, hv⟩ := hown.lookup (int_keyed hk) ht hz (zd := .held z) (zp := []) rfl (keyOf_int_mk hk hi)
  have e1 := rv_inv hv
  rw [hf.at_ i z, hu] at e1
  injection e1 with e1
  subst e1
  unfold Oper.wp
  simp [execOp, hop, hm, hx, hrun, Result.andThen]
  exact hK' _ _ hK
end
theorem zeroP (w : World) : (zeroValue 30).run Try.prog w = .ok (.slice none 0 0) w := Try.zeroValue30 w
set_option maxHeartbeats 1000000 in
theorem has_any (g b n : Nat) (D : DataW Value) (f : Int → Option Value) (i : Int) (is : Bool) (w : World) (hc : w.cell? ⟨g, 1, none⟩ = some (.map (some b))) (hown : w.ownsMap Try.prog 3 RV b n D) (hf : MV D f) (hi : (Lit.int .i64 i).wf = true) (his : (f i).isSome = is) :
    Calls Try.prog 24 #[.pointer (some ⟨g, 0, none⟩), .int .i64 i] w fun e w' => e = .returned (.bool is) ∧ w = w' := by
  have HF := Lib.hid hf
  have HI := Lib.hid his
  obtain ⟨u, hu⟩ : ∃ u, (f i).getD (.slice none 0 0) = u := ⟨_, rfl⟩
  have HU := Lib.hid hu
  clear hf his hu
  go_enter Try.func24, Try.ntmps24
  go_wp2_with (first | (at_lookup; refine wpl_lookup_ok_v _ rfl _ _ 53 rfl 3 30 Try.underlying3 Try.underlying53 _ (zeroP _) b n D f HF.out rfl hown i hi rfl u HU.out is HI.out ?_))
  go_ret
  exact ⟨rfl, rfl⟩
end Go.Proofs.Ytcniepogobgaoaa
