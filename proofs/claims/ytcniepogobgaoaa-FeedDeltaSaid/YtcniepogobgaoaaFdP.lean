/-
  Package snapshot's contracts in the words of slices that came in (a part of SnL1's text, for another seat).
-/
import Derived.Test.YtcniepogobgaoaaSnR3
import Derived.Test.YtcniepogobgaoaaSnLaw2
namespace Go.Proofs.Ytcniepogobgaoaa
set_option linter.unusedVariables false
set_option linter.unusedSimpArgs false
set_option maxRecDepth 4000
open Go.RowKit

theorem OwnP.slP {w : World} {B n c : Nat} {A : Option Addr} {es : Vw} (h : OwnP w B (.slice A n c) es) : SlP w w.heap.size A n c es := by
  have hr := h.rd
  have hn := h.nilcap
  rcases h.2 with ⟨h0, h1⟩ | ⟨g, cap, cur, hv, hb, hh, hnn, hc, hs, ht⟩
  · injection h0 with h2 h3 h4
    subst h3 h4
    exact ⟨h1, by omega, by simp [maxLen], fun _ => rfl, hr⟩
  · injection hv with h2 h3 h4
    subst h4
    exact ⟨h3.symm, by omega, hc, hn, hr⟩
theorem OwnU.slU {w : World} {B n c : Nat} {A : Option Addr} {zs : List Int} (h : OwnU 5 w B (.slice A n c) zs) : SlU w w.heap.size A n c zs :=
  ⟨h.len, h.cap.1, h.cap.2, h.nilcap, h.rd⟩
theorem SlP.below {w w' : World} {B B' n c : Nat} {A : Option Addr} {es : Vw} (h : SlP w B A n c es) (hb : Below B w w') (hz : B ≤ B') : SlP w' B' A n c es :=
  ⟨h.len, h.cap, h.capmax, h.nil, (h.rd.below hb (Nat.le_refl _)).more hz⟩
theorem SlU.below {w w' : World} {B B' n c : Nat} {A : Option Addr} {zs : List Int} (h : SlU w B A n c zs) (hb : Below B w w') (hz : B ≤ B') : SlU w' B' A n c zs :=
  ⟨h.len, h.cap, h.capmax, h.nil, (h.rd.below hb (Nat.le_refl _)).more hz⟩
theorem SlP.none (w : World) (B : Nat) : SlP w B none 0 0 [] := ⟨rfl, Nat.le_refl _, by simp [maxLen], fun _ => rfl, fun h => absurd h (by simp)⟩
/-- A slice of bytes written out. -/
theorem lit_slU (w : World) (zs : List Int) (hl : zs.length ≤ maxLen) : SlU (w.alloc (.cells (zs.map (Value.int .u8)).toArray 5)) (w.heap.size + 1) (some ⟨w.heap.size, 0, none⟩) zs.length zs.length zs :=
  ⟨rfl, Nat.le_refl _, hl, (fun h => by cases h), fun _ => ⟨w.heap.size, 0, rfl, by omega, fun k hk => by
    rw [Nat.zero_add, World.cell?_alloc_at _ _ _ _ rfl]
    simp [List.getElem?_eq_getElem hk, ix_get hk]⟩⟩
theorem one_slP (w : World) (a b : Int) : SlP (w.alloc (.cells #[.int .i64 a, .int .i64 b] 48)) (w.heap.size + 1) (some ⟨w.heap.size, 0, none⟩) 1 1 [(a, b)] :=
  ⟨rfl, Nat.le_refl _, by simp [maxLen], (fun h => by cases h), pairs1_rd w a b⟩

theorem isV1 {i v : Int} (h : 0 ≤ i ∧ i ≤ 2147483647) (hv : -9223372036854775808 ≤ v ∧ v ≤ 9223372036854775807) : IsV [(i, v)] :=
  ⟨List.pairwise_singleton _ _, fun p hp => by rw [List.mem_singleton] at hp; subst hp; exact ⟨h.1, h.2, hv⟩⟩
theorem enc0 : enc 0 = [0] := by rw [enc_small (by omega)]; rfl
theorem enc1 : enc 1 = [1] := by rw [enc_small (by omega)]; rfl
theorem enc3 : enc 3 = [3] := by rw [enc_small (by omega)]; rfl
theorem enc10 : enc 10 = [10] := by rw [enc_small (by omega)]; rfl
theorem dif_ex1 : difD [] [(3, 5)] = [0, 1, 3, 10] := by
  have h1 : goneD [] [(3, 5)] = [] := rfl
  have h2 : setD [] [(3, 5)] = [(3, 5)] := by simp [setD, findD]
  have h3 : w64 5 = 5 := w64_id (by omega)
  unfold difD
  rw [h1, h2]
  simp [gapsB, setB, findD, h3, zig, enc0, enc1, enc3, enc10]
theorem dif_ex2 : difD [(3, 5)] [(3, 4)] = [0, 1, 3, 1] := by
  have h1 : goneD [(3, 5)] [(3, 4)] = [] := by simp [goneD, findD]
  have h2 : setD [(3, 5)] [(3, 4)] = [(3, 4)] := by simp [setD, findD]
  have h3 : w64 (-1) = -1 := w64_id (by omega)
  unfold difD
  rw [h1, h2]
  simp [gapsB, setB, findD, h3, zig, enc0, enc1, enc3]
theorem dif_isB (a b : Vw) : IsB (difD a b) := by
  have h1 : ∀ (l : List Int) (last : Int), IsB (gapsB last l) := fun l => by
    induction l with
    | nil => intro last c hc; cases hc
    | cons x t ih =>
      intro last c hc
      rw [gapsB] at hc
      rcases List.mem_append.1 hc with h | h
      · exact enc_isB _ c h
      · exact ih x c h
  have h2 : ∀ (l : Vw) (last : Int), IsB (setB a last l) := fun l => by
    induction l with
    | nil => intro last c hc; cases hc
    | cons x t ih =>
      intro last c hc
      rw [setB] at hc
      rcases List.mem_append.1 hc with h | h
      · rcases List.mem_append.1 h with h | h
        · exact enc_isB _ c h
        · exact enc_isB _ c h
      · exact ih x.1 c h
  intro c hc
  unfold difD at hc
  rcases List.mem_append.1 hc with h | h
  · rcases List.mem_append.1 h with h | h
    · rcases List.mem_append.1 h with h | h
      · exact enc_isB _ c h
      · exact h1 _ _ c h
    · exact enc_isB _ c h
  · exact h2 _ _ c h
theorem dif_len {a b : Vw} (ha : IsV a) (hb : IsV b) (hal : a.length < 1000000) (hbl : b.length < 1000000) : (difD a b).length ≤ 20 + 10 * a.length + 20 * b.length := by
  have e : difD a b = _ := mrg_dif ha.up hb.up
  have h1 : (goneD a b).length ≤ a.length := goneD_len a b
  have h2 : (setD a b).length ≤ b.length := setD_len a b
  have h3 := gapsB_len (l := goneD a b) (fun x hx => (goneD_up ha b).2 x hx)
  have h4 : ∀ (l : Vw) (last : Int), -1 ≤ last → (∀ p ∈ l, 0 ≤ p.1 ∧ p.1 ≤ 2147483647) → (setB a last l).length ≤ 20 * l.length := fun l => by
    induction l with
    | nil => intro last _ _; simp [setB]
    | cons x t ih =>
      intro last hl h
      have hx := h x (List.mem_cons_self ..)
      have hd := w64_bd (x.2 - (findD a x.1).getD 0)
      have e1 := enc_len10' (n := (x.1 - last - 1).toNat) (by omega)
      have e2 := enc_len10' (zig_lt hd.1 hd.2)
      have := ih x.1 (by omega) (fun p hp => h p (List.mem_cons_of_mem _ hp))
      rw [setB, List.length_append, List.length_append, List.length_cons]; omega
  have h5 := h4 (setD a b) (-1) (by omega) (fun p hp => by have := hb.bd p (setD_mem.1 hp).1; exact ⟨this.1, this.2.1⟩)
  unfold difD
  rw [List.length_append, List.length_append, List.length_append]
  have e1 := enc_len10' (n := (goneD a b).length) (by omega)
  have e2 := enc_len10' (n := (setD a b).length) (by omega)
  omega

/-- Apply at a difference: the new view. -/
theorem apply_dif (A1 : Option Addr) (n1 c1 : Nat) (a : Vw) (A2 : Option Addr) (n2 c2 : Nat) (b : Vw) (w : World) (hs1 : SlP w w.heap.size A1 n1 c1 a) (hs2 : SlU w w.heap.size A2 n2 c2 (difD a b)) (ha : IsV a) (hb : IsV b) (hal : a.length ≤ 100) (hbl : b.length ≤ 100) (m : Nat) (hm : b.length = m) :
    Calls Try.prog 30 #[.slice A1 n1 c1, .slice A2 n2 c2] w fun e w' => ∃ A c, e = .returned (.tuple #[.slice A m c, .int .i64 0]) ∧ SlP w' w'.heap.size A m c b ∧ Below w.heap.size w w' := by
  have hl1 := hs1.len
  have hl2 := hs2.len
  have hdl := dif_len ha hb (by omega) (by omega)
  refine (apply_any A1 n1 c1 a A2 n2 c2 (difD a b) w hs1 hs2 (by omega) (by omega) ha (dif_isB a b)).mono ?_
  rintro e w' ⟨hb1, h | ⟨h0, A, m', c, x, rfl, hx, hown⟩⟩
  · exact absurd (dif_ok ha hb (by omega) (by omega)).1 h.1
  · have := (dif_ok ha hb (by omega) (by omega)).2 x hx
    subst this
    have hlen := hown.slP.len
    have : m' = m := by omega
    subst this
    exact ⟨A, c, rfl, hown.slP, hb1⟩
theorem diff_sl (A1 : Option Addr) (n1 c1 : Nat) (a : Vw) (A2 : Option Addr) (n2 c2 : Nat) (b : Vw) (w : World) (hs1 : SlP w w.heap.size A1 n1 c1 a) (hs2 : SlP w w.heap.size A2 n2 c2 b) (ha : IsV a) (hb : IsV b) (hal : a.length ≤ 100) (hbl : b.length ≤ 100) (d : List Int) (m : Nat) (hd : difD a b = d) (hm : d.length = m) :
    Calls Try.prog 22 #[.slice A1 n1 c1, .slice A2 n2 c2] w fun e w' => ∃ A c, e = .returned (.slice A m c) ∧ SlU w' w'.heap.size A m c d ∧ Below w.heap.size w w' := by
  have hl1 := hs1.len
  have hl2 := hs2.len
  refine (diff_any A1 n1 c1 a A2 n2 c2 b w hs1 hs2 (by omega) (by omega) ha hb d m hd.symm hm).mono ?_
  rintro e w' ⟨A, c, rfl, ho, hb1⟩
  exact ⟨A, c, rfl, ho.slU, hb1⟩
theorem equal_sl (A1 : Option Addr) (n1 c1 : Nat) (a : Vw) (A2 : Option Addr) (n2 c2 : Nat) (b : Vw) (w : World) (hs1 : SlP w w.heap.size A1 n1 c1 a) (hs2 : SlP w w.heap.size A2 n2 c2 b) (hal : a.length ≤ 100) (hbl : b.length ≤ 100) (res : Bool) (hres : decide (a = b) = res) :
    Calls Try.prog 23 #[.slice A1 n1 c1, .slice A2 n2 c2] w fun e w' => e = .returned (.bool res) ∧ Below w.heap.size w w' :=
  eqv_any A1 n1 c1 a A2 n2 c2 b res _ _ w hs1.len hs2.len hs1.rd hs2.rd (by have := hs1.len; omega) (by have := hs2.len; omega) hres (Nat.le_refl _) (Nat.le_refl _)
end Go.Proofs.Ytcniepogobgaoaa
