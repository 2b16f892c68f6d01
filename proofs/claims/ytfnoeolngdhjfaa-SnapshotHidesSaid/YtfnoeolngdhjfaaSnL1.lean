/-
  Package snapshot's laws: lives, SnapshotDiffs, SnapshotRound, walked.
-/
import Derived.Test.YtfnoeolngdhjfaaSnR3
import Derived.Test.YtfnoeolngdhjfaaSnLaw2
namespace Go.Proofs.Ytfnoeolngdhjfaa
set_option linter.unusedVariables false
set_option linter.unusedSimpArgs false
set_option maxRecDepth 4000
open Go.RowKit

theorem OwnP.slP {w : World} {B n c : Nat} {A : Option Addr} {es : Vw} (h : OwnP w B (.slice A n c) es) : SlP w w.heap.size A n c es := by
  have hr := h.rd
  have hn := h.nilcap
  rcases h.2 with ⟨h0, h1⟩ | ⟨g, cap, cur, hv, hb, hh, hnn, hc, hs, ht⟩
  · injection h0 with h2 h3 h4
    subst h3 h4
    exact ⟨h1, by omega, by simp [maxLen], fun _ => rfl, hr⟩
  · injection hv with h2 h3 h4
    subst h4
    exact ⟨h3.symm, by omega, hc, hn, hr⟩
theorem OwnU.slU {w : World} {B n c : Nat} {A : Option Addr} {zs : List Int} (h : OwnU 5 w B (.slice A n c) zs) : SlU w w.heap.size A n c zs :=
  ⟨h.len, h.cap.1, h.cap.2, h.nilcap, h.rd⟩
theorem SlP.below {w w' : World} {B B' n c : Nat} {A : Option Addr} {es : Vw} (h : SlP w B A n c es) (hb : Below B w w') (hz : B ≤ B') : SlP w' B' A n c es :=
  ⟨h.len, h.cap, h.capmax, h.nil, (h.rd.below hb (Nat.le_refl _)).more hz⟩
theorem SlU.below {w w' : World} {B B' n c : Nat} {A : Option Addr} {zs : List Int} (h : SlU w B A n c zs) (hb : Below B w w') (hz : B ≤ B') : SlU w' B' A n c zs :=
  ⟨h.len, h.cap, h.capmax, h.nil, (h.rd.below hb (Nat.le_refl _)).more hz⟩
theorem SlP.none (w : World) (B : Nat) : SlP w B none 0 0 [] := ⟨rfl, Nat.le_refl _, by simp [maxLen], fun _ => rfl, fun h => absurd h (by simp)⟩
/-- A slice of bytes written out. -/
theorem lit_slU (w : World) (zs : List Int) (hl : zs.length ≤ maxLen) : SlU (w.alloc (.cells (zs.map (Value.int .u8)).toArray 5)) (w.heap.size + 1) (some ⟨w.heap.size, 0, none⟩) zs.length zs.length zs :=
  ⟨rfl, Nat.le_refl _, hl, (fun h => by cases h), fun _ => ⟨w.heap.size, 0, rfl, by omega, fun k hk => by
    rw [Nat.zero_add, World.cell?_alloc_at _ _ _ _ rfl]
    simp [List.getElem?_eq_getElem hk, ix_get hk]⟩⟩
theorem one_slP (w : World) (a b : Int) : SlP (w.alloc (.cells #[.int .i64 a, .int .i64 b] 38)) (w.heap.size + 1) (some ⟨w.heap.size, 0, none⟩) 1 1 [(a, b)] :=
  ⟨rfl, Nat.le_refl _, by simp [maxLen], (fun h => by cases h), pairs1_rd w a b⟩

theorem isV1 {i v : Int} (h : 0 ≤ i ∧ i ≤ 2147483647) (hv : -9223372036854775808 ≤ v ∧ v ≤ 9223372036854775807) : IsV [(i, v)] :=
  ⟨List.pairwise_singleton _ _, fun p hp => by rw [List.mem_singleton] at hp; subst hp; exact ⟨h.1, h.2, hv⟩⟩
theorem enc0 : enc 0 = [0] := by rw [enc_small (by omega)]; rfl
theorem enc1 : enc 1 = [1] := by rw [enc_small (by omega)]; rfl
theorem enc3 : enc 3 = [3] := by rw [enc_small (by omega)]; rfl
theorem enc10 : enc 10 = [10] := by rw [enc_small (by omega)]; rfl
theorem dif_ex1 : difD [] [(3, 5)] = [0, 1, 3, 10] := by
  have h1 : goneD [] [(3, 5)] = [] := rfl
  have h2 : setD [] [(3, 5)] = [(3, 5)] := by simp [setD, findD]
  have h3 : w64 5 = 5 := w64_id (by omega)
  unfold difD
  rw [h1, h2]
  simp [gapsB, setB, findD, h3, zig, enc0, enc1, enc3, enc10]
theorem dif_ex2 : difD [(3, 5)] [(3, 4)] = [0, 1, 3, 1] := by
  have h1 : goneD [(3, 5)] [(3, 4)] = [] := by simp [goneD, findD]
  have h2 : setD [(3, 5)] [(3, 4)] = [(3, 4)] := by simp [setD, findD]
  have h3 : w64 (-1) = -1 := w64_id (by omega)
  unfold difD
  rw [h1, h2]
  simp [gapsB, setB, findD, h3, zig, enc0, enc1, enc3]
theorem dif_isB (a b : Vw) : IsB (difD a b) := by
  have h1 : ∀ (l : List Int) (last : Int), IsB (gapsB last l) := fun l => by
    induction l with
    | nil => intro last c hc; cases hc
    | cons x t ih =>
      intro last c hc
      rw [gapsB] at hc
      rcases List.mem_append.1 hc with h | h
      · exact enc_isB _ c h
      · exact ih x c h
  have h2 : ∀ (l : Vw) (last : Int), IsB (setB a last l) := fun l => by
    induction l with
    | nil => intro last c hc; cases hc
    | cons x t ih =>
      intro last c hc
      rw [setB] at hc
      rcases List.mem_append.1 hc with h | h
      · rcases List.mem_append.1 h with h | h
        · exact enc_isB _ c h
        · exact enc_isB _ c h
      · exact ih x.1 c h
  intro c hc
  unfold difD at hc
  rcases List.mem_append.1 hc with h | h
  · rcases List.mem_append.1 h with h | h
    · rcases List.mem_append.1 h with h | h
      · exact enc_isB _ c h
      · exact h1 _ _ c h
    · exact enc_isB _ c h
  · exact h2 _ _ c h
theorem dif_len {a b : Vw} (ha : IsV a) (hb : IsV b) (hal : a.length < 1000000) (hbl : b.length < 1000000) : (difD a b).length ≤ 20 + 10 * a.length + 20 * b.length := by
  have e : difD a b = _ := mrg_dif ha.up hb.up
  have h1 : (goneD a b).length ≤ a.length := goneD_len a b
  have h2 : (setD a b).length ≤ b.length := setD_len a b
  have h3 := gapsB_len (l := goneD a b) (fun x hx => (goneD_up ha b).2 x hx)
  have h4 : ∀ (l : Vw) (last : Int), -1 ≤ last → (∀ p ∈ l, 0 ≤ p.1 ∧ p.1 ≤ 2147483647) → (setB a last l).length ≤ 20 * l.length := fun l => by
    induction l with
    | nil => intro last _ _; simp [setB]
    | cons x t ih =>
      intro last hl h
      have hx := h x (List.mem_cons_self ..)
      have hd := w64_bd (x.2 - (findD a x.1).getD 0)
      have e1 := enc_len10' (n := (x.1 - last - 1).toNat) (by omega)
      have e2 := enc_len10' (zig_lt hd.1 hd.2)
      have := ih x.1 (by omega) (fun p hp => h p (List.mem_cons_of_mem _ hp))
      rw [setB, List.length_append, List.length_append, List.length_cons]; omega
  have h5 := h4 (setD a b) (-1) (by omega) (fun p hp => by have := hb.bd p (setD_mem.1 hp).1; exact ⟨this.1, this.2.1⟩)
  unfold difD
  rw [List.length_append, List.length_append, List.length_append]
  have e1 := enc_len10' (n := (goneD a b).length) (by omega)
  have e2 := enc_len10' (n := (setD a b).length) (by omega)
  omega

/-- Apply at a difference: the new view. -/
theorem apply_dif (A1 : Option Addr) (n1 c1 : Nat) (a : Vw) (A2 : Option Addr) (n2 c2 : Nat) (b : Vw) (w : World) (hs1 : SlP w w.heap.size A1 n1 c1 a) (hs2 : SlU w w.heap.size A2 n2 c2 (difD a b)) (ha : IsV a) (hb : IsV b) (hal : a.length ≤ 100) (hbl : b.length ≤ 100) (m : Nat) (hm : b.length = m) :
    Calls Try.prog 17 #[.slice A1 n1 c1, .slice A2 n2 c2] w fun e w' => ∃ A c, e = .returned (.tuple #[.slice A m c, .int .i64 0]) ∧ SlP w' w'.heap.size A m c b ∧ Below w.heap.size w w' := by
  have hl1 := hs1.len
  have hl2 := hs2.len
  have hdl := dif_len ha hb (by omega) (by omega)
  refine (apply_any A1 n1 c1 a A2 n2 c2 (difD a b) w hs1 hs2 (by omega) (by omega) ha (dif_isB a b)).mono ?_
  rintro e w' ⟨hb1, h | ⟨h0, A, m', c, x, rfl, hx, hown⟩⟩
  · exact absurd (dif_ok ha hb (by omega) (by omega)).1 h.1
  · have := (dif_ok ha hb (by omega) (by omega)).2 x hx
    subst this
    have hlen := hown.slP.len
    have : m' = m := by omega
    subst this
    exact ⟨A, c, rfl, hown.slP, hb1⟩
theorem diff_sl (A1 : Option Addr) (n1 c1 : Nat) (a : Vw) (A2 : Option Addr) (n2 c2 : Nat) (b : Vw) (w : World) (hs1 : SlP w w.heap.size A1 n1 c1 a) (hs2 : SlP w w.heap.size A2 n2 c2 b) (ha : IsV a) (hb : IsV b) (hal : a.length ≤ 100) (hbl : b.length ≤ 100) (d : List Int) (m : Nat) (hd : difD a b = d) (hm : d.length = m) :
    Calls Try.prog 12 #[.slice A1 n1 c1, .slice A2 n2 c2] w fun e w' => ∃ A c, e = .returned (.slice A m c) ∧ SlU w' w'.heap.size A m c d ∧ Below w.heap.size w w' := by
  have hl1 := hs1.len
  have hl2 := hs2.len
  refine (diff_any A1 n1 c1 a A2 n2 c2 b w hs1 hs2 (by omega) (by omega) ha hb d m hd.symm hm).mono ?_
  rintro e w' ⟨A, c, rfl, ho, hb1⟩
  exact ⟨A, c, rfl, ho.slU, hb1⟩
theorem equal_sl (A1 : Option Addr) (n1 c1 : Nat) (a : Vw) (A2 : Option Addr) (n2 c2 : Nat) (b : Vw) (w : World) (hs1 : SlP w w.heap.size A1 n1 c1 a) (hs2 : SlP w w.heap.size A2 n2 c2 b) (hal : a.length ≤ 100) (hbl : b.length ≤ 100) (res : Bool) (hres : decide (a = b) = res) :
    Calls Try.prog 14 #[.slice A1 n1 c1, .slice A2 n2 c2] w fun e w' => e = .returned (.bool res) ∧ Below w.heap.size w w' :=
  eqv_any A1 n1 c1 a A2 n2 c2 b res _ _ w hs1.len hs2.len hs1.rd hs2.rd (by have := hs1.len; omega) (by have := hs2.len; omega) hres (Nat.le_refl _) (Nat.le_refl _)
theorem same_sl (A1 : Option Addr) (n1 c1 : Nat) (a : List Int) (A2 : Option Addr) (n2 c2 : Nat) (b : List Int) (w : World) (hs1 : SlU w w.heap.size A1 n1 c1 a) (hs2 : SlU w w.heap.size A2 n2 c2 b) (hal : a.length ≤ 100000) (hbl : b.length ≤ 100000) (res : Bool) (hres : decide (a = b) = res) :
    Calls Try.prog 11 #[.slice A1 n1 c1, .slice A2 n2 c2] w fun e w' => e = .returned (.bool res) ∧ Below w.heap.size w w' :=
  sameb_any A1 n1 c1 a A2 n2 c2 b res _ _ w hs1.len hs2.len hs1.rd hs2.rd (by have := hs1.len; omega) (by have := hs2.len; omega) hres (Nat.le_refl _) (Nat.le_refl _)

set_option maxHeartbeats 2000000 in
theorem lives_any (w : World) : Calls Try.prog 16 #[] w fun e w' => e = .returned (.bool true) ∧ Below w.heap.size w w' := by
  have va : IsV [(3, 5)] := isV1 (by omega) (by omega)
  have vb : IsV [(3, 4)] := isV1 (by omega) (by omega)
  obtain ⟨w2, hw2⟩ : ∃ w2, w2 = (w.alloc (.cells #[.int .i64 3, .int .i64 5] 38)).alloc (.cells #[.int .i64 3, .int .i64 4] 38) := ⟨_, rfl⟩
  have hz2 : w2.heap.size = w.heap.size + 2 := by rw [hw2]; simp
  have hb2 : Below w.heap.size w w2 := by rw [hw2]; exact ((Below.refl _ _).alloc (Nat.le_refl _) _).alloc (by simp) _
  have ha2 : SlP w2 (w.heap.size + 1) (some ⟨w.heap.size, 0, none⟩) 1 1 [(3, 5)] := by rw [hw2]; exact (one_slP w 3 5).below ((Below.refl _ _).alloc (by simp) _) (Nat.le_refl _)
  have hbb2 : SlP w2 (w.heap.size + 2) (some ⟨w.heap.size + 1, 0, none⟩) 1 1 [(3, 4)] := by
    rw [hw2]
    have := one_slP (w.alloc (.cells #[.int .i64 3, .int .i64 5] 38)) 3 4
    rw [World.size_alloc] at this
    exact this
  have HA2 := Lib.hid ha2
  have HB2 := Lib.hid hbb2
  have HBE := Lib.hid hb2
  have HW2 := Lib.hid hw2
  have HZ2 := Lib.hid hz2
  clear ha2 hbb2 hb2 hz2 hw2
  have hstep : Hid (∀ W, Below w2.heap.size w2 W → SlP W W.heap.size (some ⟨w.heap.size, 0, none⟩) 1 1 [(3, 5)] ∧ SlP W W.heap.size (some ⟨w.heap.size + 1, 0, none⟩) 1 1 [(3, 4)]) := fun W h => by
    have hz := h.size
    have := HZ2.out
    exact ⟨HA2.out.below (h.mono (by omega)) (by omega), HB2.out.below (h.mono (by omega)) (by omega)⟩
  go_enter Try.func16, Try.ntmps16
  have hlit : Hid (∀ (W : World) (a b c d : Int), SlU (W.alloc (.cells #[.int .u8 a, .int .u8 b, .int .u8 c, .int .u8 d] 5)) (W.alloc (.cells #[.int .u8 a, .int .u8 b, .int .u8 c, .int .u8 d] 5)).heap.size (some ⟨W.heap.size, 0, none⟩) 4 4 [a, b, c, d]) := fun W a b c d => by
    rw [World.size_alloc]
    exact lit_slU W [a, b, c, d] (by simp [maxLen])
  go_wp2_with fail
  rw [← HW2.out, show w.heap.size + 1 + 1 = w2.heap.size from HZ2.out.symm]
  have hA := hstep.out _ ((Below.refl _ w2).alloc (Nat.le_refl _) (.cells #[.int .u8 0, .int .u8 1, .int .u8 3, .int .u8 1] 5))
  have hL := hlit.out w2 0 1 3 1
  rw [← dif_ex2] at hL
  refine (apply_dif _ 1 1 [(3, 5)] _ 4 4 [(3, 4)] _ hA.1 hL va vb (by simp) (by simp) 1 rfl).mono ?_
  rintro e w4 ⟨Ac, cc, rfl, hc4, hb4⟩
  have HC4 := Lib.hid hc4
  have HB4 : Hid (Below w2.heap.size w2 w4) := ((Below.refl _ w2).alloc (Nat.le_refl _) _).trans (hb4.mono (by simp))
  clear hA hL hc4 hb4
  go_wp2_with fail
  refine (diff_sl none 0 0 [] _ 1 1 [(3, 5)] w4 (SlP.none _ _) (hstep.out w4 HB4.out).1 IsV.nil va (by simp) (by simp) [0, 1, 3, 10] 4 dif_ex1 rfl).mono ?_
  rintro e w5 ⟨Ad, cd, rfl, hd5, hb5⟩
  have HD5 := Lib.hid hd5
  have HC5 := Lib.hid (HC4.out.below hb5 hb5.size)
  have HB5 : Hid (Below w2.heap.size w2 w5) := HB4.out.trans (hb5.mono HB4.out.size)
  clear hd5 hb5 HC4 HB4
  go_wp2_with fail
  refine (same_sl _ 4 cd [0, 1, 3, 10] _ 4 4 [0, 1, 3, 10] _ (HD5.out.below ((Below.refl _ w5).alloc (Nat.le_refl _) _) (by simp)) (hlit.out w5 0 1 3 10) (by simp) (by simp) true (by simp)).mono ?_
  rintro e w6 ⟨rfl, hb6'⟩
  have hb6 : Below w5.heap.size w5 w6 := ((Below.refl _ w5).alloc (Nat.le_refl _) _).trans (hb6'.mono (by simp))
  have HC6 := Lib.hid (HC5.out.below hb6 hb6.size)
  have HB6 : Hid (Below w2.heap.size w2 w6) := HB5.out.trans (hb6.mono HB5.out.size)
  clear hb6 hb6' HC5 HB5 HD5
  go_wp2_with fail
  refine (diff_sl _ 1 1 [(3, 5)] _ 1 1 [(3, 4)] w6 (hstep.out w6 HB6.out).1 (hstep.out w6 HB6.out).2 va vb (by simp) (by simp) [0, 1, 3, 1] 4 dif_ex2 rfl).mono ?_
  rintro e w7 ⟨Ae, ce, rfl, hd7, hb7⟩
  have HD7 := Lib.hid hd7
  have HC7 := Lib.hid (HC6.out.below hb7 hb7.size)
  have HB7 : Hid (Below w2.heap.size w2 w7) := HB6.out.trans (hb7.mono HB6.out.size)
  clear hd7 hb7 HC6 HB6
  go_wp2_with fail
  refine (same_sl _ 4 ce [0, 1, 3, 1] _ 4 4 [0, 1, 3, 1] _ (HD7.out.below ((Below.refl _ w7).alloc (Nat.le_refl _) _) (by simp)) (hlit.out w7 0 1 3 1) (by simp) (by simp) true (by simp)).mono ?_
  rintro e w8 ⟨rfl, hb8'⟩
  have hb8 : Below w7.heap.size w7 w8 := ((Below.refl _ w7).alloc (Nat.le_refl _) _).trans (hb8'.mono (by simp))
  have HC8 := Lib.hid (HC7.out.below hb8 hb8.size)
  have HB8 : Hid (Below w2.heap.size w2 w8) := HB7.out.trans (hb8.mono HB7.out.size)
  clear hb8 hb8' HC7 HB7 HD7
  go_wp2_with fail
  refine (equal_sl _ 1 cc [(3, 4)] _ 1 1 [(3, 4)] w8 HC8.out (hstep.out w8 HB8.out).2 (by simp) (by simp) true (by simp)).mono ?_
  rintro e w9 ⟨rfl, hb9⟩
  have HB9 : Hid (Below w2.heap.size w2 w9) := HB8.out.trans (hb9.mono HB8.out.size)
  clear hb9 HC8 HB8
  go_wp2_with fail
  refine (equal_sl _ 1 1 [(3, 5)] _ 1 1 [(3, 4)] w9 (hstep.out w9 HB9.out).1 (hstep.out w9 HB9.out).2 (by simp) (by simp) false (by simp)).mono ?_
  rintro e w10 ⟨rfl, hb10⟩
  have HB10 : Hid (Below w2.heap.size w2 w10) := HB9.out.trans (hb10.mono HB9.out.size)
  clear hb10 HB9
  go_wp2
  go_ret
  exact ⟨rfl, HBE.out.trans (HB10.out.mono (by have := HZ2.out; omega))⟩

theorem cells_sl (A : Option Addr) (n c : Nat) (xs : List Int) (w : World) (hl : xs.length = n) (hr : Rd w w.heap.size A xs) (hx : ∀ x ∈ xs, -9223372036854775808 ≤ x ∧ x ≤ 9223372036854775807) (hn : n ≤ maxLen) (out : Vw) (m : Nat) (ho : out = mkCells xs) (hm : out.length = m) :
    Calls Try.prog 10 #[.slice A n c] w fun e w' => ∃ A' c', e = .returned (.slice A' m c') ∧ SlP w' w'.heap.size A' m c' out ∧ Below w.heap.size w w' :=
  (cells_any A n c xs w hl hr hx hn out m ho hm).mono fun e w' ⟨A', c', he, ho, hb⟩ => ⟨A', c', he, ho.slP, hb⟩
theorem rdiff_sl (A1 : Option Addr) (n1 c1 : Nat) (a : Vw) (A2 : Option Addr) (n2 c2 : Nat) (b : Vw) (w : World) (hs1 : SlP w w.heap.size A1 n1 c1 a) (hs2 : SlP w w.heap.size A2 n2 c2 b) (ha : IsV a) (hb : IsV b) (hal : a.length ≤ 100) (hbl : b.length ≤ 100) (d : List Int) (m : Nat) (hd : difD a b = d) (hm : d.length = m) :
    Calls Try.prog 13 #[.slice A1 n1 c1, .slice A2 n2 c2] w fun e w' => ∃ A c, e = .returned (.slice A m c) ∧ SlU w' w'.heap.size A m c d ∧ Below w.heap.size w w' := by
  have hl1 := hs1.len
  have hl2 := hs2.len
  refine (rdiff_any A1 n1 c1 a A2 n2 c2 b w hs1.len hs2.len hs1.rd hs2.rd (by omega) (by omega) ha hb d m hd.symm hm).mono ?_
  rintro e w' ⟨A, c, rfl, ho, hb1⟩
  exact ⟨A, c, rfl, ho.slU, hb1⟩
theorem requal_sl (A1 : Option Addr) (n1 c1 : Nat) (a : Vw) (A2 : Option Addr) (n2 c2 : Nat) (b : Vw) (w : World) (hs1 : SlP w w.heap.size A1 n1 c1 a) (hs2 : SlP w w.heap.size A2 n2 c2 b) (hal : a.length ≤ 100) (hbl : b.length ≤ 100) (res : Bool) (hres : decide (a = b) = res) :
    Calls Try.prog 15 #[.slice A1 n1 c1, .slice A2 n2 c2] w fun e w' => e = .returned (.bool res) ∧ Below w.heap.size w w' :=
  req_any A1 n1 c1 a A2 n2 c2 b res _ _ w hs1.len hs2.len hs1.rd hs2.rd (by have := hs1.len; omega) (by have := hs2.len; omega) hres (Nat.le_refl _) (Nat.le_refl _)

/-- A slice of integers that came in. -/
structure In (w : World) (A : Option Addr) (n : Nat) (xs : List Int) : Prop where
  len : xs.length = n
  rd : Rd w w.heap.size A xs
  bd : ∀ x ∈ xs, -9223372036854775808 ≤ x ∧ x ≤ 9223372036854775807
  max : n ≤ maxLen

set_option maxHeartbeats 2000000 in
theorem diffs_walk (A1 : Option Addr) (n1 c1 : Nat) (xs : List Int) (A2 : Option Addr) (n2 c2 : Nat) (ys : List Int) (w : World) (h1 : In w A1 n1 xs) (h2 : In w A2 n2 ys) :
    Calls Try.prog 3 #[.slice A1 n1 c1, .slice A2 n2 c2] w fun e w' => e = .returned (.bool true) ∧ Below w.heap.size w w' := by
  obtain ⟨a, ha⟩ : ∃ a, a = mkCells xs := ⟨_, rfl⟩
  obtain ⟨b, hb⟩ : ∃ b, b = mkCells ys := ⟨_, rfl⟩
  have va : IsV a := by rw [ha]; exact mkCells_isV h1.bd
  have vb : IsV b := by rw [hb]; exact mkCells_isV h2.bd
  have la : a.length ≤ 12 := by rw [ha]; exact mkCells_len xs
  have lb : b.length ≤ 12 := by rw [hb]; exact mkCells_len ys
  obtain ⟨na, hna⟩ : ∃ n, a.length = n := ⟨_, rfl⟩
  obtain ⟨nb, hnb⟩ : ∃ n, b.length = n := ⟨_, rfl⟩
  obtain ⟨d, hd⟩ : ∃ d, difD a b = d := ⟨_, rfl⟩
  obtain ⟨nd, hnd⟩ : ∃ n, d.length = n := ⟨_, rfl⟩
  have hdl : d.length ≤ 1000 := by rw [← hd]; have := dif_len va vb (by omega) (by omega); omega
  obtain ⟨r, hr⟩ : ∃ r, decide (a = b) = r := ⟨_, rfl⟩
  have H1 := Lib.hid h1
  have H2 := Lib.hid h2
  have HA := Lib.hid ha
  have HB := Lib.hid hb
  have HNA := Lib.hid hna
  have HNB := Lib.hid hnb
  have HD := Lib.hid hd
  have HND := Lib.hid hnd
  have HR := Lib.hid hr
  have hrr : (r == r) = true := by simp
  clear h1 h2 ha hb hna hnb hd hnd hr
  go_enter Try.func3, Try.ntmps3
  go_wp2_with fail
  refine (cells_sl A1 n1 c1 xs w H1.out.len H1.out.rd H1.out.bd H1.out.max a na HA.out HNA.out).mono ?_
  rintro e w1 ⟨Aa, ca, rfl, hs1, hb1⟩
  have S1 := Lib.hid hs1
  have B1 := Lib.hid hb1
  clear hs1 hb1
  go_wp2_with fail
  refine (cells_sl A2 n2 c2 ys w1 H2.out.len ((H2.out.rd.below B1.out (Nat.le_refl _)).more B1.out.size) H2.out.bd H2.out.max b nb HB.out HNB.out).mono ?_
  rintro e w2 ⟨Ab, cb, rfl, hs2, hb2⟩
  have S1' := Lib.hid (S1.out.below hb2 hb2.size)
  have S2 := Lib.hid hs2
  have B2 := Lib.hid (B1.out.trans (hb2.mono B1.out.size))
  clear hs2 hb2 S1
  go_wp2_with fail
  refine (diff_sl Aa na ca a Ab nb cb b w2 S1'.out S2.out va vb (by omega) (by omega) d nd HD.out HND.out).mono ?_
  rintro e w3 ⟨Ad, cd, rfl, hs3, hb3⟩
  have S13 := Lib.hid (S1'.out.below hb3 hb3.size)
  have S23 := Lib.hid (S2.out.below hb3 hb3.size)
  have S3 := Lib.hid hs3
  have B3 := Lib.hid (B2.out.trans (hb3.mono B2.out.size))
  clear hs3 hb3 S1' S2
  go_wp2_with fail
  refine (rdiff_sl Aa na ca a Ab nb cb b w3 S13.out S23.out va vb (by omega) (by omega) d nd HD.out HND.out).mono ?_
  rintro e w4 ⟨Ae, ce, rfl, hs4, hb4⟩
  have S14 := Lib.hid (S13.out.below hb4 hb4.size)
  have S24 := Lib.hid (S23.out.below hb4 hb4.size)
  have S34 := Lib.hid (S3.out.below hb4 hb4.size)
  have S4 := Lib.hid hs4
  have B4 := Lib.hid (B3.out.trans (hb4.mono B3.out.size))
  clear hs4 hb4 S13 S23 S3
  go_wp2_with fail
  refine (same_sl Ad nd cd d Ae nd ce d w4 S34.out S4.out (by omega) (by omega) true (by simp)).mono ?_
  rintro e w5 ⟨rfl, hb5⟩
  have S15 := Lib.hid (S14.out.below hb5 hb5.size)
  have S25 := Lib.hid (S24.out.below hb5 hb5.size)
  have B5 := Lib.hid (B4.out.trans (hb5.mono B4.out.size))
  clear hb5 S14 S24 S34 S4
  go_wp2_with fail
  refine (equal_sl Aa na ca a Ab nb cb b w5 S15.out S25.out (by omega) (by omega) r HR.out).mono ?_
  rintro e w6 ⟨rfl, hb6⟩
  have S16 := Lib.hid (S15.out.below hb6 hb6.size)
  have S26 := Lib.hid (S25.out.below hb6 hb6.size)
  have B6 := Lib.hid (B5.out.trans (hb6.mono B5.out.size))
  clear hb6 S15 S25
  go_wp2_with fail
  refine (requal_sl Aa na ca a Ab nb cb b w6 S16.out S26.out (by omega) (by omega) r HR.out).mono ?_
  rintro e w7 ⟨rfl, hb7⟩
  have S17 := Lib.hid (S16.out.below hb7 hb7.size)
  have B7 := Lib.hid (B6.out.trans (hb7.mono B6.out.size))
  clear hb7 S16 S26
  go_wp2_with fail
  refine (equal_sl Aa na ca a Aa na ca a w7 S17.out S17.out (by omega) (by omega) true (by simp)).mono ?_
  rintro e w8 ⟨rfl, hb8⟩
  have B8 := Lib.hid (B7.out.trans (hb8.mono B7.out.size))
  clear hb8 S17
  go_wp2_with fail
  refine (lives_any w8).mono ?_
  rintro e w9 ⟨rfl, hb9⟩
  have B9 := Lib.hid (B8.out.trans (hb9.mono B8.out.size))
  clear hb9
  go_wp2
  go_ret
  exact ⟨rfl, B9.out⟩

set_option maxHeartbeats 4000000 in
theorem round_walk (A1 : Option Addr) (n1 c1 : Nat) (xs : List Int) (A2 : Option Addr) (n2 c2 : Nat) (ys : List Int) (w : World) (h1 : In w A1 n1 xs) (h2 : In w A2 n2 ys) :
    Calls Try.prog 4 #[.slice A1 n1 c1, .slice A2 n2 c2] w fun e w' => e = .returned (.bool true) ∧ Below w.heap.size w w' := by
  obtain ⟨a, ha⟩ : ∃ a, a = mkCells xs := ⟨_, rfl⟩
  obtain ⟨b, hb⟩ : ∃ b, b = mkCells ys := ⟨_, rfl⟩
  have va : IsV a := by rw [ha]; exact mkCells_isV h1.bd
  have vb : IsV b := by rw [hb]; exact mkCells_isV h2.bd
  have la : a.length ≤ 12 := by rw [ha]; exact mkCells_len xs
  have lb : b.length ≤ 12 := by rw [hb]; exact mkCells_len ys
  obtain ⟨na, hna⟩ : ∃ n, a.length = n := ⟨_, rfl⟩
  obtain ⟨nb, hnb⟩ : ∃ n, b.length = n := ⟨_, rfl⟩
  obtain ⟨m1, hm1⟩ : ∃ n, (difD a b).length = n := ⟨_, rfl⟩
  obtain ⟨m2, hm2⟩ : ∃ n, (difD [] b).length = n := ⟨_, rfl⟩
  obtain ⟨m3, hm3⟩ : ∃ n, (difD b []).length = n := ⟨_, rfl⟩
  have H1 := Lib.hid h1
  have H2 := Lib.hid h2
  have HA := Lib.hid ha
  have HB := Lib.hid hb
  have HNA := Lib.hid hna
  have HNB := Lib.hid hnb
  have HM1 := Lib.hid hm1
  have HM2 := Lib.hid hm2
  have HM3 := Lib.hid hm3
  have HSELF := Lib.hid (dif_self va)
  clear h1 h2 ha hb hna hnb hm1 hm2 hm3
  go_enter Try.func4, Try.ntmps4
  go_wp2_with fail
  refine (cells_sl A1 n1 c1 xs w H1.out.len H1.out.rd H1.out.bd H1.out.max a na HA.out HNA.out).mono ?_
  rintro e w1 ⟨Aa, ca, rfl, hs1, hb1⟩
  have S1 := Lib.hid hs1
  have B1 := Lib.hid hb1
  clear hs1 hb1
  go_wp2_with fail
  refine (cells_sl A2 n2 c2 ys w1 H2.out.len ((H2.out.rd.below B1.out (Nat.le_refl _)).more B1.out.size) H2.out.bd H2.out.max b nb HB.out HNB.out).mono ?_
  rintro e w2 ⟨Ab, cb, rfl, hs2, hb2⟩
  have SA := Lib.hid (S1.out.below hb2 hb2.size)
  have SB := Lib.hid hs2
  have B2 := Lib.hid (B1.out.trans (hb2.mono B1.out.size))
  clear hs2 hb2 S1 B1
  go_wp2_with fail
  refine (diff_sl Aa na ca a Ab nb cb b w2 SA.out SB.out va vb (by omega) (by omega) _ m1 rfl HM1.out).mono ?_
  rintro e w3 ⟨Ad, cd, rfl, hs3, hb3⟩
  have SA3 := Lib.hid (SA.out.below hb3 hb3.size)
  have SB3 := Lib.hid (SB.out.below hb3 hb3.size)
  have S3 := Lib.hid hs3
  have B3 := Lib.hid (B2.out.trans (hb3.mono B2.out.size))
  clear hs3 hb3 SA SB B2
  go_wp2_with fail
  refine (apply_dif Aa na ca a Ad m1 cd b w3 SA3.out S3.out va vb (by omega) (by omega) nb HNB.out).mono ?_
  rintro e w4 ⟨Ax, cx, rfl, hs4, hb4⟩
  have SA4 := Lib.hid (SA3.out.below hb4 hb4.size)
  have SB4 := Lib.hid (SB3.out.below hb4 hb4.size)
  have SX4 := Lib.hid hs4
  have B4 := Lib.hid (B3.out.trans (hb4.mono B3.out.size))
  clear hs4 hb4 SA3 SB3 B3 S3
  go_wp2_with fail
  refine (diff_sl none 0 0 [] Ab nb cb b w4 (SlP.none _ _) SB4.out IsV.nil vb (by simp) (by omega) _ m2 rfl HM2.out).mono ?_
  rintro e w5 ⟨Ae, ce, rfl, hs5, hb5⟩
  have SA5 := Lib.hid (SA4.out.below hb5 hb5.size)
  have SB5 := Lib.hid (SB4.out.below hb5 hb5.size)
  have SX5 := Lib.hid (SX4.out.below hb5 hb5.size)
  have S5 := Lib.hid hs5
  have B5 := Lib.hid (B4.out.trans (hb5.mono B4.out.size))
  clear hs5 hb5 SA4 SB4 SX4 B4
  go_wp2_with fail
  refine (apply_dif none 0 0 [] Ae m2 ce b w5 (SlP.none _ _) S5.out IsV.nil vb (by simp) (by omega) nb HNB.out).mono ?_
  rintro e w6 ⟨Ay, cy, rfl, hs6, hb6⟩
  have SA6 := Lib.hid (SA5.out.below hb6 hb6.size)
  have SB6 := Lib.hid (SB5.out.below hb6 hb6.size)
  have SX6 := Lib.hid (SX5.out.below hb6 hb6.size)
  have SY6 := Lib.hid hs6
  have B6 := Lib.hid (B5.out.trans (hb6.mono B5.out.size))
  clear hs6 hb6 SA5 SB5 SX5 B5 S5
  go_wp2_with fail
  refine (diff_sl Ab nb cb b none 0 0 [] w6 SB6.out (SlP.none _ _) vb IsV.nil (by omega) (by simp) _ m3 rfl HM3.out).mono ?_
  rintro e w7 ⟨Af, cf, rfl, hs7, hb7⟩
  have SA7 := Lib.hid (SA6.out.below hb7 hb7.size)
  have SB7 := Lib.hid (SB6.out.below hb7 hb7.size)
  have SX7 := Lib.hid (SX6.out.below hb7 hb7.size)
  have SY7 := Lib.hid (SY6.out.below hb7 hb7.size)
  have S7 := Lib.hid hs7
  have B7 := Lib.hid (B6.out.trans (hb7.mono B6.out.size))
  clear hs7 hb7 SA6 SB6 SX6 SY6 B6
  go_wp2_with fail
  refine (apply_dif Ab nb cb b Af m3 cf [] w7 SB7.out S7.out vb IsV.nil (by omega) (by simp) 0 rfl).mono ?_
  rintro e w8 ⟨Az, cz, rfl, hs8, hb8⟩
  have SA8 := Lib.hid (SA7.out.below hb8 hb8.size)
  have SB8 := Lib.hid (SB7.out.below hb8 hb8.size)
  have SX8 := Lib.hid (SX7.out.below hb8 hb8.size)
  have SY8 := Lib.hid (SY7.out.below hb8 hb8.size)
  have B8 := Lib.hid (B7.out.trans (hb8.mono B7.out.size))
  clear hs8 hb8 SA7 SB7 SX7 SY7 B7 S7
  go_wp2_with fail
  refine (equal_sl Ax nb cx b Ab nb cb b w8 SX8.out SB8.out (by omega) (by omega) true (by simp)).mono ?_
  rintro e w9 ⟨rfl, hb9⟩
  have SA9 := Lib.hid (SA8.out.below hb9 hb9.size)
  have SB9 := Lib.hid (SB8.out.below hb9 hb9.size)
  have SY9 := Lib.hid (SY8.out.below hb9 hb9.size)
  have B9 := Lib.hid (B8.out.trans (hb9.mono B8.out.size))
  clear hb9 SA8 SB8 SX8 SY8 B8
  go_wp2_with fail
  refine (equal_sl Ay nb cy b Ab nb cb b w9 SY9.out SB9.out (by omega) (by omega) true (by simp)).mono ?_
  rintro e w10 ⟨rfl, hb10⟩
  have SA10 := Lib.hid (SA9.out.below hb10 hb10.size)
  have B10 := Lib.hid (B9.out.trans (hb10.mono B9.out.size))
  clear hb10 SA9 SB9 SY9 B9
  go_wp2_with fail
  refine (diff_sl Aa na ca a Aa na ca a w10 SA10.out SA10.out va va (by omega) (by omega) [0, 0] 2 HSELF.out rfl).mono ?_
  rintro e w11 ⟨Ag, cg, rfl, hs11, hb11⟩
  have S11 := Lib.hid hs11
  have B11 := Lib.hid (B10.out.trans (hb11.mono B10.out.size))
  clear hs11 hb11 SA10 B10
  have hl2 : SlU (w11.alloc (.cells #[.int .u8 0, .int .u8 0] 5)) (w11.alloc (.cells #[.int .u8 0, .int .u8 0] 5)).heap.size (some ⟨w11.heap.size, 0, none⟩) 2 2 [0, 0] := by
    rw [World.size_alloc]
    exact lit_slU w11 [0, 0] (by simp [maxLen])
  have HL2 := Lib.hid hl2
  clear hl2
  go_wp2_with fail
  refine (same_sl Ag 2 cg [0, 0] _ 2 2 [0, 0] _ (S11.out.below ((Below.refl _ w11).alloc (Nat.le_refl _) _) (by simp)) HL2.out (by simp) (by simp) true (by simp)).mono ?_
  rintro e w12 ⟨rfl, hb12'⟩
  have B12 := Lib.hid (B11.out.trans ((((Below.refl _ w11).alloc (Nat.le_refl _) _).trans (hb12'.mono (by simp))).mono B11.out.size))
  clear hb12' S11 HL2 B11
  go_wp2_with fail
  refine (lives_any w12).mono ?_
  rintro e w13 ⟨rfl, hb13⟩
  have B13 := Lib.hid (B12.out.trans (hb13.mono B12.out.size))
  clear hb13
  go_wp2
  go_ret
  exact ⟨rfl, B13.out⟩

theorem in_of_row {w : World} {a : Option Addr} {len cap : Nat} {zs : List Int}
    (h : (a = none ∧ len = 0 ∧ cap = 0 ∧ zs = []) ∨ ∃ x, a = some x ∧ len ≤ cap ∧ cap ≤ maxLen ∧ zs.length = cap ∧ (∀ i, i < zs.length → w.cell? (x.add i) = some (.int .i64 (zs.getD i 0))) ∧ ∀ n ∈ zs, (Lit.int .i64 n).wf = true) : In w a len (zs.take len) := by
  obtain ⟨h1, h2, h3, h4⟩ := rd_of_row h
  exact ⟨h2, h1, h4, h3⟩
end Go.Proofs.Ytfnoeolngdhjfaa
