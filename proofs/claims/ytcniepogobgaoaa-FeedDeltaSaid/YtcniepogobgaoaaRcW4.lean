/-
  rangecoder.Encode: the function that takes the settled bytes; Encode.
-/
import Derived.Test.YtcniepogobgaoaaRcW3
import Derived.Test.YtcniepogobgaoaaRcP
import Derived.Test.YtcniepogobgaoaaSnW6
import Derived.Deep.RegionLaw
namespace Go.Proofs.Ytcniepogobgaoaa
set_option linter.unusedVariables false
set_option linter.unusedSimpArgs false
set_option maxRecDepth 4000
open Go.RowKit

/-- Encode's bytes so far, in the box x; the coder's block g; all else is as in w0. -/
structure EncJ (w0 : World) (g x : Nat) (pre : List Int) (o : List Nat) (W : World) : Prop where
  bel : Below w0.heap.size w0 W
  xle : w0.heap.size ≤ x
  gle : w0.heap.size ≤ g
  cod : ∃ cs, Blk W g 102 cs
  box : ∃ A c, Blk W x 33 #[.slice A (pre.length + o.length) c] ∧ OwnU 5 W w0.heap.size (.slice A (pre.length + o.length) c) (pre ++ natI o)
theorem Blk.ne_ {w : World} {g x : Nat} {T U : TypeId} {cs ds : Array Value} (h : Blk w g T cs) (h' : Blk w x U ds) (hT : T ≠ U) : g ≠ x := by
  rintro rfl
  unfold Blk at h h'
  rw [h] at h'
  injection h' with h'
  injection h' with _ h2
  exact hT h2
theorem EncJ.frm {w0 : World} {g x : Nat} {pre : List Int} {o : List Nat} {W W' : World} (h : EncJ w0 g x pre o W) {S : Nat → Prop} (hf : Frm S W W') (hS : ∀ k, S k → k = g) (hc : ∃ cs, Blk W' g 102 cs) : EncJ w0 g x pre o W' := by
  obtain ⟨h1, h2, h3, ⟨cs, h4⟩, A, c, h5, h6⟩ := h
  refine ⟨h1.trans (hf.below h1.size (fun k hk => by rw [hS k hk]; exact h3)), h2, h3, hc, A, c, ?_, ?_⟩
  · exact (hf.block x h5.lt (fun e => (h4.ne_ h5 (by decide)) (hS _ e).symm)).trans h5
  · refine h6.keepRow (fun r hr => hf.block r (h6.rowLt r hr).2.1 (fun e => ?_))
    exact (h4.apartU (by decide) h6) (by rw [hr, hS _ e])
set_option maxHeartbeats 2000000 in
theorem enc1_any (w0 : World) (g x : Nat) (pre : List Int) (hpre : pre.length < 1000) (o : List Nat) (W : World) (b : Nat) (hb : b < 256) (ho : o.length < 1000000) (h : EncJ w0 g x pre o W) :
    Calls Try.prog 50 #[.int .u8 (b : Int), .pointer (some ⟨x, 0, none⟩)] W fun e w' => e = .returned (.tuple #[]) ∧ EncJ w0 g x pre (o ++ [b]) w' ∧ ∀ cs, Blk W g 102 cs → Blk w' g 102 cs := by
  obtain ⟨h1, h2, h3, ⟨cs, h4⟩, A, c, h5, h6⟩ := h
  obtain ⟨t, ht⟩ : ∃ t, t = pre.length + o.length := ⟨_, rfl⟩
  rw [← ht] at h5 h6
  have q1 : W.cell? ⟨x, 0, none⟩ = some (.slice A t c) := h5.cell 0
  have hz := h5.lt
  have HF : Hid (∀ (v : Int) w', (W.alloc (.cells #[.int .u8 v] 5)).grownBy w' (Value.ownBlock (.slice A t c)) → Blk w' x 33 #[.slice A t c] ∧ (∀ cs, Blk W g 102 cs → Blk w' g 102 cs) ∧ Below w0.heap.size w0 w') := fun v w' hg => by
    have hb := h5.alloc (.cells #[.int .u8 v] 5)
    have hc := h4.alloc (.cells #[.int .u8 v] 5)
    refine ⟨(hg.block x hb.lt (fun e => h5.apartU (by decide) h6 e.symm)).trans hb, fun cs hcs => ?_, ?_⟩
    · have hc' := hcs.alloc (.cells #[.int .u8 v] 5)
      exact (hg.block g hc'.lt (fun e => h4.apartU (by decide) h6 e.symm)).trans hc'
    · exact (h1.alloc h1.size _).trans ((Below.refl _ _).grown hg (by have := h1.size; simp; omega) h6.base)
  have hlen : (pre ++ natI o).length < 1000000000000 := by rw [List.length_append, natI_len]; omega
  have hn' : (pre ++ natI o).length + 1 = t + 1 := by rw [List.length_append, natI_len, ht]
  have H1 := Lib.hid h1
  have H4 := Lib.hid h4
  have H5 := Lib.hid h5
  have H6 := Lib.hid h6
  have HT := Lib.hid ht
  have HN := Lib.hid hn'
  clear h1 h4 h5 h6 ht hn'
  go_enter Try.func50, Try.ntmps50
  go_wp2_with (at_builtin; refine wpl_append1V rfl (.tmp 3) (.tmp 5) 33 rfl 5 Try.underlying33 u8_info w0.heap.size _ _ rfl (H6.out.alloc _) ⟨W.heap.size, 0, none⟩ 1 (b : Int) (t + 1) HN.out rfl (u8_one _ _) hlen (by have := H1.out.size; simp; omega) ?_; intro A3 c3 w1 hown' hg' hr'; have hb1 := HF.out _ _ hg'.out; have hc1 := hb1.1.cell 0; have hf1 := hb1.1.frozen 0; have HB1 := Lib.hid hb1; clear hb1)
  go_end0
  obtain ⟨k1, k2, k3⟩ := HB1.out
  have hx : x ≠ g := fun e => (H4.out.ne_ H5.out (by decide)) e.symm
  have k4 := k2 _ H4.out
  have hap := k1.apartU (by decide) hown'.out
  refine ⟨rfl, ⟨k3.trans ((Frm.setCell _ _ _).below k3.size (fun k hk => by rw [hk]; exact h2)), h2, h3, ⟨cs, k4.far hx.symm _⟩, A3, c3, ?_, ?_⟩, fun cs' hcs' => (k2 _ hcs').far hx.symm _⟩
  · rw [List.length_append, List.length_singleton, ← Nat.add_assoc, ← HT.out]
    have := k1.set_ 0 (.slice A3 (t + 1) c3)
    simpa using this
  · rw [List.length_append, List.length_singleton, ← Nat.add_assoc, ← HT.out, natI_append, ← List.append_assoc]
    exact OwnU.far_ hown'.out hap _
/-- Encode's function takes the bytes. -/
theorem enc_sink (w0 : World) (g x : Nat) (pre : List Int) (hpre : pre.length < 1000) : Sink 50 #[.pointer (some ⟨x, 0, none⟩)] g (EncJ w0 g x pre) where
  enter := fun _ _ => rfl
  set_ := fun o W i v h => h.frm (Frm.setCell W ⟨g, i, none⟩ v) (fun k hk => hk) (by obtain ⟨cs, hc⟩ := h.cod; exact ⟨_, hc.set_ i v⟩)
  drew := fun o W n h => h.frm ((Frm.refl (fun k => k = g) W).drewN n) (fun k hk => hk) (by obtain ⟨cs, hc⟩ := h.cod; exact ⟨cs, hc.drewN n⟩)
  call := fun o W b hb ho h _ => enc1_any w0 g x pre hpre o W b hb ho h
/-- The box X of a slice of bytes, and the bytes. -/
structure EncB (w : World) (X : Nat) (A : Option Addr) (t c : Nat) (pre : List Int) (W : World) : Prop where
  bel : Below w.heap.size w W
  blk : Blk W X 33 #[.slice A t c]
  own : OwnU 5 W w.heap.size (.slice A t c) pre
theorem EncB.mid {w : World} {X : Nat} {A : Option Addr} {t c : Nat} {pre : List Int} {W w1 : World} (h : EncB w X A t c pre W) {v : Int} (hg : (W.alloc (.cells #[.int .u8 v] 5)).grownBy w1 (Value.ownBlock (.slice A t c))) :
    Blk w1 X 33 #[.slice A t c] ∧ Below w.heap.size w w1 := by
  have hb := h.blk.alloc (.cells #[.int .u8 v] 5)
  exact ⟨(hg.block X hb.lt (fun e => h.blk.apartU (by decide) h.own e.symm)).trans hb, (h.bel.alloc h.bel.size _).trans ((Below.refl _ _).grown hg (by have := h.bel.size; simp; omega) h.own.base)⟩
theorem EncB.push {w : World} {X : Nat} {A : Option Addr} {t c : Nat} {pre : List Int} {W w1 : World} (hX : w.heap.size ≤ X) (h : EncB w X A t c pre W) {v : Int} (hg : (W.alloc (.cells #[.int .u8 v] 5)).grownBy w1 (Value.ownBlock (.slice A t c)))
    {A3 : Option Addr} {c3 : Nat} {y : List Int} {t3 : Nat} (ho : OwnU 5 w1 w.heap.size (.slice A3 t3 c3) y) : EncB w X A3 t3 c3 y (w1.setCell ⟨X, 0, none⟩ (.slice A3 t3 c3)) := by
  obtain ⟨k1, k3⟩ := h.mid hg
  refine ⟨k3.trans ((Frm.setCell _ _ _).below k3.size (fun k hk => by rw [hk]; exact hX)), ?_, OwnU.far_ ho (k1.apartU (by decide) ho) _⟩
  have := k1.set_ 0 (.slice A3 t3 c3)
  simpa using this
theorem EncB.sink {w : World} {X : Nat} {A : Option Addr} {t c : Nat} {pre : List Int} {W W' : World} (h : EncB w X A t c pre W) (hX : w.heap.size ≤ X) {f : Value} {r : Rc} (hr : RcM W' W.heap.size f r) (hb : Below W.heap.size W W') (ht : pre.length = t) : EncJ w W.heap.size X pre [] W' := by
  obtain ⟨cs, hc, _⟩ := hr
  refine ⟨h.bel.trans (hb.mono h.bel.size), hX, h.bel.size, ⟨cs, hc⟩, A, c, ?_, ?_⟩
  · have := h.blk.below hb h.blk.lt
    simpa [ht] using this
  · have := h.own.below hb
    simpa [ht, natI] using this
theorem EncB.keepB {w : World} {X : Nat} {A : Option Addr} {t c : Nat} {pre : List Int} {W w1 : World} (h : EncB w X A t c pre W) {v : Int} (hg : (W.alloc (.cells #[.int .u8 v] 5)).grownBy w1 (Value.ownBlock (.slice A t c))) {g : Nat} {T : TypeId} {cs : Array Value} (hT : 5 ≠ T) (hk : Blk W g T cs) : Blk w1 g T cs := by
  have hk' := hk.alloc (.cells #[.int .u8 v] 5)
  exact (hg.block g hk'.lt (fun e => hk.apartU hT h.own e.symm)).trans hk'
theorem grownBy_drew {w w' : World} {row : Option Nat} (h : (World.drew w).grownBy w' row) : w.grownBy w' row := ⟨h.os, h.tape, h.output, h.size, h.block⟩
theorem rdU_one (z : Int) (w : World) : RdU (World.drew (w.alloc (.cells #[.int .u8 z] 5))) (w.heap.size + 1) (some ⟨w.heap.size, 0, none⟩) [z] := fun _ =>
  ⟨w.heap.size, 0, rfl, by omega, fun k hk => by
    simp at hk
    subst hk
    exact u8_one z w⟩
theorem be4_take (lo q : Nat) (hq : q < 4) : (be4 lo).take (q + 1) = (be4 lo).take q ++ [(be4 lo).getD q 0] := by
  rcases (show q = 0 ∨ q = 1 ∨ q = 2 ∨ q = 3 by omega) with rfl | rfl | rfl | rfl <;> rfl
theorem be4_get (lo q : Nat) (hq : q < 4) : IntKind.u8.wrap ((lo : Int) / 2 ^ (24 - 8 * (q : Int)).toNat) = (((be4 lo).getD q 0 : Nat) : Int) := by
  rw [IntKind.wrap_u8]
  rcases (show q = 0 ∨ q = 1 ∨ q = 2 ∨ q = 3 by omega) with rfl | rfl | rfl | rfl
  · show (lo : Int) / 16777216 % 256 = ((lo / 16777216 % 256 : Nat) : Int); omega
  · show (lo : Int) / 65536 % 256 = ((lo / 65536 % 256 : Nat) : Int); omega
  · show (lo : Int) / 256 % 256 = ((lo / 256 % 256 : Nat) : Int); omega
  · show (lo : Int) / 1 % 256 = ((lo % 256 : Nat) : Int); omega
theorem EncB.toJ {w : World} {X : Nat} {A : Option Addr} {t c : Nat} {pre all : List Int} {o : List Nat} {W : World} (h : EncB w X A t c all W) (hX : w.heap.size ≤ X) {g : Nat} (hg : w.heap.size ≤ g) (ha : all = pre ++ natI o) (ht : t = pre.length + o.length) (hc : ∃ cs, Blk W g 102 cs) : EncJ w g X pre o W := by
  subst ha ht
  exact ⟨h.bel, hX, hg, hc, A, c, h.blk, h.own⟩
theorem bit_and {x j : Nat} (hj : j < 8) (hx : x < 256) : bits BinOp.and IntKind.u32 ((x : Int) / 2 ^ (7 - j) % 4294967296) 1 = (bitAt x j : Int) := by
  have h1 : ((x : Int) / 2 ^ (7 - j) % 4294967296) = ((x / 2 ^ (7 - j) : Nat) : Int) := by
    have : x / 2 ^ (7 - j) ≤ x := Nat.div_le_self _ _
    have e : ((x : Int) / 2 ^ (7 - j)) = ((x / 2 ^ (7 - j) : Nat) : Int) := by simp
    rw [e]; generalize x / 2 ^ (7 - j) = q at this ⊢; omega
  rw [h1, show (1 : Int) = ((1 : Nat) : Int) from rfl, u32_and_nat _ _ (by have : x / 2 ^ (7 - j) ≤ x := Nat.div_le_self _ _; omega) (by omega), Nat.and_one_is_mod]
  rfl
set_option maxHeartbeats 40000000 in
theorem encode_any (xs : List Nat) (A : Option Addr) (n c : Nat) (w : World) (hr : RdU w w.heap.size A (natI xs)) (hn : xs.length = n) (hle : n ≤ 4000) (hb : ∀ x ∈ xs, x < 256) (out : List Int) (m : Nat) (ho : out = rcPack xs) (hm : out.length = m) :
    Calls Try.prog 28 #[.slice A n c] w fun e w' => ∃ A' c', e = .returned (.slice A' m c') ∧ OwnU 5 w' w.heap.size (.slice A' m c') out ∧ Below w.heap.size w w' := by
  have HO := Lib.hid ho
  have HM := Lib.hid hm
  have HN := Lib.hid hn
  have HR := Lib.hid hr
  have HBX := Lib.hid hb
  have HRC : Hid (∀ W, Below w.heap.size w W → ∀ k, k < n → ∃ b off, A = some ⟨b, off, none⟩ ∧ W.cell? ⟨b, off + k, none⟩ = some (.int .u8 ((xs.getD k 0 : Nat) : Int))) := fun W hW k hk => by
    obtain ⟨b, off, e1, e2, e3⟩ := hr (by rw [natI_len, hn]; omega)
    refine ⟨b, off, e1, (hW.cell (p := ⟨b, off + k, none⟩) e2).trans ?_⟩
    rw [e3 k (by rw [natI_len, hn]; exact hk)]
    simp only []
    rw [ix_get (by rw [natI_len, hn]; exact hk)]
    simp [natI, List.getD_eq_getElem?_getD, List.getElem?_eq_getElem (show k < xs.length by omega)]
  clear ho hm hn hr hb
  go_enter Try.func28, Try.ntmps28
  go_wp2
  go_loopw [4] (fun v W => ∃ (x t : Nat) (pre : List Int) (A c : _), x ≤ n ∧ v = .int .i64 (x : Int) ∧ Hid (pre ++ enc x = enc n) ∧ Hid (pre.length = t) ∧ t < 20 ∧ Hid (EncB w w.heap.size A t c pre W)) (fun v _ => (intOf v).toNat)
  case atStart =>
    exact ⟨n, 0, [], none, 0, Nat.le_refl _, rfl, Lib.hid rfl, Lib.hid rfl, by omega, Lib.hid ⟨(Below.refl _ _).alloc (Nat.le_refl _) _, Blk.new _ _ _, (OwnU.nil _ _ _)⟩⟩
  case round =>
    obtain ⟨x, t, pre, A1, c1, hx, rfl, HP, HT, ht, HE⟩ := hrel
    have q1 : wr.cell? ⟨w.heap.size, 0, none⟩ = some (.slice A1 t c1) := HE.out.blk.cell 0
    have hsz := HE.out.bel.size
    have hln : pre.length < 1000000000000 := by rw [HT.out]; omega
    have hln2 : Hid (pre.length + 1 = t + 1) := by show _ = _; rw [HT.out]
    by_cases hbig : 128 ≤ x
    · have hbi : (128 : Int) ≤ (x : Int) := by omega
      obtain ⟨y, hy⟩ : ∃ y : Int, y = ((x % 128 + 128 : Nat) : Int) := ⟨_, rfl⟩
      have HE2 : Hid (pre ++ [y] ++ enc (x / 128) = enc n) := by
        show _ = _
        rw [hy, ← HP.out, enc_big (n := x) (by omega), List.append_assoc]; rfl
      have hw : IntKind.u8.wrap ((x : Int) % 128 + 128) = y := by rw [hy, IntKind.wrap_u8]; omega
      have htn : t + 1 < 20 := by
        have h1 := congrArg List.length HE2.out
        have h2 := enc_len10' (n := n) (by omega)
        rw [List.length_append, List.length_append, HT.out] at h1
        simp at h1
        omega
      clear hy
      go_wp2_with (at_builtin; refine wpl_append1V rfl (.tmp 18) (.tmp 23) 33 rfl 5 Try.underlying33 u8_info w.heap.size _ _ rfl (HE.out.own.alloc _) ⟨wr.heap.size, 0, none⟩ 1 y (t + 1) hln2.out rfl (by first | exact u8_one _ _ | (rw [← hw]; exact u8_one _ _)) hln (by simp; omega) ?_; intro A3 c3 w1 hown' hg' hr'; have hb1 := HE.out.mid hg'.out; have hc1 := hb1.1.cell 0; have hf1 := hb1.1.frozen 0; have HB1 := Lib.hid hb1; clear hb1)
      go_roundw
      case rel =>
        exact ⟨x / 128, t + 1, _, A3, c3, by omega, by go_num, Lib.hid HE2.out, Lib.hid (by rw [List.length_append, HT.out]; rfl), htn, Lib.hid (HE.out.push (Nat.le_refl _) hg'.out hown'.out)⟩
      case measure => simp [intOf]; omega
    · have hbi : (x : Int) < 128 := by omega
      have hwr : IntKind.u8.wrap (x : Int) = (x : Int) := by rw [IntKind.wrap_u8]; omega
      have HPE : Hid (pre ++ [(x : Int)] = enc n) := by
        show _ = _
        rw [← HP.out, enc_small (by omega)]
      obtain ⟨y, hy⟩ : ∃ y : Int, y = (x : Int) := ⟨_, rfl⟩
      by_cases h0 : n = 0
      · have h0b : ((n : Int) == 0) = true := by rw [h0]; rfl
        go_wp2_with (at_builtin; refine wpl_append1V rfl (.tmp 25) (.tmp 28) 33 rfl 5 Try.underlying33 u8_info w.heap.size _ _ rfl (HE.out.own.alloc _) ⟨wr.heap.size, 0, none⟩ 1 (x : Int) (t + 1) hln2.out rfl (by first | exact u8_one _ _ | (rw [← hwr]; exact u8_one _ _)) hln (by simp; omega) ?_; intro A3 c3 w1 hown' hg' hr'; have hb1 := HE.out.mid hg'.out; have hc1 := hb1.1.cell 0; have hf1 := hb1.1.frozen 0; have HB1 := Lib.hid hb1; clear hb1)
        go_ret
        have hxs : xs = [] := List.eq_nil_of_length_eq_zero (by rw [HN.out]; exact h0)
        have ho : out = pre ++ [(x : Int)] := by rw [HO.out, HPE.out, hxs, h0]; simp [rcPack, rcBody, natI]
        have hmm : m = t + 1 := by rw [← HM.out, ho, List.length_append, HT.out]; rfl
        have hp := HE.out.push (Nat.le_refl _) hg'.out hown'.out
        rw [hmm, ho]
        exact ⟨A3, c3, rfl, hp.own, hp.bel⟩
      · have h0b : ((n : Int) == 0) = false := by simp; omega
        go_wp2_with (at_builtin; refine wpl_append1V rfl (.tmp 25) (.tmp 28) 33 rfl 5 Try.underlying33 u8_info w.heap.size _ _ rfl (HE.out.own.alloc _) ⟨wr.heap.size, 0, none⟩ 1 (x : Int) (t + 1) hln2.out rfl (by first | exact u8_one _ _ | (rw [← hwr]; exact u8_one _ _)) hln (by simp; omega) ?_; intro A3 c3 w1 hown' hg' hr'; have hb1 := HE.out.mid hg'.out; have hc1 := hb1.1.cell 0; have hf1 := hb1.1.frozen 0; have HB1 := Lib.hid hb1; clear hb1)
        have hp := HE.out.push (Nat.le_refl _) hg'.out hown'.out
        rw [HPE.out] at hp
        obtain ⟨W1, hW1⟩ : ∃ W1, W1 = w1.setCell ⟨w.heap.size, 0, none⟩ (.slice A3 (t + 1) c3) := ⟨_, rfl⟩
        rw [← hW1] at hp ⊢
        have hpl : (enc n).length = t + 1 := by rw [← HPE.out, List.length_append, HT.out]; rfl
        refine (newc_any 50 #[.pointer (some ⟨w.heap.size, 0, none⟩)] W1).mono ?_
        rintro e w2 ⟨rfl, hrc, hbl⟩
        have HJ := Lib.hid (hp.sink (Nat.le_refl _) hrc hbl hpl)
        have HS := Lib.hid (enc_sink w W1.heap.size w.heap.size (enc n) (by rw [hpl]; omega))
        have HC := Lib.hid hrc
        obtain ⟨g, hg⟩ : ∃ g, g = W1.heap.size := ⟨_, rfl⟩
        rw [← hg] at HJ HS HC ⊢
        have HPL := Lib.hid hpl
        clear HB1 hc1 hf1 hp hW1 hpl hrc hbl hown' hg' hr' HE HT HPE HP q1 hg hln hln2
        go_wp2
        go_loopw [38] (fun v W => ∃ k, k ≤ n ∧ v = .int .i64 (k : Int) ∧ Hid (RcM W g (.func (.func 50) #[] #[.pointer (some ⟨w.heap.size, 0, none⟩)]) (rcAt xs k 0)) ∧ Hid (EncJ w g w.heap.size (enc n) (outAt xs k 0) W)) (fun v _ => n - (intOf v).toNat)
        case atStart => exact ⟨0, by omega, rfl, by rw [rcAt_zero]; exact HC, by rw [outAt_zero]; exact HJ⟩
        case round =>
          obtain ⟨k, hk, rfl, HC1, HJ1⟩ := hrel
          by_cases hkn : k < n
          · have hki : (k : Int) < (n : Int) := by omega
            obtain ⟨b, off, rfl, hcl⟩ := HRC.out wr HJ1.out.bel k hkn
            obtain ⟨x9, hx9⟩ : ∃ x9, x9 = xs.getD k 0 := ⟨_, rfl⟩
            rw [← hx9] at hcl
            have hx2 : x9 < 256 := by
              rw [hx9, List.getD_eq_getElem?_getD, List.getElem?_eq_getElem (show k < xs.length by rw [HN.out]; exact hkn)]
              exact HBX.out _ (List.getElem_mem _)
            have HX9 := Lib.hid hx9
            clear hx9
            go_wp2
            go_loopw [8, 9] (fun cv iv W => ∃ j, j ≤ 8 ∧ cv = .int .i64 (ctx x9 j : Int) ∧ iv = .int .i64 (7 - (j : Int)) ∧ Hid (RcM W g (.func (.func 50) #[] #[.pointer (some ⟨w.heap.size, 0, none⟩)]) (rcAt xs k j)) ∧ Hid (EncJ w g w.heap.size (enc n) (outAt xs k j) W)) (fun _ iv _ => (intOf iv + 1).toNat)
            case atStart => exact ⟨0, by omega, by rw [ctx_zero hx2]; rfl, rfl, HC1, HJ1⟩
            case round =>
              obtain ⟨j, hj, rfl, rfl, HC2, HJ2⟩ := hrel
              by_cases hj8 : j < 8
              · have hji : (0 : Int) ≤ 7 - (j : Int) := by omega
                have hbit := bit_and hj8 hx2
                have hc9 := ctx_lt hx2 hj8
                have hs9 := ctx_succ (x := x9) hj8
                have hb9 := bitAt_01 x9 j
                have HA := Lib.hid (rcAt_succ xs k hj8)
                have HB := Lib.hid (outAt_succ xs k hj8)
                rw [← HX9.out] at HA HB
                obtain ⟨cj, hcj⟩ : ∃ cj, cj = ctx x9 j := ⟨_, rfl⟩
                obtain ⟨bj, hbj⟩ : ∃ bj, bj = bitAt x9 j := ⟨_, rfl⟩
                rw [← hbj] at hbit hb9
                rw [← hcj, ← hbj] at hs9 HA HB
                rw [← hcj] at hc9
                have hb1 : bj ≤ 1 := by omega
                have HB9 := Lib.hid hb9
                rw [← hcj]
                clear hcj hbj hb9
                go_wp2_with fail
                refine (split_any g cj (rcAt xs k j) _ wr HC2.out (rcAt_ok xs k j) hc9).mono ?_
                rintro e w3 ⟨rfl, n3, rfl⟩
                clear hbit
                go_wp2_with fail
                refine (narrow_any 50 _ _ g cj bj (rcAt xs k j) (outAt xs k j) (rcMid (rcAt xs k j) cj) _ HS.out (by have := outAt_len (xs := xs) (k := k) (j := j) (by rw [HN.out]; omega) (by omega); omega) (HC2.out.drewN n3) (HS.out.drew _ _ n3 HJ2.out) (rcAt_ok xs k j) hc9 HB9.out rfl).mono ?_
                rintro e w4 ⟨rfl, hc4, hj4⟩
                rw [← HA.out] at hc4
                rw [← HB.out] at hj4
                have HC4 := Lib.hid hc4
                have HJ4 := Lib.hid hj4
                clear hc4 hj4 HA HB
                go_wp2
                go_roundw
                case rel => exact ⟨j + 1, by omega, by go_num, by go_num, HC4, HJ4⟩
                case measure => simp [intOf]; omega
              · have hji : ¬ ((0 : Int) ≤ 7 - (j : Int)) := by omega
                obtain rfl : j = 8 := by omega
                go_wp2
                rw [rcAt_eight (by rw [HN.out]; exact hkn)] at HC2
                rw [outAt_eight (by rw [HN.out]; exact hkn)] at HJ2
                go_roundw
                case rel => exact ⟨k + 1, by omega, by go_num, HC2, HJ2⟩
                case measure => simp [intOf]; omega
          · have hki : ¬ ((k : Int) < (n : Int)) := by omega
            obtain rfl : k = n := by omega
            go_wp2
            go_loopw [11] (fun v W => ∃ q : Nat, q ≤ 4 ∧ v = .int .i64 (24 - 8 * (q : Int)) ∧ Hid (RcM W g (.func (.func 50) #[] #[.pointer (some ⟨w.heap.size, 0, none⟩)]) (rcAt xs k 0)) ∧ Hid (EncJ w g w.heap.size (enc k) (outAt xs k 0 ++ (be4 (rcAt xs k 0).lo).take q) W)) (fun v _ => (intOf v + 8).toNat)
            case atStart => exact ⟨0, by omega, rfl, HC1, by rw [List.take_zero, List.append_nil]; exact HJ1⟩
            case round =>
              obtain ⟨q, hq, rfl, HC2, HJ2⟩ := hrel
              obtain ⟨A5, c5, hb5, ho5⟩ := HJ2.out.box
              obtain ⟨pre5, hpre5⟩ : ∃ pre5, pre5 = enc k ++ natI (outAt xs k 0 ++ (be4 (rcAt xs k 0).lo).take q) := ⟨_, rfl⟩
              obtain ⟨t5, ht5⟩ : ∃ t5, t5 = (enc k).length + (outAt xs k 0 ++ (be4 (rcAt xs k 0).lo).take q).length := ⟨_, rfl⟩
              rw [← ht5] at hb5 ho5
              rw [← hpre5] at ho5
              have hl5 : pre5.length = t5 := by rw [hpre5, ht5, List.length_append, natI_len]
              have ht6 : t5 < 1000000 := by
                have h1 := outAt_len (xs := xs) (k := k) (j := 0) (by rw [HN.out]; omega) (by omega)
                have h2 : ((be4 (rcAt xs k 0).lo).take q).length ≤ 4 := by rw [List.length_take]; simp [be4]; omega
                rw [ht5, HPL.out, List.length_append]; omega
              have q1 : wr.cell? ⟨w.heap.size, 0, none⟩ = some (.slice A5 t5 c5) := hb5.cell 0
              obtain ⟨lo, hlo⟩ : ∃ lo, lo = (rcAt xs k 0).lo := ⟨_, rfl⟩
              have q2 : wr.cell? ⟨g, 256, none⟩ = some (.int .u32 (lo : Int)) := by
                obtain ⟨c9, h9, h9'⟩ := HC2.out
                rw [hlo]; exact (h9.cell _).trans h9'.lo
              have hlt : lo < 4294967296 := by have h1 := (rcAt_ok xs k 0).le; have h2 := (rcAt_ok xs k 0).hi; omega
              have HLO := Lib.hid hlo
              have HT5 := Lib.hid ht5
              have HP5 := Lib.hid hpre5
              clear hlo ht5 hpre5
              have HEB := Lib.hid (⟨HJ2.out.bel, hb5, ho5⟩ : EncB w w.heap.size A5 t5 c5 pre5 wr)
              by_cases hq4 : q < 4
              · have hqi : (0 : Int) ≤ 24 - 8 * (q : Int) := by omega
                have HB5 := Lib.hid hb5
                clear hb5 ho5
                have hl6 : Hid (pre5.length + 1 = t5 + 1) := by show _ = _; rw [hl5]
                have hln : pre5.length + 1 < 1000000000000 := by omega
                obtain ⟨z, hz⟩ : ∃ z : Int, IntKind.u8.wrap ((lo : Int) / 2 ^ (24 - 8 * (q : Int)).toNat) = z := ⟨_, rfl⟩
                have hwz := HEB.out.bel.size
                go_upto_region 24 with (fail)
                have MKS : Hid (∀ W', Below wr.heap.size wr W' → W'.cell? ⟨w.heap.size, 0, none⟩ = some (.slice A5 t5 c5) ∧ W'.cell? ⟨g, 256, none⟩ = some (.int .u32 (lo : Int)) ∧ W'.frozen? ⟨w.heap.size, 0, none⟩ = false) := fun W' h => ⟨(h.cell (p := ⟨w.heap.size, 0, none⟩) HEB.out.blk.lt).trans q1, (h.cell (p := ⟨g, 256, none⟩) (by obtain ⟨c9, h9, _⟩ := HC2.out; exact h9.lt)).trans q2, (HEB.out.blk.below h HEB.out.blk.lt).frozen 0⟩
                have HMK : Hid (∀ w1, (wr.alloc (.cells #[.int .u8 z] 5)).grownBy w1 (Value.ownBlock (.slice A5 t5 c5)) → w1.cell? ⟨w.heap.size, 0, none⟩ = some (.slice A5 t5 c5) ∧ w1.cell? ⟨g, 256, none⟩ = some (.int .u32 (lo : Int)) ∧ w1.frozen? ⟨w.heap.size, 0, none⟩ = false) := fun w1 hg => by
                  have hb := HEB.out.keepB hg (by decide) HEB.out.blk
                  obtain ⟨c9, h9, h9'⟩ := HC2.out
                  have hc := HEB.out.keepB hg (by decide) h9
                  exact ⟨hb.cell 0, by rw [HLO.out]; exact (hc.cell _).trans h9'.lo, hb.frozen 0⟩
                have hS0 := MKS.out wr.drew (Below.drew (Below.refl _ _))
                have hS2 := MKS.out _ (((Below.refl wr.heap.size wr).alloc (Nat.le_refl _) (.cells #[.int .u8 z] 5)).drew)
                go_region_law (first | (refine stp_appendsU rfl (.tmp 68) (.tmp 76) 33 rfl 5 Try.underlying33 u8_info w.heap.size _ _ [z] rfl (OwnU.alloc HEB.out.own _) (some ⟨wr.heap.size, 0, none⟩) 1 1 (wr.heap.size + 1) (t5 + 1) hl6.out rfl rfl (rdU_one z wr) (by intro h; cases h) hln (by simp; omega) ?_; intro A3 c3 w1 hown' hg' hbb; have hS1 := HMK.out w1 (grownBy_drew hg'.out)))
                all_goals
                  have hg2 := grownBy_drew hg'.out
                  have hpu := HEB.out.push (Nat.le_refl _) hg2 hown'.out
                  obtain ⟨c9, h9, h9'⟩ := HC2.out
                  have hbk := HEB.out.keepB hg2 (by decide) HEB.out.blk
                  have hcd := HEB.out.keepB hg2 (by decide) h9
                  have hne := hcd.ne_ hbk (by decide)
                  have HC3 : Hid (RcM (w1.setCell ⟨w.heap.size, 0, none⟩ (.slice A3 (t5 + 1) c3)) g (.func (.func 50) #[] #[.pointer (some ⟨w.heap.size, 0, none⟩)]) (rcAt xs k 0)) := Lib.hid ⟨c9, hcd.far hne _, h9'⟩
                  have hzz : z = (((be4 lo).getD q 0 : Nat) : Int) := by rw [← hz]; exact be4_get lo q hq4
                  have HJ3 : Hid (EncJ w g w.heap.size (enc k) (outAt xs k 0 ++ (be4 (rcAt xs k 0).lo).take (q + 1)) (w1.setCell ⟨w.heap.size, 0, none⟩ (.slice A3 (t5 + 1) c3))) := by
                    refine Lib.hid (hpu.toJ (Nat.le_refl _) HJ2.out.gle ?_ ?_ ⟨c9, hcd.far hne _⟩)
                    · rw [HP5.out, ← HLO.out, be4_take lo q hq4, hzz, ← List.append_assoc (outAt xs k 0), natI_append (outAt xs k 0 ++ _) [_], ← List.append_assoc]
                      rfl
                    · rw [HT5.out, ← HLO.out, be4_take lo q hq4]
                      simp only [List.length_append, List.length_singleton]
                      omega
                  clear hg2 hpu h9 h9' hbk hcd hne hzz hz hS1 hS0 hS2 q1 q2
                  go_wp2
                  go_roundw
                  case rel => exact ⟨q + 1, by omega, by go_num, HC3, HJ3⟩
                  case measure => simp [intOf]; omega
              · have hqi : ¬ ((0 : Int) ≤ 24 - 8 * (q : Int)) := by omega
                obtain rfl : q = 4 := by omega
                go_wp2
                go_ret
                have hxs : xs ≠ [] := by
                  intro e
                  have := HN.out
                  rw [e] at this
                  exact h0 this.symm
                have hall : out = pre5 := by
                  have h4 : (be4 (rcAt xs k 0).lo).take 4 = be4 (rcAt xs k 0).lo := rfl
                  rw [HO.out, HP5.out, rcPack, rcBody_cons hxs, HN.out, h4]
                have hmt : m = t5 := by rw [← HM.out, hall, hl5]
                rw [hmt, hall]
                exact ⟨A5, c5, rfl, HEB.out.own, HEB.out.bel⟩
end Go.Proofs.Ytcniepogobgaoaa
