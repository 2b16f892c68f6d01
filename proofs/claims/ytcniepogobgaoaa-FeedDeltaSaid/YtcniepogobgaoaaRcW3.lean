/-
  coder.narrow, for any function that takes the settled bytes.
-/
import Derived.Test.YtcniepogobgaoaaRcW2
import Derived.Laws.BitsAllLaws
import Derived.Test.YtcniepogobgaoaaAny
namespace Go.Proofs.Ytcniepogobgaoaa
set_option linter.unusedVariables false
set_option linter.unusedSimpArgs false
set_option maxRecDepth 4000
open Go.RowKit

theorem xor_zero_eq {a b : Nat} (h : a ^^^ b = 0) : a = b := by
  have := congrArg (· ^^^ b) h
  simpa [Nat.xor_assoc] using this
theorem xor_top_nat (a b : Nat) : (a ^^^ b) / 16777216 = 0 ↔ a / 16777216 = b / 16777216 := by
  rw [show (16777216 : Nat) = 2 ^ 24 from rfl, Nat.xor_div_two_pow]
  exact ⟨xor_zero_eq, fun h => by rw [h, Nat.xor_self]⟩
theorem xor_top {a b : Nat} (ha : a < 4294967296) (hb : b < 4294967296) : (bits BinOp.xor IntKind.u32 (a : Int) (b : Int) / 16777216 = 0) ↔ a / 16777216 = b / 16777216 := by
  rw [u32_xor_nat a b ha hb, ← xor_top_nat a b]
  omega
theorem or255 (a : Nat) (h : a % 256 = 0) : a ||| 255 = a + 255 := by
  obtain ⟨q, hq⟩ : ∃ q, a = 2 ^ 8 * q := ⟨a / 256, by omega⟩
  rw [hq, Nat.two_pow_add_eq_or_of_lt (by omega) q]
theorem or_255 (a : Nat) : bits BinOp.or IntKind.u32 ((a : Int) * 256 % 4294967296) 255 = ((a * 256 % 4294967296 + 255 : Nat) : Int) := by
  rw [show ((a : Int) * 256 % 4294967296) = ((a * 256 % 4294967296 : Nat) : Int) by omega]
  have := u32_or_nat (a * 256 % 4294967296) 255 (by omega) (by omega)
  rw [show ((255 : Nat) : Int) = (255 : Int) from rfl] at this
  rw [this, or255 _ (by omega)]
/-- A cell's number. -/
def rdn (W : World) (g i : Nat) : Nat := match W.cell? ⟨g, i, none⟩ with
  | some (.int _ z) => z.toNat
  | _ => 0
/-- What narrow asks of the function that takes the bytes, and of what is kept of it (J: the bytes so far). -/
structure Sink (F : Nat) (caps : Array Value) (g : Nat) (J : List Nat → World → Prop) : Prop where
  enter : ∀ (args : Array Value) (W : World), Sem.run Try.prog (callFunc F args) W = .ok (.enter F args) W
  set_ : ∀ (o : List Nat) (W : World) (i : Nat) (v : Value), J o W → J o (W.setCell ⟨g, i, none⟩ v)
  drew : ∀ (o : List Nat) (W : World) (n : Nat), J o W → J o (World.drewN W n)
  call : ∀ (o : List Nat) (W : World) (x : Nat), x < 256 → o.length < 1000000 → J o W → g < W.heap.size → Calls Try.prog F (#[.int .u8 (x : Int)] ++ caps) W fun e w' => e = .returned (.tuple #[]) ∧ J (o ++ [x]) w' ∧ ∀ cs, Blk W g 102 cs → Blk w' g 102 cs
set_option maxHeartbeats 40000000 in
theorem narrow_any (F : Nat) (caps : Array Value) (J : List Nat → World → Prop) (g c b : Nat) (r : Rc) (outs : List Nat) (mid : Nat) (w : World) (hs : Sink F caps g J) (hlen : outs.length < 900000) (h : RcM w g (.func (.func F) #[] caps) r) (hj : J outs w) (hok : RcOk r) (hc : c < 256) (hb : b = 0 ∨ b = 1) (hm : mid = rcMid r c) :
    Calls Try.prog 39 #[.pointer (some ⟨g, 0, none⟩), .int .i64 (c : Int), .int .u32 (mid : Int), .int .u32 (b : Int)] w fun e w' => e = .returned (.tuple #[]) ∧ RcM w' g (.func (.func F) #[] caps) (rcNext r c b) ∧ J (outs ++ rcOut r c b) w' := by
  have hmb := rcMid_bd hok c
  rw [← hm] at hmb
  have hhi := hok.hi
  have hmb2 : mid + 1 < 4294967296 := by omega
  obtain ⟨W1, hW1⟩ : ∃ W1, W1 = (if b = 1 then w.setCell ⟨g, 257, none⟩ (.int .u32 (mid : Int)) else w.setCell ⟨g, 256, none⟩ (.int .u32 ((mid + 1 : Nat) : Int))) := ⟨_, rfl⟩
  have hR1 : RcM W1 g (.func (.func F) #[] caps) ⟨r.p, rcLo r c b, rcHi r c b⟩ := by
    rw [hW1]
    unfold rcLo rcHi
    rw [← hm]
    split
    · exact h.sethi mid
    · exact h.setlo (mid + 1)
  have hJ1 : J outs W1 := by
    rw [hW1]
    split
    · exact hs.set_ _ _ _ _ hj
    · exact hs.set_ _ _ _ _ hj
  obtain ⟨l1, l2, l3, l4⟩ := rcLo_le hok c b
  have HOK := Lib.hid hok.p
  obtain ⟨cs, hblk, hcs⟩ := h
  have f1 := hblk.frozen 257
  have f2 := hblk.frozen 256
  have q1 : w.cell? ⟨g, 256, none⟩ = some (.int .u32 (r.lo : Int)) := (hblk.cell _).trans hcs.lo
  have q2 : w.cell? ⟨g, 257, none⟩ = some (.int .u32 (r.hi : Int)) := (hblk.cell _).trans hcs.hi
  have HS := Lib.hid hs
  have HR1 := Lib.hid hR1
  have HJ1 := Lib.hid hJ1
  have HW1 := Lib.hid hW1
  clear hs hR1 hJ1 hblk hcs hj hW1 hok hm
  go_enter Try.func39, Try.ntmps39
  rcases hb with rfl | rfl
  · rw [show ((0 : Nat) : Int) = 0 from rfl]
    go_upto_region 3 with (fail)
    rw [show w.setCell ⟨g, 256, none⟩ (.int .u32 ((mid : Int) + 1)) = W1 by rw [HW1.out]; rfl]
    go_wp2_with fail
    refine (update_any g c 0 _ _ W1 HR1.out HOK.out hc (.inl rfl)).mono ?_
    rintro e w2 ⟨rfl, n, rfl⟩
    have HR2 := Lib.hid (HR1.out.upd (b := 0) hc n)
    have HJ2 := Lib.hid (HS.out.drew _ _ n (HS.out.set_ _ _ c (.int .u32 (rcUpd r.p c 0 c : Int)) HJ1.out))
    obtain ⟨w2, hw2⟩ : ∃ w2, w2 = (W1.setCell ⟨g, c, none⟩ (.int .u32 (rcUpd r.p c 0 c : Int))).drewN n := ⟨_, rfl⟩
    rw [← hw2] at HR2 HJ2
    simp only [] at hw2 ⊢
    rw [← hw2]
    clear hw2 HR1 HJ1 HW1 f1 f2 q1 q2
    obtain ⟨p1, hp1⟩ : ∃ p1, p1 = rcUpd r.p c 0 := ⟨_, rfl⟩
    obtain ⟨L0, hL0⟩ : ∃ L, L = rcLo r c 0 := ⟨_, rfl⟩
    obtain ⟨H0, hH0⟩ : ∃ L, L = rcHi r c 0 := ⟨_, rfl⟩
    simp only [] at HR2
    rw [← hp1, ← hL0, ← hH0] at HR2
    rw [← hL0, ← hH0] at l1
    rw [← hH0] at l2
    have HP1 := Lib.hid hp1
    have HL0 := Lib.hid hL0
    have HH0 := Lib.hid hH0
    clear hp1 hL0 hH0
    obtain ⟨fin, hfin⟩ : ∃ fin, fin = rcShift 5 L0 H0 := ⟨_, rfl⟩
    have HFIN := Lib.hid hfin
    have hcl := (show w2.cell? ⟨g, 256, none⟩ = some (.int .u32 (L0 : Int)) from (by obtain ⟨cs', h1, h2⟩ := HR2.out; exact (h1.cell _).trans h2.lo))
    have hch := (show w2.cell? ⟨g, 257, none⟩ = some (.int .u32 (H0 : Int)) from (by obtain ⟨cs', h1, h2⟩ := HR2.out; exact (h1.cell _).trans h2.hi))
    clear hcl hch hfin
    go_wp2
    go_loopw [] (fun W => ∃ (k f lo hi : Nat) (o : List Nat), f + k = 5 ∧ Hid (o.length = k) ∧ Hid (fin = (o ++ (rcShift f lo hi).1, (rcShift f lo hi).2)) ∧ Hid (RcM W g (.func (.func F) #[] caps) ⟨p1, lo, hi⟩) ∧ Hid (J (outs ++ o) W) ∧ lo ≤ hi ∧ hi < 4294967296 ∧ Hid (lo % 256 ^ k = 0) ∧ Hid (hi % 256 ^ k = 256 ^ k - 1)) (fun W => 4294967296 - (rdn W g 257 - rdn W g 256))
    case atStart => exact ⟨0, 5, L0, H0, [], rfl, Lib.hid rfl, Lib.hid HFIN.out, HR2, Lib.hid (by rw [List.append_nil]; exact HJ2.out), l1, l2, Lib.hid (Nat.mod_one _), Lib.hid (Nat.mod_one _)⟩
    case round =>
      obtain ⟨k, f, lo, hi, o, hfk, HOL, HF, HR, HJ, hle, hlt, HK1, HK2⟩ := hrel
      obtain ⟨cs', c1, c2⟩ := HR.out
      have q1 : wr.cell? ⟨g, 256, none⟩ = some (.int .u32 (lo : Int)) := (c1.cell _).trans c2.lo
      have q2 : wr.cell? ⟨g, 257, none⟩ = some (.int .u32 (hi : Int)) := (c1.cell _).trans c2.hi
      have q3 : wr.cell? ⟨g, 258, none⟩ = some (.func (.func F) #[] caps) := (c1.cell _).trans c2.fn
      have HD1 : Hid (rdn wr g 256 = lo) := Lib.hid (by unfold rdn; rw [q1]; rfl)
      have HD2 : Hid (rdn wr g 257 = hi) := Lib.hid (by unfold rdn; rw [q2]; rfl)
      clear c1 c2
      by_cases he : lo / 16777216 = hi / 16777216
      · have hx : (bits BinOp.xor IntKind.u32 (lo : Int) (hi : Int) / 16777216 == 0) = true := beq_iff_eq.2 ((xor_top (by omega) hlt).2 he)
        have HO2 := Lib.hid (or_255 hi)
        go_upto_region 4 with (fail)
        go_quiet (fail)
        obtain ⟨w3, hw3⟩ : ∃ w3, w3 = wr.drewN nq := ⟨_, rfl⟩
        have q1' : w3.cell? ⟨g, 256, none⟩ = some (.int .u32 (lo : Int)) := by rw [hw3]; exact q1
        have q2' : w3.cell? ⟨g, 257, none⟩ = some (.int .u32 (hi : Int)) := by rw [hw3]; exact q2
        have q3' : w3.cell? ⟨g, 258, none⟩ = some (.func (.func F) #[] caps) := by rw [hw3]; exact q3
        rw [← hw3]
        have HR3 : Hid (RcM w3 g (.func (.func F) #[] caps) ⟨p1, lo, hi⟩) := by rw [hw3]; exact HR.out
        have HJ3 : Hid (J (outs ++ o) w3) := by rw [hw3]; exact HS.out.drew _ _ _ HJ.out
        clear q1 q2 q3 hw3
        go_upto_region 5 with (fail)
        go_still_tail 10, (by kernel_rfl)
        change wpList _ _ _ _ _ (World.drewN w3 1)
        go_wp2_with fail
        rw [HS.out.enter, Oper.upon_enter, show ((hi : Int) / 16777216) = ((hi / 16777216 : Nat) : Int) by omega]
        refine (HS.out.call (outs ++ o) (w3.drewN 1) (hi / 16777216) (by omega) (by rw [List.length_append, HOL.out]; omega) (HS.out.drew _ _ _ HJ3.out) (by obtain ⟨c9, h9, _⟩ := HR3.out; exact h9.lt)).mono ?_
        rintro e w4 ⟨rfl, hj4, hk4⟩
        have HR4 : Hid (RcM w4 g (.func (.func F) #[] caps) ⟨p1, lo, hi⟩) := by
          obtain ⟨c9, h9, h9'⟩ := HR3.out
          exact ⟨c9, hk4 _ (h9.drewN 1), h9'⟩
        have HJ4 := Lib.hid hj4
        clear hj4 hk4 q1' q2' q3' HR3 HJ3
        obtain ⟨c9, h9, h9'⟩ := HR4.out
        have q1 : w4.cell? ⟨g, 256, none⟩ = some (.int .u32 (lo : Int)) := (h9.cell _).trans h9'.lo
        have q2 : w4.cell? ⟨g, 257, none⟩ = some (.int .u32 (hi : Int)) := (h9.cell _).trans h9'.hi
        have f1 := h9.frozen 256
        have f2 := h9.frozen 257
        clear h9 h9'
        go_upto_region 6 with (fail)
        refine region_start ?_
        intro a0 ha0
        have hsz : a0.tmps.size = 64 := by rw [ha0]; rfl
        have q0 : a0.tmps[0]? = some (.pointer (some ⟨g, 0, none⟩)) := by rw [ha0]; rfl
        refine wp_region_inv (by kernel_rfl) (fun L a W => Fr a0 [47, 48, 49, 50, 51, 52, 53, 54, 55, 56, 57, 58, 59, 60, 61, 62, 63] a ∧ (RcM W g (.func (.func F) #[] caps) ⟨p1, (if L 15 = true then lo * 256 % 4294967296 else lo), (if L 18 = true then hi * 256 % 4294967296 + 255 else hi)⟩ ∧ J ((outs ++ o) ++ [hi / 16777216]) W) ∧ (L 0 = true → a.tmps[47]? = some (.pointer (some ⟨g, 0, none⟩))) ∧ (L 1 = true → a.tmps[48]? = some (.pointer (some ⟨g, 0, none⟩))) ∧ (L 2 = true → a.tmps[49]? = some (.pointer (some ⟨g, 0, none⟩))) ∧ (L 3 = true → a.tmps[50]? = some (.pointer (some ⟨g, 0, none⟩))) ∧ (L 4 = true → a.tmps[51]? = some (.pointer (some ⟨g, 256, none⟩))) ∧ (L 5 = true → a.tmps[52]? = some (.int .u32 (lo : Int))) ∧ (L 6 = true → a.tmps[53]? = some (.int .u32 ((lo * 256 % 4294967296 : Nat) : Int))) ∧ (L 7 = true → a.tmps[54]? = some (.pointer (some ⟨g, 0, none⟩))) ∧ (L 8 = true → a.tmps[55]? = some (.pointer (some ⟨g, 0, none⟩))) ∧ (L 9 = true → a.tmps[56]? = some (.pointer (some ⟨g, 257, none⟩))) ∧ (L 10 = true → a.tmps[57]? = some (.int .u32 (hi : Int))) ∧ (L 11 = true → a.tmps[58]? = some (.int .u32 (IntKind.u32.wrap ((hi : Int) * 256)))) ∧ (L 12 = true → a.tmps[59]? = some (.int .u32 ((hi * 256 % 4294967296 + 255 : Nat) : Int))) ∧ (L 13 = true → a.tmps[60]? = some (.pointer (some ⟨g, 0, none⟩))) ∧ (L 14 = true → a.tmps[61]? = some (.pointer (some ⟨g, 256, none⟩))) ∧ (L 16 = true → a.tmps[62]? = some (.pointer (some ⟨g, 0, none⟩))) ∧ (L 17 = true → a.tmps[63]? = some (.pointer (some ⟨g, 257, none⟩)))) [[], [], [], [2], [3], [4], [5], [], [7], [8], [9], [10], [11], [0], [13], [14, 6], [1], [16], [17, 12]] (by kernel_rfl) ?_ ?_ ?_
        · exact ⟨Fr.refl _ _, ⟨HR4.out, HS.out.drew _ _ 1 HJ4.out⟩, (fun h => by cases h), (fun h => by cases h), (fun h => by cases h), (fun h => by cases h), (fun h => by cases h), (fun h => by cases h), (fun h => by cases h), (fun h => by cases h), (fun h => by cases h), (fun h => by cases h), (fun h => by cases h), (fun h => by cases h), (fun h => by cases h), (fun h => by cases h), (fun h => by cases h), (fun h => by cases h), (fun h => by cases h)⟩
        · intro i hix
          clear ha0
          match i, hix with
          | 0, _ =>
            rintro L a W ⟨hF, hE, h0, h1, h2, h3, h4, h5, h6, h7, h8, h9, h10, h11, h12, h13, h14, h16, h17⟩ hclo hL hd
            have x0 := (hF.same 0 (by decide)).trans q0
            refine wpOp_yes rfl rfl (fun K hK => ?_)
            go_simp
            refine hK _ _ ?_
            exact ⟨hF.put (by decide) _, hE, (fun _ => put_same (by rw [hF.size, hsz]; decide) _), (fun h => (put_other (by decide) _).trans (h1 h)), (fun h => (put_other (by decide) _).trans (h2 h)), (fun h => (put_other (by decide) _).trans (h3 h)), (fun h => (put_other (by decide) _).trans (h4 h)), (fun h => (put_other (by decide) _).trans (h5 h)), (fun h => (put_other (by decide) _).trans (h6 h)), (fun h => (put_other (by decide) _).trans (h7 h)), (fun h => (put_other (by decide) _).trans (h8 h)), (fun h => (put_other (by decide) _).trans (h9 h)), (fun h => (put_other (by decide) _).trans (h10 h)), (fun h => (put_other (by decide) _).trans (h11 h)), (fun h => (put_other (by decide) _).trans (h12 h)), (fun h => (put_other (by decide) _).trans (h13 h)), (fun h => (put_other (by decide) _).trans (h14 h)), (fun h => (put_other (by decide) _).trans (h16 h)), (fun h => (put_other (by decide) _).trans (h17 h))⟩
          | 1, _ =>
            rintro L a W ⟨hF, hE, h0, h1, h2, h3, h4, h5, h6, h7, h8, h9, h10, h11, h12, h13, h14, h16, h17⟩ hclo hL hd
            have x0 := (hF.same 0 (by decide)).trans q0
            refine wpOp_yes rfl rfl (fun K hK => ?_)
            go_simp
            refine hK _ _ ?_
            exact ⟨hF.put (by decide) _, hE, (fun h => (put_other (by decide) _).trans (h0 h)), (fun _ => put_same (by rw [hF.size, hsz]; decide) _), (fun h => (put_other (by decide) _).trans (h2 h)), (fun h => (put_other (by decide) _).trans (h3 h)), (fun h => (put_other (by decide) _).trans (h4 h)), (fun h => (put_other (by decide) _).trans (h5 h)), (fun h => (put_other (by decide) _).trans (h6 h)), (fun h => (put_other (by decide) _).trans (h7 h)), (fun h => (put_other (by decide) _).trans (h8 h)), (fun h => (put_other (by decide) _).trans (h9 h)), (fun h => (put_other (by decide) _).trans (h10 h)), (fun h => (put_other (by decide) _).trans (h11 h)), (fun h => (put_other (by decide) _).trans (h12 h)), (fun h => (put_other (by decide) _).trans (h13 h)), (fun h => (put_other (by decide) _).trans (h14 h)), (fun h => (put_other (by decide) _).trans (h16 h)), (fun h => (put_other (by decide) _).trans (h17 h))⟩
          | 2, _ =>
            rintro L a W ⟨hF, hE, h0, h1, h2, h3, h4, h5, h6, h7, h8, h9, h10, h11, h12, h13, h14, h16, h17⟩ hclo hL hd
            have x0 := (hF.same 0 (by decide)).trans q0
            refine wpOp_yes rfl rfl (fun K hK => ?_)
            go_simp
            refine hK _ _ ?_
            exact ⟨hF.put (by decide) _, hE, (fun h => (put_other (by decide) _).trans (h0 h)), (fun h => (put_other (by decide) _).trans (h1 h)), (fun _ => put_same (by rw [hF.size, hsz]; decide) _), (fun h => (put_other (by decide) _).trans (h3 h)), (fun h => (put_other (by decide) _).trans (h4 h)), (fun h => (put_other (by decide) _).trans (h5 h)), (fun h => (put_other (by decide) _).trans (h6 h)), (fun h => (put_other (by decide) _).trans (h7 h)), (fun h => (put_other (by decide) _).trans (h8 h)), (fun h => (put_other (by decide) _).trans (h9 h)), (fun h => (put_other (by decide) _).trans (h10 h)), (fun h => (put_other (by decide) _).trans (h11 h)), (fun h => (put_other (by decide) _).trans (h12 h)), (fun h => (put_other (by decide) _).trans (h13 h)), (fun h => (put_other (by decide) _).trans (h14 h)), (fun h => (put_other (by decide) _).trans (h16 h)), (fun h => (put_other (by decide) _).trans (h17 h))⟩
          | 3, _ =>
            rintro L a W ⟨hF, hE, h0, h1, h2, h3, h4, h5, h6, h7, h8, h9, h10, h11, h12, h13, h14, h16, h17⟩ hclo hL hd
            have x49 := h2 (all_mem hd (by decide))
            refine wpOp_yes rfl rfl (fun K hK => ?_)
            go_simp
            refine hK _ _ ?_
            exact ⟨hF.put (by decide) _, hE, (fun h => (put_other (by decide) _).trans (h0 h)), (fun h => (put_other (by decide) _).trans (h1 h)), (fun h => (put_other (by decide) _).trans (h2 h)), (fun _ => put_same (by rw [hF.size, hsz]; decide) _), (fun h => (put_other (by decide) _).trans (h4 h)), (fun h => (put_other (by decide) _).trans (h5 h)), (fun h => (put_other (by decide) _).trans (h6 h)), (fun h => (put_other (by decide) _).trans (h7 h)), (fun h => (put_other (by decide) _).trans (h8 h)), (fun h => (put_other (by decide) _).trans (h9 h)), (fun h => (put_other (by decide) _).trans (h10 h)), (fun h => (put_other (by decide) _).trans (h11 h)), (fun h => (put_other (by decide) _).trans (h12 h)), (fun h => (put_other (by decide) _).trans (h13 h)), (fun h => (put_other (by decide) _).trans (h14 h)), (fun h => (put_other (by decide) _).trans (h16 h)), (fun h => (put_other (by decide) _).trans (h17 h))⟩
          | 4, _ =>
            rintro L a W ⟨hF, hE, h0, h1, h2, h3, h4, h5, h6, h7, h8, h9, h10, h11, h12, h13, h14, h16, h17⟩ hclo hL hd
            have x50 := h3 (all_mem hd (by decide))
            refine wpOp_yes rfl rfl (fun K hK => ?_)
            go_simp
            refine hK _ _ ?_
            exact ⟨hF.put (by decide) _, hE, (fun h => (put_other (by decide) _).trans (h0 h)), (fun h => (put_other (by decide) _).trans (h1 h)), (fun h => (put_other (by decide) _).trans (h2 h)), (fun h => (put_other (by decide) _).trans (h3 h)), (fun _ => put_same (by rw [hF.size, hsz]; decide) _), (fun h => (put_other (by decide) _).trans (h5 h)), (fun h => (put_other (by decide) _).trans (h6 h)), (fun h => (put_other (by decide) _).trans (h7 h)), (fun h => (put_other (by decide) _).trans (h8 h)), (fun h => (put_other (by decide) _).trans (h9 h)), (fun h => (put_other (by decide) _).trans (h10 h)), (fun h => (put_other (by decide) _).trans (h11 h)), (fun h => (put_other (by decide) _).trans (h12 h)), (fun h => (put_other (by decide) _).trans (h13 h)), (fun h => (put_other (by decide) _).trans (h14 h)), (fun h => (put_other (by decide) _).trans (h16 h)), (fun h => (put_other (by decide) _).trans (h17 h))⟩
          | 5, _ =>
            rintro L a W ⟨hF, hE, h0, h1, h2, h3, h4, h5, h6, h7, h8, h9, h10, h11, h12, h13, h14, h16, h17⟩ hclo hL hd
            have x51 := h4 (all_mem hd (by decide))
            refine wpOp_yes rfl rfl (fun K hK => ?_)
            have n15 : L 15 = false := by
              cases h : L 15 with
              | false => rfl
              | true => exact absurd (all_mem (d := 5) (hclo 6 (all_mem (d := 6) (hclo 15 h) (by decide))) (by decide)) (by rw [hL]; exact Bool.false_ne_true)
            have hc : W.cell? ⟨g, 256, none⟩ = some (.int .u32 (lo : Int)) := by
              obtain ⟨c9, h9, h9'⟩ := hE.1
              have := (h9.cell 256).trans h9'.lo
              rw [n15] at this; exact this
            go_simp
            refine hK _ _ ?_
            exact ⟨hF.put (by decide) _, hE, (fun h => (put_other (by decide) _).trans (h0 h)), (fun h => (put_other (by decide) _).trans (h1 h)), (fun h => (put_other (by decide) _).trans (h2 h)), (fun h => (put_other (by decide) _).trans (h3 h)), (fun h => (put_other (by decide) _).trans (h4 h)), (fun _ => put_same (by rw [hF.size, hsz]; decide) _), (fun h => (put_other (by decide) _).trans (h6 h)), (fun h => (put_other (by decide) _).trans (h7 h)), (fun h => (put_other (by decide) _).trans (h8 h)), (fun h => (put_other (by decide) _).trans (h9 h)), (fun h => (put_other (by decide) _).trans (h10 h)), (fun h => (put_other (by decide) _).trans (h11 h)), (fun h => (put_other (by decide) _).trans (h12 h)), (fun h => (put_other (by decide) _).trans (h13 h)), (fun h => (put_other (by decide) _).trans (h14 h)), (fun h => (put_other (by decide) _).trans (h16 h)), (fun h => (put_other (by decide) _).trans (h17 h))⟩
          | 6, _ =>
            rintro L a W ⟨hF, hE, h0, h1, h2, h3, h4, h5, h6, h7, h8, h9, h10, h11, h12, h13, h14, h16, h17⟩ hclo hL hd
            have x52 := h5 (all_mem hd (by decide))
            refine wpOp_yes rfl rfl (fun K hK => ?_)
            go_simp
            rw [show IntKind.u32.wrap ((lo : Int) * 256) = ((lo * 256 % 4294967296 : Nat) : Int) by rw [IntKind.wrap_u32]; omega]
            refine hK _ _ ?_
            exact ⟨hF.put (by decide) _, hE, (fun h => (put_other (by decide) _).trans (h0 h)), (fun h => (put_other (by decide) _).trans (h1 h)), (fun h => (put_other (by decide) _).trans (h2 h)), (fun h => (put_other (by decide) _).trans (h3 h)), (fun h => (put_other (by decide) _).trans (h4 h)), (fun h => (put_other (by decide) _).trans (h5 h)), (fun _ => put_same (by rw [hF.size, hsz]; decide) _), (fun h => (put_other (by decide) _).trans (h7 h)), (fun h => (put_other (by decide) _).trans (h8 h)), (fun h => (put_other (by decide) _).trans (h9 h)), (fun h => (put_other (by decide) _).trans (h10 h)), (fun h => (put_other (by decide) _).trans (h11 h)), (fun h => (put_other (by decide) _).trans (h12 h)), (fun h => (put_other (by decide) _).trans (h13 h)), (fun h => (put_other (by decide) _).trans (h14 h)), (fun h => (put_other (by decide) _).trans (h16 h)), (fun h => (put_other (by decide) _).trans (h17 h))⟩
          | 7, _ =>
            rintro L a W ⟨hF, hE, h0, h1, h2, h3, h4, h5, h6, h7, h8, h9, h10, h11, h12, h13, h14, h16, h17⟩ hclo hL hd
            have x0 := (hF.same 0 (by decide)).trans q0
            refine wpOp_yes rfl rfl (fun K hK => ?_)
            go_simp
            refine hK _ _ ?_
            exact ⟨hF.put (by decide) _, hE, (fun h => (put_other (by decide) _).trans (h0 h)), (fun h => (put_other (by decide) _).trans (h1 h)), (fun h => (put_other (by decide) _).trans (h2 h)), (fun h => (put_other (by decide) _).trans (h3 h)), (fun h => (put_other (by decide) _).trans (h4 h)), (fun h => (put_other (by decide) _).trans (h5 h)), (fun h => (put_other (by decide) _).trans (h6 h)), (fun _ => put_same (by rw [hF.size, hsz]; decide) _), (fun h => (put_other (by decide) _).trans (h8 h)), (fun h => (put_other (by decide) _).trans (h9 h)), (fun h => (put_other (by decide) _).trans (h10 h)), (fun h => (put_other (by decide) _).trans (h11 h)), (fun h => (put_other (by decide) _).trans (h12 h)), (fun h => (put_other (by decide) _).trans (h13 h)), (fun h => (put_other (by decide) _).trans (h14 h)), (fun h => (put_other (by decide) _).trans (h16 h)), (fun h => (put_other (by decide) _).trans (h17 h))⟩
          | 8, _ =>
            rintro L a W ⟨hF, hE, h0, h1, h2, h3, h4, h5, h6, h7, h8, h9, h10, h11, h12, h13, h14, h16, h17⟩ hclo hL hd
            have x54 := h7 (all_mem hd (by decide))
            refine wpOp_yes rfl rfl (fun K hK => ?_)
            go_simp
            refine hK _ _ ?_
            exact ⟨hF.put (by decide) _, hE, (fun h => (put_other (by decide) _).trans (h0 h)), (fun h => (put_other (by decide) _).trans (h1 h)), (fun h => (put_other (by decide) _).trans (h2 h)), (fun h => (put_other (by decide) _).trans (h3 h)), (fun h => (put_other (by decide) _).trans (h4 h)), (fun h => (put_other (by decide) _).trans (h5 h)), (fun h => (put_other (by decide) _).trans (h6 h)), (fun h => (put_other (by decide) _).trans (h7 h)), (fun _ => put_same (by rw [hF.size, hsz]; decide) _), (fun h => (put_other (by decide) _).trans (h9 h)), (fun h => (put_other (by decide) _).trans (h10 h)), (fun h => (put_other (by decide) _).trans (h11 h)), (fun h => (put_other (by decide) _).trans (h12 h)), (fun h => (put_other (by decide) _).trans (h13 h)), (fun h => (put_other (by decide) _).trans (h14 h)), (fun h => (put_other (by decide) _).trans (h16 h)), (fun h => (put_other (by decide) _).trans (h17 h))⟩
          | 9, _ =>
            rintro L a W ⟨hF, hE, h0, h1, h2, h3, h4, h5, h6, h7, h8, h9, h10, h11, h12, h13, h14, h16, h17⟩ hclo hL hd
            have x55 := h8 (all_mem hd (by decide))
            refine wpOp_yes rfl rfl (fun K hK => ?_)
            go_simp
            refine hK _ _ ?_
            exact ⟨hF.put (by decide) _, hE, (fun h => (put_other (by decide) _).trans (h0 h)), (fun h => (put_other (by decide) _).trans (h1 h)), (fun h => (put_other (by decide) _).trans (h2 h)), (fun h => (put_other (by decide) _).trans (h3 h)), (fun h => (put_other (by decide) _).trans (h4 h)), (fun h => (put_other (by decide) _).trans (h5 h)), (fun h => (put_other (by decide) _).trans (h6 h)), (fun h => (put_other (by decide) _).trans (h7 h)), (fun h => (put_other (by decide) _).trans (h8 h)), (fun _ => put_same (by rw [hF.size, hsz]; decide) _), (fun h => (put_other (by decide) _).trans (h10 h)), (fun h => (put_other (by decide) _).trans (h11 h)), (fun h => (put_other (by decide) _).trans (h12 h)), (fun h => (put_other (by decide) _).trans (h13 h)), (fun h => (put_other (by decide) _).trans (h14 h)), (fun h => (put_other (by decide) _).trans (h16 h)), (fun h => (put_other (by decide) _).trans (h17 h))⟩
          | 10, _ =>
            rintro L a W ⟨hF, hE, h0, h1, h2, h3, h4, h5, h6, h7, h8, h9, h10, h11, h12, h13, h14, h16, h17⟩ hclo hL hd
            have x56 := h9 (all_mem hd (by decide))
            refine wpOp_yes rfl rfl (fun K hK => ?_)
            have n18 : L 18 = false := by
              cases h : L 18 with
              | false => rfl
              | true => exact absurd (all_mem (d := 10) (hclo 11 (all_mem (d := 11) (hclo 12 (all_mem (d := 12) (hclo 18 h) (by decide))) (by decide))) (by decide)) (by rw [hL]; exact Bool.false_ne_true)
            have hc : W.cell? ⟨g, 257, none⟩ = some (.int .u32 (hi : Int)) := by
              obtain ⟨c9, h9, h9'⟩ := hE.1
              have := (h9.cell 257).trans h9'.hi
              rw [n18] at this; exact this
            go_simp
            refine hK _ _ ?_
            exact ⟨hF.put (by decide) _, hE, (fun h => (put_other (by decide) _).trans (h0 h)), (fun h => (put_other (by decide) _).trans (h1 h)), (fun h => (put_other (by decide) _).trans (h2 h)), (fun h => (put_other (by decide) _).trans (h3 h)), (fun h => (put_other (by decide) _).trans (h4 h)), (fun h => (put_other (by decide) _).trans (h5 h)), (fun h => (put_other (by decide) _).trans (h6 h)), (fun h => (put_other (by decide) _).trans (h7 h)), (fun h => (put_other (by decide) _).trans (h8 h)), (fun h => (put_other (by decide) _).trans (h9 h)), (fun _ => put_same (by rw [hF.size, hsz]; decide) _), (fun h => (put_other (by decide) _).trans (h11 h)), (fun h => (put_other (by decide) _).trans (h12 h)), (fun h => (put_other (by decide) _).trans (h13 h)), (fun h => (put_other (by decide) _).trans (h14 h)), (fun h => (put_other (by decide) _).trans (h16 h)), (fun h => (put_other (by decide) _).trans (h17 h))⟩
          | 11, _ =>
            rintro L a W ⟨hF, hE, h0, h1, h2, h3, h4, h5, h6, h7, h8, h9, h10, h11, h12, h13, h14, h16, h17⟩ hclo hL hd
            have x57 := h10 (all_mem hd (by decide))
            refine wpOp_yes rfl rfl (fun K hK => ?_)
            go_simp
            refine hK _ _ ?_
            exact ⟨hF.put (by decide) _, hE, (fun h => (put_other (by decide) _).trans (h0 h)), (fun h => (put_other (by decide) _).trans (h1 h)), (fun h => (put_other (by decide) _).trans (h2 h)), (fun h => (put_other (by decide) _).trans (h3 h)), (fun h => (put_other (by decide) _).trans (h4 h)), (fun h => (put_other (by decide) _).trans (h5 h)), (fun h => (put_other (by decide) _).trans (h6 h)), (fun h => (put_other (by decide) _).trans (h7 h)), (fun h => (put_other (by decide) _).trans (h8 h)), (fun h => (put_other (by decide) _).trans (h9 h)), (fun h => (put_other (by decide) _).trans (h10 h)), (fun _ => put_same (by rw [hF.size, hsz]; decide) _), (fun h => (put_other (by decide) _).trans (h12 h)), (fun h => (put_other (by decide) _).trans (h13 h)), (fun h => (put_other (by decide) _).trans (h14 h)), (fun h => (put_other (by decide) _).trans (h16 h)), (fun h => (put_other (by decide) _).trans (h17 h))⟩
          | 12, _ =>
            rintro L a W ⟨hF, hE, h0, h1, h2, h3, h4, h5, h6, h7, h8, h9, h10, h11, h12, h13, h14, h16, h17⟩ hclo hL hd
            have x58 := h11 (all_mem hd (by decide))
            refine wpOp_yes rfl rfl (fun K hK => ?_)
            go_simp
            rw [IntKind.wrap_u32, HO2.out]
            refine hK _ _ ?_
            exact ⟨hF.put (by decide) _, hE, (fun h => (put_other (by decide) _).trans (h0 h)), (fun h => (put_other (by decide) _).trans (h1 h)), (fun h => (put_other (by decide) _).trans (h2 h)), (fun h => (put_other (by decide) _).trans (h3 h)), (fun h => (put_other (by decide) _).trans (h4 h)), (fun h => (put_other (by decide) _).trans (h5 h)), (fun h => (put_other (by decide) _).trans (h6 h)), (fun h => (put_other (by decide) _).trans (h7 h)), (fun h => (put_other (by decide) _).trans (h8 h)), (fun h => (put_other (by decide) _).trans (h9 h)), (fun h => (put_other (by decide) _).trans (h10 h)), (fun h => (put_other (by decide) _).trans (h11 h)), (fun _ => put_same (by rw [hF.size, hsz]; decide) _), (fun h => (put_other (by decide) _).trans (h13 h)), (fun h => (put_other (by decide) _).trans (h14 h)), (fun h => (put_other (by decide) _).trans (h16 h)), (fun h => (put_other (by decide) _).trans (h17 h))⟩
          | 13, _ =>
            rintro L a W ⟨hF, hE, h0, h1, h2, h3, h4, h5, h6, h7, h8, h9, h10, h11, h12, h13, h14, h16, h17⟩ hclo hL hd
            have x47 := h0 (all_mem hd (by decide))
            refine wpOp_yes rfl rfl (fun K hK => ?_)
            go_simp
            refine hK _ _ ?_
            exact ⟨hF.put (by decide) _, hE, (fun h => (put_other (by decide) _).trans (h0 h)), (fun h => (put_other (by decide) _).trans (h1 h)), (fun h => (put_other (by decide) _).trans (h2 h)), (fun h => (put_other (by decide) _).trans (h3 h)), (fun h => (put_other (by decide) _).trans (h4 h)), (fun h => (put_other (by decide) _).trans (h5 h)), (fun h => (put_other (by decide) _).trans (h6 h)), (fun h => (put_other (by decide) _).trans (h7 h)), (fun h => (put_other (by decide) _).trans (h8 h)), (fun h => (put_other (by decide) _).trans (h9 h)), (fun h => (put_other (by decide) _).trans (h10 h)), (fun h => (put_other (by decide) _).trans (h11 h)), (fun h => (put_other (by decide) _).trans (h12 h)), (fun _ => put_same (by rw [hF.size, hsz]; decide) _), (fun h => (put_other (by decide) _).trans (h14 h)), (fun h => (put_other (by decide) _).trans (h16 h)), (fun h => (put_other (by decide) _).trans (h17 h))⟩
          | 14, _ =>
            rintro L a W ⟨hF, hE, h0, h1, h2, h3, h4, h5, h6, h7, h8, h9, h10, h11, h12, h13, h14, h16, h17⟩ hclo hL hd
            have x60 := h13 (all_mem hd (by decide))
            refine wpOp_yes rfl rfl (fun K hK => ?_)
            go_simp
            refine hK _ _ ?_
            exact ⟨hF.put (by decide) _, hE, (fun h => (put_other (by decide) _).trans (h0 h)), (fun h => (put_other (by decide) _).trans (h1 h)), (fun h => (put_other (by decide) _).trans (h2 h)), (fun h => (put_other (by decide) _).trans (h3 h)), (fun h => (put_other (by decide) _).trans (h4 h)), (fun h => (put_other (by decide) _).trans (h5 h)), (fun h => (put_other (by decide) _).trans (h6 h)), (fun h => (put_other (by decide) _).trans (h7 h)), (fun h => (put_other (by decide) _).trans (h8 h)), (fun h => (put_other (by decide) _).trans (h9 h)), (fun h => (put_other (by decide) _).trans (h10 h)), (fun h => (put_other (by decide) _).trans (h11 h)), (fun h => (put_other (by decide) _).trans (h12 h)), (fun h => (put_other (by decide) _).trans (h13 h)), (fun _ => put_same (by rw [hF.size, hsz]; decide) _), (fun h => (put_other (by decide) _).trans (h16 h)), (fun h => (put_other (by decide) _).trans (h17 h))⟩
          | 15, _ =>
            rintro L a W ⟨hF, hE, h0, h1, h2, h3, h4, h5, h6, h7, h8, h9, h10, h11, h12, h13, h14, h16, h17⟩ hclo hL hd
            have x61 := h14 (all_mem hd (by decide))
            have x53 := h6 (all_mem hd (by decide))
            refine wpOp_yes rfl rfl (fun K hK => ?_)
            obtain ⟨c9, h9, h9'⟩ := hE.1
            have e1 := h9.cell 256
            have e2 := h9.frozen 256
            have e3 := h9'.lo
            have hE1 := hE.1.setlo (lo * 256 % 4294967296)
            have hE2 := HS.out.set_ _ _ 256 (.int .u32 ((lo * 256 % 4294967296 : Nat) : Int)) hE.2
            rw [e3] at e1
            clear h9 h9' e3
            go_simp
            refine hK _ _ ?_
            exact ⟨hF, ⟨hE1, hE2⟩, (fun h => h0 h), (fun h => h1 h), (fun h => h2 h), (fun h => h3 h), (fun h => h4 h), (fun h => h5 h), (fun h => h6 h), (fun h => h7 h), (fun h => h8 h), (fun h => h9 h), (fun h => h10 h), (fun h => h11 h), (fun h => h12 h), (fun h => h13 h), (fun h => h14 h), (fun h => h16 h), (fun h => h17 h)⟩
          | 16, _ =>
            rintro L a W ⟨hF, hE, h0, h1, h2, h3, h4, h5, h6, h7, h8, h9, h10, h11, h12, h13, h14, h16, h17⟩ hclo hL hd
            have x48 := h1 (all_mem hd (by decide))
            refine wpOp_yes rfl rfl (fun K hK => ?_)
            go_simp
            refine hK _ _ ?_
            exact ⟨hF.put (by decide) _, hE, (fun h => (put_other (by decide) _).trans (h0 h)), (fun h => (put_other (by decide) _).trans (h1 h)), (fun h => (put_other (by decide) _).trans (h2 h)), (fun h => (put_other (by decide) _).trans (h3 h)), (fun h => (put_other (by decide) _).trans (h4 h)), (fun h => (put_other (by decide) _).trans (h5 h)), (fun h => (put_other (by decide) _).trans (h6 h)), (fun h => (put_other (by decide) _).trans (h7 h)), (fun h => (put_other (by decide) _).trans (h8 h)), (fun h => (put_other (by decide) _).trans (h9 h)), (fun h => (put_other (by decide) _).trans (h10 h)), (fun h => (put_other (by decide) _).trans (h11 h)), (fun h => (put_other (by decide) _).trans (h12 h)), (fun h => (put_other (by decide) _).trans (h13 h)), (fun h => (put_other (by decide) _).trans (h14 h)), (fun _ => put_same (by rw [hF.size, hsz]; decide) _), (fun h => (put_other (by decide) _).trans (h17 h))⟩
          | 17, _ =>
            rintro L a W ⟨hF, hE, h0, h1, h2, h3, h4, h5, h6, h7, h8, h9, h10, h11, h12, h13, h14, h16, h17⟩ hclo hL hd
            have x62 := h16 (all_mem hd (by decide))
            refine wpOp_yes rfl rfl (fun K hK => ?_)
            go_simp
            refine hK _ _ ?_
            exact ⟨hF.put (by decide) _, hE, (fun h => (put_other (by decide) _).trans (h0 h)), (fun h => (put_other (by decide) _).trans (h1 h)), (fun h => (put_other (by decide) _).trans (h2 h)), (fun h => (put_other (by decide) _).trans (h3 h)), (fun h => (put_other (by decide) _).trans (h4 h)), (fun h => (put_other (by decide) _).trans (h5 h)), (fun h => (put_other (by decide) _).trans (h6 h)), (fun h => (put_other (by decide) _).trans (h7 h)), (fun h => (put_other (by decide) _).trans (h8 h)), (fun h => (put_other (by decide) _).trans (h9 h)), (fun h => (put_other (by decide) _).trans (h10 h)), (fun h => (put_other (by decide) _).trans (h11 h)), (fun h => (put_other (by decide) _).trans (h12 h)), (fun h => (put_other (by decide) _).trans (h13 h)), (fun h => (put_other (by decide) _).trans (h14 h)), (fun h => (put_other (by decide) _).trans (h16 h)), (fun _ => put_same (by rw [hF.size, hsz]; decide) _)⟩
          | 18, _ =>
            rintro L a W ⟨hF, hE, h0, h1, h2, h3, h4, h5, h6, h7, h8, h9, h10, h11, h12, h13, h14, h16, h17⟩ hclo hL hd
            have x63 := h17 (all_mem hd (by decide))
            have x59 := h12 (all_mem hd (by decide))
            refine wpOp_yes rfl rfl (fun K hK => ?_)
            obtain ⟨c9, h9, h9'⟩ := hE.1
            have e1 := h9.cell 257
            have e2 := h9.frozen 257
            have e3 := h9'.hi
            have hE1 := hE.1.sethi (hi * 256 % 4294967296 + 255)
            have hE2 := HS.out.set_ _ _ 257 (.int .u32 ((hi * 256 % 4294967296 + 255 : Nat) : Int)) hE.2
            rw [e3] at e1
            clear h9 h9' e3
            go_simp
            refine hK _ _ ?_
            exact ⟨hF, ⟨hE1, hE2⟩, (fun h => h0 h), (fun h => h1 h), (fun h => h2 h), (fun h => h3 h), (fun h => h4 h), (fun h => h5 h), (fun h => h6 h), (fun h => h7 h), (fun h => h8 h), (fun h => h9 h), (fun h => h10 h), (fun h => h11 h), (fun h => h12 h), (fun h => h13 h), (fun h => h14 h), (fun h => h16 h), (fun h => h17 h)⟩
          | k + 19, h => exact absurd (show k + 19 < 19 from h) (by omega)
        · rintro L a W ⟨hF, hE, h0, h1, h2, h3, h4, h5, h6, h7, h8, h9, h10, h11, h12, h13, h14, h16, h17⟩ hall
          have hfa : a = fill a0 [(47, .pointer (some ⟨g, 0, none⟩)), (48, .pointer (some ⟨g, 0, none⟩)), (49, .pointer (some ⟨g, 0, none⟩)), (50, .pointer (some ⟨g, 0, none⟩)), (51, .pointer (some ⟨g, 256, none⟩)), (52, .int .u32 (lo : Int)), (53, .int .u32 ((lo * 256 % 4294967296 : Nat) : Int)), (54, .pointer (some ⟨g, 0, none⟩)), (55, .pointer (some ⟨g, 0, none⟩)), (56, .pointer (some ⟨g, 257, none⟩)), (57, .int .u32 (hi : Int)), (58, .int .u32 (IntKind.u32.wrap ((hi : Int) * 256))), (59, .int .u32 ((hi * 256 % 4294967296 + 255 : Nat) : Int)), (60, .pointer (some ⟨g, 0, none⟩)), (61, .pointer (some ⟨g, 256, none⟩)), (62, .pointer (some ⟨g, 0, none⟩)), (63, .pointer (some ⟨g, 257, none⟩))] := fill_eq hF (FillOk.cons (by rw [hsz]; decide) (h0 (hall 0 (by decide))) (FillOk.cons (by rw [hsz]; decide) (h1 (hall 1 (by decide))) (FillOk.cons (by rw [hsz]; decide) (h2 (hall 2 (by decide))) (FillOk.cons (by rw [hsz]; decide) (h3 (hall 3 (by decide))) (FillOk.cons (by rw [hsz]; decide) (h4 (hall 4 (by decide))) (FillOk.cons (by rw [hsz]; decide) (h5 (hall 5 (by decide))) (FillOk.cons (by rw [hsz]; decide) (h6 (hall 6 (by decide))) (FillOk.cons (by rw [hsz]; decide) (h7 (hall 7 (by decide))) (FillOk.cons (by rw [hsz]; decide) (h8 (hall 8 (by decide))) (FillOk.cons (by rw [hsz]; decide) (h9 (hall 9 (by decide))) (FillOk.cons (by rw [hsz]; decide) (h10 (hall 10 (by decide))) (FillOk.cons (by rw [hsz]; decide) (h11 (hall 11 (by decide))) (FillOk.cons (by rw [hsz]; decide) (h12 (hall 12 (by decide))) (FillOk.cons (by rw [hsz]; decide) (h13 (hall 13 (by decide))) (FillOk.cons (by rw [hsz]; decide) (h14 (hall 14 (by decide))) (FillOk.cons (by rw [hsz]; decide) (h16 (hall 16 (by decide))) (FillOk.cons (by rw [hsz]; decide) (h17 (hall 17 (by decide))) (FillOk.nil)))))))))))))))))) (by simp)
          rw [hfa, ha0]
          clear hfa ha0
          simp only [fill, List.foldl_cons, List.foldl_nil, List.setIfInBounds_toArray, List.set_cons_zero, List.set_cons_succ]
          rw [if_pos (hall 15 (by decide)), if_pos (hall 18 (by decide))] at hE
          obtain ⟨hE1, hE2⟩ := hE
          have HE1 := Lib.hid hE1
          have HE2 := Lib.hid hE2
          clear hE1 hE2 hall hF h0 h3 h4 h5 h6 h7 h8 h9 h10 h11 h12 h13 h14 h16 h17
          go_wp2
          go_roundw
          case rel =>
            have hf : f ≠ 0 := by
              rintro rfl
              have hk : k = 5 := by omega
              subst hk
              have := HK2.out
              rw [show (256 : Nat) ^ 5 = 1099511627776 from rfl] at this
              omega
            obtain ⟨f', rfl⟩ : ∃ f', f = f' + 1 := ⟨f - 1, by omega⟩
            have hF := HF.out
            rw [rcShift_succ he] at hF
            have hk5 : k = 0 ∨ k = 1 ∨ k = 2 ∨ k = 3 ∨ k = 4 := by omega
            have hK1 := HK1.out
            have hK2 := HK2.out
            have hlt := hlt
            exact ⟨k + 1, f', lo * 256 % 4294967296, hi * 256 % 4294967296 + 255, o ++ [hi / 16777216], by omega, Lib.hid (by rw [List.length_append, HOL.out]; rfl), Lib.hid (by rw [hF, List.append_assoc]; rfl), HE1, Lib.hid (by rw [← List.append_assoc]; exact HE2.out), by omega, by omega, Lib.hid (by clear hF; rcases hk5 with rfl | rfl | rfl | rfl | rfl <;> simp at hK1 ⊢ <;> omega), Lib.hid (by clear hF; rcases hk5 with rfl | rfl | rfl | rfl | rfl <;> simp at hK2 ⊢ <;> omega)⟩
          case measure =>
            obtain ⟨c9, h9, h9'⟩ := HE1.out
            have e1 : rdn W g 256 = lo * 256 % 4294967296 := by unfold rdn; rw [show W.cell? ⟨g, 256, none⟩ = _ from (h9.cell _).trans h9'.lo]; rfl
            have e2 : rdn W g 257 = hi * 256 % 4294967296 + 255 := by unfold rdn; rw [show W.cell? ⟨g, 257, none⟩ = _ from (h9.cell _).trans h9'.hi]; rfl
            rw [e1, e2, HD1.out, HD2.out]
            clear HF HK1 HK2
            omega
      · have hx : (bits BinOp.xor IntKind.u32 (lo : Int) (hi : Int) / 16777216 == 0) = false := beq_eq_false_iff_ne.2 (fun h => he ((xor_top (by omega) hlt).1 h))
        go_upto_region 4 with (fail)
        go_quiet (fail)
        go_wp2
        go_end0
        have hz := HF.out
        rw [rcShift_zero he, List.append_nil] at hz
        have hfin' : fin = rcShift 5 (rcLo r c 0) (rcHi r c 0) := by rw [HFIN.out, ← HL0.out, ← HH0.out]
        have e1 : (rcShift 5 (rcLo r c 0) (rcHi r c 0)) = (o, lo, hi) := by rw [← hfin', hz]
        refine ⟨rfl, ?_, ?_⟩
        · unfold rcNext
          rw [e1, ← HP1.out]
          exact HR.out
        · unfold rcOut
          rw [e1]
          exact HS.out.drew _ _ _ HJ.out
  · rw [show ((1 : Nat) : Int) = 1 from rfl]
    go_upto_region 3 with (fail)
    rw [show w.setCell ⟨g, 257, none⟩ (.int .u32 (mid : Int)) = W1 by rw [HW1.out]; rfl]
    go_wp2_with fail
    refine (update_any g c 1 _ _ W1 HR1.out HOK.out hc (.inr rfl)).mono ?_
    rintro e w2 ⟨rfl, n, rfl⟩
    have HR2 := Lib.hid (HR1.out.upd (b := 1) hc n)
    have HJ2 := Lib.hid (HS.out.drew _ _ n (HS.out.set_ _ _ c (.int .u32 (rcUpd r.p c 1 c : Int)) HJ1.out))
    obtain ⟨w2, hw2⟩ : ∃ w2, w2 = (W1.setCell ⟨g, c, none⟩ (.int .u32 (rcUpd r.p c 1 c : Int))).drewN n := ⟨_, rfl⟩
    rw [← hw2] at HR2 HJ2
    simp only [] at hw2 ⊢
    rw [← hw2]
    clear hw2 HR1 HJ1 HW1 f1 f2 q1 q2
    obtain ⟨p1, hp1⟩ : ∃ p1, p1 = rcUpd r.p c 1 := ⟨_, rfl⟩
    obtain ⟨L0, hL0⟩ : ∃ L, L = rcLo r c 1 := ⟨_, rfl⟩
    obtain ⟨H0, hH0⟩ : ∃ L, L = rcHi r c 1 := ⟨_, rfl⟩
    simp only [] at HR2
    rw [← hp1, ← hL0, ← hH0] at HR2
    rw [← hL0, ← hH0] at l1
    rw [← hH0] at l2
    have HP1 := Lib.hid hp1
    have HL0 := Lib.hid hL0
    have HH0 := Lib.hid hH0
    clear hp1 hL0 hH0
    obtain ⟨fin, hfin⟩ : ∃ fin, fin = rcShift 5 L0 H0 := ⟨_, rfl⟩
    have HFIN := Lib.hid hfin
    have hcl := (show w2.cell? ⟨g, 256, none⟩ = some (.int .u32 (L0 : Int)) from (by obtain ⟨cs', h1, h2⟩ := HR2.out; exact (h1.cell _).trans h2.lo))
    have hch := (show w2.cell? ⟨g, 257, none⟩ = some (.int .u32 (H0 : Int)) from (by obtain ⟨cs', h1, h2⟩ := HR2.out; exact (h1.cell _).trans h2.hi))
    clear hcl hch hfin
    go_wp2
    go_loopw [] (fun W => ∃ (k f lo hi : Nat) (o : List Nat), f + k = 5 ∧ Hid (o.length = k) ∧ Hid (fin = (o ++ (rcShift f lo hi).1, (rcShift f lo hi).2)) ∧ Hid (RcM W g (.func (.func F) #[] caps) ⟨p1, lo, hi⟩) ∧ Hid (J (outs ++ o) W) ∧ lo ≤ hi ∧ hi < 4294967296 ∧ Hid (lo % 256 ^ k = 0) ∧ Hid (hi % 256 ^ k = 256 ^ k - 1)) (fun W => 4294967296 - (rdn W g 257 - rdn W g 256))
    case atStart => exact ⟨0, 5, L0, H0, [], rfl, Lib.hid rfl, Lib.hid HFIN.out, HR2, Lib.hid (by rw [List.append_nil]; exact HJ2.out), l1, l2, Lib.hid (Nat.mod_one _), Lib.hid (Nat.mod_one _)⟩
    case round =>
      obtain ⟨k, f, lo, hi, o, hfk, HOL, HF, HR, HJ, hle, hlt, HK1, HK2⟩ := hrel
      obtain ⟨cs', c1, c2⟩ := HR.out
      have q1 : wr.cell? ⟨g, 256, none⟩ = some (.int .u32 (lo : Int)) := (c1.cell _).trans c2.lo
      have q2 : wr.cell? ⟨g, 257, none⟩ = some (.int .u32 (hi : Int)) := (c1.cell _).trans c2.hi
      have q3 : wr.cell? ⟨g, 258, none⟩ = some (.func (.func F) #[] caps) := (c1.cell _).trans c2.fn
      have HD1 : Hid (rdn wr g 256 = lo) := Lib.hid (by unfold rdn; rw [q1]; rfl)
      have HD2 : Hid (rdn wr g 257 = hi) := Lib.hid (by unfold rdn; rw [q2]; rfl)
      clear c1 c2
      by_cases he : lo / 16777216 = hi / 16777216
      · have hx : (bits BinOp.xor IntKind.u32 (lo : Int) (hi : Int) / 16777216 == 0) = true := beq_iff_eq.2 ((xor_top (by omega) hlt).2 he)
        have HO2 := Lib.hid (or_255 hi)
        go_upto_region 4 with (fail)
        go_quiet (fail)
        obtain ⟨w3, hw3⟩ : ∃ w3, w3 = wr.drewN nq := ⟨_, rfl⟩
        have q1' : w3.cell? ⟨g, 256, none⟩ = some (.int .u32 (lo : Int)) := by rw [hw3]; exact q1
        have q2' : w3.cell? ⟨g, 257, none⟩ = some (.int .u32 (hi : Int)) := by rw [hw3]; exact q2
        have q3' : w3.cell? ⟨g, 258, none⟩ = some (.func (.func F) #[] caps) := by rw [hw3]; exact q3
        rw [← hw3]
        have HR3 : Hid (RcM w3 g (.func (.func F) #[] caps) ⟨p1, lo, hi⟩) := by rw [hw3]; exact HR.out
        have HJ3 : Hid (J (outs ++ o) w3) := by rw [hw3]; exact HS.out.drew _ _ _ HJ.out
        clear q1 q2 q3 hw3
        go_upto_region 5 with (fail)
        go_still_tail 10, (by kernel_rfl)
        change wpList _ _ _ _ _ (World.drewN w3 1)
        go_wp2_with fail
        rw [HS.out.enter, Oper.upon_enter, show ((hi : Int) / 16777216) = ((hi / 16777216 : Nat) : Int) by omega]
        refine (HS.out.call (outs ++ o) (w3.drewN 1) (hi / 16777216) (by omega) (by rw [List.length_append, HOL.out]; omega) (HS.out.drew _ _ _ HJ3.out) (by obtain ⟨c9, h9, _⟩ := HR3.out; exact h9.lt)).mono ?_
        rintro e w4 ⟨rfl, hj4, hk4⟩
        have HR4 : Hid (RcM w4 g (.func (.func F) #[] caps) ⟨p1, lo, hi⟩) := by
          obtain ⟨c9, h9, h9'⟩ := HR3.out
          exact ⟨c9, hk4 _ (h9.drewN 1), h9'⟩
        have HJ4 := Lib.hid hj4
        clear hj4 hk4 q1' q2' q3' HR3 HJ3
        obtain ⟨c9, h9, h9'⟩ := HR4.out
        have q1 : w4.cell? ⟨g, 256, none⟩ = some (.int .u32 (lo : Int)) := (h9.cell _).trans h9'.lo
        have q2 : w4.cell? ⟨g, 257, none⟩ = some (.int .u32 (hi : Int)) := (h9.cell _).trans h9'.hi
        have f1 := h9.frozen 256
        have f2 := h9.frozen 257
        clear h9 h9'
        go_upto_region 6 with (fail)
        refine region_start ?_
        intro a0 ha0
        have hsz : a0.tmps.size = 64 := by rw [ha0]; rfl
        have q0 : a0.tmps[0]? = some (.pointer (some ⟨g, 0, none⟩)) := by rw [ha0]; rfl
        refine wp_region_inv (by kernel_rfl) (fun L a W => Fr a0 [47, 48, 49, 50, 51, 52, 53, 54, 55, 56, 57, 58, 59, 60, 61, 62, 63] a ∧ (RcM W g (.func (.func F) #[] caps) ⟨p1, (if L 15 = true then lo * 256 % 4294967296 else lo), (if L 18 = true then hi * 256 % 4294967296 + 255 else hi)⟩ ∧ J ((outs ++ o) ++ [hi / 16777216]) W) ∧ (L 0 = true → a.tmps[47]? = some (.pointer (some ⟨g, 0, none⟩))) ∧ (L 1 = true → a.tmps[48]? = some (.pointer (some ⟨g, 0, none⟩))) ∧ (L 2 = true → a.tmps[49]? = some (.pointer (some ⟨g, 0, none⟩))) ∧ (L 3 = true → a.tmps[50]? = some (.pointer (some ⟨g, 0, none⟩))) ∧ (L 4 = true → a.tmps[51]? = some (.pointer (some ⟨g, 256, none⟩))) ∧ (L 5 = true → a.tmps[52]? = some (.int .u32 (lo : Int))) ∧ (L 6 = true → a.tmps[53]? = some (.int .u32 ((lo * 256 % 4294967296 : Nat) : Int))) ∧ (L 7 = true → a.tmps[54]? = some (.pointer (some ⟨g, 0, none⟩))) ∧ (L 8 = true → a.tmps[55]? = some (.pointer (some ⟨g, 0, none⟩))) ∧ (L 9 = true → a.tmps[56]? = some (.pointer (some ⟨g, 257, none⟩))) ∧ (L 10 = true → a.tmps[57]? = some (.int .u32 (hi : Int))) ∧ (L 11 = true → a.tmps[58]? = some (.int .u32 (IntKind.u32.wrap ((hi : Int) * 256)))) ∧ (L 12 = true → a.tmps[59]? = some (.int .u32 ((hi * 256 % 4294967296 + 255 : Nat) : Int))) ∧ (L 13 = true → a.tmps[60]? = some (.pointer (some ⟨g, 0, none⟩))) ∧ (L 14 = true → a.tmps[61]? = some (.pointer (some ⟨g, 256, none⟩))) ∧ (L 16 = true → a.tmps[62]? = some (.pointer (some ⟨g, 0, none⟩))) ∧ (L 17 = true → a.tmps[63]? = some (.pointer (some ⟨g, 257, none⟩)))) [[], [], [], [2], [3], [4], [5], [], [7], [8], [9], [10], [11], [0], [13], [14, 6], [1], [16], [17, 12]] (by kernel_rfl) ?_ ?_ ?_
        · exact ⟨Fr.refl _ _, ⟨HR4.out, HS.out.drew _ _ 1 HJ4.out⟩, (fun h => by cases h), (fun h => by cases h), (fun h => by cases h), (fun h => by cases h), (fun h => by cases h), (fun h => by cases h), (fun h => by cases h), (fun h => by cases h), (fun h => by cases h), (fun h => by cases h), (fun h => by cases h), (fun h => by cases h), (fun h => by cases h), (fun h => by cases h), (fun h => by cases h), (fun h => by cases h), (fun h => by cases h)⟩
        · intro i hix
          clear ha0
          match i, hix with
          | 0, _ =>
            rintro L a W ⟨hF, hE, h0, h1, h2, h3, h4, h5, h6, h7, h8, h9, h10, h11, h12, h13, h14, h16, h17⟩ hclo hL hd
            have x0 := (hF.same 0 (by decide)).trans q0
            refine wpOp_yes rfl rfl (fun K hK => ?_)
            go_simp
            refine hK _ _ ?_
            exact ⟨hF.put (by decide) _, hE, (fun _ => put_same (by rw [hF.size, hsz]; decide) _), (fun h => (put_other (by decide) _).trans (h1 h)), (fun h => (put_other (by decide) _).trans (h2 h)), (fun h => (put_other (by decide) _).trans (h3 h)), (fun h => (put_other (by decide) _).trans (h4 h)), (fun h => (put_other (by decide) _).trans (h5 h)), (fun h => (put_other (by decide) _).trans (h6 h)), (fun h => (put_other (by decide) _).trans (h7 h)), (fun h => (put_other (by decide) _).trans (h8 h)), (fun h => (put_other (by decide) _).trans (h9 h)), (fun h => (put_other (by decide) _).trans (h10 h)), (fun h => (put_other (by decide) _).trans (h11 h)), (fun h => (put_other (by decide) _).trans (h12 h)), (fun h => (put_other (by decide) _).trans (h13 h)), (fun h => (put_other (by decide) _).trans (h14 h)), (fun h => (put_other (by decide) _).trans (h16 h)), (fun h => (put_other (by decide) _).trans (h17 h))⟩
          | 1, _ =>
            rintro L a W ⟨hF, hE, h0, h1, h2, h3, h4, h5, h6, h7, h8, h9, h10, h11, h12, h13, h14, h16, h17⟩ hclo hL hd
            have x0 := (hF.same 0 (by decide)).trans q0
            refine wpOp_yes rfl rfl (fun K hK => ?_)
            go_simp
            refine hK _ _ ?_
            exact ⟨hF.put (by decide) _, hE, (fun h => (put_other (by decide) _).trans (h0 h)), (fun _ => put_same (by rw [hF.size, hsz]; decide) _), (fun h => (put_other (by decide) _).trans (h2 h)), (fun h => (put_other (by decide) _).trans (h3 h)), (fun h => (put_other (by decide) _).trans (h4 h)), (fun h => (put_other (by decide) _).trans (h5 h)), (fun h => (put_other (by decide) _).trans (h6 h)), (fun h => (put_other (by decide) _).trans (h7 h)), (fun h => (put_other (by decide) _).trans (h8 h)), (fun h => (put_other (by decide) _).trans (h9 h)), (fun h => (put_other (by decide) _).trans (h10 h)), (fun h => (put_other (by decide) _).trans (h11 h)), (fun h => (put_other (by decide) _).trans (h12 h)), (fun h => (put_other (by decide) _).trans (h13 h)), (fun h => (put_other (by decide) _).trans (h14 h)), (fun h => (put_other (by decide) _).trans (h16 h)), (fun h => (put_other (by decide) _).trans (h17 h))⟩
          | 2, _ =>
            rintro L a W ⟨hF, hE, h0, h1, h2, h3, h4, h5, h6, h7, h8, h9, h10, h11, h12, h13, h14, h16, h17⟩ hclo hL hd
            have x0 := (hF.same 0 (by decide)).trans q0
            refine wpOp_yes rfl rfl (fun K hK => ?_)
            go_simp
            refine hK _ _ ?_
            exact ⟨hF.put (by decide) _, hE, (fun h => (put_other (by decide) _).trans (h0 h)), (fun h => (put_other (by decide) _).trans (h1 h)), (fun _ => put_same (by rw [hF.size, hsz]; decide) _), (fun h => (put_other (by decide) _).trans (h3 h)), (fun h => (put_other (by decide) _).trans (h4 h)), (fun h => (put_other (by decide) _).trans (h5 h)), (fun h => (put_other (by decide) _).trans (h6 h)), (fun h => (put_other (by decide) _).trans (h7 h)), (fun h => (put_other (by decide) _).trans (h8 h)), (fun h => (put_other (by decide) _).trans (h9 h)), (fun h => (put_other (by decide) _).trans (h10 h)), (fun h => (put_other (by decide) _).trans (h11 h)), (fun h => (put_other (by decide) _).trans (h12 h)), (fun h => (put_other (by decide) _).trans (h13 h)), (fun h => (put_other (by decide) _).trans (h14 h)), (fun h => (put_other (by decide) _).trans (h16 h)), (fun h => (put_other (by decide) _).trans (h17 h))⟩
          | 3, _ =>
            rintro L a W ⟨hF, hE, h0, h1, h2, h3, h4, h5, h6, h7, h8, h9, h10, h11, h12, h13, h14, h16, h17⟩ hclo hL hd
            have x49 := h2 (all_mem hd (by decide))
            refine wpOp_yes rfl rfl (fun K hK => ?_)
            go_simp
            refine hK _ _ ?_
            exact ⟨hF.put (by decide) _, hE, (fun h => (put_other (by decide) _).trans (h0 h)), (fun h => (put_other (by decide) _).trans (h1 h)), (fun h => (put_other (by decide) _).trans (h2 h)), (fun _ => put_same (by rw [hF.size, hsz]; decide) _), (fun h => (put_other (by decide) _).trans (h4 h)), (fun h => (put_other (by decide) _).trans (h5 h)), (fun h => (put_other (by decide) _).trans (h6 h)), (fun h => (put_other (by decide) _).trans (h7 h)), (fun h => (put_other (by decide) _).trans (h8 h)), (fun h => (put_other (by decide) _).trans (h9 h)), (fun h => (put_other (by decide) _).trans (h10 h)), (fun h => (put_other (by decide) _).trans (h11 h)), (fun h => (put_other (by decide) _).trans (h12 h)), (fun h => (put_other (by decide) _).trans (h13 h)), (fun h => (put_other (by decide) _).trans (h14 h)), (fun h => (put_other (by decide) _).trans (h16 h)), (fun h => (put_other (by decide) _).trans (h17 h))⟩
          | 4, _ =>
            rintro L a W ⟨hF, hE, h0, h1, h2, h3, h4, h5, h6, h7, h8, h9, h10, h11, h12, h13, h14, h16, h17⟩ hclo hL hd
            have x50 := h3 (all_mem hd (by decide))
            refine wpOp_yes rfl rfl (fun K hK => ?_)
            go_simp
            refine hK _ _ ?_
            exact ⟨hF.put (by decide) _, hE, (fun h => (put_other (by decide) _).trans (h0 h)), (fun h => (put_other (by decide) _).trans (h1 h)), (fun h => (put_other (by decide) _).trans (h2 h)), (fun h => (put_other (by decide) _).trans (h3 h)), (fun _ => put_same (by rw [hF.size, hsz]; decide) _), (fun h => (put_other (by decide) _).trans (h5 h)), (fun h => (put_other (by decide) _).trans (h6 h)), (fun h => (put_other (by decide) _).trans (h7 h)), (fun h => (put_other (by decide) _).trans (h8 h)), (fun h => (put_other (by decide) _).trans (h9 h)), (fun h => (put_other (by decide) _).trans (h10 h)), (fun h => (put_other (by decide) _).trans (h11 h)), (fun h => (put_other (by decide) _).trans (h12 h)), (fun h => (put_other (by decide) _).trans (h13 h)), (fun h => (put_other (by decide) _).trans (h14 h)), (fun h => (put_other (by decide) _).trans (h16 h)), (fun h => (put_other (by decide) _).trans (h17 h))⟩
          | 5, _ =>
            rintro L a W ⟨hF, hE, h0, h1, h2, h3, h4, h5, h6, h7, h8, h9, h10, h11, h12, h13, h14, h16, h17⟩ hclo hL hd
            have x51 := h4 (all_mem hd (by decide))
            refine wpOp_yes rfl rfl (fun K hK => ?_)
            have n15 : L 15 = false := by
              cases h : L 15 with
              | false => rfl
              | true => exact absurd (all_mem (d := 5) (hclo 6 (all_mem (d := 6) (hclo 15 h) (by decide))) (by decide)) (by rw [hL]; exact Bool.false_ne_true)
            have hc : W.cell? ⟨g, 256, none⟩ = some (.int .u32 (lo : Int)) := by
              obtain ⟨c9, h9, h9'⟩ := hE.1
              have := (h9.cell 256).trans h9'.lo
              rw [n15] at this; exact this
            go_simp
            refine hK _ _ ?_
            exact ⟨hF.put (by decide) _, hE, (fun h => (put_other (by decide) _).trans (h0 h)), (fun h => (put_other (by decide) _).trans (h1 h)), (fun h => (put_other (by decide) _).trans (h2 h)), (fun h => (put_other (by decide) _).trans (h3 h)), (fun h => (put_other (by decide) _).trans (h4 h)), (fun _ => put_same (by rw [hF.size, hsz]; decide) _), (fun h => (put_other (by decide) _).trans (h6 h)), (fun h => (put_other (by decide) _).trans (h7 h)), (fun h => (put_other (by decide) _).trans (h8 h)), (fun h => (put_other (by decide) _).trans (h9 h)), (fun h => (put_other (by decide) _).trans (h10 h)), (fun h => (put_other (by decide) _).trans (h11 h)), (fun h => (put_other (by decide) _).trans (h12 h)), (fun h => (put_other (by decide) _).trans (h13 h)), (fun h => (put_other (by decide) _).trans (h14 h)), (fun h => (put_other (by decide) _).trans (h16 h)), (fun h => (put_other (by decide) _).trans (h17 h))⟩
          | 6, _ =>
            rintro L a W ⟨hF, hE, h0, h1, h2, h3, h4, h5, h6, h7, h8, h9, h10, h11, h12, h13, h14, h16, h17⟩ hclo hL hd
            have x52 := h5 (all_mem hd (by decide))
            refine wpOp_yes rfl rfl (fun K hK => ?_)
            go_simp
            rw [show IntKind.u32.wrap ((lo : Int) * 256) = ((lo * 256 % 4294967296 : Nat) : Int) by rw [IntKind.wrap_u32]; omega]
            refine hK _ _ ?_
            exact ⟨hF.put (by decide) _, hE, (fun h => (put_other (by decide) _).trans (h0 h)), (fun h => (put_other (by decide) _).trans (h1 h)), (fun h => (put_other (by decide) _).trans (h2 h)), (fun h => (put_other (by decide) _).trans (h3 h)), (fun h => (put_other (by decide) _).trans (h4 h)), (fun h => (put_other (by decide) _).trans (h5 h)), (fun _ => put_same (by rw [hF.size, hsz]; decide) _), (fun h => (put_other (by decide) _).trans (h7 h)), (fun h => (put_other (by decide) _).trans (h8 h)), (fun h => (put_other (by decide) _).trans (h9 h)), (fun h => (put_other (by decide) _).trans (h10 h)), (fun h => (put_other (by decide) _).trans (h11 h)), (fun h => (put_other (by decide) _).trans (h12 h)), (fun h => (put_other (by decide) _).trans (h13 h)), (fun h => (put_other (by decide) _).trans (h14 h)), (fun h => (put_other (by decide) _).trans (h16 h)), (fun h => (put_other (by decide) _).trans (h17 h))⟩
          | 7, _ =>
            rintro L a W ⟨hF, hE, h0, h1, h2, h3, h4, h5, h6, h7, h8, h9, h10, h11, h12, h13, h14, h16, h17⟩ hclo hL hd
            have x0 := (hF.same 0 (by decide)).trans q0
            refine wpOp_yes rfl rfl (fun K hK => ?_)
            go_simp
            refine hK _ _ ?_
            exact ⟨hF.put (by decide) _, hE, (fun h => (put_other (by decide) _).trans (h0 h)), (fun h => (put_other (by decide) _).trans (h1 h)), (fun h => (put_other (by decide) _).trans (h2 h)), (fun h => (put_other (by decide) _).trans (h3 h)), (fun h => (put_other (by decide) _).trans (h4 h)), (fun h => (put_other (by decide) _).trans (h5 h)), (fun h => (put_other (by decide) _).trans (h6 h)), (fun _ => put_same (by rw [hF.size, hsz]; decide) _), (fun h => (put_other (by decide) _).trans (h8 h)), (fun h => (put_other (by decide) _).trans (h9 h)), (fun h => (put_other (by decide) _).trans (h10 h)), (fun h => (put_other (by decide) _).trans (h11 h)), (fun h => (put_other (by decide) _).trans (h12 h)), (fun h => (put_other (by decide) _).trans (h13 h)), (fun h => (put_other (by decide) _).trans (h14 h)), (fun h => (put_other (by decide) _).trans (h16 h)), (fun h => (put_other (by decide) _).trans (h17 h))⟩
          | 8, _ =>
            rintro L a W ⟨hF, hE, h0, h1, h2, h3, h4, h5, h6, h7, h8, h9, h10, h11, h12, h13, h14, h16, h17⟩ hclo hL hd
            have x54 := h7 (all_mem hd (by decide))
            refine wpOp_yes rfl rfl (fun K hK => ?_)
            go_simp
            refine hK _ _ ?_
            exact ⟨hF.put (by decide) _, hE, (fun h => (put_other (by decide) _).trans (h0 h)), (fun h => (put_other (by decide) _).trans (h1 h)), (fun h => (put_other (by decide) _).trans (h2 h)), (fun h => (put_other (by decide) _).trans (h3 h)), (fun h => (put_other (by decide) _).trans (h4 h)), (fun h => (put_other (by decide) _).trans (h5 h)), (fun h => (put_other (by decide) _).trans (h6 h)), (fun h => (put_other (by decide) _).trans (h7 h)), (fun _ => put_same (by rw [hF.size, hsz]; decide) _), (fun h => (put_other (by decide) _).trans (h9 h)), (fun h => (put_other (by decide) _).trans (h10 h)), (fun h => (put_other (by decide) _).trans (h11 h)), (fun h => (put_other (by decide) _).trans (h12 h)), (fun h => (put_other (by decide) _).trans (h13 h)), (fun h => (put_other (by decide) _).trans (h14 h)), (fun h => (put_other (by decide) _).trans (h16 h)), (fun h => (put_other (by decide) _).trans (h17 h))⟩
          | 9, _ =>
            rintro L a W ⟨hF, hE, h0, h1, h2, h3, h4, h5, h6, h7, h8, h9, h10, h11, h12, h13, h14, h16, h17⟩ hclo hL hd
            have x55 := h8 (all_mem hd (by decide))
            refine wpOp_yes rfl rfl (fun K hK => ?_)
            go_simp
            refine hK _ _ ?_
            exact ⟨hF.put (by decide) _, hE, (fun h => (put_other (by decide) _).trans (h0 h)), (fun h => (put_other (by decide) _).trans (h1 h)), (fun h => (put_other (by decide) _).trans (h2 h)), (fun h => (put_other (by decide) _).trans (h3 h)), (fun h => (put_other (by decide) _).trans (h4 h)), (fun h => (put_other (by decide) _).trans (h5 h)), (fun h => (put_other (by decide) _).trans (h6 h)), (fun h => (put_other (by decide) _).trans (h7 h)), (fun h => (put_other (by decide) _).trans (h8 h)), (fun _ => put_same (by rw [hF.size, hsz]; decide) _), (fun h => (put_other (by decide) _).trans (h10 h)), (fun h => (put_other (by decide) _).trans (h11 h)), (fun h => (put_other (by decide) _).trans (h12 h)), (fun h => (put_other (by decide) _).trans (h13 h)), (fun h => (put_other (by decide) _).trans (h14 h)), (fun h => (put_other (by decide) _).trans (h16 h)), (fun h => (put_other (by decide) _).trans (h17 h))⟩
          | 10, _ =>
            rintro L a W ⟨hF, hE, h0, h1, h2, h3, h4, h5, h6, h7, h8, h9, h10, h11, h12, h13, h14, h16, h17⟩ hclo hL hd
            have x56 := h9 (all_mem hd (by decide))
            refine wpOp_yes rfl rfl (fun K hK => ?_)
            have n18 : L 18 = false := by
              cases h : L 18 with
              | false => rfl
              | true => exact absurd (all_mem (d := 10) (hclo 11 (all_mem (d := 11) (hclo 12 (all_mem (d := 12) (hclo 18 h) (by decide))) (by decide))) (by decide)) (by rw [hL]; exact Bool.false_ne_true)
            have hc : W.cell? ⟨g, 257, none⟩ = some (.int .u32 (hi : Int)) := by
              obtain ⟨c9, h9, h9'⟩ := hE.1
              have := (h9.cell 257).trans h9'.hi
              rw [n18] at this; exact this
            go_simp
            refine hK _ _ ?_
            exact ⟨hF.put (by decide) _, hE, (fun h => (put_other (by decide) _).trans (h0 h)), (fun h => (put_other (by decide) _).trans (h1 h)), (fun h => (put_other (by decide) _).trans (h2 h)), (fun h => (put_other (by decide) _).trans (h3 h)), (fun h => (put_other (by decide) _).trans (h4 h)), (fun h => (put_other (by decide) _).trans (h5 h)), (fun h => (put_other (by decide) _).trans (h6 h)), (fun h => (put_other (by decide) _).trans (h7 h)), (fun h => (put_other (by decide) _).trans (h8 h)), (fun h => (put_other (by decide) _).trans (h9 h)), (fun _ => put_same (by rw [hF.size, hsz]; decide) _), (fun h => (put_other (by decide) _).trans (h11 h)), (fun h => (put_other (by decide) _).trans (h12 h)), (fun h => (put_other (by decide) _).trans (h13 h)), (fun h => (put_other (by decide) _).trans (h14 h)), (fun h => (put_other (by decide) _).trans (h16 h)), (fun h => (put_other (by decide) _).trans (h17 h))⟩
          | 11, _ =>
            rintro L a W ⟨hF, hE, h0, h1, h2, h3, h4, h5, h6, h7, h8, h9, h10, h11, h12, h13, h14, h16, h17⟩ hclo hL hd
            have x57 := h10 (all_mem hd (by decide))
            refine wpOp_yes rfl rfl (fun K hK => ?_)
            go_simp
            refine hK _ _ ?_
            exact ⟨hF.put (by decide) _, hE, (fun h => (put_other (by decide) _).trans (h0 h)), (fun h => (put_other (by decide) _).trans (h1 h)), (fun h => (put_other (by decide) _).trans (h2 h)), (fun h => (put_other (by decide) _).trans (h3 h)), (fun h => (put_other (by decide) _).trans (h4 h)), (fun h => (put_other (by decide) _).trans (h5 h)), (fun h => (put_other (by decide) _).trans (h6 h)), (fun h => (put_other (by decide) _).trans (h7 h)), (fun h => (put_other (by decide) _).trans (h8 h)), (fun h => (put_other (by decide) _).trans (h9 h)), (fun h => (put_other (by decide) _).trans (h10 h)), (fun _ => put_same (by rw [hF.size, hsz]; decide) _), (fun h => (put_other (by decide) _).trans (h12 h)), (fun h => (put_other (by decide) _).trans (h13 h)), (fun h => (put_other (by decide) _).trans (h14 h)), (fun h => (put_other (by decide) _).trans (h16 h)), (fun h => (put_other (by decide) _).trans (h17 h))⟩
          | 12, _ =>
            rintro L a W ⟨hF, hE, h0, h1, h2, h3, h4, h5, h6, h7, h8, h9, h10, h11, h12, h13, h14, h16, h17⟩ hclo hL hd
            have x58 := h11 (all_mem hd (by decide))
            refine wpOp_yes rfl rfl (fun K hK => ?_)
            go_simp
            rw [IntKind.wrap_u32, HO2.out]
            refine hK _ _ ?_
            exact ⟨hF.put (by decide) _, hE, (fun h => (put_other (by decide) _).trans (h0 h)), (fun h => (put_other (by decide) _).trans (h1 h)), (fun h => (put_other (by decide) _).trans (h2 h)), (fun h => (put_other (by decide) _).trans (h3 h)), (fun h => (put_other (by decide) _).trans (h4 h)), (fun h => (put_other (by decide) _).trans (h5 h)), (fun h => (put_other (by decide) _).trans (h6 h)), (fun h => (put_other (by decide) _).trans (h7 h)), (fun h => (put_other (by decide) _).trans (h8 h)), (fun h => (put_other (by decide) _).trans (h9 h)), (fun h => (put_other (by decide) _).trans (h10 h)), (fun h => (put_other (by decide) _).trans (h11 h)), (fun _ => put_same (by rw [hF.size, hsz]; decide) _), (fun h => (put_other (by decide) _).trans (h13 h)), (fun h => (put_other (by decide) _).trans (h14 h)), (fun h => (put_other (by decide) _).trans (h16 h)), (fun h => (put_other (by decide) _).trans (h17 h))⟩
          | 13, _ =>
            rintro L a W ⟨hF, hE, h0, h1, h2, h3, h4, h5, h6, h7, h8, h9, h10, h11, h12, h13, h14, h16, h17⟩ hclo hL hd
            have x47 := h0 (all_mem hd (by decide))
            refine wpOp_yes rfl rfl (fun K hK => ?_)
            go_simp
            refine hK _ _ ?_
            exact ⟨hF.put (by decide) _, hE, (fun h => (put_other (by decide) _).trans (h0 h)), (fun h => (put_other (by decide) _).trans (h1 h)), (fun h => (put_other (by decide) _).trans (h2 h)), (fun h => (put_other (by decide) _).trans (h3 h)), (fun h => (put_other (by decide) _).trans (h4 h)), (fun h => (put_other (by decide) _).trans (h5 h)), (fun h => (put_other (by decide) _).trans (h6 h)), (fun h => (put_other (by decide) _).trans (h7 h)), (fun h => (put_other (by decide) _).trans (h8 h)), (fun h => (put_other (by decide) _).trans (h9 h)), (fun h => (put_other (by decide) _).trans (h10 h)), (fun h => (put_other (by decide) _).trans (h11 h)), (fun h => (put_other (by decide) _).trans (h12 h)), (fun _ => put_same (by rw [hF.size, hsz]; decide) _), (fun h => (put_other (by decide) _).trans (h14 h)), (fun h => (put_other (by decide) _).trans (h16 h)), (fun h => (put_other (by decide) _).trans (h17 h))⟩
          | 14, _ =>
            rintro L a W ⟨hF, hE, h0, h1, h2, h3, h4, h5, h6, h7, h8, h9, h10, h11, h12, h13, h14, h16, h17⟩ hclo hL hd
            have x60 := h13 (all_mem hd (by decide))
            refine wpOp_yes rfl rfl (fun K hK => ?_)
            go_simp
            refine hK _ _ ?_
            exact ⟨hF.put (by decide) _, hE, (fun h => (put_other (by decide) _).trans (h0 h)), (fun h => (put_other (by decide) _).trans (h1 h)), (fun h => (put_other (by decide) _).trans (h2 h)), (fun h => (put_other (by decide) _).trans (h3 h)), (fun h => (put_other (by decide) _).trans (h4 h)), (fun h => (put_other (by decide) _).trans (h5 h)), (fun h => (put_other (by decide) _).trans (h6 h)), (fun h => (put_other (by decide) _).trans (h7 h)), (fun h => (put_other (by decide) _).trans (h8 h)), (fun h => (put_other (by decide) _).trans (h9 h)), (fun h => (put_other (by decide) _).trans (h10 h)), (fun h => (put_other (by decide) _).trans (h11 h)), (fun h => (put_other (by decide) _).trans (h12 h)), (fun h => (put_other (by decide) _).trans (h13 h)), (fun _ => put_same (by rw [hF.size, hsz]; decide) _), (fun h => (put_other (by decide) _).trans (h16 h)), (fun h => (put_other (by decide) _).trans (h17 h))⟩
          | 15, _ =>
            rintro L a W ⟨hF, hE, h0, h1, h2, h3, h4, h5, h6, h7, h8, h9, h10, h11, h12, h13, h14, h16, h17⟩ hclo hL hd
            have x61 := h14 (all_mem hd (by decide))
            have x53 := h6 (all_mem hd (by decide))
            refine wpOp_yes rfl rfl (fun K hK => ?_)
            obtain ⟨c9, h9, h9'⟩ := hE.1
            have e1 := h9.cell 256
            have e2 := h9.frozen 256
            have e3 := h9'.lo
            have hE1 := hE.1.setlo (lo * 256 % 4294967296)
            have hE2 := HS.out.set_ _ _ 256 (.int .u32 ((lo * 256 % 4294967296 : Nat) : Int)) hE.2
            rw [e3] at e1
            clear h9 h9' e3
            go_simp
            refine hK _ _ ?_
            exact ⟨hF, ⟨hE1, hE2⟩, (fun h => h0 h), (fun h => h1 h), (fun h => h2 h), (fun h => h3 h), (fun h => h4 h), (fun h => h5 h), (fun h => h6 h), (fun h => h7 h), (fun h => h8 h), (fun h => h9 h), (fun h => h10 h), (fun h => h11 h), (fun h => h12 h), (fun h => h13 h), (fun h => h14 h), (fun h => h16 h), (fun h => h17 h)⟩
          | 16, _ =>
            rintro L a W ⟨hF, hE, h0, h1, h2, h3, h4, h5, h6, h7, h8, h9, h10, h11, h12, h13, h14, h16, h17⟩ hclo hL hd
            have x48 := h1 (all_mem hd (by decide))
            refine wpOp_yes rfl rfl (fun K hK => ?_)
            go_simp
            refine hK _ _ ?_
            exact ⟨hF.put (by decide) _, hE, (fun h => (put_other (by decide) _).trans (h0 h)), (fun h => (put_other (by decide) _).trans (h1 h)), (fun h => (put_other (by decide) _).trans (h2 h)), (fun h => (put_other (by decide) _).trans (h3 h)), (fun h => (put_other (by decide) _).trans (h4 h)), (fun h => (put_other (by decide) _).trans (h5 h)), (fun h => (put_other (by decide) _).trans (h6 h)), (fun h => (put_other (by decide) _).trans (h7 h)), (fun h => (put_other (by decide) _).trans (h8 h)), (fun h => (put_other (by decide) _).trans (h9 h)), (fun h => (put_other (by decide) _).trans (h10 h)), (fun h => (put_other (by decide) _).trans (h11 h)), (fun h => (put_other (by decide) _).trans (h12 h)), (fun h => (put_other (by decide) _).trans (h13 h)), (fun h => (put_other (by decide) _).trans (h14 h)), (fun _ => put_same (by rw [hF.size, hsz]; decide) _), (fun h => (put_other (by decide) _).trans (h17 h))⟩
          | 17, _ =>
            rintro L a W ⟨hF, hE, h0, h1, h2, h3, h4, h5, h6, h7, h8, h9, h10, h11, h12, h13, h14, h16, h17⟩ hclo hL hd
            have x62 := h16 (all_mem hd (by decide))
            refine wpOp_yes rfl rfl (fun K hK => ?_)
            go_simp
            refine hK _ _ ?_
            exact ⟨hF.put (by decide) _, hE, (fun h => (put_other (by decide) _).trans (h0 h)), (fun h => (put_other (by decide) _).trans (h1 h)), (fun h => (put_other (by decide) _).trans (h2 h)), (fun h => (put_other (by decide) _).trans (h3 h)), (fun h => (put_other (by decide) _).trans (h4 h)), (fun h => (put_other (by decide) _).trans (h5 h)), (fun h => (put_other (by decide) _).trans (h6 h)), (fun h => (put_other (by decide) _).trans (h7 h)), (fun h => (put_other (by decide) _).trans (h8 h)), (fun h => (put_other (by decide) _).trans (h9 h)), (fun h => (put_other (by decide) _).trans (h10 h)), (fun h => (put_other (by decide) _).trans (h11 h)), (fun h => (put_other (by decide) _).trans (h12 h)), (fun h => (put_other (by decide) _).trans (h13 h)), (fun h => (put_other (by decide) _).trans (h14 h)), (fun h => (put_other (by decide) _).trans (h16 h)), (fun _ => put_same (by rw [hF.size, hsz]; decide) _)⟩
          | 18, _ =>
            rintro L a W ⟨hF, hE, h0, h1, h2, h3, h4, h5, h6, h7, h8, h9, h10, h11, h12, h13, h14, h16, h17⟩ hclo hL hd
            have x63 := h17 (all_mem hd (by decide))
            have x59 := h12 (all_mem hd (by decide))
            refine wpOp_yes rfl rfl (fun K hK => ?_)
            obtain ⟨c9, h9, h9'⟩ := hE.1
            have e1 := h9.cell 257
            have e2 := h9.frozen 257
            have e3 := h9'.hi
            have hE1 := hE.1.sethi (hi * 256 % 4294967296 + 255)
            have hE2 := HS.out.set_ _ _ 257 (.int .u32 ((hi * 256 % 4294967296 + 255 : Nat) : Int)) hE.2
            rw [e3] at e1
            clear h9 h9' e3
            go_simp
            refine hK _ _ ?_
            exact ⟨hF, ⟨hE1, hE2⟩, (fun h => h0 h), (fun h => h1 h), (fun h => h2 h), (fun h => h3 h), (fun h => h4 h), (fun h => h5 h), (fun h => h6 h), (fun h => h7 h), (fun h => h8 h), (fun h => h9 h), (fun h => h10 h), (fun h => h11 h), (fun h => h12 h), (fun h => h13 h), (fun h => h14 h), (fun h => h16 h), (fun h => h17 h)⟩
          | k + 19, h => exact absurd (show k + 19 < 19 from h) (by omega)
        · rintro L a W ⟨hF, hE, h0, h1, h2, h3, h4, h5, h6, h7, h8, h9, h10, h11, h12, h13, h14, h16, h17⟩ hall
          have hfa : a = fill a0 [(47, .pointer (some ⟨g, 0, none⟩)), (48, .pointer (some ⟨g, 0, none⟩)), (49, .pointer (some ⟨g, 0, none⟩)), (50, .pointer (some ⟨g, 0, none⟩)), (51, .pointer (some ⟨g, 256, none⟩)), (52, .int .u32 (lo : Int)), (53, .int .u32 ((lo * 256 % 4294967296 : Nat) : Int)), (54, .pointer (some ⟨g, 0, none⟩)), (55, .pointer (some ⟨g, 0, none⟩)), (56, .pointer (some ⟨g, 257, none⟩)), (57, .int .u32 (hi : Int)), (58, .int .u32 (IntKind.u32.wrap ((hi : Int) * 256))), (59, .int .u32 ((hi * 256 % 4294967296 + 255 : Nat) : Int)), (60, .pointer (some ⟨g, 0, none⟩)), (61, .pointer (some ⟨g, 256, none⟩)), (62, .pointer (some ⟨g, 0, none⟩)), (63, .pointer (some ⟨g, 257, none⟩))] := fill_eq hF (FillOk.cons (by rw [hsz]; decide) (h0 (hall 0 (by decide))) (FillOk.cons (by rw [hsz]; decide) (h1 (hall 1 (by decide))) (FillOk.cons (by rw [hsz]; decide) (h2 (hall 2 (by decide))) (FillOk.cons (by rw [hsz]; decide) (h3 (hall 3 (by decide))) (FillOk.cons (by rw [hsz]; decide) (h4 (hall 4 (by decide))) (FillOk.cons (by rw [hsz]; decide) (h5 (hall 5 (by decide))) (FillOk.cons (by rw [hsz]; decide) (h6 (hall 6 (by decide))) (FillOk.cons (by rw [hsz]; decide) (h7 (hall 7 (by decide))) (FillOk.cons (by rw [hsz]; decide) (h8 (hall 8 (by decide))) (FillOk.cons (by rw [hsz]; decide) (h9 (hall 9 (by decide))) (FillOk.cons (by rw [hsz]; decide) (h10 (hall 10 (by decide))) (FillOk.cons (by rw [hsz]; decide) (h11 (hall 11 (by decide))) (FillOk.cons (by rw [hsz]; decide) (h12 (hall 12 (by decide))) (FillOk.cons (by rw [hsz]; decide) (h13 (hall 13 (by decide))) (FillOk.cons (by rw [hsz]; decide) (h14 (hall 14 (by decide))) (FillOk.cons (by rw [hsz]; decide) (h16 (hall 16 (by decide))) (FillOk.cons (by rw [hsz]; decide) (h17 (hall 17 (by decide))) (FillOk.nil)))))))))))))))))) (by simp)
          rw [hfa, ha0]
          clear hfa ha0
          simp only [fill, List.foldl_cons, List.foldl_nil, List.setIfInBounds_toArray, List.set_cons_zero, List.set_cons_succ]
          rw [if_pos (hall 15 (by decide)), if_pos (hall 18 (by decide))] at hE
          obtain ⟨hE1, hE2⟩ := hE
          have HE1 := Lib.hid hE1
          have HE2 := Lib.hid hE2
          clear hE1 hE2 hall hF h0 h3 h4 h5 h6 h7 h8 h9 h10 h11 h12 h13 h14 h16 h17
          go_wp2
          go_roundw
          case rel =>
            have hf : f ≠ 0 := by
              rintro rfl
              have hk : k = 5 := by omega
              subst hk
              have := HK2.out
              rw [show (256 : Nat) ^ 5 = 1099511627776 from rfl] at this
              omega
            obtain ⟨f', rfl⟩ : ∃ f', f = f' + 1 := ⟨f - 1, by omega⟩
            have hF := HF.out
            rw [rcShift_succ he] at hF
            have hk5 : k = 0 ∨ k = 1 ∨ k = 2 ∨ k = 3 ∨ k = 4 := by omega
            have hK1 := HK1.out
            have hK2 := HK2.out
            have hlt := hlt
            exact ⟨k + 1, f', lo * 256 % 4294967296, hi * 256 % 4294967296 + 255, o ++ [hi / 16777216], by omega, Lib.hid (by rw [List.length_append, HOL.out]; rfl), Lib.hid (by rw [hF, List.append_assoc]; rfl), HE1, Lib.hid (by rw [← List.append_assoc]; exact HE2.out), by omega, by omega, Lib.hid (by clear hF; rcases hk5 with rfl | rfl | rfl | rfl | rfl <;> simp at hK1 ⊢ <;> omega), Lib.hid (by clear hF; rcases hk5 with rfl | rfl | rfl | rfl | rfl <;> simp at hK2 ⊢ <;> omega)⟩
          case measure =>
            obtain ⟨c9, h9, h9'⟩ := HE1.out
            have e1 : rdn W g 256 = lo * 256 % 4294967296 := by unfold rdn; rw [show W.cell? ⟨g, 256, none⟩ = _ from (h9.cell _).trans h9'.lo]; rfl
            have e2 : rdn W g 257 = hi * 256 % 4294967296 + 255 := by unfold rdn; rw [show W.cell? ⟨g, 257, none⟩ = _ from (h9.cell _).trans h9'.hi]; rfl
            rw [e1, e2, HD1.out, HD2.out]
            clear HF HK1 HK2
            omega
      · have hx : (bits BinOp.xor IntKind.u32 (lo : Int) (hi : Int) / 16777216 == 0) = false := beq_eq_false_iff_ne.2 (fun h => he ((xor_top (by omega) hlt).1 h))
        go_upto_region 4 with (fail)
        go_quiet (fail)
        go_wp2
        go_end0
        have hz := HF.out
        rw [rcShift_zero he, List.append_nil] at hz
        have hfin' : fin = rcShift 5 (rcLo r c 1) (rcHi r c 1) := by rw [HFIN.out, ← HL0.out, ← HH0.out]
        have e1 : (rcShift 5 (rcLo r c 1) (rcHi r c 1)) = (o, lo, hi) := by rw [← hfin', hz]
        refine ⟨rfl, ?_, ?_⟩
        · unfold rcNext
          rw [e1, ← HP1.out]
          exact HR.out
        · unfold rcOut
          rw [e1]
          exact HS.out.drew _ _ _ HJ.out
end Go.Proofs.Ytcniepogobgaoaa
