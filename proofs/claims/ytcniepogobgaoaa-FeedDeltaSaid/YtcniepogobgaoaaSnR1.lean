/-
  Package snapshot: the reader's methods, called.
-/
import Derived.Test.YtcniepogobgaoaaSnW6
import Derived.Test.YtcniepogobgaoaaSnApp
import Derived.Laws.BitsAllLaws
namespace Go.Proofs.Ytcniepogobgaoaa
set_option linter.unusedVariables false
set_option linter.unusedSimpArgs false
set_option maxRecDepth 4000
open Go.RowKit

/-- A slice of bytes as it lies in a box. -/
structure SlU (w : World) (B : Nat) (A : Option Addr) (n c : Nat) (zs : List Int) : Prop where
  len : zs.length = n
  cap : n ≤ c
  capmax : c ≤ maxLen
  nil : A = none → c = 0
  rd : RdU w B A zs
theorem SlU.keep {w w' : World} {B : Nat} {A : Option Addr} {n c : Nat} {zs : List Int} (h : SlU w B A n c zs) (hk : ∀ p : Addr, p.block < B → w'.cell? p = w.cell? p) : SlU w' B A n c zs := ⟨h.len, h.cap, h.capmax, h.nil, h.rd.keep hk⟩
theorem SlU.tail {w : World} {B bb off n c : Nat} {z : Int} {zs : List Int} (h : SlU w B (some ⟨bb, off, none⟩) n c (z :: zs)) :
    (c = 1 → SlU w B (some ⟨bb, off, none⟩) (n - 1) (c - 1) zs) ∧ SlU w B (some ⟨bb, off + 1, none⟩) (n - 1) (c - 1) zs := by
  have h1 := h.len
  have h2 := h.cap
  have h3 := h.capmax
  simp at h1
  refine ⟨fun hc => ⟨by omega, by omega, by omega, (fun h => by cases h), fun hp => ?_⟩, ⟨by omega, by omega, by omega, (fun h => by cases h), h.rd.drop 1⟩⟩
  omega
/-- The reader in its box. -/
def RdrAt (w : World) (B g : Nat) (b : List Int) (e : Int) : Prop := ∃ A t c, Blk w g 105 #[.slice A t c, .int .i64 e] ∧ SlU w B A t c b

theorem fail_any (g : Nat) (is : Bool) (c e : Int) (b : List Int) (B : Nat) (w : World) (h : RdrAt w B g b e) (hB : B ≤ g) :
    Calls Try.prog 53 #[.pointer (some ⟨g, 0, none⟩), .bool is, .int .i64 c] w fun en w' => en = .returned (.tuple #[]) ∧ RdrAt w' B g b (failR e is c) ∧ w.grownBy w' (some g) := by
  obtain ⟨A, t, cp, hk, hs⟩ := h
  have c1 : w.cell? ⟨g, 1, none⟩ = some (.int .i64 e) := hk.cell 1
  have hf := hk.frozen
  by_cases hcase : is = true ∧ e = 0
  · obtain ⟨rfl, rfl⟩ := hcase
    have HFI : Hid (RdrAt (w.setCell ⟨g, 1, none⟩ (.int .i64 c)) B g b (failR 0 true c) ∧ w.grownBy (w.setCell ⟨g, 1, none⟩ (.int .i64 c)) (some g)) := by
      refine ⟨⟨A, t, cp, ?_, hs.keep (fun p hp => World.cell?_setCell_far _ _ _ _ (by show g ≠ _; omega))⟩, ⟨rfl, rfl, rfl, by simp, fun i _ hi => Below.heap_setCell w _ _ i (fun e => hi (by rw [e]))⟩⟩
      have := hk.set_ 1 (.int .i64 c)
      simpa [failR] using this
    clear hk hs
    go_enter Try.func53, Try.ntmps53
    go_wp2
    go_end0
    exact ⟨rfl, HFI.out⟩
  · have hfr : failR e is c = e := by unfold failR; rw [if_neg hcase]
    have HFI : Hid (RdrAt w B g b (failR e is c) ∧ w.grownBy w (some g)) := by
      show _ ∧ _
      rw [hfr]
      exact ⟨⟨A, t, cp, hk, hs⟩, World.grownBy.refl _ _⟩
    clear hk hs hfr
    cases is
    · clear hcase
      go_enter Try.func53, Try.ntmps53
      go_wp2
      go_end0
      exact ⟨rfl, HFI.out⟩
    · have hne : (e == 0) = false := beq_eq_false_iff_ne.2 (fun h => hcase ⟨rfl, h⟩)
      clear hcase
      go_enter Try.func53, Try.ntmps53
      go_wp2
      go_end0
      exact ⟨rfl, HFI.out⟩

theorem num_bits (v i : Nat) (z : Int) (h0 : 0 ≤ z) (h1 : z < 256) (hv : v < 128 ^ i) (hi : i ≤ 9) (h9 : i = 9 → z ≤ 1) :
    bits BinOp.or IntKind.u64 (v : Int) (IntKind.u64.wrap (IntKind.u64.wrap (bits BinOp.and IntKind.u8 z 127) * 2 ^ (7 * i))) = ((v + (z % 128).toNat * 128 ^ i : Nat) : Int) := by
  obtain ⟨x, rfl⟩ : ∃ x : Nat, z = (x : Int) := ⟨z.toNat, by omega⟩
  have e1 : bits BinOp.and IntKind.u8 (x : Int) 127 = ((x % 128 : Nat) : Int) := by
    have := u8_and_nat x 127 (by omega) (by omega)
    rw [nat_mask7] at this
    exact this
  have e2 : ((x : Int) % 128).toNat = x % 128 := by omega
  have e3 : (2 : Nat) ^ (7 * i) = 128 ^ i := by rw [Nat.pow_mul]
  have hb : x % 128 * 128 ^ i < 18446744073709551616 ∧ 128 ^ i ≤ 9223372036854775808 := by
    refine ⟨?_, pow_le9 hi⟩
    by_cases h : i = 9
    · subst h
      have := h9 rfl
      have h2 : x % 128 ≤ 1 := by omega
      have := key9 0 (x % 128) (128 ^ 9) rfl (by decide) h2
      rwa [Nat.zero_add] at this
    · have h8 : 128 ^ i ≤ 128 ^ 8 := Nat.pow_le_pow_right (by omega) (by omega)
      have h2 := Nat.mul_le_mul (show x % 128 ≤ 128 by omega) h8
      exact Nat.lt_of_le_of_lt h2 (by decide)
  obtain ⟨hb1, hb2⟩ := hb
  have e4 : IntKind.u64.wrap (IntKind.u64.wrap (bits BinOp.and IntKind.u8 (x : Int) 127) * 2 ^ (7 * i)) = ((x % 128 * 128 ^ i : Nat) : Int) := by
    rw [e1, IntKind.wrap_u64, IntKind.wrap_u64]
    have e5 : ((x % 128 : Nat) : Int) % 18446744073709551616 = ((x % 128 : Nat) : Int) := by omega
    rw [e5, show ((2 : Int) ^ (7 * i)) = ((128 ^ i : Nat) : Int) from by rw [← e3]; simp, ← Int.natCast_mul]
    omega
  rw [e4, e2]
  have hv2 : v < 18446744073709551616 := Nat.lt_of_lt_of_le hv (by omega)
  rw [bits_or_u64_nat v _ hv2 hb1]
  congr 1
  have := Nat.two_pow_add_eq_or_of_lt (i := 7 * i) (b := v) (by rw [e3]; exact hv) (x % 128)
  rw [e3] at this
  rw [Nat.or_comm, Nat.mul_comm (x % 128), ← this, Nat.add_comm]

set_option maxHeartbeats 2000000 in
theorem number_any (g : Nat) (b : List Int) (e : Int) (B : Nat) (w : World) (h : RdrAt w B g b e) (hB : B ≤ g) (hb : IsB b) (y : Nat) (b' : List Int) (e' : Int) (hy : numR b e = (y, b', e')) :
    Calls Try.prog 51 #[.pointer (some ⟨g, 0, none⟩)] w fun en w' => en = .returned (.int .u64 (y : Int)) ∧ RdrAt w' B g b' e' ∧ w.grownBy w' (some g) := by
  by_cases he : e = 0
  · subst he
    have hy0 : numG 0 0 b = (y, b', e') := by unfold numR at hy; rw [if_pos rfl] at hy; exact hy
    have HY := Lib.hid hy0
    have HR := Lib.hid h
    clear hy hy0 h
    go_enter Try.func51, Try.ntmps51
    go_wp2
    go_loopw [3, 4] (fun v_ i_ wr => ∃ (i v : Nat) (b1 : List Int), i ≤ 9 ∧ v < 128 ^ i ∧ v_ = .int .u64 (v : Int) ∧ i_ = .int .i64 (i : Int) ∧ numG i v b1 = (y, b', e') ∧ IsB b1 ∧ RdrAt wr B g b1 0 ∧ w.grownBy wr (some g)) (fun _ i_ _ => 10 - (intOf i_).toNat)
    case atStart => exact ⟨0, 0, b, by omega, by omega, rfl, rfl, HY.out, hb, HR.out, World.grownBy.refl _ _⟩
    case round =>
      obtain ⟨i, v, b1, hi, hv, rfl, rfl, hnum, hb1, hr, hgr⟩ := hrel
      obtain ⟨A, t, cp, hk, hs⟩ := hr
      have c0 : wr.cell? ⟨g, 0, none⟩ = some (.slice A t cp) := hk.cell 0
      have c1 : wr.cell? ⟨g, 1, none⟩ = some (.int .i64 0) := hk.cell 1
      have hf := hk.frozen
      have HNUM := Lib.hid hnum
      have HV := Lib.hid hv
      have HK := Lib.hid hk
      have HGR := Lib.hid hgr
      clear hnum hv hgr
      cases b1 with
      | nil =>
        obtain rfl : 0 = t := hs.len
        have HS := Lib.hid hs
        clear hs hk
        have hfin : Hid (y = 0 ∧ b' = [] ∧ e' = 7) := by
          have := HNUM.out
          rw [numG] at this
          simp at this
          exact ⟨this.1.symm, this.2.1, this.2.2.symm⟩
        have HFI : Hid (RdrAt (wr.setCell ⟨g, 1, none⟩ (.int .i64 7)) B g [] 7 ∧ w.grownBy (wr.setCell ⟨g, 1, none⟩ (.int .i64 7)) (some g)) := by
          refine ⟨⟨A, 0, cp, ?_, HS.out.keep (fun p hp => World.cell?_setCell_far _ _ _ _ (by show g ≠ _; omega))⟩, HGR.out.trans ⟨rfl, rfl, rfl, by simp, fun i _ hi => Below.heap_setCell wr _ _ i (fun e => hi (by rw [e]))⟩⟩
          have := HK.out.set_ 1 (.int .i64 7)
          simpa using this
        go_wp2
        go_ret
        obtain ⟨rfl, rfl, rfl⟩ := hfin.out
        exact ⟨rfl, HFI.out⟩
      | cons z b1 =>
        have ht : b1.length + 1 = t := hs.len
        obtain ⟨bb, off, rfl, hbb, hc⟩ := rdu_at hs.rd (by simp)
        have d0 : wr.cell? ⟨bb, off, none⟩ = some (.int .u8 z) := by simpa [ix] using hc 0 (by simp)
        have hz := hb1 z (List.mem_cons_self ..)
        have htp : 0 < t := by omega
        have htz : ((t : Int) == 0) = false := beq_eq_false_iff_ne.2 (by omega)
        have hcap := hs.cap
        have hcm := hs.capmax
        unfold maxLen at hcm
        have HT := Lib.hid ht
        have HS := Lib.hid hs
        clear hs hk ht hc
        have HBB : Hid (∀ A' t' c' , SlU wr B A' t' c' b1 → RdrAt (wr.setCell ⟨g, 0, none⟩ (.slice A' t' c')) B g b1 0 ∧ w.grownBy (wr.setCell ⟨g, 0, none⟩ (.slice A' t' c')) (some g)) := fun A' t' c' h => by
          refine ⟨⟨A', t', c', ?_, h.keep (fun p hp => World.cell?_setCell_far _ _ _ _ (by show g ≠ _; omega))⟩, HGR.out.trans ⟨rfl, rfl, rfl, by simp, fun i _ hi => Below.heap_setCell wr _ _ i (fun e => hi (by rw [e]))⟩⟩
          have := HK.out.set_ 0 (.slice A' t' c')
          simpa using this
        have HTL := Lib.hid HS.out.tail
        have HB1 := Lib.hid hb1
        by_cases hbad : (i = 9 ∧ 1 < z) ∨ (0 < i ∧ z = 0)
        · have hfin : Hid (y = 0 ∧ b' = z :: b1 ∧ e' = 8) := by
            have := HNUM.out
            rw [numG, if_pos hbad] at this
            simp at this
            exact ⟨this.1.symm, this.2.1.symm, this.2.2.symm⟩
          have HFI : Hid (RdrAt (wr.setCell ⟨g, 1, none⟩ (.int .i64 8)) B g (z :: b1) 8 ∧ w.grownBy (wr.setCell ⟨g, 1, none⟩ (.int .i64 8)) (some g)) := by
            refine ⟨⟨_, t, cp, ?_, HS.out.keep (fun p hp => World.cell?_setCell_far _ _ _ _ (by show g ≠ _; omega))⟩, HGR.out.trans ⟨rfl, rfl, rfl, by simp, fun i _ hi => Below.heap_setCell wr _ _ i (fun e => hi (by rw [e]))⟩⟩
            have := HK.out.set_ 1 (.int .i64 8)
            simpa using this
          rcases hbad with ⟨rfl, hz1⟩ | ⟨hi0, rfl⟩
          · go_wp2
            go_ret
            obtain ⟨rfl, rfl, rfl⟩ := hfin.out
            exact ⟨rfl, HFI.out⟩
          · by_cases hi9 : i = 9
            · subst hi9
              go_wp2
              go_ret
              obtain ⟨rfl, rfl, rfl⟩ := hfin.out
              exact ⟨rfl, HFI.out⟩
            · have hi9' : ((i : Int) == 9) = false := beq_eq_false_iff_ne.2 (by omega)
              clear hi9
              go_wp2
              go_ret
              obtain ⟨rfl, rfl, rfl⟩ := hfin.out
              exact ⟨rfl, HFI.out⟩
        · have hbt := num_bits v i z hz.1 hz.2 HV.out hi (fun h => by omega)
          have HBT := Lib.hid hbt
          have h9z : i = 9 → z = 1 := fun h => by omega
          have h0z : 0 < i → 0 < z := fun h => by omega
          clear hbt
          by_cases hz128 : z < 128
          · have hfin : Hid (y = v + (z % 128).toNat * 128 ^ i ∧ b' = b1 ∧ e' = 0) := by
              have := HNUM.out
              rw [numG, if_neg hbad, if_pos hz128] at this
              simp at this
              refine ⟨?_, this.2.1.symm, this.2.2.symm⟩
              rw [← this.1, show (z % 128).toNat = z.toNat from by omega]
            clear hbad
            by_cases hi9 : i = 9
            · have hz1 := h9z hi9
              subst hi9
              subst hz1
              clear h9z h0z
              by_cases hc1 : cp = 1
              · have ht1 : t = 1 := by omega
                subst ht1 hc1
                go_wp2
                go_ret
                obtain ⟨rfl, rfl, rfl⟩ := hfin.out
                exact ⟨ret_int HBT.out, HBB.out _ _ _ (HTL.out.1 (by first | exact trivial | rfl))⟩
              · have hc1' : 1 < cp := by omega
                clear hc1
                go_wp2
                go_ret
                obtain ⟨rfl, rfl, rfl⟩ := hfin.out
                exact ⟨ret_int HBT.out, HBB.out _ _ _ HTL.out.2⟩
            · have hi9' : ((i : Int) == 9) = false := beq_eq_false_iff_ne.2 (by omega)
              clear hi9 h9z
              by_cases hi0 : 0 < i
              · have hz0 : (z == 0) = false := beq_eq_false_iff_ne.2 (by have := h0z hi0; omega)
                clear h0z
                by_cases hc1 : cp = 1
                · have ht1 : t = 1 := by omega
                  subst ht1 hc1
                  go_wp2
                  go_ret
                  obtain ⟨rfl, rfl, rfl⟩ := hfin.out
                  exact ⟨ret_int HBT.out, HBB.out _ _ _ (HTL.out.1 (by first | exact trivial | rfl))⟩
                · have hc1' : 1 < cp := by omega
                  clear hc1
                  go_wp2
                  go_ret
                  obtain ⟨rfl, rfl, rfl⟩ := hfin.out
                  exact ⟨ret_int HBT.out, HBB.out _ _ _ HTL.out.2⟩
              · obtain rfl : i = 0 := by omega
                clear h0z hi0
                by_cases hc1 : cp = 1
                · have ht1 : t = 1 := by omega
                  subst ht1 hc1
                  go_wp2
                  go_ret
                  obtain ⟨rfl, rfl, rfl⟩ := hfin.out
                  exact ⟨ret_int (by simpa using HBT.out), HBB.out _ _ _ (HTL.out.1 (by first | exact trivial | rfl))⟩
                · have hc1' : 1 < cp := by omega
                  clear hc1
                  go_wp2
                  go_ret
                  obtain ⟨rfl, rfl, rfl⟩ := hfin.out
                  exact ⟨ret_int (by simpa using HBT.out), HBB.out _ _ _ HTL.out.2⟩
          · have hi9 : i < 9 := by omega
            have hi9' : ((i : Int) == 9) = false := beq_eq_false_iff_ne.2 (by omega)
            have hz0 : (z == 0) = false := beq_eq_false_iff_ne.2 (by omega)
            have hz' : 128 ≤ z := by omega
            have hfin : Hid (numG (i + 1) (v + (z % 128).toNat * 128 ^ i) b1 = (y, b', e')) := by
              have := HNUM.out
              rw [numG, if_neg hbad, if_neg hz128] at this
              exact this
            have HVV : Hid (v + (z % 128).toNat * 128 ^ i < 128 ^ (i + 1)) := by
              have h1 : (z % 128).toNat ≤ 127 := by omega
              have := Nat.mul_le_mul_right (128 ^ i) h1
              have := HV.out
              show _ < _
              rw [pow128]; omega
            clear hbad hz128 h9z h0z
            by_cases hi0 : 0 < i
            · by_cases hc1 : cp = 1
              · have ht1 : t = 1 := by omega
                subst ht1 hc1
                go_wp2
                go_roundw
                case rel =>
                  obtain ⟨k1, k2⟩ := HBB.out _ _ _ (HTL.out.1 (by first | exact trivial | rfl))
                  exact ⟨i + 1, _, b1, by omega, HVV.out, by rw [HBT.out], by go_num, hfin.out, fun c hc => HB1.out c (List.mem_cons_of_mem _ hc), k1, k2⟩
                case measure => simp [intOf]; omega
              · have hc1' : 1 < cp := by omega
                clear hc1
                go_wp2
                go_roundw
                case rel =>
                  obtain ⟨k1, k2⟩ := HBB.out _ _ _ HTL.out.2
                  exact ⟨i + 1, _, b1, by omega, HVV.out, by rw [HBT.out], by go_num, hfin.out, fun c hc => HB1.out c (List.mem_cons_of_mem _ hc), k1, k2⟩
                case measure => simp [intOf]; omega
            · obtain rfl : i = 0 := by omega
              clear hi0
              by_cases hc1 : cp = 1
              · have ht1 : t = 1 := by omega
                subst ht1 hc1
                go_wp2
                go_roundw
                case rel =>
                  obtain ⟨k1, k2⟩ := HBB.out _ _ _ (HTL.out.1 (by first | exact trivial | rfl))
                  exact ⟨1, _, b1, by omega, HVV.out, by have := HBT.out; simp at this ⊢; exact this, rfl, hfin.out, fun c hc => HB1.out c (List.mem_cons_of_mem _ hc), k1, k2⟩
                case measure => simp [intOf]
              · have hc1' : 1 < cp := by omega
                clear hc1
                go_wp2
                go_roundw
                case rel =>
                  obtain ⟨k1, k2⟩ := HBB.out _ _ _ HTL.out.2
                  exact ⟨1, _, b1, by omega, HVV.out, by have := HBT.out; simp at this ⊢; exact this, rfl, hfin.out, fun c hc => HB1.out c (List.mem_cons_of_mem _ hc), k1, k2⟩
                case measure => simp [intOf]
  · have hy0 : (0, b, e) = (y, b', e') := by unfold numR at hy; rw [if_neg he] at hy; exact hy
    obtain ⟨rfl, rfl, rfl⟩ : 0 = y ∧ b = b' ∧ e = e' := by simpa using hy0
    obtain ⟨A, t, cp, hk, hs⟩ := h
    have c1 : w.cell? ⟨g, 1, none⟩ = some (.int .i64 e) := hk.cell 1
    have hne : (e == 0) = false := beq_eq_false_iff_ne.2 he
    have HFI : Hid (RdrAt w B g b e) := ⟨A, t, cp, hk, hs⟩
    clear hy hy0 he hk hs
    go_enter Try.func51, Try.ntmps51
    go_wp2
    refine wp_loop_rounds 1 ?_
    rw [rounds_succ]
    go_wp2
    go_ret
    exact ⟨rfl, HFI.out, World.grownBy.refl _ _⟩

theorem RdrAt.lt {w : World} {B g : Nat} {b : List Int} {e : Int} (h : RdrAt w B g b e) : g < w.heap.size := by
  obtain ⟨A, t, c, hk, _⟩ := h
  exact hk.lt
set_option maxHeartbeats 1000000 in
theorem ridx_any (g : Nat) (next : Int) (b : List Int) (e : Int) (B : Nat) (w : World) (h : RdrAt w B g b e) (hB : B ≤ g) (hb : IsB b) (hn : 0 ≤ next ∧ next ≤ 4294967296) (i : Int) (b' : List Int) (e' : Int) (hy : idxR next b e = (i, b', e')) :
    Calls Try.prog 52 #[.pointer (some ⟨g, 0, none⟩), .int .i64 next] w fun en w' => en = .returned (.int .i64 i) ∧ RdrAt w' B g b' e' ∧ w.grownBy w' (some g) := by
  obtain ⟨y, hy'⟩ : ∃ y, y = (numR b e).1 := ⟨_, rfl⟩
  obtain ⟨b1, hb1⟩ : ∃ b1, b1 = (numR b e).2.1 := ⟨_, rfl⟩
  obtain ⟨e1, he1⟩ : ∃ e1, e1 = (numR b e).2.2 := ⟨_, rfl⟩
  have hnum : numR b e = (y, b1, e1) := by rw [hy', hb1, he1]
  have hyl : y < 18446744073709551616 := by rw [hy']; exact numR_lt hb
  unfold idxR at hy
  rw [← hy', ← hb1, ← he1] at hy
  clear hy' hb1 he1
  have hi : next + (y : Int) % 2147483648 = i := congrArg Prod.fst hy
  have hbe : b1 = b' := congrArg (fun p => p.2.1) hy
  have hee : failR e1 (decide (2147483647 < y) || decide (2147483647 < next + (y : Int))) 8 = e' := congrArg (fun p => p.2.2) hy
  subst hbe
  have HC := Lib.hid (number_any g b e B w h hB hb y b1 e1 hnum)
  have HI := Lib.hid hi
  have HE := Lib.hid hee
  clear hy hi hee hnum h
  by_cases hbig : 2147483647 < y
  · have hdd : (decide (2147483647 < y) || decide (2147483647 < next + (y : Int))) = true := by simp [hbig]
    have hyi : (2147483647 : Int) < (y : Int) := by omega
    have hw2 : IntKind.i64.wrap ((y : Int) % 2147483648) = (y : Int) % 2147483648 := IntWalk.i64_in _ (by omega)
    rw [hdd] at HE
    clear hdd
    have hFA : Hid (∀ w1, RdrAt w1 B g b1 e1 → Calls Try.prog 53 #[.pointer (some ⟨g, 0, none⟩), .bool true, .int .i64 8] w1 fun en w' => en = .returned (.tuple #[]) ∧ RdrAt w' B g b1 e' ∧ w1.grownBy w' (some g)) := fun w1 h1 => by
      have := fail_any g true 8 e1 b1 B w1 h1 hB
      rw [HE.out] at this
      exact this
    have hm1 : 0 ≤ (y : Int) % 2147483648 ∧ (y : Int) % 2147483648 < 2147483648 := by omega
    go_enter Try.func52, Try.ntmps52
    go_wp2_with fail
    refine HC.out.mono ?_
    rintro en w1 ⟨rfl, hr1, hg1⟩
    have HG1 := Lib.hid hg1
    have HR1 := Lib.hid hr1
    clear hr1 hg1
    go_wp2_with fail
    refine (hFA.out w1 HR1.out).mono ?_
    rintro en w2 ⟨rfl, hr2, hg2⟩
    have HG2 := Lib.hid hg2
    have HR2 := Lib.hid hr2
    clear hr2 hg2
    go_wp2
    go_ret
    exact ⟨ret_int HI.out, HR2.out, HG1.out.trans HG2.out⟩
  · have hyi : (y : Int) ≤ 2147483647 := by omega
    obtain ⟨q, hq⟩ : ∃ q, q = decide (2147483647 < next + (y : Int)) := ⟨_, rfl⟩
    have hdd : (decide (2147483647 < y) || decide (2147483647 < next + (y : Int))) = q := by rw [hq]; simp [hbig]
    rw [hdd] at HE
    clear hdd hbig
    have hFA : Hid (∀ w1, RdrAt w1 B g b1 e1 → Calls Try.prog 53 #[.pointer (some ⟨g, 0, none⟩), .bool q, .int .i64 8] w1 fun en w' => en = .returned (.tuple #[]) ∧ RdrAt w' B g b1 e' ∧ w1.grownBy w' (some g)) := fun w1 h1 => by
      have := fail_any g q 8 e1 b1 B w1 h1 hB
      rw [HE.out] at this
      exact this
    have hm1 : 0 ≤ (y : Int) % 2147483648 ∧ (y : Int) % 2147483648 < 2147483648 := by omega
    cases q
    all_goals
      have hlim := hq.symm
      have hdy : decide ((2147483647 : Int) < (y : Int)) = false := decide_eq_false (by omega)
      clear hq
      go_enter Try.func52, Try.ntmps52
      go_wp2_with fail
      refine HC.out.mono ?_
      rintro en w1 ⟨rfl, hr1, hg1⟩
      have HG1 := Lib.hid hg1
      have HR1 := Lib.hid hr1
      clear hr1 hg1
      go_wp2_with fail
      refine (hFA.out w1 HR1.out).mono ?_
      rintro en w2 ⟨rfl, hr2, hg2⟩
      have HG2 := Lib.hid hg2
      have HR2 := Lib.hid hr2
      clear hr2 hg2
      go_wp2
      go_ret
      exact ⟨ret_int HI.out, HR2.out, HG1.out.trans HG2.out⟩
end Go.Proofs.Ytcniepogobgaoaa
