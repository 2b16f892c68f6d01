/-
  slices.Equal of bytes; rangecoder.Decode of what Encode made.
-/
import Derived.Test.YtcniepogobgaoaaRcW5
namespace Go.Proofs.Ytcniepogobgaoaa
set_option linter.unusedVariables false
set_option linter.unusedSimpArgs false
set_option maxRecDepth 4000
open Go.RowKit

def Drew (v : Value) (w : World) (e : Ending) (w' : World) : Prop := e = .returned v ∧ ∃ k, w' = w.drewN k
set_option maxHeartbeats 4000000 in
/-- Two slices that read as the same bytes are equal. -/
theorem eqb_any (A B : Option Addr) (n c d : Nat) (zs : List Int) (w : World) (hl : zs.length = n) (hn9 : n < 1000000000) (ha : RdU w w.heap.size A zs) (hb : RdU w w.heap.size B zs) :
    Calls Try.prog 40 #[.slice A n c, .slice B n d] w (Drew (.bool true) w) := by
  have HC : Hid (∀ k, k < n → ∃ b1 o1 b2 o2, A = some ⟨b1, o1, none⟩ ∧ B = some ⟨b2, o2, none⟩ ∧ w.cell? ⟨b1, o1 + k, none⟩ = some (.int .u8 (ix zs k)) ∧ w.cell? ⟨b2, o2 + k, none⟩ = some (.int .u8 (ix zs k))) := fun k hk => by
    obtain ⟨b1, o1, e1, _, h1⟩ := ha (by omega)
    obtain ⟨b2, o2, e2, _, h2⟩ := hb (by omega)
    exact ⟨b1, o1, b2, o2, e1, e2, h1 k (by omega), h2 k (by omega)⟩
  clear ha hb
  have HL := Lib.hid hl
  clear hl
  go_enter Try.func40, Try.ntmps40
  go_wp2
  go_loopw [13] (fun iv W => ∃ i k : Nat, i ≤ n ∧ iv = .int .i64 (i : Int) ∧ W = w.drewN k) (fun iv _ => n - (intOf iv).toNat)
  case atStart => exact ⟨0, 0, by omega, rfl, rfl⟩
  case round =>
    obtain ⟨i, k, hi, rfl, rfl⟩ := hrel
    by_cases hin : i < n
    · have hii : (i : Int) < (n : Int) := by omega
      obtain ⟨b1, o1, b2, o2, rfl, rfl, q1', q2'⟩ := HC.out i hin
      have q1 : (w.drewN k).cell? ⟨b1, o1 + i, none⟩ = some (.int .u8 (ix zs i)) := q1'
      have q2 : (w.drewN k).cell? ⟨b2, o2 + i, none⟩ = some (.int .u8 (ix zs i)) := q2'
      obtain ⟨x, hx⟩ : ∃ x, x = ix zs i := ⟨_, rfl⟩
      obtain ⟨w2, hw2⟩ : ∃ w2, w2 = w.drewN k := ⟨_, rfl⟩
      rw [← hx] at q1 q2
      rw [← hw2] at q1 q2 ⊢
      have HW2 := Lib.hid hw2
      clear q1' q2' hx hw2
      go_upto_region 6 with (fail)
      go_quiet (fail)
      go_wp2
      go_roundw
      case rel => exact ⟨i + 1, k + nq, by omega, by go_num, by rw [HW2.out]; rw [World.drewN_drewN]⟩
      case measure => simp [intOf]; omega
    · have hii : ¬ ((i : Int) < (n : Int)) := by omega
      go_wp2
      go_ret
      exact ⟨rfl, k, rfl⟩
/-- A block of bytes. -/
def bl (l : List Nat) : Array Value := ((natI l).map (Value.int .u8)).toArray
theorem bl_size (l : List Nat) : (bl l).size = l.length := by simp [bl, natI]
theorem bl_rep (n : Nat) : (List.replicate n (Value.int .u8 0)).toArray = bl (List.replicate n 0) := by simp [bl, natI]
theorem bl_set (l : List Nat) (k x : Nat) : (bl l).setIfInBounds k (.int .u8 (x : Int)) = bl (l.set k x) := by
  unfold bl natI
  rw [List.setIfInBounds_toArray]
  simp [List.map_set]
theorem Blk.rdB {w : World} {g : Nat} {l : List Nat} (h : Blk w g 5 (bl l)) : RdU w w.heap.size (some ⟨g, 0, none⟩) (natI l) := fun _ =>
  ⟨g, 0, rfl, h.lt, fun k hk => by
    rw [natI_len] at hk
    rw [Nat.zero_add, h.cell k]
    simp [bl, natI, ix, List.getD_eq_getElem?_getD, List.getElem?_eq_getElem hk]⟩
theorem run_make_bytes (n : Nat) (hn : n < 1000000) (W : World) :
    (Instr.makeSlice 33 (.int .i64 (n : Int)) (.int .i64 (n : Int))).run Try.prog W = .ok (.slice (some ⟨W.heap.size, 0, none⟩) n n) (W.alloc (.cells (madeCells #[.int .u8 0] n) 5)) := by
  obtain ⟨i0, hi0, hz0, hz1, hz2⟩ := info_parts u8_info
  have hr := run_make (P := Try.prog) W 33 5 i0 (.int .u8 0) Try.underlying33 hi0 hz0 .i64 .i64 (n : Int) (n : Int) (by omega) (by omega) (by rw [hz2]; omega) (by omega)
  simp only [Int.toNat_natCast, hz1, Nat.mul_one] at hr
  exact hr
theorem made_bytes (n : Nat) : madeCells #[.int .u8 0] n = bl (List.replicate n 0) := by
  apply Array.ext'
  simp [madeCells, bl, natI, Nat.mod_one]
  apply List.ext_getElem
  · simp
  · intro i h1 h2; simp
theorem DecJ.store {w0 : World} {pa pr pv g : Nat} {A : Option Addr} {rl rc : Nat} {body : List Nat} {q : Nat} {l o : List Nat} {W : World} (h : DecJ w0 pa pr pv g A rl rc body q (.cells (bl l) 5) o W) (hq : w0.heap.size ≤ q) (k x : Nat) : DecJ w0 pa pr pv g A rl rc body q (.cells (bl (l.set k x)) 5) o (W.setCell ⟨q, k, none⟩ (.int .u8 (x : Int))) := by
  have hk : Blk W q 5 (bl l) := h.kq
  have hqr : q ≠ pr := hk.ne_ h.box.rest (by decide)
  refine ⟨h.box.frm (Frm.setCell W ⟨q, k, none⟩ _) (fun i hi => by rw [hi]; exact hq) (fun e => h.qa e.symm) (fun e => hqr e.symm) (fun e => h.qv e.symm), h.gle, h.ga, h.gr, h.gv, ?_, h.qg, h.qa, h.qv⟩
  have := hk.set_ k (.int .u8 (x : Int))
  rw [bl_set] at this
  exact this
theorem take_set_snoc {l xs : List Nat} {k x : Nat} (hl : l.length = xs.length) (hk : k < l.length) (ht : l.take k = xs.take k) (hx : x = xs.getD k 0) : (l.set k x).take (k + 1) = xs.take (k + 1) := by
  rw [List.take_succ_eq_append_getElem (by rw [List.length_set]; exact hk), List.take_succ_eq_append_getElem (by omega), List.getElem_set_self, List.take_set_of_le (Nat.le_refl _), ht, hx, List.getD_eq_getElem?_getD, List.getElem?_eq_getElem (by omega)]
  rfl
def DecPost (w : World) (n : Nat) (zs : List Int) (e : Ending) (w' : World) : Prop := ∃ g c', e = .returned (.tuple #[.slice (some ⟨g, 0, none⟩) n c', .int .i64 0]) ∧ w.heap.size ≤ g ∧ c' = n ∧ RdU w' w'.heap.size (some ⟨g, 0, none⟩) zs ∧ Below w.heap.size w w'
set_option maxHeartbeats 40000000 in
theorem decode_any (xs : List Nat) (b off m c n : Nat) (w : World) (hr : RdU w w.heap.size (some ⟨b, off, none⟩) (rcPack xs)) (hm : (rcPack xs).length = m) (hmc : m ≤ c) (hn : xs.length = n) (hn0 : 0 < n) (hle : n ≤ 4000) (hb : ∀ x ∈ xs, x < 256) :
    Calls Try.prog 21 #[.slice (some ⟨b, off, none⟩) m c] w (DecPost w n (natI xs)) := by
  obtain ⟨L, hL⟩ : ∃ L, (enc n).length = L := ⟨_, rfl⟩
  have hlen : m = L + (rcBody xs).length := by rw [← hm, rcPack, List.length_append, natI_len, hn, hL]
  have hL1 : 1 ≤ L := by
    have := enc_ne n
    rcases h : enc n with _ | ⟨y, t⟩
    · exact absurd h this
    · rw [h] at hL; simp at hL; omega
  have hout : (rcBody xs).length ≤ 200000 := by
    have hne : xs ≠ [] := by rintro rfl; simp at hn; omega
    rw [rcBody_cons hne, List.length_append]
    have := outAt_len (xs := xs) (k := xs.length) (j := 0) (Nat.le_refl _) (by omega)
    simp [be4]
    omega
  have hL2 : L ≤ 10 := by rw [← hL]; exact enc_len10' (by omega)
  have hbl : b < w.heap.size := by
    obtain ⟨b', off', e1, e2, _⟩ := hr (by omega)
    injection e1 with e1
    injection e1 with e1 e3
    omega
  have hhead : ∀ k, k < L → w.cell? ⟨b, off + k, none⟩ = some (.int .u8 (ix (enc n) k)) := fun k hk => by
    obtain ⟨b', off', e1, e2, e3⟩ := hr (by omega)
    injection e1 with e1
    injection e1 with e1 e4
    subst e1 e4
    rw [e3 k (by omega)]
    simp only []
    rw [rcPack, ix_app_l (by rw [hn, hL]; exact hk), hn]
  obtain ⟨rl, hrl⟩ : ∃ rl, rl = m - L := ⟨_, rfl⟩
  have hbody : (rcBody xs).length = rl := by omega
  obtain ⟨Ar, hAr⟩ : ∃ Ar : Option Addr, Ar = (if c = L then some ⟨b, off, none⟩ else some ⟨b, off + L, none⟩) := ⟨_, rfl⟩
  have HRD : Hid (RdU w w.heap.size Ar (natI (rcBody xs))) := Lib.hid (by
    rcases Nat.eq_zero_or_pos rl with h0 | h0
    · have : rcBody xs = [] := List.eq_nil_of_length_eq_zero (by omega)
      rw [this]; exact RdU.nil
    · rw [hAr, if_neg (by omega)]
      have := hr.drop L
      rwa [rcPack, List.drop_append_of_le_length (by rw [hn, hL]; exact Nat.le_refl _), hn, List.drop_of_length_le (by rw [hL]; exact Nat.le_refl _), List.nil_append] at this)
  have hm6 : m < 1000000 := by omega
  have hLm : L ≤ m := by omega
  have HHD := Lib.hid hhead
  have HLL := Lib.hid hL
  have HR := Lib.hid hr
  have HM := Lib.hid hm
  have HN := Lib.hid hn
  have HB := Lib.hid hb
  have HAR := Lib.hid hAr
  have HRL := Lib.hid hrl
  have HBD := Lib.hid hbody
  clear hhead hL hr hm hn hb hAr hrl hbody hlen hout
  go_enter Try.func21, Try.ntmps21
  go_wp2_with fail
  refine (length_any n hle b off m c L w HLL.out hLm hmc hm6 HHD.out).mono ?_
  rintro e w1 ⟨c', rfl, nd, rfl⟩
  rw [← HAR.out, ← HRL.out]
  obtain ⟨w1, hw1⟩ : ∃ w1, w1 = w.drewN nd := ⟨_, rfl⟩
  rw [← hw1]
  have hz1 : w1.heap.size = w.heap.size := by rw [hw1]; rfl
  have HW1 := Lib.hid hw1
  have HZ1 := Lib.hid hz1
  clear hw1 hz1
  go_wp2
  have hblf : w.heap.size ≤ w1.heap.size := by rw [HZ1.out]; exact Nat.le_refl _
  have HD0 : Hid (DecB w (w1.heap.size + 1 + 1) w1.heap.size (w1.heap.size + 1) Ar rl c' (rcBody xs) 0 (((w1.alloc (.cells #[.slice Ar rl c'] 33)).alloc (.cells #[.int .u32 0] 72)).alloc (.cells #[.int .i64 0] 3))) := by
    have hb1 : Below w.heap.size w w1 := by rw [HW1.out]; exact ((Frm.refl (fun _ => False) w).drewN nd).below (Nat.le_refl _) (fun _ h => h.elim)
    refine Lib.hid ⟨((hb1.alloc hblf _).alloc (by simp; omega) _).alloc (by simp; omega) _, by omega, by omega, ?_, ?_, ?_⟩
    · have := Blk.new ((w1.alloc (.cells #[.slice Ar rl c'] 33)).alloc (.cells #[.int .u32 0] 72)) 3 #[.int .i64 0]
      simpa using this
    · exact ((Blk.new w1 33 #[.slice Ar rl c']).alloc _).alloc _
    · rw [win_zero]
      have := (Blk.new (w1.alloc (.cells #[.slice Ar rl c'] 33)) 72 #[.int .u32 0]).alloc (.cells #[.int .i64 0] 3)
      simpa using this
  obtain ⟨W3, hW3⟩ : ∃ W3, W3 = (((w1.alloc (.cells #[.slice Ar rl c'] 33)).alloc (.cells #[.int .u32 0] 72)).alloc (.cells #[.int .i64 0] 3)) := ⟨_, rfl⟩
  rw [← hW3] at HD0 ⊢
  clear hW3
  obtain ⟨pa, hpa⟩ : ∃ x, x = w1.heap.size + 1 + 1 := ⟨_, rfl⟩
  obtain ⟨pv, hpv⟩ : ∃ x, x = w1.heap.size + 1 := ⟨_, rfl⟩
  obtain ⟨pr, hpr⟩ : ∃ x, x = w1.heap.size := ⟨_, rfl⟩
  rw [← hpa, ← hpv, ← hpr] at HD0 ⊢
  have hp1 : pr ≠ pv := by omega
  have hp2 : pr ≠ pa := by omega
  have hp3 : pa ≠ pv := by omega
  clear hpa hpv hpr hblf HHD HAR HRL HZ1 HW1 hmc
  have HEN : Hid (∀ (args : Array Value) (W : World), Sem.run Try.prog (callFunc 36 args) W = .ok (.enter 36 args) W) := Lib.hid fun _ _ => rfl
  have HBB := Lib.hid (rcBody_bytes xs)
  go_loopw [26] (fun v W => ∃ k : Nat, k ≤ 4 ∧ v = .int .i64 (k : Int) ∧ Hid (DecB w pa pr pv Ar rl c' (rcBody xs) k W)) (fun v _ => 4 - (intOf v).toNat)
  case atStart => exact ⟨0, by omega, rfl, HD0⟩
  case round =>
    obtain ⟨k, hk, rfl, HD⟩ := hrel
    by_cases hk4 : k < 4
    · have hki : (k : Int) < 4 := by omega
      go_wp2_with fail
      refine (dec1_any w pa pr pv Ar rl c' (rcBody xs) HBB.out HBD.out HRD.out k (by omega) 0 wr HD.out).mono ?_
      rintro e w2 ⟨rfl, hd, _⟩
      have HD2 := Lib.hid hd
      clear hd
      go_wp2
      go_roundw
      case rel => exact ⟨k + 1, by omega, by go_num, HD2⟩
      case measure => simp [intOf]; omega
    · have hki : ¬ ((k : Int) < 4) := by omega
      obtain rfl : k = 4 := by omega
      go_wp2_with fail
      refine (newc_any 36 #[.pointer (some ⟨pa, 0, none⟩), .pointer (some ⟨pr, 0, none⟩), .pointer (some ⟨pv, 0, none⟩)] wr).mono ?_
      rintro e w2 ⟨rfl, hrc, hbl2⟩
      have HRC := Lib.hid hrc
      have HBL := Lib.hid hbl2
      clear hrc hbl2
      obtain ⟨g, hg⟩ : ∃ g, g = wr.heap.size := ⟨_, rfl⟩
      rw [← hg] at HRC HBL ⊢
      have HG := Lib.hid hg
      clear hg
      have hmk := run_make_bytes n (by omega)
      go_wp2
      rw [made_bytes]
      have HBJ : Hid (∀ l : List Nat, l = List.replicate n 0 → DecJ w pa pr pv g Ar rl c' (rcBody xs) w2.heap.size (.cells (bl l) 5) (outAt xs 0 0) (w2.alloc (.cells (bl (List.replicate n 0)) 5))) := Lib.hid fun l hl => by
        have hge : w.heap.size ≤ g := by rw [HG.out]; exact HD.out.bel.size
        have hla := HD.out.at_.lt
        have hlr := HD.out.rest.lt
        have hlv := HD.out.val.lt
        have hlt2 := HBL.out.size
        obtain ⟨cs, hcs, _⟩ := HRC.out
        have hcl := hcs.lt
        have hgg := HG.out
        have hf : DecB w pa pr pv Ar rl c' (rcBody xs) 4 w2 := ⟨HD.out.bel.trans (HBL.out.mono hge), HD.out.ale, HD.out.vle, HD.out.at_.below HBL.out (by omega), HD.out.rest.below HBL.out (by omega), HD.out.val.below HBL.out (by omega)⟩
        rw [outAt_zero, hl]
        exact ⟨⟨hf.bel.alloc hf.bel.size _, hf.ale, hf.vle, hf.at_.alloc _, hf.rest.alloc _, hf.val.alloc _⟩, hge, by omega, by omega, by omega, Blk.new _ _ _, by omega, by omega, by omega⟩
      have HRC2 : Hid (RcM (w2.alloc (.cells (bl (List.replicate n 0)) 5)) g (.func (.func 36) #[] #[.pointer (some ⟨pa, 0, none⟩), .pointer (some ⟨pr, 0, none⟩), .pointer (some ⟨pv, 0, none⟩)]) (rcAt xs 0 0)) := by
        obtain ⟨cs, hcs, hcc⟩ := HRC.out
        rw [rcAt_zero]
        exact Lib.hid ⟨cs, hcs.alloc _, hcc⟩
      obtain ⟨q, hq⟩ : ∃ q, q = w2.heap.size := ⟨_, rfl⟩
      obtain ⟨W5, hW5⟩ : ∃ W5, W5 = w2.alloc (.cells (bl (List.replicate n 0)) 5) := ⟨_, rfl⟩
      rw [← hq, ← hW5] at HBJ
      rw [← hW5] at HRC2
      rw [← hq, ← hW5]
      have hgq : g < q := by
        obtain ⟨cs, hcs, _⟩ := HRC.out
        rw [hq]; exact hcs.lt
      have hwq : w.heap.size ≤ q := by
        have := HD.out.bel.size
        have := HBL.out.size
        omega
      clear hq hW5 hmk HG HBL HRC HD HD0
      go_loopw [37] (fun v W => ∃ (k : Nat) (l : List Nat), k ≤ n ∧ v = .int .i64 (k : Int) ∧ Hid (l.length = n ∧ l.take k = xs.take k) ∧ Hid (RcM W g (.func (.func 36) #[] #[.pointer (some ⟨pa, 0, none⟩), .pointer (some ⟨pr, 0, none⟩), .pointer (some ⟨pv, 0, none⟩)]) (rcAt xs k 0)) ∧ Hid (DecJ w pa pr pv g Ar rl c' (rcBody xs) q (.cells (bl l) 5) (outAt xs k 0) W)) (fun v _ => n - (intOf v).toNat)
      case atStart => exact ⟨0, List.replicate n 0, by omega, rfl, Lib.hid ⟨List.length_replicate, rfl⟩, HRC2, Lib.hid (HBJ.out _ rfl)⟩
      case round =>
        obtain ⟨k, l, hk, rfl, HLL2, HC1, HJ1⟩ := hrel
        by_cases hkn : k < n
        · have hki : (k : Int) < (n : Int) := by omega
          obtain ⟨x9, hx9⟩ : ∃ x9, x9 = xs.getD k 0 := ⟨_, rfl⟩
          have hx2 : x9 < 256 := by
            rw [hx9, List.getD_eq_getElem?_getD, List.getElem?_eq_getElem (show k < xs.length by rw [HN.out]; exact hkn)]
            exact HB.out _ (List.getElem_mem _)
          have HX9 := Lib.hid hx9
          clear hx9
          go_wp2
          go_loopw [13] (fun cv W => ∃ j : Nat, j ≤ 8 ∧ cv = .int .i64 (ctx x9 j : Int) ∧ Hid (RcM W g (.func (.func 36) #[] #[.pointer (some ⟨pa, 0, none⟩), .pointer (some ⟨pr, 0, none⟩), .pointer (some ⟨pv, 0, none⟩)]) (rcAt xs k j)) ∧ Hid (DecJ w pa pr pv g Ar rl c' (rcBody xs) q (.cells (bl l) 5) (outAt xs k j) W)) (fun cv _ => 512 - (intOf cv).toNat)
          case atStart => exact ⟨0, by omega, by rw [ctx_zero hx2]; rfl, HC1, HJ1⟩
          case round =>
            obtain ⟨j, hj, rfl, HC2, HJ2⟩ := hrel
            by_cases hj8 : j < 8
            · have hc9 := ctx_lt hx2 hj8
              have hs9 := ctx_succ (x := x9) hj8
              have hb9 := bitAt_01 x9 j
              have HA := Lib.hid (rcAt_succ xs k hj8)
              have HBo := Lib.hid (outAt_succ xs k hj8)
              have hsee := rc_see (xs := xs) (k := k) (j := j) (by rw [HN.out]; exact hkn) hj8 HB.out
              rw [← HX9.out] at HA HBo hsee
              obtain ⟨cj, hcj⟩ : ∃ cj, cj = ctx x9 j := ⟨_, rfl⟩
              obtain ⟨bj, hbj⟩ : ∃ bj, bj = bitAt x9 j := ⟨_, rfl⟩
              rw [← hbj] at hb9
              rw [← hcj, ← hbj] at hs9 HA HBo hsee
              rw [← hcj] at hc9
              have hcp : 1 ≤ cj := by rw [hcj]; exact Nat.le_trans Nat.one_le_two_pow (Nat.le_add_right _ _)
              have hci : (cj : Int) < 256 := by omega
              rw [← hcj]
              clear hcj hbj
              obtain ⟨mid, hmid⟩ : ∃ mid, mid = rcMid (rcAt xs k j) cj := ⟨_, rfl⟩
              obtain ⟨vl, hvl⟩ : ∃ vl, vl = win (rcBody xs) (4 + (outAt xs k j).length) := ⟨_, rfl⟩
              have hqv : wr.cell? ⟨pv, 0, none⟩ = some (.int .u32 (vl : Int)) := by rw [hvl]; exact HJ2.out.box.val.cell 0
              rw [← win_four, ← hvl, ← hmid] at hsee
              have HMID := Lib.hid hmid
              have HLN : Hid ((outAt xs k j).length < 900000) := Lib.hid (by have := outAt_len (xs := xs) (k := k) (j := j) (by rw [HN.out]; omega) (by omega); omega)
              clear hvl hmid
              go_wp2_with fail
              refine (split_any g cj (rcAt xs k j) _ wr HC2.out (rcAt_ok xs k j) hc9).mono ?_
              rintro e w3 ⟨rfl, n3, rfl⟩
              rw [← HMID.out]
              have HC3 : Hid (RcM (wr.drewN n3) g _ (rcAt xs k j)) := Lib.hid (HC2.out.drewN n3)
              have HJ3 : Hid (DecJ w pa pr pv g Ar rl c' (rcBody xs) q (.cells (bl l) 5) (outAt xs k j) (wr.drewN n3)) := Lib.hid (HJ2.out.frm ((Frm.refl (fun k => k = g) wr).drewN n3) (fun k hk => hk))
              have hqv3 : (wr.drewN n3).cell? ⟨pv, 0, none⟩ = some (.int .u32 (vl : Int)) := hqv
              obtain ⟨w3, hw3⟩ : ∃ w3, w3 = wr.drewN n3 := ⟨_, rfl⟩
              rw [← hw3] at HC3 HJ3 hqv3 ⊢
              clear hw3 hqv HC2 HJ2
              rcases hb9 with rfl | rfl
              · have hvm : ¬ (vl ≤ mid) := fun h => absurd (hsee.1 h) (by omega)
                have hvi : ¬ ((vl : Int) ≤ (mid : Int)) := by omega
                clear hsee hvm
                have hnar := narrow_any 36 _ _ g cj 0 (rcAt xs k j) (outAt xs k j) mid w3 (dec_sink w pa pr pv g Ar rl c' (rcBody xs) q (.cells (bl l) 5) HBB.out HBD.out HRD.out) HLN.out HC3.out HJ3.out (rcAt_ok xs k j) hc9 (by omega) HMID.out
                rw [show ((0 : Nat) : Int) = 0 from rfl] at hnar
                have HNAR := Lib.hid hnar
                clear hnar
                go_wp2_with fail
                refine HNAR.out.mono ?_
                rintro e w4 ⟨rfl, hc4, hj4⟩
                rw [← HA.out] at hc4
                rw [← HBo.out] at hj4
                have HC4 := Lib.hid hc4
                have HJ4 := Lib.hid hj4
                clear hc4 hj4 HA HBo HNAR hqv3 hvi
                go_wp2
                go_roundw
                case rel => exact ⟨j + 1, by omega, by go_num, HC4, HJ4⟩
                case measure => simp [intOf]; omega
              · have hvm : vl ≤ mid := hsee.2 rfl
                have hvi : (vl : Int) ≤ (mid : Int) := by omega
                clear hsee hvm
                have hnar := narrow_any 36 _ _ g cj 1 (rcAt xs k j) (outAt xs k j) mid w3 (dec_sink w pa pr pv g Ar rl c' (rcBody xs) q (.cells (bl l) 5) HBB.out HBD.out HRD.out) HLN.out HC3.out HJ3.out (rcAt_ok xs k j) hc9 (by omega) HMID.out
                rw [show ((1 : Nat) : Int) = 1 from rfl] at hnar
                have HNAR := Lib.hid hnar
                clear hnar
                go_wp2_with fail
                refine HNAR.out.mono ?_
                rintro e w4 ⟨rfl, hc4, hj4⟩
                rw [← HA.out] at hc4
                rw [← HBo.out] at hj4
                have HC4 := Lib.hid hc4
                have HJ4 := Lib.hid hj4
                clear hc4 hj4 HA HBo HNAR hqv3 hvi
                go_wp2
                go_roundw
                case rel => exact ⟨j + 1, by omega, by go_num, HC4, HJ4⟩
                case measure => simp [intOf]; omega
            · obtain rfl : j = 8 := by omega
              have hc8 : ctx x9 8 = 256 + x9 := ctx_eight x9
              have hci : ¬ (((256 + x9 : Nat) : Int) < 256) := by omega
              have hwx : IntKind.u8.wrap ((256 + x9 : Nat) : Int) = (x9 : Int) := by rw [IntKind.wrap_u8]; omega
              rw [hc8]
              rw [rcAt_eight (by rw [HN.out]; exact hkn)] at HC2
              rw [outAt_eight (by rw [HN.out]; exact hkn)] at HJ2
              have hbk : Blk wr q 5 (bl l) := HJ2.out.kq
              have hfz := hbk.frozen k
              have hcl : wr.cell? ⟨q, k, none⟩ = some (.int .u8 ((l.getD k 0 : Nat) : Int)) := by
                rw [hbk.cell k]
                have : k < l.length := by rw [HLL2.out.1]; exact hkn
                simp [bl, natI, List.getD_eq_getElem?_getD, List.getElem?_eq_getElem this]
              have HC5 : Hid (RcM (wr.setCell ⟨q, k, none⟩ (.int .u8 (x9 : Int))) g (.func (.func 36) #[] #[.pointer (some ⟨pa, 0, none⟩), .pointer (some ⟨pr, 0, none⟩), .pointer (some ⟨pv, 0, none⟩)]) (rcAt xs (k + 1) 0)) := by
                obtain ⟨cs, hcs, hcc⟩ := HC2.out
                exact Lib.hid ⟨cs, hcs.far (Nat.ne_of_lt hgq) _, hcc⟩
              have HJ5 := Lib.hid (HJ2.out.store hwq k x9)
              have HL5 := Lib.hid (take_set_snoc (x := x9) (by rw [HLL2.out.1, HN.out]) (by rw [HLL2.out.1]; exact hkn) HLL2.out.2 HX9.out)
              have HL6 : Hid ((l.set k x9).length = n) := Lib.hid (by rw [List.length_set]; exact HLL2.out.1)
              have HX256 : Hid ((x9 : Int) % 256 = (x9 : Int)) := Lib.hid (by omega)
              clear hc8 hbk
              go_wp2
              rw [HX256.out]
              go_roundw
              case rel => exact ⟨k + 1, l.set k x9, by omega, by go_num, Lib.hid ⟨HL6.out, HL5.out⟩, HC5, HJ5⟩
              case measure => simp [intOf]; omega
        · have hki : ¬ ((k : Int) < (n : Int)) := by omega
          obtain rfl : k = n := by omega
          obtain rfl : l = xs := by
            have h1 := HLL2.out.1
            have h2 := HLL2.out.2
            rwa [List.take_of_length_le (by omega), List.take_of_length_le (by rw [HN.out]; exact Nat.le_refl _)] at h2
          have hbk : Blk wr q 5 (bl l) := HJ1.out.kq
          have HRW := Lib.hid hbk.rdB
          have HBK := Lib.hid hbk
          clear hbk
          go_wp2_with fail
          refine (encode_any l (some ⟨q, 0, none⟩) k k wr HRW.out HN.out hle HB.out (rcPack l) m rfl HM.out).mono ?_
          rintro e w6 ⟨A6, c6, rfl, ho6, hb6⟩
          have HB6 := Lib.hid hb6
          have HPK : Hid (RdU w6 w6.heap.size (some ⟨b, off, none⟩) (rcPack l)) := Lib.hid ((HR.out.below (HJ1.out.box.bel.trans (hb6.mono HJ1.out.box.bel.size)) (Nat.le_refl _)).more (Nat.le_trans HJ1.out.box.bel.size hb6.size))
          have HO6 := Lib.hid ho6
          clear hb6 ho6
          go_wp2_with fail
          refine (eqb_any A6 (some ⟨b, off, none⟩) m c6 c (rcPack l) w6 HM.out (by omega) HO6.out.rd HPK.out).mono ?_
          rintro e w7 ⟨rfl, k7, rfl⟩
          go_wp2
          go_ret2
          have hlt : q < wr.heap.size := HBK.out.lt
          refine ⟨q, k, rfl, hwq, rfl, ?_, ?_⟩
          · have := (HBK.out.below HB6.out hlt).rdB
            exact this
          · exact (HJ1.out.box.bel.trans (HB6.out.mono HJ1.out.box.bel.size)).trans (((Frm.refl (fun _ => False) w6).drewN k7).below (Nat.le_trans HJ1.out.box.bel.size HB6.out.size) (fun _ h => h.elim))
end Go.Proofs.Ytcniepogobgaoaa
