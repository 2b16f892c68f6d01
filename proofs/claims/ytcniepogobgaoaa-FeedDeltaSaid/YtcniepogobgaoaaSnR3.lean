/-
  Package snapshot: Apply, called.
-/
import Derived.Test.YtcniepogobgaoaaSnR2
import Derived.Deep.DeepCutAuto
import Derived.Deep.CutBlock
namespace Go.Proofs.Ytcniepogobgaoaa
set_option linter.unusedVariables false
set_option linter.unusedSimpArgs false
set_option maxRecDepth 4000
open Go.RowKit Go.Maps Go.Sort Go.Shelf

def vF (l : Vw) (i : Int) : Option Lit := (findD l i).map (Lit.int .i64)
def gF (l : List Int) (i : Int) : Option Lit := if i ∈ l then some (.bool true) else none
theorem findD_none_of {l : Vw} {i : Int} (h : ∀ p ∈ l, p.1 ≠ i) : findD l i = none := by
  induction l with
  | nil => rfl
  | cons a t ih => rw [findD, if_neg (h a (List.mem_cons_self ..))]; exact ih fun p hp => h p (List.mem_cons_of_mem _ hp)
theorem vF_snoc {l : Vw} {k v : Int} (h : ∀ p ∈ l, p.1 ≠ k) (i : Int) : (if i = k then some (Lit.int .i64 v) else vF l i) = vF (l ++ [(k, v)]) i := by
  unfold vF
  rw [findD_snoc]
  by_cases hi : i = k
  · subst hi; rw [if_pos rfl, findD_none_of h]; simp
  · rw [if_neg hi]
    cases findD l i with
    | some u => rfl
    | none => simp [Ne.symm hi]
theorem gF_snoc (l : List Int) (k i : Int) : (if i = k then some (Lit.bool true) else gF l i) = gF (l ++ [k]) i := by
  unfold gF
  by_cases hi : i = k
  · subst hi; simp
  · simp [hi]

theorem w64_wrap (x : Int) : wrap64 x = w64 x := by
  unfold w64 wrap64
  simp only [IntKind.wrap, IntKind.bits, IntKind.signed]
  simp
  split <;> omega
theorem back_bits (z : Nat) (h : z < 18446744073709551616) : wrap64 (bits BinOp.xor IntKind.u64 ((z : Int) / 2) (IntKind.u64.wrap (-bits BinOp.and IntKind.u64 (z : Int) 1))) = back z := by
  have e1 : bits BinOp.and IntKind.u64 (z : Int) 1 = ((z % 2 : Nat) : Int) := by
    have := bits_and_u64_nat z 1 h (by omega)
    rw [nat_mask1] at this
    exact this
  rw [e1, IntKind.wrap_u64]
  rw [show ((z : Int) / 2) = ((z / 2 : Nat) : Int) from by omega]
  unfold back
  have hz2 : z / 2 < 9223372036854775808 := by omega
  rcases Nat.mod_two_eq_zero_or_one z with h0 | h0
  · rw [h0, if_neg (by omega)]
    rw [show (-((0 : Nat) : Int) % 18446744073709551616) = ((0 : Nat) : Int) from by omega, bits_xor_u64_nat _ _ (by omega) (by omega), Nat.xor_zero]
    unfold wrap64; omega
  · rw [h0, if_pos rfl]
    rw [show (-((1 : Nat) : Int) % 18446744073709551616) = ((18446744073709551615 : Nat) : Int) from by omega, bits_xor_u64_nat _ _ (by omega) (by omega), xor_ones _ (by omega)]
    rw [show ((18446744073709551615 - z / 2 : Nat) : Int) = 18446744073709551615 - ((z / 2 : Nat) : Int) from by omega]
    unfold wrap64; omega
/-- What Apply hands back. -/
def AppPost (old : Vw) (d : List Int) (w : World) (e : Ending) (w' : World) : Prop :=
  Below w.heap.size w w' ∧ ((errA old d ≠ 0 ∧ e = .returned (.tuple #[.slice none 0 0, .int .i64 (errA old d)])) ∨
    (errA old d = 0 ∧ ∃ (A : Option Addr) (m c : Nat) (x : Vw), e = .returned (.tuple #[.slice A m c, .int .i64 0]) ∧ IsApp old (run1 old d).gone (run2 old d).ch x ∧ OwnP w' w.heap.size (.slice A m c) x))

/-- Apply's own blocks: the reader (at B), the values, those gone (behind a box). -/
structure AW (w wr : World) (b : List Int) (e : Int) (DV : DataW Unit) (nv : Nat) (gone : List Int) : Prop where
  rdr : RdrAt wr w.heap.size w.heap.size b e
  val : OwnI wr (w.heap.size + 1) nv DV
  gon : ∃ DG, OwnB wr (w.heap.size + 2) gone.length DG ∧ MI DG (gF gone)
  box : Blk wr (w.heap.size + 3) 107 #[.map (some (w.heap.size + 2))]
  below : Below w.heap.size w wr
  size : w.heap.size + 4 ≤ wr.heap.size
section
variable {w wr wr' : World} {b b' : List Int} {e e' : Int} {DV DV' : DataW Unit} {nv nv' : Nat} {gone : List Int}
theorem RdrAt.kept {w w' : World} {B g : Nat} {row : Option Nat} {b : List Int} {e : Int} (h : RdrAt w B g b e) (hg : w.grownBy w' row) (hne : row ≠ some g) (hB : B ≤ w.heap.size) (hr : ∀ r, row = some r → B ≤ r) : RdrAt w' B g b e := by
  obtain ⟨A, t, c, hk, hs⟩ := h
  refine ⟨A, t, c, (hg.block g hk.lt (fun e => hne e.symm)).trans hk, hs.keep fun p hp => hg.cell_far p (by omega) (fun e => by have := hr _ e.symm; omega)⟩
theorem AW.reader (h : AW w wr b e DV nv gone) (hr : RdrAt wr' w.heap.size w.heap.size b' e') (hg : wr.grownBy wr' (some w.heap.size)) : AW w wr' b' e' DV nv gone where
  rdr := hr
  val := h.val.kept hg (fun e => by injection e with e; omega)
  gon := by obtain ⟨DG, h1, h2⟩ := h.gon; exact ⟨DG, h1.kept hg (fun e => by injection e with e; omega), h2⟩
  box := (hg.block _ h.box.lt (fun e => by injection e with e; omega)).trans h.box
  below := h.below.grown hg (by have := h.size; omega) (fun k e => by injection e with e; omega)
  size := Nat.le_trans h.size hg.size
theorem AW.alloc (h : AW w wr b e DV nv gone) (o : Obj) : AW w (wr.alloc o) b e DV nv gone where
  rdr := h.rdr.kept (World.grownBy_alloc wr o none) (by simp) (by have := h.size; omega) (by simp)
  val := h.val.alloc o
  gon := by obtain ⟨DG, h1, h2⟩ := h.gon; exact ⟨DG, h1.alloc o, h2⟩
  box := h.box.alloc o
  below := h.below.alloc (by have := h.size; omega) o
  size := by have := h.size; simp; omega
theorem AW.grown (h : AW w wr b e DV nv gone) {row : Option Nat} (hg : wr.grownBy wr' row) (hrow : ∀ r, row = some r → w.heap.size + 4 ≤ r) : AW w wr' b e DV nv gone where
  rdr := h.rdr.kept hg (fun e => by have := hrow _ e; omega) (by have := h.size; omega) (fun r e => by have := hrow _ e; omega)
  val := h.val.kept hg (fun e => by have := hrow _ e.symm; omega)
  gon := by obtain ⟨DG, h1, h2⟩ := h.gon; exact ⟨DG, h1.kept hg (fun e => by have := hrow _ e.symm; omega), h2⟩
  box := (hg.block _ h.box.lt (fun e => by have := hrow _ e.symm; omega)).trans h.box
  below := h.below.grown hg (by have := h.size; omega) (fun k e => by have := hrow _ e; omega)
  size := Nat.le_trans h.size hg.size
theorem AW.value (h : AW w wr b e DV nv gone) (hv : OwnI wr' (w.heap.size + 1) nv' DV') (hg : wr.grownBy wr' (some (w.heap.size + 1))) : AW w wr' b e DV' nv' gone where
  rdr := h.rdr.kept hg (fun e => by injection e with e; omega) (by have := h.size; omega) (fun r e => by injection e with e; omega)
  val := hv
  gon := by obtain ⟨DG, h1, h2⟩ := h.gon; exact ⟨DG, h1.kept hg (fun e => by injection e with e; omega), h2⟩
  box := (hg.block _ h.box.lt (fun e => by injection e with e; omega)).trans h.box
  below := h.below.grown hg (by have := h.size; omega) (fun k e => by injection e with e; omega)
  size := Nat.le_trans h.size hg.size
theorem AW.gone_ (h : AW w wr b e DV nv gone) {i : Int} {DG : DataW Unit} (ho : OwnB wr' (w.heap.size + 2) (gone.length + 1) DG) (hm : MI DG fun j => if j = i then some (.bool true) else gF gone j) (hg : wr.grownBy wr' (some (w.heap.size + 2))) : AW w wr' b e DV nv (gone ++ [i]) where
  rdr := h.rdr.kept hg (fun e => by injection e with e; omega) (by have := h.size; omega) (fun r e => by injection e with e; omega)
  val := h.val.kept hg (fun e => by injection e with e; omega)
  gon := ⟨DG, by rw [List.length_append]; exact ho, hm.congr (gF_snoc gone i)⟩
  box := (hg.block _ h.box.lt (fun e => by injection e with e; omega)).trans h.box
  below := h.below.grown hg (by have := h.size; omega) (fun k e => by injection e with e; omega)
  size := Nat.le_trans h.size hg.size
end
theorem aw_start {w : World} {A : Option Addr} {n c : Nat} {d : List Int} (h : SlU w w.heap.size A n c d) :
    AW w ((((w.alloc (.cells #[.slice A n c, .int .i64 0] 105)).alloc (.map #[] 0)).alloc (.map #[] 0)).alloc (.cells #[.map (some (w.heap.size + 2))] 107)) d 0 (.map []) 0 [] := by
  have hb : Below w.heap.size w ((((w.alloc (.cells #[.slice A n c, .int .i64 0] 105)).alloc (.map #[] 0)).alloc (.map #[] 0)).alloc (.cells #[.map (some (w.heap.size + 2))] 107)) := ((((Below.refl _ _).alloc (Nat.le_refl _) _).alloc (by simp) _).alloc (by simp; omega) _).alloc (by simp; omega) _
  refine ⟨⟨A, n, c, (((Blk.new w _ _).alloc _).alloc _).alloc _, h.keep fun p hp => hb.cell hp⟩, ?_, ⟨.map [], ?_, ?_⟩, ?_, hb, by simp⟩
  · have := ((World.ownsMap_made (w.alloc (.cells #[.slice A n c, .int .i64 0] 105)) Try.prog 3 (plainElem (H := Unit) Try.prog 3)).alloc (.map #[] 0)).alloc (.cells #[.map (some (w.heap.size + 2))] 107)
    rwa [World.size_alloc] at this
  · have := ((World.ownsMap_made ((w.alloc (.cells #[.slice A n c, .int .i64 0] 105)).alloc (.map #[] 0)) Try.prog 3 (plainElem (H := Unit) Try.prog 4))).alloc (.cells #[.map (some (w.heap.size + 2))] 107)
    rwa [World.size_alloc, World.size_alloc, Nat.add_assoc] at this
  · exact MI.empty.congr fun i => by unfold gF; simp
  · have := Blk.new (((w.alloc (.cells #[.slice A n c, .int .i64 0] 105)).alloc (.map #[] 0)).alloc (.map #[] 0)) 107 #[.map (some (w.heap.size + 2))]
    rwa [World.size_alloc, World.size_alloc, World.size_alloc, Nat.add_assoc, Nat.add_assoc] at this

theorem findD_map (g : Int → Int) (ks : List Int) (i : Int) : findD (ks.map fun i => (i, g i)) i = if i ∈ ks then some (g i) else none := by
  induction ks with
  | nil => simp [findD]
  | cons a t ih =>
    rw [List.map_cons, findD, ih]
    by_cases h : a = i
    · subst h; simp
    · have h' : ¬ i = a := fun e => h e.symm
      simp [h, h']
/-- The view that is handed back, as a function. -/
def fI (old : Vw) (G : List Int) (ch : Vw) (i : Int) : Option Int := match findD ch i with | some v => some v | none => if i ∈ G then none else findD old i
def xA (old : Vw) (G : List Int) (ch : Vw) (ks : List Int) : Vw := ks.map fun i => (i, (fI old G ch i).getD 0)
theorem xA_isApp {old : Vw} {G : List Int} {ch : Vw} {ks : List Int} (h : ks.Pairwise (· < ·)) (hm : ∀ i, i ∈ ks ↔ (fI old G ch i).isSome = true) : IsApp old G ch (xA old G ch ks) where
  up := List.pairwise_map.2 h
  at_ := fun i => by
    have e : findD (xA old G ch ks) i = fI old G ch i := by
      unfold xA
      rw [findD_map]
      cases hf : fI old G ch i with
      | none => rw [if_neg (fun h => by have := (hm i).1 h; rw [hf] at this; cases this)]
      | some v => rw [if_pos ((hm i).2 (by rw [hf]; rfl))]; rfl
    exact e
theorem fI_lit (old : Vw) (G : List Int) (ch : Vw) (i : Int) : (match vF ch i with | some v => some v | none => if (gF G i).isSome = true then none else vF old i) = (fI old G ch i).map (Lit.int .i64) := by
  unfold fI vF gF
  cases findD ch i with
  | some v => rfl
  | none =>
    by_cases h : i ∈ G
    · simp [h]
    · simp [h]

set_option maxHeartbeats 4000000 in
theorem apply_any (A1 : Option Addr) (n1 c1 : Nat) (old : Vw) (A2 : Option Addr) (n2 c2 : Nat) (d : List Int) (w : World) (hs1 : SlP w w.heap.size A1 n1 c1 old) (hs2 : SlU w w.heap.size A2 n2 c2 d) (hn1 : n1 ≤ 100000) (hn2 : n2 ≤ 100000) (hv : IsV old) (hb : IsB d) :
    Calls Try.prog 30 #[.slice A1 n1 c1, .slice A2 n2 c2] w fun e w' => AppPost old d w e w' := by
  obtain rfl : old.length = n1 := hs1.len
  have HS1 := Lib.hid hs1
  have HS2 := Lib.hid hs2
  have HV := Lib.hid hv
  have HB := Lib.hid hb
  clear hs1 hs2 hv hb
  have hmm := @run_makeMap Try.prog
  go_enter Try.func30, Try.ntmps30
  go_wp2
  simp only [Nat.add_assoc, Nat.reduceAdd]
  have haw := aw_start HS2.out
  obtain ⟨w1, hw1⟩ : ∃ w1, w1 = ((((w.alloc (.cells #[.slice A2 n2 c2, .int .i64 0] 105)).alloc (.map #[] 0)).alloc (.map #[] 0)).alloc (.cells #[.map (some (w.heap.size + 2))] 107)) := ⟨_, rfl⟩
  rw [← hw1] at haw ⊢
  clear hw1
  go_loopw [32] (fun i wr => ∃ (k : Nat) (DV : DataW Unit), k ≤ old.length ∧ i = .int .i64 (k : Int) ∧ AW w wr d 0 DV k [] ∧ MI DV (vF (old.take k))) (fun i _ => old.length - (intOf i).toNat)
  case atStart => exact ⟨0, _, Nat.zero_le _, rfl, haw, MI.empty⟩
  case round =>
    clear haw
    obtain ⟨k, DV, hk, rfl, haw, hmi⟩ := hrel
    by_cases hlt : k < old.length
    · obtain ⟨bb, off, rfl, hbb, hc⟩ := rdp_at HS1.out.rd (by omega)
      have d1 := (haw.below.cell (p := ⟨bb, off + k * 2, none⟩) hbb).trans (hc k hlt).1
      have d2 := (haw.below.cell (p := ⟨bb, off + k * 2 + 1, none⟩) hbb).trans (hc k hlt).2
      have hbd := HV.out.bd _ (pair_mem hlt)
      obtain ⟨i, hi⟩ : ∃ i, i = ea old k := ⟨_, rfl⟩
      obtain ⟨v, hv⟩ : ∃ v, v = eb old k := ⟨_, rfl⟩
      rw [← hi, ← hv] at hbd
      rw [← hi] at d1
      rw [← hv] at d2
      have HSN : Hid (∀ j, (if j = i then some (Lit.int .i64 v) else vF (old.take k) j) = vF (old.take (k + 1)) j) := fun j => by
        rw [take_snoc_pair hlt, ← hi, ← hv]
        refine vF_snoc (fun p hp => ?_) j
        obtain ⟨q, hq, rfl⟩ := List.getElem_of_mem hp
        rw [List.length_take] at hq
        rw [List.getElem_take, hi]
        have := List.pairwise_iff_getElem.1 HV.out.up q k (by omega) hlt (by omega)
        simp only [ea, List.getD, List.getElem?_eq_getElem hlt, Option.getD_some]
        omega
      have hwi : (Lit.int .i64 i).wf = true := WalkArith.wf_i64 (by omega)
      have hwv : (Lit.int .i64 v).wf = true := WalkArith.wf_i64 (by omega)
      have hpe : plainElem (H := Unit) Try.prog 3 (.int .i64 v) = some (.lit (.int .i64 v), []) := plainElem_int Try.underlying3 hwv
      have hal := Lib.hid (haw.alloc (.cells #[.int .i64 i, .int .i64 v] 48))
      have HMI := Lib.hid hmi
      have hkm : k < maxLen := by unfold maxLen; omega
      clear haw hc hi hv hmi hwv
      go_wp2_with (first | (at_mapUpdate; refine wpl_store _ rfl _ _ _ 106 rfl 3 3 Try.underlying3 Try.underlying106 _ k DV _ HMI.out rfl hal.out.val hkm i hwi _ (.int .i64 v) rfl rfl hpe ?_; intro D' w2 ho2 hm2 hg2; go_frame))
      go_roundw
      case rel => exact ⟨k + 1, D', by omega, by go_num, hal.out.value ho2.out hg2.out, hm2.out.congr HSN.out⟩
      case measure => simp [intOf]; omega
    · obtain rfl : k = old.length := by omega
      rw [List.take_length] at hmi
      have HMI := Lib.hid hmi
      obtain ⟨nv, hnv⟩ : ∃ nv, nv = old.length := ⟨_, rfl⟩
      rw [← hnv] at haw
      have hnvb : nv ≤ 100000 := by omega
      have HL2 : Hid (d.length = n2) := HS2.out.len
      -- the first number
      obtain ⟨y1, hy1⟩ : ∃ y, y = (numR d 0).1 := ⟨_, rfl⟩
      obtain ⟨b1, hb1⟩ : ∃ b, b = (numR d 0).2.1 := ⟨_, rfl⟩
      obtain ⟨e1, he1⟩ : ∃ e, e = (numR d 0).2.2 := ⟨_, rfl⟩
      have hnum1 : numR d 0 = (y1, b1, e1) := by rw [hy1, hb1, he1]
      have hyb1 : y1 < 18446744073709551616 := by rw [hy1]; exact numR_lt HB.out
      have hR1 : Hid (run1 old d = loop1 old y1 ⟨b1, e1, 0, []⟩) := by show _ = _; rw [hy1, hb1, he1]; rfl
      have hI1 : Hid (Inv1 d.length ⟨b1, e1, 0, []⟩) := by
        have h := numR_len (b := d) (e := 0) (.inl rfl)
        rw [hnum1] at h
        refine ⟨?_, h.2.2.1, Int.le_refl 0, (show (0 : Int) ≤ 4294967296 by omega), fun _ => (show (0 : Int) ≤ 2147483648 by omega), ?_, fun hz => ?_⟩
        · have := numR_isB (e := 0) HB.out; rw [hnum1] at this; exact this
        · have := h.1; simp at this ⊢; omega
        · have := (h.2.1 hz).1; simp at this ⊢; omega
      have HC1 := Lib.hid (number_any w.heap.size d 0 w.heap.size wr haw.rdr (Nat.le_refl _) HB.out y1 b1 e1 hnum1)
      have HAW := Lib.hid haw
      clear haw hmi hy1 hb1 he1 hnum1 hnv hlt hk
      go_wp2_with fail
      refine HC1.out.mono ?_
      rintro en w2 ⟨rfl, hr2, hg2⟩
      have haw2 := Lib.hid (HAW.out.reader hr2 hg2)
      clear hr2 hg2 HC1 HAW
      go_upto_block 2 with (fail)
      go_cut [11] (fun _ wx => ∃ (s : St1), run1 old d = s ∧ Inv1 d.length s ∧ AW w wx s.b s.e DV nv s.gone)
      case first =>
        go_wp2
        go_loopw [11, 12] (fun x_ n_ wr => ∃ (n : Nat) (s : St1), n < 18446744073709551616 ∧ n_ = .int .u64 (n : Int) ∧ x_ = .int .i64 s.next ∧ loop1 old n s = run1 old d ∧ Inv1 d.length s ∧ AW w wr s.b s.e DV nv s.gone) (fun _ n_ _ => (intOf n_).toNat)
        case atStart => exact ⟨y1, ⟨b1, e1, 0, []⟩, hyb1, rfl, rfl, hR1.out.symm, hI1.out, haw2.out⟩
        case round =>
          clear haw2 hR1 hI1
          obtain ⟨n, s, hn, rfl, rfl, hrun, hinv, haw⟩ := hrel
          obtain ⟨sb, se, sn, sg⟩ := s
          obtain ⟨Ar, tr, cr, hkr, hsr⟩ := haw.rdr
          have c1 : wr.cell? ⟨w.heap.size, 1, none⟩ = some (.int .i64 se) := hkr.cell 1
          have HRUN := Lib.hid hrun
          have HINV := Lib.hid hinv
          have HAW := Lib.hid haw
          clear hrun hkr hsr
          by_cases hgo : 0 < n ∧ se = 0
          · obtain ⟨hn0, rfl⟩ := hgo
            have hn0' : (0 : Int) < (n : Int) := by omega
            have hlo : 0 ≤ sn := hinv.lo
            have hhi : sn ≤ 2147483648 := hinv.hi0 rfl
            obtain ⟨i, hi⟩ : ∃ i, i = (idxR sn sb 0).1 := ⟨_, rfl⟩
            obtain ⟨b2, hb2⟩ : ∃ b, b = (idxR sn sb 0).2.1 := ⟨_, rfl⟩
            obtain ⟨e2, he2⟩ : ∃ e, e = (idxR sn sb 0).2.2 := ⟨_, rfl⟩
            have hidx : idxR sn sb 0 = (i, b2, e2) := by rw [hi, hb2, he2]
            obtain ⟨f1, f2, f3, f4, f5, f6⟩ := idxR_facts hinv.isb (.inl rfl) hlo hidx
            have HC2 := Lib.hid (ridx_any w.heap.size sn sb 0 w.heap.size wr haw.rdr (Nat.le_refl _) hinv.isb ⟨hlo, by omega⟩ i b2 e2 hidx)
            obtain ⟨is, his⟩ : ∃ is, (vF old i).isSome = is := ⟨_, rfl⟩
            obtain ⟨v, hv⟩ : ∃ v, (vF old i).getD (.int .i64 0) = .int .i64 v := ⟨(findD old i).getD 0, by unfold vF; cases findD old i <;> rfl⟩
            have hisn : (findD old i).isNone = !is := by rw [← his]; unfold vF; cases findD old i <;> rfl
            have HST : Hid (step1 old ⟨sb, 0, sn, sg⟩ = ⟨b2, failR e2 (!is) 8, i + 1, sg ++ [i]⟩) := by
              show _ = _
              unfold step1
              simp only [hidx, hisn]
            have hNX : Hid (loop1 old (n - 1) (step1 old ⟨sb, 0, sn, sg⟩) = run1 old d) := by
              obtain ⟨n', rfl⟩ : ∃ n', n = n' + 1 := ⟨n - 1, by omega⟩
              have := HRUN.out
              rw [loop1, if_pos rfl] at this
              exact this
            have hIN : Hid (Inv1 d.length (step1 old ⟨sb, 0, sn, sg⟩)) := hinv.step rfl old
            rw [HST.out] at hNX hIN
            have hwi : (Lit.int .i64 i).wf = true := WalkArith.wf_i64 (by omega)
            have hgl : sg.length < maxLen := by
              have := hinv.len
              have := HL2.out
              simp at *
              unfold maxLen; omega
            have HIS := Lib.hid his
            have HVV := Lib.hid hv
            have hpb : plainElem (H := Unit) Try.prog 4 (.bool true) = some (.lit (.bool true), []) := plainElem_bool Try.underlying4 true
            clear hi hb2 he2 hidx his hv hisn haw hinv HRUN HINV f3 f5 f6
            go_wp2_with fail
            refine HC2.out.mono ?_
            rintro en w3 ⟨rfl, hr3, hg3⟩
            have haw3 := Lib.hid (HAW.out.reader hr3 hg3)
            clear hr3 hg3 HC2 c1 HAW
            go_wp2_with (first | (at_lookup; refine wpl_lookup_ok_int _ rfl _ _ 106 rfl 3 3 Try.underlying3 Try.underlying106 Try.underlying3 (zeroI _) _ nv DV _ HMI.out rfl haw3.out.val i hwi rfl v HVV.out is HIS.out ?_))
            have HC3 := Lib.hid (fail_any w.heap.size (!is) 8 e2 b2 w.heap.size w3 haw3.out.rdr (Nat.le_refl _))
            refine HC3.out.mono ?_
            rintro en w4 ⟨rfl, hr4, hg4⟩
            have haw4 := haw3.out.reader hr4 hg4
            clear hr4 hg4 HC3 haw3
            obtain ⟨DG, hDG, hMG⟩ := haw4.gon
            have c3 : w4.cell? ⟨w.heap.size + 3, 0, none⟩ = some (.map (some (w.heap.size + 2))) := haw4.box.cell 0
            have HAW4 := Lib.hid haw4
            have HDG := Lib.hid hDG
            have HMG := Lib.hid hMG
            clear haw4 hDG hMG
            go_wp2_with (first | (at_mapUpdate; refine wpl_store _ rfl _ _ _ 107 rfl 3 4 Try.underlying3 Try.underlying107 _ _ DG _ HMG.out rfl HDG.out hgl i hwi _ (.bool true) rfl rfl hpb ?_; intro D' w5 ho5 hm5 hg5; have haw5 := Lib.hid (HAW4.out.gone_ ho5.out hm5.out hg5.out)))
            go_roundw
            case rel => exact ⟨n - 1, ⟨b2, failR e2 (!is) 8, i + 1, sg ++ [i]⟩, by omega, by go_num, rfl, hNX.out, hIN.out, haw5.out⟩
            case measure => simp [intOf]; omega
          · have hS : Hid (run1 old d = ⟨sb, se, sn, sg⟩) := by
              show _ = _
              rw [← HRUN.out, loop1_stop (by by_cases h : n = 0; exact .inl h; exact .inr (fun h' => hgo ⟨by omega, h'⟩))]
            by_cases hn0 : n = 0
            · subst hn0
              clear hgo HRUN
              go_wp2
              go_meet
              case rel => exact ⟨_, hS.out, HINV.out, HAW.out⟩
            · have hn1 : (0 : Int) < (n : Int) := by omega
              have hse : (se == 0) = false := beq_eq_false_iff_ne.2 (fun h' => hgo ⟨by omega, h'⟩)
              clear hgo HRUN hn0
              go_wp2
              go_meet
              case rel => exact ⟨_, hS.out, HINV.out, HAW.out⟩
      case rest =>
        clear haw2 hR1 hI1
        obtain ⟨s1, hS1, hinv1, haw1⟩ := hcut
        obtain ⟨b1, e1, x1, G⟩ := s1
        obtain ⟨y2, hy2⟩ : ∃ y, y = (numR b1 e1).1 := ⟨_, rfl⟩
        obtain ⟨b2, hb2⟩ : ∃ b, b = (numR b1 e1).2.1 := ⟨_, rfl⟩
        obtain ⟨e2, he2⟩ : ∃ e, e = (numR b1 e1).2.2 := ⟨_, rfl⟩
        have hnum2 : numR b1 e1 = (y2, b2, e2) := by rw [hy2, hb2, he2]
        have hyb2 : y2 < 18446744073709551616 := by rw [hy2]; exact numR_lt hinv1.isb
        have hRG : Hid ((run1 old d).gone = G) := by show _ = _; rw [hS1]
        have hR2 : Hid (run2 old d = loop2 old G y2 ⟨b2, e2, 0, []⟩) := by show _ = _; unfold run2; simp only [hS1, hnum2]
        have hI2 : Hid (Inv2 d.length ⟨b2, e2, 0, []⟩) := by
          have h := numR_len (b := b1) (e := e1) hinv1.ise
          rw [hnum2] at h
          have hl1 := hinv1.len
          refine ⟨?_, h.2.2.1, Int.le_refl 0, (show (0 : Int) ≤ 4294967296 by omega), fun _ => (show (0 : Int) ≤ 2147483648 by omega), ?_, fun hz => ?_, (fun p hp => by cases hp), (fun p hp => by cases hp), List.Pairwise.nil⟩
          · have := numR_isB (e := e1) hinv1.isb; rw [hnum2] at this; exact this
          · have := h.1; simp at *; omega
          · have h9 := h.2.1 hz
            have := hinv1.len0 h9.2
            simp at *; omega
        have haw1' := haw1.alloc (.map #[] 0)
        obtain ⟨gc, hgc⟩ : ∃ gc, gc = wc.heap.size := ⟨_, rfl⟩
        have hmk : OwnI (wc.alloc (.map #[] 0)) gc 0 (.map []) := by rw [hgc]; exact World.ownsMap_made wc Try.prog 3 (plainElem (H := Unit) Try.prog 3)
        have hgcb : w.heap.size + 4 ≤ gc := by rw [hgc]; exact haw1.size
        obtain ⟨w2, hw2⟩ : ∃ w2, w2 = wc.alloc (.map #[] 0) := ⟨_, rfl⟩
        rw [← hw2] at haw1' hmk
        have HC2 := Lib.hid (number_any w.heap.size b1 e1 w.heap.size w2 haw1'.rdr (Nat.le_refl _) hinv1.isb y2 b2 e2 hnum2)
        have HAW1 := Lib.hid haw1'
        have HMK := Lib.hid hmk
        have HGL : Hid (G.length ≤ 100001) := by have := hinv1.len; have := HL2.out; show _ ≤ _; simp at *; omega
        have HW2 := Lib.hid hw2
        have HGC := Lib.hid hgc
        clear hS1 hinv1 haw1 hy2 hb2 he2 hnum2 haw1' hmk hw2 hgc
        go_wp2_with fail
        rw [← HW2.out, ← HGC.out]
        refine HC2.out.mono ?_
        rintro en w3 ⟨rfl, hr3, hg3⟩
        have haw3 := Lib.hid (HAW1.out.reader hr3 hg3)
        have hmk3 : Hid (OwnI w3 gc 0 (.map [])) := HMK.out.kept hg3 (fun e => by injection e with e; omega)
        clear hr3 hg3 HC2 HAW1 HMK
        go_upto_block 4 with (fail)
        go_cut [11] (fun _ wx => ∃ (s : St2) (DC : DataW Unit), run2 old d = s ∧ Inv2 d.length s ∧ AW w wx s.b s.e DV nv G ∧ OwnI wx gc s.ch.length DC ∧ MI DC (vF s.ch))
        case first =>
          go_wp2
          go_loopw [11, 17] (fun x_ n_ wr => ∃ (n : Nat) (s : St2) (DC : DataW Unit), n < 18446744073709551616 ∧ n_ = .int .u64 (n : Int) ∧ x_ = .int .i64 s.next ∧ loop2 old G n s = run2 old d ∧ Inv2 d.length s ∧ AW w wr s.b s.e DV nv G ∧ OwnI wr gc s.ch.length DC ∧ MI DC (vF s.ch)) (fun _ n_ _ => (intOf n_).toNat)
          case atStart => exact ⟨y2, ⟨b2, e2, 0, []⟩, .map [], hyb2, rfl, rfl, hR2.out.symm, hI2.out, haw3.out, hmk3.out, MI.empty⟩
          case round =>
            clear haw3 hR2 hI2 hmk3
            obtain ⟨n, s, DC, hn, rfl, rfl, hrun, hinv, haw, hdc, hmc⟩ := hrel
            obtain ⟨sb, se, sn, sc⟩ := s
            obtain ⟨Ar, tr, cr, hkr, hsr⟩ := haw.rdr
            have c1 : wr.cell? ⟨w.heap.size, 1, none⟩ = some (.int .i64 se) := hkr.cell 1
            have HRUN := Lib.hid hrun
            have HINV := Lib.hid hinv
            have HAW := Lib.hid haw
            have HDC := Lib.hid hdc
            have HMC := Lib.hid hmc
            clear hrun hkr hsr hdc hmc
            by_cases hgo : 0 < n ∧ se = 0
            · obtain ⟨hn0, rfl⟩ := hgo
              have hn0' : (0 : Int) < (n : Int) := by omega
              have hlo : 0 ≤ sn := hinv.lo
              have hhi : sn ≤ 2147483648 := hinv.hi0 rfl
              obtain ⟨i, hi⟩ : ∃ i, i = (idxR sn sb 0).1 := ⟨_, rfl⟩
              obtain ⟨b3, hb3⟩ : ∃ b, b = (idxR sn sb 0).2.1 := ⟨_, rfl⟩
              obtain ⟨e3, he3⟩ : ∃ e, e = (idxR sn sb 0).2.2 := ⟨_, rfl⟩
              have hidx : idxR sn sb 0 = (i, b3, e3) := by rw [hi, hb3, he3]
              obtain ⟨f1, f2, f3, f4, f5, f6⟩ := idxR_facts hinv.isb (.inl rfl) hlo hidx
              have HC2 := Lib.hid (ridx_any w.heap.size sn sb 0 w.heap.size wr haw.rdr (Nat.le_refl _) hinv.isb ⟨hlo, by omega⟩ i b3 e3 hidx)
              obtain ⟨ig, hig⟩ : ∃ ig, ig = decide (i ∈ G) := ⟨_, rfl⟩
              have hgv : (gF G i).getD (.bool false) = .bool ig := by
                unfold gF; rw [hig]
                by_cases h : i ∈ G <;> simp [h]
              obtain ⟨e4, he4⟩ : ∃ e4, e4 = failR e3 ig 8 := ⟨_, rfl⟩
              have he4' : IsE e4 := by rw [he4]; exact failR_in f4
              obtain ⟨z, hz⟩ : ∃ y, y = (numR b3 e4).1 := ⟨_, rfl⟩
              obtain ⟨b5, hb5⟩ : ∃ b, b = (numR b3 e4).2.1 := ⟨_, rfl⟩
              obtain ⟨e5, he5⟩ : ∃ e, e = (numR b3 e4).2.2 := ⟨_, rfl⟩
              have hnum : numR b3 e4 = (z, b5, e5) := by rw [hz, hb5, he5]
              have hzb : z < 18446744073709551616 := by rw [hz]; exact numR_lt f3
              obtain ⟨is, his⟩ : ∃ is, (vF old i).isSome = is := ⟨_, rfl⟩
              obtain ⟨v, hv⟩ : ∃ v, v = (findD old i).getD 0 := ⟨_, rfl⟩
              have hvv : (vF old i).getD (.int .i64 0) = .int .i64 v := by rw [hv]; unfold vF; cases findD old i <;> rfl
              have hiss : (findD old i).isSome = is := by rw [← his]; unfold vF; cases findD old i <;> rfl
              obtain ⟨u, hu⟩ : ∃ u, u = w64 (v + back z) := ⟨_, rfl⟩
              have HST : Hid (step2 old G ⟨sb, 0, sn, sc⟩ = ⟨b5, failR e5 (is && z == 0) 8, i + 1, sc ++ [(i, u)]⟩) := by
                show _ = _
                unfold step2
                simp only [hidx, hiss, ← hv, ← hig, ← he4, hnum, ← hu]
              have hNX : Hid (loop2 old G (n - 1) (step2 old G ⟨sb, 0, sn, sc⟩) = run2 old d) := by
                obtain ⟨n', rfl⟩ : ∃ n', n = n' + 1 := ⟨n - 1, by omega⟩
                have := HRUN.out
                rw [loop2, if_pos rfl] at this
                exact this
              have hIN : Hid (Inv2 d.length (step2 old G ⟨sb, 0, sn, sc⟩)) := hinv.step rfl old G
              rw [HST.out] at hNX hIN
              have hwi : (Lit.int .i64 i).wf = true := WalkArith.wf_i64 (by omega)
              have hgl : sc.length < maxLen := by
                have := hinv.len
                have := HL2.out
                simp at *
                unfold maxLen; omega
              have HIS := Lib.hid his
              have hpu : Hid (plainElem (H := Unit) Try.prog 3 (.int .i64 (wrap64 (v + wrap64 (bits BinOp.xor IntKind.u64 ((z : Int) / 2) (IntKind.u64.wrap (-bits BinOp.and IntKind.u64 (z : Int) 1)))))) = some (.lit (.int .i64 u), [])) := by
                show _ = _
                rw [back_bits z hzb]
                have e : wrap64 (v + back z) = u := (w64_wrap _).trans hu.symm
                rw [e]
                refine plainElem_int Try.underlying3 (WalkArith.wf_i64 ?_)
                rw [hu]; exact w64_bd _
              have HVV := Lib.hid hvv
              have HGV := Lib.hid hgv
              have HF3 := Lib.hid f3
              have HE4 := Lib.hid he4
              have HNUM := Lib.hid hnum
              have HU := Lib.hid hu
              have HKEY : Hid (∀ p ∈ sc, p.1 ≠ i) := fun p hp => by have := (hinv.keys p hp).2; simp at this; omega
              clear hi hb3 he3 hidx his hv hvv hiss hig hgv he4 hz hb5 he5 hnum hu haw hinv HRUN HINV f3 f5 f6
              go_wp2_with fail
              refine HC2.out.mono ?_
              rintro en w4 ⟨rfl, hr4, hg4⟩
              have haw4 := HAW.out.reader hr4 hg4
              have hdc4 : Hid (OwnI w4 gc sc.length DC) := HDC.out.kept hg4 (fun e => by injection e with e; omega)
              clear hr4 hg4 HC2 c1 HAW HDC
              obtain ⟨DG, hDG, hMG⟩ := haw4.gon
              have c3 : w4.cell? ⟨w.heap.size + 3, 0, none⟩ = some (.map (some (w.heap.size + 2))) := haw4.box.cell 0
              have HAW4 := Lib.hid haw4
              have HDG := Lib.hid hDG
              have HMG := Lib.hid hMG
              have HC3 : Hid (Calls Try.prog 53 #[.pointer (some ⟨w.heap.size, 0, none⟩), .bool ig, .int .i64 8] w4 fun en w' => en = .returned (.tuple #[]) ∧ RdrAt w' w.heap.size w.heap.size b3 e4 ∧ w4.grownBy w' (some w.heap.size)) := by
                have := fail_any w.heap.size ig 8 e3 b3 w.heap.size w4 haw4.rdr (Nat.le_refl _)
                rw [← HE4.out] at this
                exact this
              clear haw4 hDG hMG
              go_wp2_with (first | (at_lookup; refine wpl_lookup_bool _ rfl _ _ 107 rfl 3 4 Try.underlying3 Try.underlying107 Try.underlying4 (zeroB _) _ _ DG _ HMG.out rfl HDG.out i hwi rfl ig HGV.out ?_))
              refine HC3.out.mono ?_
              rintro en w5 ⟨rfl, hr5, hg5⟩
              have haw5 := HAW4.out.reader hr5 hg5
              have hdc5 : Hid (OwnI w5 gc sc.length DC) := hdc4.out.kept hg5 (fun e => by injection e with e; omega)
              have HC4 := Lib.hid (number_any w.heap.size b3 e4 w.heap.size w5 haw5.rdr (Nat.le_refl _) HF3.out z b5 e5 HNUM.out)
              have HAW5 := Lib.hid haw5
              clear hr5 hg5 HC3 hdc4 HAW4 HDG HMG c3 haw5
              go_wp2_with fail
              refine HC4.out.mono ?_
              rintro en w6 ⟨rfl, hr6, hg6⟩
              have haw6 := Lib.hid (HAW5.out.reader hr6 hg6)
              have hdc6 : Hid (OwnI w6 gc sc.length DC) := hdc5.out.kept hg6 (fun e => by injection e with e; omega)
              clear hr6 hg6 HC4 hdc5 HAW5
              have HC5 := Lib.hid (fail_any w.heap.size (is && z == 0) 8 e5 b5 w.heap.size w6 haw6.out.rdr (Nat.le_refl _))
              cases is
              · go_wp2_with (first | (at_lookup; refine wpl_lookup_ok_int _ rfl _ _ 106 rfl 3 3 Try.underlying3 Try.underlying106 Try.underlying3 (zeroI _) _ nv DV _ HMI.out rfl haw6.out.val i hwi rfl v HVV.out false HIS.out ?_))
                refine HC5.out.mono ?_
                rintro en w7 ⟨rfl, hr7, hg7⟩
                have haw7 := Lib.hid (haw6.out.reader hr7 hg7)
                have hdc7 : Hid (OwnI w7 gc sc.length DC) := hdc6.out.kept hg7 (fun e => by injection e with e; omega)
                clear hr7 hg7 HC5 hdc6 haw6
                go_wp2_with (first | (at_mapUpdate; refine wpl_store _ rfl _ _ _ 106 rfl 3 3 Try.underlying3 Try.underlying106 gc _ DC _ HMC.out rfl hdc7.out hgl i hwi _ (.int .i64 u) rfl rfl hpu.out ?_; intro D' w8 ho8 hm8 hg8))
                have haw8 := Lib.hid (haw7.out.grown hg8.out (fun r e => by injection e with e; omega))
                go_roundw
                case rel => exact ⟨n - 1, ⟨b5, failR e5 (false && z == 0) 8, i + 1, sc ++ [(i, u)]⟩, D', by omega, by go_num, rfl, hNX.out, hIN.out, haw8.out, by rw [List.length_append]; exact ho8.out, hm8.out.congr (vF_snoc HKEY.out)⟩
                case measure => simp [intOf]; omega
              · obtain ⟨qz, hqz⟩ : ∃ q, q = (z == 0) := ⟨_, rfl⟩
                have hqz' : ((z : Int) == 0) = qz := by rw [hqz, Bool.eq_iff_iff, beq_iff_eq, beq_iff_eq]; omega
                have HQZ := Lib.hid hqz
                rw [← HQZ.out] at HC5 hNX hIN
                clear hqz
                go_wp2_with (first | (at_lookup; refine wpl_lookup_ok_int _ rfl _ _ 106 rfl 3 3 Try.underlying3 Try.underlying106 Try.underlying3 (zeroI _) _ nv DV _ HMI.out rfl haw6.out.val i hwi rfl v HVV.out true HIS.out ?_))
                clear hqz'
                rw [Bool.true_and] at HC5
                refine HC5.out.mono ?_
                rintro en w7 ⟨rfl, hr7, hg7⟩
                have haw7 := Lib.hid (haw6.out.reader hr7 hg7)
                have hdc7 : Hid (OwnI w7 gc sc.length DC) := hdc6.out.kept hg7 (fun e => by injection e with e; omega)
                clear hr7 hg7 HC5 hdc6 haw6
                go_wp2_with (first | (at_mapUpdate; refine wpl_store _ rfl _ _ _ 106 rfl 3 3 Try.underlying3 Try.underlying106 gc _ DC _ HMC.out rfl hdc7.out hgl i hwi _ (.int .i64 u) rfl rfl hpu.out ?_; intro D' w8 ho8 hm8 hg8))
                have haw8 := Lib.hid (haw7.out.grown hg8.out (fun r e => by injection e with e; omega))
                go_roundw
                case rel => exact ⟨n - 1, ⟨b5, failR e5 qz 8, i + 1, sc ++ [(i, u)]⟩, D', by omega, by go_num, rfl, hNX.out, hIN.out, haw8.out, by rw [List.length_append]; exact ho8.out, hm8.out.congr (vF_snoc HKEY.out)⟩
                case measure => simp [intOf]; omega
            · have hS : Hid (run2 old d = ⟨sb, se, sn, sc⟩) := by
                show _ = _
                rw [← HRUN.out, loop2_stop (by by_cases h : n = 0; exact .inl h; exact .inr (fun h' => hgo ⟨by omega, h'⟩))]
              by_cases hn0 : n = 0
              · subst hn0
                clear hgo HRUN
                go_wp2
                go_meet
                case rel => exact ⟨_, DC, hS.out, HINV.out, HAW.out, HDC.out, HMC.out⟩
              · have hn1 : (0 : Int) < (n : Int) := by omega
                have hse : (se == 0) = false := beq_eq_false_iff_ne.2 (fun h' => hgo ⟨by omega, h'⟩)
                clear hgo HRUN hn0
                go_wp2
                go_meet
                case rel => exact ⟨_, DC, hS.out, HINV.out, HAW.out, HDC.out, HMC.out⟩
        case rest =>
          clear haw3 hR2 hI2 hmk3
          obtain ⟨s2, DC, hS2, hinv2, haw2, hdc2, hmc2⟩ := hcut
          obtain ⟨b3, e3, x3, ch⟩ := s2
          obtain ⟨Ar, tr, cr, hkr, hsr⟩ := haw2.rdr
          have c0 : wc.cell? ⟨w.heap.size, 0, none⟩ = some (.slice Ar tr cr) := hkr.cell 0
          have htr : b3.length = tr := hsr.len
          obtain ⟨ff, hff⟩ : ∃ ff, ff = decide (b3 ≠ []) := ⟨_, rfl⟩
          obtain ⟨er, her⟩ : ∃ er, er = failR e3 ff 8 := ⟨_, rfl⟩
          have hER : Hid (errA old d = er) := by show _ = _; unfold errA; rw [hS2, her, hff]
          have hRC : Hid ((run2 old d).ch = ch) := by show _ = _; rw [hS2]
          have HC6 : Hid (Calls Try.prog 53 #[.pointer (some ⟨w.heap.size, 0, none⟩), .bool ff, .int .i64 8] wc fun en w' => en = .returned (.tuple #[]) ∧ RdrAt w' w.heap.size w.heap.size b3 er ∧ wc.grownBy w' (some w.heap.size)) := by
            have := fail_any w.heap.size ff 8 e3 b3 w.heap.size wc haw2.rdr (Nat.le_refl _)
            rw [← her] at this
            exact this
          have hf1 : decide ((0 : Int) < (tr : Int)) = ff := by
            cases b3 with
            | nil => simp at htr hff; subst htr hff; rfl
            | cons a t => simp at htr hff; subst hff; exact decide_eq_true (by omega)
          have hf2 : decide (0 < tr) = ff := by
            rw [← hf1]; by_cases h : 0 < tr
            · rw [decide_eq_true h, decide_eq_true (by omega)]
            · rw [decide_eq_false h, decide_eq_false (by omega)]
          have HAW := Lib.hid haw2
          have HDC := Lib.hid hdc2
          have HMC := Lib.hid hmc2
          have HINV := Lib.hid hinv2
          have hERC : Hid (er = 0 ∨ er ≠ 0) := by show _ ∨ _; by_cases h : er = 0; exact .inl h; exact .inr h
          clear hS2 haw2 hdc2 hmc2 hinv2 hkr hsr htr hff her
          go_wp2_with fail
          clear hf1 hf2
          refine HC6.out.mono ?_
          rintro en w4 ⟨rfl, hr4, hg4⟩
          have haw4 := HAW.out.reader hr4 hg4
          have hdc4 : Hid (OwnI w4 gc ch.length DC) := HDC.out.kept hg4 (fun e => by injection e with e; omega)
          obtain ⟨A4, t4, c4, hk4, hs4⟩ := hr4
          have c1 : w4.cell? ⟨w.heap.size, 1, none⟩ = some (.int .i64 er) := hk4.cell 1
          have HAW4 := Lib.hid haw4
          clear hg4 haw4 HAW HDC HC6 c0 hk4 hs4
          rcases hERC.out with h0 | hne
          case inr =>
            have hne' : (er == 0) = false := beq_eq_false_iff_ne.2 hne
            have hne2 : (er != 0) = true := bne_iff_ne.2 hne
            have HNE := Lib.hid hne
            clear hne
            go_wp2
            go_quiet (fail)
            go_wp2
            go_ret2
            refine ⟨below_drewN HAW4.out.below _, .inl ⟨by rw [hER.out]; exact HNE.out, by rw [hER.out]; rfl⟩⟩
          case inl =>
            subst h0
            obtain ⟨DG, hDG, hMG⟩ := HAW4.out.gon
            have HMG := Lib.hid hMG
            have HD1 := Lib.hid (delf_any (w.heap.size + 1) nv (w.heap.size + 3) (w.heap.size + 2) G.length DV DG (gF G) w4 HAW4.out.val hDG hMG (fun i => by unfold gF; by_cases h : i ∈ G <;> simp [h]) (HAW4.out.box.cell 0) (by omega) (by omega))
            have HM1 : Hid (MI (Lib.deleteFuncD (pdG (gF G)) DV) fun i => if (gF G i).isSome = true then none else vF old i) := HMI.out.del _ (fun i => (gF G i).isSome) (fun x d => rfl)
            have HM2 : Hid (MI (Lib.mergeD (Lib.deleteFuncD (pdG (gF G)) DV) DC) fun i => (fI old G ch i).map (Lit.int .i64)) := (HM1.out.merge HMC.out).congr (fI_lit old G ch)
            have hchl : ch.length ≤ 100001 := by have := HINV.out.len; have := HL2.out; simp at *; omega
            have hsz : Maps.size DC ≤ ch.length := hdc4.out.size_le
            obtain ⟨DD, hDD⟩ : ∃ DD, DD = Lib.deleteFuncD (pdG (gF G)) DV := ⟨_, rfl⟩
            rw [← hDD] at HD1 HM2
            obtain ⟨DF, hDF⟩ : ∃ DF, DF = Lib.mergeD DD DC := ⟨_, rfl⟩
            rw [← hDF] at HM2
            have HDF := Lib.hid hDF
            have HWS := Lib.hid HAW4.out.size
            have HWB := Lib.hid HAW4.out.below
            clear hDG hMG hDD hDF HM1 HMG HAW4
            go_wp2_with fail
            refine HD1.out.mono ?_
            rintro en w5 ⟨rfl, hv5, hg5⟩
            have hdc5 : OwnI w5 gc ch.length DC := hdc4.out.kept hg5 (fun e => by injection e with e; omega)
            have HD2 := Lib.hid (copy_any (w.heap.size + 1) gc nv ch.length DD DC w5 hv5 hdc5 (by omega) (by unfold maxLen; omega))
            have HWS5 : Hid (w.heap.size + 4 ≤ w5.heap.size) := Nat.le_trans HWS.out hg5.size
            have HWB5 : Hid (Below w.heap.size w w5) := HWB.out.grown hg5 (by have := HWS.out; omega) (fun k e => by injection e with e; omega)
            clear hv5 hg5 hdc5 HD1 hdc4 HWS HWB c1
            go_wp2_with fail
            refine HD2.out.mono ?_
            rintro en w6 ⟨rfl, hv6, hg6⟩
            rw [← HDF.out] at hv6
            have HV6 := Lib.hid hv6
            have HWS6 : Hid (w.heap.size + 4 ≤ w6.heap.size) := Nat.le_trans HWS5.out hg6.size
            have HWB6 : Hid (Below w.heap.size w w6) := HWB5.out.grown hg6 (by have := HWS5.out; omega) (fun k e => by injection e with e; omega)
            have hsF : Maps.size DF ≤ 1000000 := Nat.le_trans hv6.size_le (by omega)
            have HD3 := Lib.hid (sorted_keys (w.heap.size + 1) _ DF _ w6 hv6 hsF)
            clear hv6 hg6 HD2 HWS5 HWB5
            go_wp2_with fail
            refine (keys_any _ _).mono ?_
            rintro en w7 ⟨rfl, rfl⟩
            go_wp2_with fail
            refine HD3.out.mono ?_
            rintro en w7 ⟨vs, ss, rfl, hss, hks, hb7⟩
            obtain ⟨ks, hks'⟩ : ∃ ks, ks = ss.mergeSort leI := ⟨_, rfl⟩
            rw [← hks'] at hks
            obtain ⟨hk1, hk2⟩ := HM2.out.keys hss
            rw [← hks'] at hk1 hk2
            have hkl : ks.length ≤ 1000000 := by
              rw [hks', List.length_mergeSort, hss.length_eq]
              refine Nat.le_trans ?_ hsF
              cases DF <;> simp [intKeys, Maps.size]
            obtain ⟨Ak, ck, rfl, hck, hcm, hrk⟩ := hks.form
            have HKW : Hid (∀ x ∈ ks, (Lit.int .i64 x).wf = true) := fun x hx => intKeys_wf HV6.out Try.underlying3 x (hss.mem_iff.1 ((List.mergeSort_perm _ _).mem_iff.1 (by rw [hks'] at hx; exact hx)))
            have HK1 := Lib.hid hk1
            have HK2 := Lib.hid hk2
            have hz7 := hb7.size
            rw [World.size_alloc] at hz7
            have hm7 : Hid (OwnI w7 (w.heap.size + 1) (nv + Maps.size DC) DF) := by
              obtain ⟨es, clock, hbk, Ft, hs, hD⟩ := HV6.out.alloc (.cells #[.map (some (w.heap.size + 1))] 106)
              exact ⟨es, clock, (hb7.block _ (by have := HWS6.out; omega)).trans hbk, Ft, hs, hD⟩
            have HWB7 : Hid (Below w.heap.size w w7) := (HWB6.out.alloc (by have := HWS6.out; omega) _).trans (hb7.mono (by have := HWS6.out; omega))
            have hz8 : w.heap.size + 4 ≤ w7.heap.size := by have := HWS6.out; omega
            clear hss hks hk1 hk2 hb7 hz7 HD3 HV6 HWS6 HWB6 hks'
            have HRK := Lib.hid hrk
            have hmlt := hm7.out.lt
            clear hrk
            go_wp2
            go_loopw [22, 149] (fun o j wr => ∃ (k : Nat), k ≤ ks.length ∧ j = .int .i64 (k : Int) ∧ (∃ A c, o = .slice A k c ∧ OwnP wr w7.heap.size (.slice A k c) (xA old G ch (ks.take k))) ∧ Below w7.heap.size w7 wr) (fun _ j _ => ks.length - (intOf j).toNat)
            case atStart => exact ⟨0, Nat.zero_le _, rfl, ⟨none, 0, rfl, OwnP.nil _ _⟩, Below.refl _ _⟩
            case round =>
              obtain ⟨k, hk, rfl, ⟨A5, c5, rfl, hown⟩, hb⟩ := hrel
              have hszr := hb.size
              by_cases hlt : k < ks.length
              · obtain ⟨bb, off, rfl, hbb, hc⟩ := (show ∃ b off, Ak = some ⟨b, off, none⟩ ∧ b < w7.heap.size ∧ ∀ j, j < ks.length → w7.cell? ⟨b, off + j, none⟩ = some (.int .i64 (ix ks j)) from HRK.out (by omega))
                have d1 := (hb.cell (p := ⟨bb, off + k, none⟩) hbb).trans (hc k hlt)
                obtain ⟨i, hi⟩ : ∃ i, i = ix ks k := ⟨_, rfl⟩
                rw [← hi] at d1
                have him : i ∈ ks := by rw [hi]; exact ix_mem hlt
                obtain ⟨u, hu⟩ : ∃ u, u = (fI old G ch i).getD 0 := ⟨_, rfl⟩
                have hfu : ((fI old G ch i).map (Lit.int .i64)).getD (.int .i64 0) = .int .i64 u := by
                  rw [hu]; cases fI old G ch i <;> rfl
                have hmr : OwnI wr (w.heap.size + 1) (nv + Maps.size DC) DF := by
                  obtain ⟨es, clock, hbk, Ft, hs, hD⟩ := hm7.out
                  exact ⟨es, clock, (hb.block _ hmlt).trans hbk, Ft, hs, hD⟩
                have hwi : (Lit.int .i64 i).wf = true := HKW.out i him
                have HSN : Hid (xA old G ch (ks.take (k + 1)) = xA old G ch (ks.take k) ++ [(i, u)]) := by
                  show _ = _
                  unfold xA
                  rw [take_snoc_ix hlt, List.map_append, ← hi, hu]; rfl
                have hln2 : Hid ((xA old G ch (ks.take k)).length + 1 = k + 1) := by
                  show _ = _
                  unfold xA
                  rw [List.length_map, List.length_take]; omega
                have hln : (xA old G ch (ks.take k)).length < 1000000000 := by
                  unfold xA
                  rw [List.length_map, List.length_take]; omega
                have HFU := Lib.hid hfu
                clear hc hi him hu hfu
                go_wp2_with (first
                  | (at_lookup; refine wpl_lookup_int _ rfl _ _ 106 rfl 3 3 Try.underlying3 Try.underlying106 Try.underlying3 (zeroI _) _ _ DF _ HM2.out rfl hmr i hwi rfl u HFU.out ?_)
                  | (at_builtin; refine wpl_append_pair rfl (.tmp 153) (.tmp 159) rfl w7.heap.size _ _ rfl (OwnP.alloc hown _) ⟨wr.heap.size, 0, none⟩ 1 (i, u) (k + 1) hln2.out rfl (pair_cells (i, u) _).1 (pair_cells (i, u) _).2 hln (by simp; omega) ?_; intro A6 c6 w8 hown8 hb8))
                go_roundw
                case rel => exact ⟨k + 1, by omega, by go_num, ⟨A6, c6, rfl, by rw [HSN.out]; exact hown8.out⟩, (hb.alloc hszr _).trans hb8⟩
                case measure => simp [intOf]; omega
              · obtain rfl : k = ks.length := by omega
                rw [List.take_length] at hown
                have HOW := Lib.hid hown
                have HBB := Lib.hid hb
                clear hown hb
                go_wp2
                go_ret2
                refine ⟨HWB7.out.trans (HBB.out.mono (by omega)), .inr ⟨hER.out, A5, ks.length, c5, xA old G ch ks, rfl, ?_, ownsRow_lower HOW.out (by omega)⟩⟩
                rw [hRG.out, hRC.out]
                exact xA_isApp HK1.out (fun i => by rw [HK2.out]; simp)
end Go.Proofs.Ytcniepogobgaoaa
