/-
  Package feed: Sender.Send.
-/
import Derived.Test.YtcniepogobgaoaaFd5
import Derived.Test.YtcniepogobgaoaaRcW6
namespace Go.Proofs.Ytcniepogobgaoaa
set_option linter.unusedVariables false
set_option linter.unusedSimpArgs false
set_option maxRecDepth 4000
open Go.RowKit Go.Maps Go.Sort Go.Shelf

/-- The greatest acknowledged tick that is kept, and one more; 0: none. -/
def baseN (l : Kept) (zs : List Int) : Nat := zs.foldl (fun b t => if (findK l t).isSome then max b (t.toNat + 1) else b) 0
theorem baseN_snoc (l : Kept) (zs : List Int) (t : Int) : baseN l (zs ++ [t]) = if (findK l t).isSome then max (baseN l zs) (t.toNat + 1) else baseN l zs := by
  unfold baseN; rw [List.foldl_append]; rfl
theorem baseN_le {l : Kept} {zs : List Int} {b : Nat} (h : ∀ t ∈ zs, t.toNat + 1 ≤ b) : baseN l zs ≤ b := by
  induction zs using snoc_ind with
  | h0 => simp [baseN]
  | h1 zs t ih =>
    rw [baseN_snoc]
    have h1 := ih (fun x hx => h x (List.mem_append_left _ hx))
    have h2 := h t (by simp)
    split <;> omega
theorem baseN_kept {l : Kept} {zs : List Int} (h : ∀ t ∈ zs, 0 ≤ t) (hb : 0 < baseN l zs) : ∃ v, findK l ((baseN l zs : Int) - 1) = some v ∧ ((baseN l zs : Int) - 1) ∈ zs := by
  induction zs using snoc_ind with
  | h0 => simp [baseN] at hb
  | h1 zs t ih =>
    have ih := ih (fun x hx => h x (List.mem_append_left _ hx))
    rw [baseN_snoc] at hb ⊢
    split at hb
    · rename_i hs
      rw [if_pos hs]
      have ht := h t (by simp)
      rcases Nat.le_total (baseN l zs) (t.toNat + 1) with hc | hc
      · rw [Nat.max_eq_right hc]
        have e : ((t.toNat + 1 : Nat) : Int) - 1 = t := by omega
        rw [e]
        obtain ⟨v, hv⟩ := Option.isSome_iff_exists.1 hs
        exact ⟨v, hv, by simp⟩
      · rw [Nat.max_eq_left hc]
        obtain ⟨v, k1, k2⟩ := ih (by omega)
        exact ⟨v, k1, List.mem_append_left _ k2⟩
    · rename_i hs
      rw [if_neg hs]
      obtain ⟨v, k1, k2⟩ := ih hb
      exact ⟨v, k1, List.mem_append_left _ k2⟩
/-- What the packet encodes. -/
def pktI (l : Kept) (acked : List Int) (t : Nat) (v : Vw) : List Int := enc t ++ enc (baseN l acked) ++ difD ((findK l ((baseN l acked : Int) - 1)).getD []) v
def toN (zs : List Int) : List Nat := zs.map Int.toNat
theorem natI_toN {zs : List Int} (h : IsB zs) : natI (toN zs) = zs := by
  unfold natI toN
  rw [List.map_map]
  conv => rhs; rw [← List.map_id zs]
  apply List.map_congr_left
  intro x hx
  have := h x hx
  simp; omega
theorem toN_lt {zs : List Int} (h : IsB zs) : ∀ x ∈ toN zs, x < 256 := by
  intro x hx
  obtain ⟨y, hy, rfl⟩ := List.mem_map.1 hx
  have := h y hy
  omega
theorem frm_of_below {w w' : World} (h : Below w.heap.size w w') : Frm (fun _ => False) w w' := ⟨h.os, h.tape, h.output, h.size, fun k hk _ => h.block k hk⟩
theorem concat3_any (A1 A2 A3 : Option Addr) (m1 m2 m3 c1 c2 c3 : Nat) (e1 e2 e3 : List Int) (w : World) (h1 : SlU w w.heap.size A1 m1 c1 e1) (h2 : SlU w w.heap.size A2 m2 c2 e2) (h3 : SlU w w.heap.size A3 m3 c3 e3) (n1 : m1 ≤ 100000) (n2 : m2 ≤ 100000) (n3 : m3 ≤ 100000) (m : Nat) (hm : m1 + m2 + m3 = m) (hm0 : 0 < m) :
    Calls Try.prog 25 #[.slice (some ⟨w.heap.size, 0, none⟩) 3 3] (w.alloc (.cells #[.slice A1 m1 c1, .slice A2 m2 c2, .slice A3 m3 c3] 33)) fun e w' => ∃ A' c', e = .returned (.slice A' m c') ∧ OwnU 5 w' w.heap.size (.slice A' m c') (e1 ++ e2 ++ e3) ∧ Below w.heap.size w w' := by
  have hb : Below w.heap.size w (w.alloc (.cells #[.slice A1 m1 c1, .slice A2 m2 c2, .slice A3 m3 c3] 33)) := (Below.refl _ _).alloc (Nat.le_refl _) _
  have hk := Blk.new w 33 #[.slice A1 m1 c1, .slice A2 m2 c2, .slice A3 m3 c3]
  have hz : w.heap.size ≤ (w.alloc (.cells #[.slice A1 m1 c1, .slice A2 m2 c2, .slice A3 m3 c3] 33)).heap.size := hb.size
  have d : ∀ k, k < 3 → k = 0 ∨ k = 1 ∨ k = 2 := fun k hk => by omega
  refine (concat_any w.heap.size (fun k => match k with | 0 => A1 | 1 => A2 | _ => A3) (fun k => match k with | 0 => m1 | 1 => m2 | _ => m3) (fun k => match k with | 0 => c1 | 1 => c2 | _ => c3) (fun k => match k with | 0 => e1 | 1 => e2 | _ => e3) _ hk.lt ?_ ?_ ?_ m (by simp [sumN]; omega) hm0).mono ?_
  · intro k hk3
    rcases d k hk3 with rfl | rfl | rfl
    · exact hk.cell 0
    · exact hk.cell 1
    · exact hk.cell 2
  · intro k hk3
    rcases d k hk3 with rfl | rfl | rfl
    · exact h1.below hb hz
    · exact h2.below hb hz
    · exact h3.below hb hz
  · intro k hk3
    rcases d k hk3 with rfl | rfl | rfl
    · exact n1
    · exact n2
    · exact n3
  · rintro e w' ⟨A', c', rfl, ho, hb'⟩
    refine ⟨A', c', rfl, ?_, hb.trans (hb'.mono hz)⟩
    have := ho.lower hz
    simpa [catE] using this
theorem slP_frmA {w w' : World} {A : Option Addr} {n c : Nat} {v : Vw} (h : SlP w w.heap.size A n c v) {S : Nat → Prop} (hf : Frm S w w') (hS : ∀ bv off, A = some ⟨bv, off, none⟩ → ¬ S bv) : SlP w' w'.heap.size A n c v := by
  refine ⟨h.len, h.cap, h.capmax, h.nil, fun hn => ?_⟩
  obtain ⟨bv, off, e, hb, hc⟩ := h.rd hn
  have hcell : ∀ i, w'.cell? ⟨bv, i, none⟩ = w.cell? ⟨bv, i, none⟩ := fun i => by
    have := hf.block bv hb (hS bv off e)
    unfold World.cell?
    rw [this]
  exact ⟨bv, off, e, Nat.lt_of_lt_of_le hb hf.size, fun i hi => ⟨(hcell _).trans (hc i hi).1, (hcell _).trans (hc i hi).2⟩⟩
def SendPost (w : World) (P : Nat → Prop) (g keep : Nat) (l : Kept) (acked : List Int) (t : Nat) (v : Vw) (e : Ending) (w' : World) : Prop :=
  ∃ A m c, e = .returned (.tuple #[.slice A m c, .int .i64 0]) ∧ OwnU 5 w' w.heap.size (.slice A m c) (rcPack (toN (pktI l acked t v))) ∧
    SndM w' (fun k => P k ∨ w.heap.size ≤ k) g keep (putL keep l (t : Int) v) (t : Int) acked ∧ Frm P w w'
set_option maxHeartbeats 40000000 in
theorem send_any (g keep : Nat) (P : Nat → Prop) (l : Kept) (last : Int) (acked : List Int) (t : Nat) (v : Vw) (A : Option Addr) (n c : Nat) (w : World) (h : SndM w P g keep l last acked) (hu : UpK l) (hl0 : ∀ p ∈ l, 0 ≤ p.1 ∧ p.1 ≤ last) (hlast : last < (t : Int)) (ht : t ≤ 100000) (hk1 : 1 ≤ keep) (hlk : l.length ≤ keep) (hk2 : keep ≤ 1000) (hack : ∀ z ∈ acked, 0 ≤ z ∧ z ≤ 100000) (hackn : acked.length < 100000)
    (hv : SlP w w.heap.size A n c v) (hvP : ∀ bv off, A = some ⟨bv, off, none⟩ → ¬ P bv) (hvv : IsV v) (hn : n ≤ 100) (hlv : ∀ p ∈ l, IsV p.2 ∧ p.2.length ≤ 100) (hlen : (pktI l acked t v).length ≤ 4000) :
    Calls Try.prog 12 #[.pointer (some ⟨g, 0, none⟩), .int .i64 (t : Int), .slice A n c] w (SendPost w P g keep l acked t v) := by
  obtain ⟨hPg, b, Aa, ca, hb, hst, hak⟩ := h
  have q0 : w.cell? ⟨g, 0, none⟩ = some (.int .i64 (keep : Int)) := hb.cell 0
  have q1 : w.cell? ⟨g, 1, none⟩ = some (.map (some b)) := hb.cell 1
  have q2 : w.cell? ⟨g, 2, none⟩ = some (.int .i64 last) := hb.cell 2
  have q3 : w.cell? ⟨g, 3, none⟩ = some (.slice Aa acked.length ca) := hb.cell 3
  have hPb := hst.1
  obtain ⟨na, hna⟩ : ∃ na, na = acked.length := ⟨_, rfl⟩
  have HACK := Lib.hid hack
  have hown := hak.1
  rw [← hna] at q3 hown
  have hrd : Rd w w.heap.size Aa acked := by
    obtain ⟨A', c', e, _, _, k⟩ := hown.form
    injection e with e1
    rw [e1]; exact k
  have HRD := Lib.hid hrd
  have HNA := Lib.hid hna
  have HST := Lib.hid hst
  have HAK := Lib.hid hak
  have HBK := Lib.hid hb
  have HU := Lib.hid hu
  have HL0 := Lib.hid hl0
  have HV := Lib.hid hv
  have HVV := Lib.hid hvv
  have HVP := Lib.hid hvP
  have HLV := Lib.hid hlv
  have HLEN := Lib.hid hlen
  have hg : g < w.heap.size := hb.lt
  have hna9 : na < 100000 := by omega
  clear hack hown hrd hna hst hak hb hu hl0 hv hvv hvP hlv hlen hackn
  go_enter Try.func12, Try.ntmps12
  go_wp2
  go_loopw [8, 23] (fun bv iv W => ∃ (k : Nat) (bn : Nat), k ≤ na ∧ iv = .int .i64 (k : Int) ∧ bv = .int .i64 ((bn : Int) - 1) ∧ bn ≤ 100001 ∧ Hid (bn = baseN l (acked.take k)) ∧ w = W) (fun _ iv _ => na - (intOf iv).toNat)
  case atStart => exact ⟨0, 0, by omega, rfl, rfl, by omega, Lib.hid rfl, rfl⟩
  case round =>
    obtain ⟨k, bn, hk, rfl, rfl, hbn, HBN, rfl⟩ := hrel
    by_cases hkn : k < na
    · have hki : (k : Int) < (na : Int) := by omega
      obtain ⟨ba, oa, rfl, _, hca⟩ := HRD.out (by rw [← HNA.out]; omega)
      have q4 : w.cell? ⟨ba, oa + k, none⟩ = some (.int .i64 (ix acked k)) := hca k (by rw [← HNA.out]; exact hkn)
      have hx := HACK.out _ (ix_mem (show k < acked.length by rw [← HNA.out]; exact hkn))
      have HTK : Hid (acked.take (k + 1) = acked.take k ++ [ix acked k]) := Lib.hid (take_snoc_ix (by rw [← HNA.out]; exact hkn))
      obtain ⟨x, hxx⟩ : ∃ x, x = ix acked k := ⟨_, rfl⟩
      rw [← hxx] at q4 hx HTK
      have hwf : (Lit.int .i64 x).wf = true := by simp [Lit.wf, IntKind.min, IntKind.max, IntKind.signed, IntKind.bits]; omega
      clear hca hxx
      go_wp2_with fail
      cases his : (findK l x).isSome with
      | true =>
        refine (has_st g b P l x w q1 HST.out HU.out hwf true his).mono ?_
        rintro e w1 ⟨rfl, rfl⟩
        have HIS := Lib.hid his
        clear his
        go_wp2
        go_roundw
        case rel => exact ⟨k + 1, max bn (x.toNat + 1), by omega, by go_num, by congr 1; omega, by omega, Lib.hid (by rw [HTK.out, baseN_snoc, HIS.out, if_pos rfl, HBN.out]), trivial⟩
        case measure => simp [intOf]; omega
      | false =>
        refine (has_st g b P l x w q1 HST.out HU.out hwf false his).mono ?_
        rintro e w1 ⟨rfl, rfl⟩
        have HIS := Lib.hid his
        clear his
        go_wp2
        go_roundw
        case rel => exact ⟨k + 1, bn, by omega, by go_num, rfl, by omega, Lib.hid (by rw [HTK.out, baseN_snoc, HIS.out]; simp only [Bool.false_eq_true, if_false]; exact HBN.out), trivial⟩
        case measure => simp [intOf]; omega
    · have hki : ¬ ((k : Int) < (na : Int)) := by omega
      obtain rfl : k = na := by omega
      have hbn2 : bn = baseN l acked := by rw [HBN.out, List.take_of_length_le (by rw [← HNA.out]; exact Nat.le_refl _)]
      obtain ⟨old, hold⟩ : ∃ old, old = (findK l ((bn : Int) - 1)).getD [] := ⟨_, rfl⟩
      have HPK : Hid (pktI l acked t v = enc t ++ enc bn ++ difD old v) := Lib.hid (by rw [pktI, ← hbn2, hold])
      have hold2 : IsV old ∧ old.length ≤ 100 := by
        rw [hold]
        cases hf : findK l ((bn : Int) - 1) with
        | none => exact ⟨IsV.nil, by simp⟩
        | some v' => exact HLV.out _ (findK_mem hf)
      obtain ⟨no, hno⟩ : ∃ no, no = old.length := ⟨_, rfl⟩
      have hno2 : no ≤ 100 := by rw [hno]; exact hold2.2
      have hwfb : (Lit.int .i64 ((bn : Int) - 1)).wf = true := by simp [Lit.wf, IntKind.min, IntKind.max, IntKind.signed, IntKind.bits]; omega
      obtain ⟨D, f, hown, hmv, hget⟩ := HST.out.get HU.out
      obtain ⟨_, Ao, co, hgu, hgs⟩ := hget ((bn : Int) - 1)
      rw [← hold, ← hno] at hgu hgs
      have HLK : Hid (∀ W, Below w.heap.size w W → W.cell? ⟨g, 1, none⟩ = some (.map (some b)) ∧ Sem.run Try.prog (Instr.lookup 53 (.map (some b)) (.int .i64 ((bn : Int) - 1)) false) W = .ok (.slice Ao no co) W) := Lib.hid fun W hW => by
        refine ⟨(hW.cell (p := ⟨g, 1, none⟩) hg).trans q1, ?_⟩
        obtain ⟨u, ps, hrun, hv⟩ := (ownsMap_frm hown (frm_of_below hW) (fun h => h)).lookup (int_keyed Try.underlying3) Try.underlying53 (zeroP W) (zd := .held (.slice none 0 0)) (zp := []) rfl (keyOf_int_mk Try.underlying3 hwfb)
        have e1 := rv_inv hv
        rw [hmv.at_ _ (.slice none 0 0), hgu] at e1
        injection e1 with e1
        subst e1
        exact hrun
      have HOS : Hid (∀ W, Below w.heap.size w W → SlP W W.heap.size Ao no co old ∧ SlP W W.heap.size A n c v) := Lib.hid fun W hW => ⟨hgs.below hW hW.size, HV.out.below hW hW.size⟩
      obtain ⟨e0, he0⟩ : ∃ e0, e0 = enc t := ⟨_, rfl⟩
      obtain ⟨e1, he1⟩ : ∃ e1, e1 = enc bn := ⟨_, rfl⟩
      obtain ⟨dd, hdd⟩ : ∃ dd, dd = difD old v := ⟨_, rfl⟩
      obtain ⟨m0, hm0⟩ : ∃ m0, e0.length = m0 := ⟨_, rfl⟩
      obtain ⟨m1, hm1⟩ : ∃ m1, e1.length = m1 := ⟨_, rfl⟩
      obtain ⟨m2, hm2⟩ : ∃ m2, dd.length = m2 := ⟨_, rfl⟩
      have hm0b : m0 ≤ 10 := by rw [← hm0, he0]; exact enc_len10' (by omega)
      have hm0p : 0 < m0 := by
        rw [← hm0, he0]
        have := enc_ne t
        exact List.length_pos_iff.2 this
      have hm1b : m1 ≤ 10 := by rw [← hm1, he1]; exact enc_len10' (by omega)
      have hm2b : m2 ≤ 100000 := by
        have hvl := HV.out.len
        have := dif_len hold2.1 HVV.out (by omega) (by omega)
        rw [← hm2, hdd]; omega
      have HE0 := Lib.hid he0
      have HE1 := Lib.hid he1
      have HDD := Lib.hid hdd
      have HM0 := Lib.hid hm0
      have HM1 := Lib.hid hm1
      have HM2 := Lib.hid hm2
      have HVO := Lib.hid hold2.1
      have ht6 : t < 1000000 := by omega
      have hbn6 : bn < 1000000 := by omega
      have hn1000 : n ≤ 1000 := by omega
      have hno1000 : no ≤ 1000 := by omega
      obtain ⟨mm, hmm⟩ : ∃ mm, m0 + m1 + m2 = mm := ⟨_, rfl⟩
      have hmm0 : 0 < mm := by omega
      have hm0c : m0 ≤ 100000 := by omega
      have hm1c : m1 ≤ 100000 := by omega
      have HMM := Lib.hid hmm
      clear hmv hget hgu hgs hown hold hold2 hno hbn2 he0 he1 hdd hm0 hm1 hm2 hmm
      have hbi : -9223372036854775808 ≤ (bn : Int) ∧ (bn : Int) ≤ 9223372036854775807 := by omega
      have hwb : IntKind.i64.wrap ((bn : Int) - 1 + 1) = (bn : Int) := by
        rw [show ((bn : Int) - 1 + 1) = (bn : Int) by omega]; exact IntWalk.i64_in _ hbi
      have hwb2 : IntKind.i64.wrap (bn : Int) = (bn : Int) := IntWalk.i64_in _ hbi
      have hwb3 : wrap64 (bn : Int) = (bn : Int) := IntWalk.wrap64_in _ hbi
      have hbd : Below w.heap.size w w.drew := Below.drew (Below.refl _ _)
      have hS0 := HLK.out _ hbd
      go_upto_region 10 with (fail)
      go_cut [11] (fun v11 W => ∃ A5 c5, v11 = .slice A5 mm c5 ∧ Hid (OwnU 5 W w.heap.size (.slice A5 mm c5) (e0 ++ e1 ++ dd)) ∧ Hid (Below w.heap.size w W))
      case first =>
       go_region_held3 (fun W => W.cell? ⟨g, 1, none⟩ = some (.map (some b)) ∧ Sem.run Try.prog (Instr.lookup 53 (.map (some b)) (.int .i64 ((bn : Int) - 1)) false) W = .ok (.slice Ao no co) W) (first | exact hS0 | assumption) (first
        | (go_at_call 26; (with_reducible refine (fvar_any t w.drew ht6 e0 m0 HE0.out HM0.out).mono ?_); rintro e w1 ⟨A1, c1, rfl, ho1, hb1⟩; have hB1 := hbd.trans hb1; have hS1 := HLK.out w1 hB1; have HO1 := Lib.hid ho1; clear ho1)
        | (go_at_call 26; (with_reducible refine (fvar_any bn w1 hbn6 e1 m1 HE1.out HM1.out).mono ?_); rintro e w2 ⟨A2, c2, rfl, ho2, hb2⟩; have hB2 := hB1.trans (hb2.mono hB1.size); have hS2 := HLK.out w2 hB2; have HO2 := Lib.hid ho2; clear ho2)
        | (go_at_call 22; (with_reducible refine (diff_any Ao no co old A n c v w2 (HOS.out w2 hB2).1 (HOS.out w2 hB2).2 hno1000 hn1000 HVO.out HVV.out dd m2 HDD.out HM2.out).mono ?_); rintro e w3 ⟨A3, c3, rfl, ho3, hb3⟩; have hB3 := hB2.trans (hb3.mono hB2.size); have hS3 := HLK.out w3 hB3; have hS4 := HLK.out _ (hB3.alloc hB3.size (.cells #[.slice A1 m0 c1, .slice A2 m1 c2, .slice A3 m2 c3] 33)); have HCC := Lib.hid (concat3_any A1 A2 A3 m0 m1 m2 c1 c2 c3 e0 e1 dd w3 ((HO1.out.slU.below hb2 hb2.size).below hb3 hb3.size) (HO2.out.slU.below hb3 hb3.size) ho3.slU hm0c hm1c hm2b mm HMM.out hmm0))
        | (go_at_call 25; refine HCC.out.mono ?_; rintro e w5 ⟨A5, c5, rfl, ho5, hb5⟩; have hB5 := hB3.trans (hb5.mono hB3.size); have hS5 := HLK.out w5 hB5; have HO5 := Lib.hid (ho5.lower hB3.size); have HB5 := Lib.hid hB5; clear ho5))
       all_goals
        go_simp
        refine ‹∀ (a : Act) (w : World), _ → _› _ _ ?_
        go_meet
        exact ⟨A5, c5, rfl, HO5, HB5⟩
      obtain ⟨A5, c5, rfl, HO5, HB5⟩ := hcut
      rename World => w5
      have HCAT : Hid (e0 ++ e1 ++ dd = pktI l acked t v) := Lib.hid (by rw [HPK.out, HE0.out, HE1.out, HDD.out])
      have hmm4 : mm ≤ 4000 := by
        have h1 := HO5.out.len
        rw [HCAT.out] at h1
        have h2 := HLEN.out
        omega
      have hmi : ¬ ((4000 : Int) < (mm : Int)) := by omega
      have hq2 : w5.cell? ⟨g, 2, none⟩ = some (.int .i64 last) := (HB5.out.cell (p := ⟨g, 2, none⟩) hg).trans q2
      have hbk5 : Blk w5 g 57 _ := HBK.out.below HB5.out hg
      have fz := hbk5.frozen 2
      obtain ⟨w6, hw6⟩ : ∃ w6, w6 = w5.setCell ⟨g, 2, none⟩ (.int .i64 (t : Int)) := ⟨_, rfl⟩
      have hbk6 : Blk w6 g 57 #[.int .i64 (keep : Int), .map (some b), .int .i64 (t : Int), .slice Aa acked.length ca] := by
        rw [hw6]
        have := hbk5.set_ 2 (.int .i64 (t : Int))
        simpa using this
      have hne : g ≠ b := by
        rintro rfl
        obtain ⟨_, D', f', ho', _⟩ := HST.out
        obtain ⟨es, ck, hb', _⟩ := ho'
        have h1 := HBK.out
        unfold Blk at h1
        rw [hb'] at h1
        injection h1 with h1
        cases h1
      have hf6 : Frm (fun i => i = g) w w6 := by
        rw [hw6]
        exact ((frm_of_below HB5.out).mono (S' := fun i => i = g) (fun _ h => h.elim)).trans (Frm.setCell w5 ⟨g, 2, none⟩ _) (fun i hi => .inl hi)
      have hgT : ∀ (T : TypeId), T ≠ 57 → ∀ i, i = g → ¬ ∃ cur, w.heap[i]? = some (.cells cur T (0, 0)) := by
        rintro T hT i rfl ⟨cur, hc⟩
        have h1 := HBK.out
        unfold Blk at h1
        rw [h1] at hc
        injection hc with hc
        injection hc with _ h2
        exact hT h2.symm
      have HS6 : Hid (StM w6 P b l) := Lib.hid (HST.out.frm hf6 (fun e => hne e.symm) (hgT 48 (by decide)) (fun k h => h))
      have HA6 : Hid (AckM w6 P Aa ca acked) := Lib.hid (HAK.out.frm hf6 (hgT 3 (by decide)) (fun k h => h))
      have HV6 : Hid (SlP w6 w6.heap.size A n c v) := Lib.hid (slP_frmA HV.out hf6 (fun bv off e e' => HVP.out bv off e (by rw [e']; exact hPg)))
      have HB6 := Lib.hid hbk6
      have HF6 := Lib.hid hf6
      have HW6 := Lib.hid hw6
      clear hbk5 hbk6 hf6 hgT
      have hput := fput_any g b keep l (t : Int) v A n c P w6 (HB6.out.cell 0) (HB6.out.cell 1) hne HS6.out HU.out (fun p hp => by have := (HL0.out p hp).2; omega) hk1 hlk hk2 HV6.out (by omega) (by simp [Lit.wf, IntKind.min, IntKind.max, IntKind.signed, IntKind.bits]; omega) (fun p hp => by have := HL0.out p hp; simp [Lit.wf, IntKind.min, IntKind.max, IntKind.signed, IntKind.bits]; omega)
      have HPUT := Lib.hid hput
      clear hput
      go_wp2_with fail
      rw [← HW6.out]
      refine HPUT.out.mono ?_
      rintro e w7 ⟨rfl, hst7, hf7⟩
      have hr5 : ∀ r, (Value.slice A5 mm c5).ownBlock = some r → w7.heap[r]? = w5.heap[r]? := fun r hr => by
        have h1 := (HO5.out.rowLt r hr)
        have hz5 := HB5.out.size
        have hbl : b < w.heap.size := by
          obtain ⟨_, D', f', ho', _⟩ := HST.out
          exact ho'.lt
        have e1 := hf7.block r (by rw [HW6.out]; simp; exact h1.2.1) (by have := h1.1; omega)
        rw [e1, HW6.out]
        exact Below.heap_setCell w5 _ _ r (by show r ≠ g; have := h1.1; omega)
      have HO7 : Hid (OwnU 5 w7 w.heap.size (.slice A5 mm c5) (pktI l acked t v)) := Lib.hid (by rw [← HCAT.out]; exact HO5.out.keepRow hr5)
      have HST7 := Lib.hid hst7
      have HF7 := Lib.hid hf7
      have hib : IsB (pktI l acked t v) := by
        rw [HPK.out]
        intro x hx
        rcases List.mem_append.1 hx with h | h
        · rcases List.mem_append.1 h with h | h
          · exact enc_isB _ x h
          · exact enc_isB _ x h
        · exact dif_isB _ _ x h
      have hlx : (toN (pktI l acked t v)).length = mm := by
        have := HO7.out.len
        simp [toN, this]
      obtain ⟨mo, hmo⟩ : ∃ mo, (rcPack (toN (pktI l acked t v))).length = mo := ⟨_, rfl⟩
      have hen := encode_any (toN (pktI l acked t v)) A5 mm c5 w7 (by rw [natI_toN hib]; exact HO7.out.rd) hlx hmm4 (toN_lt hib) _ mo rfl hmo
      have HEN := Lib.hid hen
      clear hst7 hf7 hr5 hib hlx hen
      go_wp2_with fail
      refine HEN.out.mono ?_
      rintro e w8 ⟨A8, c8, rfl, ho8, hb8⟩
      have HO8 := Lib.hid ho8
      have HB8 := Lib.hid hb8
      clear ho8 hb8
      go_wp2
      go_ret2
      have hz6 : w.heap.size ≤ w6.heap.size := HF6.out.size
      have hz7 : w6.heap.size ≤ w7.heap.size := HF7.out.size
      have f67 : Frm (fun i => i = g ∨ i = b) w w7 := (HF6.out.mono (S' := fun i => i = g ∨ i = b) (fun i h => .inl h)).trans HF7.out (fun i hi => .inl (.inr hi))
      have f78 : Frm (fun i => i = g ∨ i = b) w w8 := f67.trans (frm_of_below HB8.out) (fun _ h => h.elim)
      have hbk7 : Blk w7 g 57 _ := (HF7.out.block g HB6.out.lt hne).trans HB6.out
      have hbk8 := hbk7.below HB8.out hbk7.lt
      refine ⟨A8, mo, c8, rfl, HO8.out.lower (Nat.le_trans hz6 hz7), ⟨.inl hPg, b, Aa, ca, hbk8, ?_, ?_⟩, f78.mono (fun i hi => by rcases hi with rfl | rfl; exact hPg; exact hPb)⟩
      · exact HST7.out.frm (frm_of_below HB8.out) (fun h => h) (fun _ h => h.elim) (fun k hk => hk.elim .inl (fun h => .inr (Nat.le_trans hz6 h)))
      · have hnot : ∀ i, i = b → ¬ ∃ cur, w6.heap[i]? = some (.cells cur 3 (0, 0)) := by
          rintro i rfl ⟨cur, hc⟩
          obtain ⟨_, D', f', ho', _⟩ := HS6.out
          obtain ⟨es, ck, hb', _⟩ := ho'
          rw [hb'] at hc
          injection hc with hc
          cases hc
        exact (HA6.out.frm HF7.out hnot (fun k h => .inl h)).frm (frm_of_below HB8.out) (fun _ h => h.elim) (fun k h => h)
end Go.Proofs.Ytcniepogobgaoaa
