/-
  Package feed: read; Receiver.Receive of a packet that Send made.
-/
import Derived.Test.YtcniepogobgaoaaFd6
namespace Go.Proofs.Ytcniepogobgaoaa
set_option linter.unusedVariables false
set_option linter.unusedSimpArgs false
set_option maxRecDepth 4000
open Go.RowKit Go.Maps Go.Sort Go.Shelf

/-- What is read of a varint: the number, and the rest. -/
def ReadPost (n b off m c L : Nat) (w : World) (e : Ending) (w' : World) : Prop := ∃ c', e = .returned (.tuple #[.int .i64 (n : Int), .slice (if c = L then some ⟨b, off, none⟩ else some ⟨b, off + L, none⟩) (m - L) c', .int .i64 0]) ∧ c' = c - L ∧ ∃ k, w' = w.drewN k
theorem and127 (x : Nat) (hx : x < 256) : bits BinOp.and IntKind.u8 (x : Int) 127 = ((x % 128 : Nat) : Int) := by
  rw [show (127 : Int) = ((127 : Nat) : Int) from rfl, u8_and_nat x 127 hx (by omega)]
  congr 1
  exact Nat.and_two_pow_sub_one_eq_mod x 7
theorem i64_or_nat (a b : Nat) (ha : a < 2 ^ 32) (hb : b < 2 ^ 32) : bits BinOp.or IntKind.i64 (a : Int) (b : Int) = ((a ||| b : Nat) : Int) := by
  show IntKind.i64.wrap ((BitVec.ofInt 64 (a : Int) ||| BitVec.ofInt 64 (b : Int)).toNat : Int) = _
  rw [BitVec.toNat_or, ofInt_u64 a (by omega), ofInt_u64 b (by omega)]
  have h := Nat.or_lt_two_pow ha hb
  exact IntWalk.i64_in _ (by omega)
theorem or_zero_i (x : Nat) (hx : x < 1000000) : bits BinOp.or IntKind.i64 0 (x : Int) = (x : Int) := by
  have := i64_or_nat 0 x (by omega) (by omega)
  rw [Nat.zero_or] at this
  exact this
theorem or_seven (d u : Nat) (hd : d < 128) (hu : u < 1000) : bits BinOp.or IntKind.i64 (d : Int) ((u : Int) * 128) = ((d + u * 128 : Nat) : Int) := by
  rw [show (u : Int) * 128 = ((u * 128 : Nat) : Int) by omega, i64_or_nat d (u * 128) (by omega) (by omega)]
  congr 1
  rw [Nat.or_comm, show u * 128 = 2 ^ 7 * u by omega, ← Nat.two_pow_add_eq_or_of_lt (by omega) u]
  omega
set_option maxHeartbeats 4000000 in
theorem read_any (n : Nat) (hn : n < 16384) (b off m c L : Nat) (w : World) (hL : (enc n).length = L) (hm : L ≤ m) (hmc : m ≤ c) (hm6 : m < 1000000) (hcl : ∀ k, k < L → w.cell? ⟨b, off + k, none⟩ = some (.int .u8 (ix (enc n) k))) :
    Calls Try.prog 29 #[.slice (some ⟨b, off, none⟩) m c] w (ReadPost n b off m c L w) := by
  by_cases hs : n < 128
  · rw [enc_small hs] at hL hcl
    obtain rfl : L = 1 := hL.symm
    have q0 : w.cell? ⟨b, off, none⟩ = some (.int .u8 (n : Int)) := hcl 0 (by omega)
    have ha := and127 n (by omega)
    have ho := or_zero_i (n % 128) (by omega)
    rw [Nat.mod_eq_of_lt hs] at ha ho
    clear hcl hL
    go_enter Try.func29, Try.ntmps29
    go_wp2
    go_loopw [2, 9] (fun nv iv W => nv = .int .i64 0 ∧ iv = .int .i64 0 ∧ W = w) (fun _ _ _ => 0)
    case atStart => exact ⟨rfl, rfl, rfl⟩
    case round =>
      obtain ⟨rfl, rfl, rfl⟩ := hrel
      have hn1 : (n : Int) < 128 := by omega
      have hmi : (0 : Int) < (m : Int) := by omega
      go_upto_region 10 with (fail)
      all_goals go_quiet (fail)
      all_goals go_wp2
      all_goals go_ret3
      · exact ⟨0, by simp_all, rfl, _, rfl⟩
      · exact ⟨c - 1, by simp_all, rfl, _, rfl⟩
      · exact ⟨0, by simp, rfl, _, rfl⟩
      · exact ⟨c - 1, by simp; omega, rfl, _, rfl⟩
  · have he : enc n = [((n % 128 + 128 : Nat) : Int), ((n / 128 : Nat) : Int)] := by rw [enc_big hs, enc_small (by omega)]
    rw [he] at hL hcl
    obtain rfl : L = 2 := hL.symm
    have q0 : w.cell? ⟨b, off, none⟩ = some (.int .u8 ((n % 128 + 128 : Nat) : Int)) := hcl 0 (by omega)
    have q1 : w.cell? ⟨b, off + 1, none⟩ = some (.int .u8 ((n / 128 : Nat) : Int)) := hcl 1 (by omega)
    obtain ⟨d, hd⟩ : ∃ d, d = n % 128 := ⟨_, rfl⟩
    obtain ⟨u, hu⟩ : ∃ u, u = n / 128 := ⟨_, rfl⟩
    have ha1 := and127 (d + 128) (by omega)
    rw [show (d + 128) % 128 = d by omega, show ((d + 128 : Nat) : Int) = (d : Int) + 128 by omega] at ha1
    have ha2 := and127 u (by omega)
    rw [show u % 128 = u by omega] at ha2
    have ho1 := or_zero_i d (by omega)
    have ho2 := or_seven d u (by omega) (by omega)
    have hnn : d + u * 128 = n := by omega
    rw [hnn] at ho2
    rw [← hd] at q0
    rw [← hu] at q1
    have hd2 : d < 128 := by omega
    have hu1 : 0 < u := by omega
    have hu2 : u < 128 := by omega
    clear hcl hL he hd hu hnn
    go_enter Try.func29, Try.ntmps29
    go_wp2
    go_loopw [2, 9] (fun nv iv W => ∃ i : Nat, i < 2 ∧ nv = .int .i64 (if i = 0 then 0 else (d : Int)) ∧ iv = .int .i64 (i : Int) ∧ W = w) (fun _ iv _ => 2 - (intOf iv).toNat)
    case atStart => exact ⟨0, by omega, rfl, rfl, rfl⟩
    case round =>
      obtain ⟨i, hi, rfl, rfl, rfl⟩ := hrel
      by_cases h0 : i = 0
      · subst h0
        have hmi : (0 : Int) < (m : Int) := by omega
        have hdi : ¬ (((d + 128 : Nat) : Int) < 128) := by omega
        rw [if_pos rfl]
        go_wp2
        go_roundw
        case rel => exact ⟨1, by omega, by go_num, by simp⟩
        case measure => simp [intOf]
      · obtain rfl : i = 1 := by omega
        have hmi : (1 : Int) < (m : Int) := by omega
        have hui : (u : Int) < 128 := by omega
        have huz : ((u : Int) == 0) = false := by simp; omega
        rw [if_neg h0]
        go_upto_region 10 with (fail)
        all_goals go_quiet (fail)
        all_goals go_wp2
        all_goals go_ret3
        · exact ⟨0, by simp, rfl, _, rfl⟩
        · exact ⟨c - 2, by simp; omega, rfl, _, rfl⟩
theorem apply_own (A1 : Option Addr) (n1 c1 : Nat) (a : Vw) (A2 : Option Addr) (n2 c2 : Nat) (b : Vw) (w : World) (hs1 : SlP w w.heap.size A1 n1 c1 a) (hs2 : SlU w w.heap.size A2 n2 c2 (difD a b)) (ha : IsV a) (hb : IsV b) (hal : a.length ≤ 100) (hbl : b.length ≤ 100) (m : Nat) (hm : b.length = m) :
    Calls Try.prog 30 #[.slice A1 n1 c1, .slice A2 n2 c2] w fun e w' => ∃ A c, e = .returned (.tuple #[.slice A m c, .int .i64 0]) ∧ OwnP w' w.heap.size (.slice A m c) b ∧ Below w.heap.size w w' := by
  have hl1 := hs1.len
  have hl2 := hs2.len
  have hdl := dif_len ha hb (by omega) (by omega)
  refine (apply_any A1 n1 c1 a A2 n2 c2 (difD a b) w hs1 hs2 (by omega) (by omega) ha (dif_isB a b)).mono ?_
  rintro e w' ⟨hb1, h | ⟨h0, A, m', c, x, rfl, hx, hown⟩⟩
  · exact absurd (dif_ok ha hb (by omega) (by omega)).1 h.1
  · have := (dif_ok ha hb (by omega) (by omega)).2 x hx
    subst this
    have hlen := hown.slP.len
    have : m' = m := by omega
    subst this
    exact ⟨A, c, rfl, hown, hb1⟩
def RecvPost (w : World) (P : Nat → Prop) (g keep : Nat) (l : Kept) (latest : Int) (t : Nat) (v : Vw) (ok : Bool) (e : Ending) (w' : World) : Prop :=
  e = .returned (.tuple #[.int .i64 (if ok = true then (t : Int) else 0), .int .i64 (if ok = true then 0 else 24)]) ∧ RcvM w' (fun k => P k ∨ w.heap.size ≤ k) g keep (if ok = true then putL keep l (t : Int) v else l) (if ok = true then max latest (t : Int) else latest) ∧ Frm P w w'
theorem mid_ix (a b c : List Int) {k : Nat} (hk : k < b.length) : ix (a ++ b ++ c) (a.length + k) = ix b k := by
  rw [ix_app_l (by rw [List.length_append]; omega), ix_app_r (by omega), Nat.add_sub_cancel_left]
set_option maxHeartbeats 40000000 in
theorem recv_any (g keep : Nat) (P : Nat → Prop) (l : Kept) (latest : Int) (t bn : Nat) (old v : Vw) (pb po m c : Nat) (w : World) (h : RcvM w P g keep l latest) (hu : UpK l) (hl0 : ∀ p ∈ l, 0 ≤ p.1 ∧ p.1 < (t : Int)) (ht : t ≤ 6000) (hbt : bn ≤ t) (hk1 : 1 ≤ keep) (hlk : l.length ≤ keep) (hk2 : keep ≤ 1000) (hla : -1 ≤ latest ∧ latest ≤ 100000)
    (hvo : IsV old) (hvv : IsV v) (hol : old.length ≤ 100) (hvl : v.length ≤ 100) (pk : List Int) (hpk : pk = enc t ++ enc bn ++ difD old v) (hlen : pk.length ≤ 4000) (hr : RdU w w.heap.size (some ⟨pb, po, none⟩) (rcPack (toN pk))) (hm : (rcPack (toN pk)).length = m) (hmc : m ≤ c)
    (ok : Bool) (hok : ok = true → (findK l ((bn : Int) - 1)).getD [] = old ∧ (0 < bn → (findK l ((bn : Int) - 1)).isSome = true)) (hst : ok = false → 0 < bn ∧ (findK l ((bn : Int) - 1)).isSome = false) :
    Calls Try.prog 13 #[.pointer (some ⟨g, 0, none⟩), .slice (some ⟨pb, po, none⟩) m c] w (RecvPost w P g keep l latest t v ok) := by
  obtain ⟨hPg, b, hb, hsm⟩ := h
  have hg : g < w.heap.size := hb.lt
  have hib : IsB pk := by
    rw [hpk]
    intro x hx
    rcases List.mem_append.1 hx with h | h
    · rcases List.mem_append.1 h with h | h
      · exact enc_isB _ x h
      · exact enc_isB _ x h
    · exact dif_isB _ _ x h
  obtain ⟨n, hn⟩ : ∃ n, (toN pk).length = n := ⟨_, rfl⟩
  have hpn : pk.length = n := by rw [← hn]; simp [toN]
  obtain ⟨L1, hL1⟩ : ∃ L1, (enc t).length = L1 := ⟨_, rfl⟩
  obtain ⟨L2, hL2⟩ : ∃ L2, (enc bn).length = L2 := ⟨_, rfl⟩
  obtain ⟨L3, hL3⟩ : ∃ L3, (difD old v).length = L3 := ⟨_, rfl⟩
  have hsum : L1 + L2 + L3 = n := by rw [← hpn, hpk, List.length_append, List.length_append, hL1, hL2, hL3]
  have hL1p : 0 < L1 := by rw [← hL1]; exact List.length_pos_iff.2 (enc_ne t)
  have hL2p : 0 < L2 := by rw [← hL2]; exact List.length_pos_iff.2 (enc_ne bn)
  have hL3p : 0 < L3 := by
    rw [← hL3]
    have h1 := List.length_pos_iff.2 (enc_ne (goneD old v).length)
    unfold difD
    simp only [List.length_append]
    omega
  have hdec := decode_any (toN pk) pb po m c n w hr hm hmc hn (by omega) (by omega) (toN_lt hib)
  rw [natI_toN hib] at hdec
  have hn4 : n ≤ 4000 := by omega
  have HDEC := Lib.hid hdec
  have HB := Lib.hid hb
  have HSM := Lib.hid hsm
  have HU := Lib.hid hu
  have HL0 := Lib.hid hl0
  have HVO := Lib.hid hvo
  have HVV := Lib.hid hvv
  have HPK := Lib.hid hpk
  have HL1 := Lib.hid hL1
  have HL2 := Lib.hid hL2
  have HL3 := Lib.hid hL3
  have HOK := Lib.hid hok
  have HSTL := Lib.hid hst
  have HPN := Lib.hid hpn
  clear hdec hb hsm hu hl0 hvo hvv hpk hL1 hL2 hL3 hok hst hr hm hn hpn hmc hib
  go_enter Try.func13, Try.ntmps13
  go_wp2_with fail
  refine HDEC.out.mono ?_
  rintro e w1 ⟨gd, c', rfl, hgd, rfl, hrd, hb1⟩
  have hcell : Hid (∀ N k, k < c' → (w1.drewN N).cell? ⟨gd, k, none⟩ = some (.int .u8 (ix pk k))) := Lib.hid fun N k hk => by
    obtain ⟨b', o', e1, _, e3⟩ := hrd (by rw [HPN.out]; omega)
    injection e1 with e1
    injection e1 with e1 e2
    subst e1 e2
    have := e3 k (by rw [HPN.out]; exact hk)
    rw [Nat.zero_add] at this
    exact this
  have HB1 := Lib.hid hb1
  have hread1 := Lib.hid (read_any t (by omega) gd 0 c' c' L1 w1 HL1.out (by omega) (Nat.le_refl _) (by omega) (fun k hk => by
    rw [Nat.zero_add]
    have := hcell.out 0 k (by omega)
    rw [HPK.out, List.append_assoc, ix_app_l (by rw [HL1.out]; exact hk)] at this
    exact this))
  clear hrd hb1
  go_wp2_with fail
  refine hread1.out.mono ?_
  rintro e w2 ⟨c2, rfl, rfl, n2, rfl⟩
  rw [if_neg (by omega), Nat.zero_add]
  have hti : ¬ ((6000 : Int) < (t : Int)) := by omega
  have hread2 := Lib.hid (read_any bn (by omega) gd L1 (c' - L1) (c' - L1) L2 (w1.drewN n2) HL2.out (by omega) (Nat.le_refl _) (by omega) (fun k hk => by
    have := hcell.out n2 (L1 + k) (by omega)
    rw [HPK.out, ← HL1.out, mid_ix _ _ _ (by rw [HL2.out]; exact hk), HL1.out] at this
    exact this))
  go_wp2_with fail
  refine hread2.out.mono ?_
  rintro e w3 ⟨c3, rfl, rfl, n3, rfl⟩
  rw [if_neg (by omega)]
  have hL3e : c' - L1 - L2 = L3 := by omega
  rw [hL3e]
  obtain ⟨w3, hw3⟩ : ∃ w3, w3 = (w1.drewN n2).drewN n3 := ⟨_, rfl⟩
  have hb3 : Below w.heap.size w w3 := by rw [hw3]; exact HB1.out.trans ((((Frm.refl (fun _ => False) w1).drewN n2).drewN n3).below HB1.out.size (fun _ h => h.elim))
  have hgd3 : gd < w3.heap.size := by
    have := hcell.out 0 0 (by omega)
    have h1 := block_lt_of_cell this
    rw [hw3]; exact h1
  have hsu : SlU w3 w3.heap.size (some ⟨gd, L1 + L2, none⟩) L3 L3 (difD old v) := ⟨HL3.out, Nat.le_refl _, by simp [maxLen]; omega, (fun h => by cases h), fun _ => ⟨gd, L1 + L2, rfl, hgd3, fun k hk => by
    rw [HL3.out] at hk
    have := hcell.out (n2 + n3) (L1 + L2 + k) (by omega)
    rw [HPK.out, ix_app_r (by rw [List.length_append, HL1.out, HL2.out]; omega), List.length_append, HL1.out, HL2.out, show L1 + L2 + k - (L1 + L2) = k by omega, ← World.drewN_drewN] at this
    rw [hw3]
    exact this⟩⟩
  rw [← hw3]
  have HSU := Lib.hid hsu
  have HB3 := Lib.hid hb3
  have hbk3 : Blk w3 g 59 _ := HB.out.below hb3 hg
  have q1 : w3.cell? ⟨g, 1, none⟩ = some (.map (some b)) := hbk3.cell 1
  have hst3 : StM w3 P b l := HSM.out.frm (frm_of_below hb3) (fun h => h) (fun _ h => h.elim) (fun k h => h)
  have HST3 := Lib.hid hst3
  have HBK3 := Lib.hid hbk3
  have hbi : decide ((t : Int) < (bn : Int)) = false := decide_eq_false (by omega)
  have hbi2 : decide (t < bn) = false := decide_eq_false (by omega)
  have hwf : (Lit.int .i64 ((bn : Int) - 1)).wf = true := by simp [Lit.wf, IntKind.min, IntKind.max, IntKind.signed, IntKind.bits]; omega
  have hwft : (Lit.int .i64 (t : Int)).wf = true := by simp [Lit.wf, IntKind.min, IntKind.max, IntKind.signed, IntKind.bits]; omega
  clear hsu hb3 hbk3 hst3 hw3 hcell hread1 hread2 hL3e hgd3
  cases ok with
  | false =>
    obtain ⟨h0, hf⟩ := HSTL.out rfl
    have h0i : (0 : Int) < (bn : Int) := by omega
    have HF := Lib.hid hf
    clear hf
    go_wp2_with fail
    refine (has_st g b P l ((bn : Int) - 1) w3 q1 HST3.out HU.out hwf false HF.out).mono ?_
    rintro e w4 ⟨rfl, rfl⟩
    go_wp2
    go_ret2
    unfold RecvPost
    refine ⟨rfl, ?_, (frm_of_below HB3.out).mono (fun _ h => h.elim)⟩
    have : RcvM w3 P g keep l latest := ⟨hPg, b, HBK3.out, HST3.out⟩
    exact this.mono (fun k h => .inl h)
  | true =>
    obtain ⟨hold, hsome⟩ := HOK.out rfl
    have HSOME := Lib.hid hsome
    have HOLD := Lib.hid hold
    clear hold hsome
    go_upto_region 14 with (fail)
    go_cut [48] (fun v W => v = .bool false ∧ w3 = W)
    case first =>
      by_cases h0 : bn = 0
      · have h0i : decide ((0 : Int) < (bn : Int)) = false := decide_eq_false (by omega)
        have h0j : decide (0 < bn) = false := decide_eq_false (by omega)
        clear h0
        go_wp2
        go_meet
        exact ⟨rfl, rfl⟩
      · have h0i : decide ((0 : Int) < (bn : Int)) = true := decide_eq_true (by omega)
        have h0j : decide (0 < bn) = true := decide_eq_true (by omega)
        have HS := Lib.hid (HSOME.out (by omega))
        go_wp2_with fail
        refine (has_st g b P l ((bn : Int) - 1) w3 q1 HST3.out HU.out hwf true HS.out).mono ?_
        rintro e w4 ⟨rfl, rfl⟩
        go_wp2
        go_meet
        exact ⟨rfl, rfl⟩
    obtain ⟨rfl, rfl⟩ := hcut
    obtain ⟨D, f, hown, hmv, hget⟩ := HST3.out.get HU.out
    obtain ⟨_, Ao, co, hgu, hgs⟩ := hget ((bn : Int) - 1)
    rw [HOLD.out] at hgu hgs
    obtain ⟨no, hno⟩ : ∃ no, no = old.length := ⟨_, rfl⟩
    obtain ⟨nv, hnv⟩ : ∃ nv, v.length = nv := ⟨_, rfl⟩
    rw [← hno] at hgu hgs
    have hnv1 : nv < 100000 := by omega
    have HMV := Lib.hid hmv
    have HGU := Lib.hid hgu
    have HGS := Lib.hid hgs
    have HOWN := Lib.hid hown
    have HNV := Lib.hid hnv
    have HNT : Hid ((findK l (t : Int)).isSome = false) := Lib.hid (by
      cases hf : findK l (t : Int) with
      | none => rfl
      | some v' => have := HL0.out _ (findK_mem hf); simp at this)
    clear hmv hgu hgs hown hget hno hnv
    go_wp2_with (first | (at_lookup; refine wpl_lookup_v _ rfl _ _ 53 rfl 3 30 Try.underlying3 Try.underlying53 _ (zeroP _) b l.length D f HMV.out rfl HOWN.out ((bn : Int) - 1) hwf rfl (.slice Ao no co) HGU.out ?_))
    refine (apply_own Ao no co old (some ⟨gd, L1 + L2, none⟩) L3 L3 v w3 HGS.out HSU.out HVO.out HVV.out hol hvl nv HNV.out).mono ?_
    rintro e w5 ⟨A5, c5, rfl, ho5, hb5⟩
    have hg3 : g < w3.heap.size := HBK3.out.lt
    have hbk5 : Blk w5 g 59 _ := HBK3.out.below hb5 hg3
    have q15 : w5.cell? ⟨g, 1, none⟩ = some (.map (some b)) := hbk5.cell 1
    have q25 : w5.cell? ⟨g, 2, none⟩ = some (.int .i64 latest) := hbk5.cell 2
    have f25 := hbk5.frozen 2
    have HST5 : Hid (StM w5 P b l) := Lib.hid (HST3.out.frm (frm_of_below hb5) (fun h => h) (fun _ h => h.elim) (fun k h => h))
    have HBK5 := Lib.hid hbk5
    have HB5 := Lib.hid hb5
    have HO5 := Lib.hid ho5
    clear hb5 hbk5 ho5 q1
    go_wp2_with fail
    refine (has_st g b P l (t : Int) w5 q15 HST5.out HU.out hwft false HNT.out).mono ?_
    rintro e w6 ⟨rfl, rfl⟩
    obtain ⟨mx, hmx⟩ : ∃ mx, max latest (t : Int) = mx := ⟨_, rfl⟩
    obtain ⟨w6, hw6⟩ : ∃ w6, w6 = w5.setCell ⟨g, 2, none⟩ (.int .i64 mx) := ⟨_, rfl⟩
    have HW6 := Lib.hid hw6
    have hbk6 : Blk w6 g 59 #[.int .i64 (keep : Int), .map (some b), .int .i64 mx] := by
      rw [hw6]
      have := HBK5.out.set_ 2 (.int .i64 mx)
      simpa using this
    have hne : g ≠ b := by
      rintro rfl
      obtain ⟨_, D', f', ho', _⟩ := HSM.out
      obtain ⟨es, ck, hb', _⟩ := ho'
      have h1 := HB.out
      unfold Blk at h1
      rw [hb'] at h1
      injection h1 with h1
      cases h1
    have hs6 := Frm.setCell w5 ⟨g, 2, none⟩ (.int .i64 mx)
    rw [← hw6] at hs6
    have hgp : ∀ k, k = g → ¬ ∃ cur, w5.heap[k]? = some (.cells cur 48 (0, 0)) := by
      rintro k rfl ⟨cur, hc⟩
      have h1 := HBK5.out
      unfold Blk at h1
      rw [h1] at hc
      injection hc with hc
      injection hc with _ h2
      exact absurd h2 (by decide)
    have hst6 : StM w6 P b l := HST5.out.frm hs6 (fun e => hne e.symm) hgp (fun k h => h)
    have ho6 : OwnP w6 w3.heap.size (.slice A5 nv c5) v := HO5.out.keepRow (fun r hr => hs6.block r (HO5.out.rowLt_ r hr).2.1 (fun e => by have h1 := (HO5.out.rowLt_ r hr).1; have e' : r = g := e; omega))
    have HPUT := Lib.hid (fput_any g b keep l (t : Int) v A5 nv c5 P w6 (hbk6.cell 0) (hbk6.cell 1) hne hst6 HU.out (fun p hp => (HL0.out p hp).2) hk1 hlk hk2 ho6.slP hnv1 hwft (fun p hp => by have := HL0.out p hp; simp [Lit.wf, IntKind.min, IntKind.max, IntKind.signed, IntKind.bits]; omega))
    have HBK6 := Lib.hid hbk6
    have HS6 := Lib.hid hs6
    clear hbk6 hs6 hgp hst6 ho6 hw6
    go_wp2_with fail
    rw [← HW6.out]
    refine HPUT.out.mono ?_
    rintro e w7 ⟨rfl, hst7, hf7⟩
    have HST7 := Lib.hid hst7
    have HF7 := Lib.hid hf7
    have HMX := Lib.hid hmx
    clear hst7 hf7 hmx
    go_wp2
    go_ret2
    have hz : w.heap.size ≤ w6.heap.size := Nat.le_trans HB3.out.size (Nat.le_trans HB5.out.size HS6.out.size)
    have hbk7 : Blk w7 g 59 _ := (HF7.out.block g HBK6.out.lt hne).trans HBK6.out
    have f1 : Frm (fun i => i = g ∨ i = b) w w7 := ((((frm_of_below HB3.out).trans (frm_of_below HB5.out) (fun _ h => h.elim)).mono (S' := fun i => i = g ∨ i = b) (fun _ h => h.elim)).trans HS6.out (fun i hi => .inl (.inl hi))).trans HF7.out (fun i hi => .inl (.inr hi))
    have hPb := HSM.out.1
    refine ⟨rfl, ⟨.inl hPg, b, ?_, HST7.out.mono (fun k hk => hk.elim .inl (fun h => .inr (Nat.le_trans hz h)))⟩, f1.mono (fun i hi => by rcases hi with rfl | rfl; exact hPg; exact hPb)⟩
    show Blk w7 g 59 #[.int .i64 (keep : Int), .map (some b), .int .i64 (max latest (t : Int))]
    rw [HMX.out]
    exact hbk7
end Go.Proofs.Ytcniepogobgaoaa
