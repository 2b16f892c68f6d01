/-
  rangecoder.Decode's function that shifts the next byte in; rangecoder.length.
-/
import Derived.Test.YtcniepogobgaoaaRcW4
import Derived.Deep.RegionLaw
namespace Go.Proofs.Ytcniepogobgaoaa
set_option linter.unusedVariables false
set_option linter.unusedSimpArgs false
set_option maxRecDepth 4000
open Go.RowKit

/-- The decoder's window after k bytes: four zeros lie ahead of the body. -/
def win (body : List Nat) (k : Nat) : Nat := v4 (([0, 0, 0, 0] ++ body).drop k)
theorem drop_getD (l : List Nat) (k i : Nat) : (l.drop k).getD i 0 = l.getD (k + i) 0 := by simp [List.getD_eq_getElem?_getD]
theorem win_zero (body : List Nat) : win body 0 = 0 := by simp [win, v4]
theorem win_four (body : List Nat) (k : Nat) : win body (4 + k) = v4 (body.drop k) := by
  unfold win
  rw [← List.drop_drop]
  rfl
theorem bytes_drop {l : List Nat} (h : Bytes l) (k : Nat) : Bytes (l.drop k) := fun x hx => h x (List.mem_of_mem_drop hx)
theorem win_bytes {body : List Nat} (h : Bytes body) : Bytes ([0, 0, 0, 0] ++ body) := by
  refine Bytes.append ?_ h
  intro x hx
  simp at hx
  omega
theorem win_lt {body : List Nat} (h : Bytes body) (k : Nat) : win body k < 4294967296 := v4_lt (bytes_drop (win_bytes h) k)
theorem win_succ {body : List Nat} (h : Bytes body) (k : Nat) : win body (k + 1) = win body k * 256 % 4294967296 + body.getD k 0 := by
  have hx : (([0, 0, 0, 0] ++ body).drop k).getD 4 0 = body.getD k 0 := by
    rw [drop_getD, Nat.add_comm, List.getD_eq_getElem?_getD, List.getD_eq_getElem?_getD, List.getElem?_append_right (by simp)]
    simp
  unfold win
  rw [← hx, ← List.drop_drop]
  have hb := bytes_drop (win_bytes h) k
  generalize ([0, 0, 0, 0] ++ body).drop k = l at hb ⊢
  match l with
  | [] => simp [v4]
  | x :: t =>
    rw [show List.drop 1 (x :: t) = t from rfl]
    exact v4_tail (hb x (by simp)) (fun y hy => hb y (List.mem_cons_of_mem x hy))
theorem or_byte (v x : Nat) (hx : x < 256) : bits BinOp.or IntKind.u32 (((v * 256 % 4294967296 : Nat)) : Int) (x : Int) = ((v * 256 % 4294967296 + x : Nat) : Int) := by
  rw [u32_or_nat (v * 256 % 4294967296) x (by omega) (by omega)]
  congr 1
  obtain ⟨q, hq⟩ : ∃ q, v * 256 % 4294967296 = 2 ^ 8 * q := ⟨v * 256 % 4294967296 / 256, by omega⟩
  rw [hq, Nat.two_pow_add_eq_or_of_lt (by omega) q]
/-- Decode's three boxes after k bytes have been shifted in. -/
structure DecB (w0 : World) (pa pr pv : Nat) (A : Option Addr) (rl rc : Nat) (body : List Nat) (k : Nat) (W : World) : Prop where
  bel : Below w0.heap.size w0 W
  ale : w0.heap.size ≤ pa
  vle : w0.heap.size ≤ pv
  at_ : Blk W pa 3 #[.int .i64 (k : Int)]
  rest : Blk W pr 33 #[.slice A rl rc]
  val : Blk W pv 72 #[.int .u32 (win body k : Int)]
theorem DecB.frm {w0 : World} {pa pr pv : Nat} {A : Option Addr} {rl rc : Nat} {body : List Nat} {k : Nat} {W W' : World} (h : DecB w0 pa pr pv A rl rc body k W) {S : Nat → Prop} (hf : Frm S W W') (hB : ∀ k, S k → w0.heap.size ≤ k) (ha : ¬ S pa) (hr : ¬ S pr) (hv : ¬ S pv) : DecB w0 pa pr pv A rl rc body k W' :=
  ⟨h.bel.trans (hf.below h.bel.size hB), h.ale, h.vle, (hf.block _ h.at_.lt ha).trans h.at_, (hf.block _ h.rest.lt hr).trans h.rest, (hf.block _ h.val.lt hv).trans h.val⟩
set_option maxHeartbeats 4000000 in
theorem dec1_any (w0 : World) (pa pr pv : Nat) (A : Option Addr) (rl rc : Nat) (body : List Nat) (hb : Bytes body) (hl : body.length = rl) (hrd : RdU w0 w0.heap.size A (natI body)) (k : Nat) (hk : k < 1000010) (x : Nat) (W : World) (h : DecB w0 pa pr pv A rl rc body k W) :
    Calls Try.prog 36 #[.int .u8 (x : Int), .pointer (some ⟨pa, 0, none⟩), .pointer (some ⟨pr, 0, none⟩), .pointer (some ⟨pv, 0, none⟩)] W fun e w' => e = .returned (.tuple #[]) ∧ DecB w0 pa pr pv A rl rc body (k + 1) w' ∧ Frm (fun i => i = pa ∨ i = pv) W w' := by
  have HD := Lib.hid h
  have q1 : W.cell? ⟨pa, 0, none⟩ = some (.int .i64 (k : Int)) := h.at_.cell 0
  have q2 : W.cell? ⟨pr, 0, none⟩ = some (.slice A rl rc) := h.rest.cell 0
  obtain ⟨v, hv⟩ : ∃ v, v = win body k := ⟨_, rfl⟩
  have q3 : W.cell? ⟨pv, 0, none⟩ = some (.int .u32 (v : Int)) := by rw [hv]; exact h.val.cell 0
  have f1 := h.at_.frozen 0
  have f3 := h.val.frozen 0
  have hvl : v < 4294967296 := by rw [hv]; exact win_lt hb k
  have hne : pa ≠ pv := h.at_.ne_ h.val (by decide)
  obtain ⟨y, hy⟩ : ∃ y, y = body.getD k 0 := ⟨_, rfl⟩
  have hy2 : y < 256 := by rw [hy]; exact hb.get k
  have HV : Hid (win body (k + 1) = v * 256 % 4294967296 + y) := by rw [hv, hy]; exact Lib.hid (win_succ hb k)
  have hor := or_byte v y hy2
  obtain ⟨u, hu⟩ : ∃ u, u = v * 256 % 4294967296 + y := ⟨_, rfl⟩
  rw [← hu] at hor HV
  have hul : u < 4294967296 := by omega
  have HY := Lib.hid hy
  have HRC : Hid (k < rl → ∃ b off, A = some ⟨b, off, none⟩ ∧ W.cell? ⟨b, off + k, none⟩ = some (.int .u8 (y : Int))) := fun hkl => by
    obtain ⟨b, off, e1, e2, e3⟩ := hrd (by rw [natI_len, hl]; omega)
    refine ⟨b, off, e1, (h.bel.cell (p := ⟨b, off + k, none⟩) e2).trans ?_⟩
    rw [e3 k (by rw [natI_len, hl]; exact hkl)]
    simp only []
    rw [ix_get (by rw [natI_len, hl]; exact hkl), hy]
    simp [natI, List.getD_eq_getElem?_getD, List.getElem?_eq_getElem (show k < body.length by omega)]
  have hv256 : IntKind.u32.wrap ((v : Int) * 256) = ((v * 256 % 4294967296 : Nat) : Int) := by rw [IntKind.wrap_u32]; omega
  obtain ⟨v8, hv8⟩ : ∃ v8, v8 = v * 256 % 4294967296 := ⟨_, rfl⟩
  rw [← hv8] at hor hv256
  have HU := Lib.hid hu
  have HHB := Lib.hid hb
  have HL := Lib.hid hl
  have HF1 : Hid (DecB w0 pa pr pv A rl rc body (k + 1) ((W.setCell ⟨pv, 0, none⟩ (.int .u32 (u : Int))).setCell ⟨pa, 0, none⟩ (.int .i64 ((k : Int) + 1))) ∧ Frm (fun i => i = pa ∨ i = pv) W ((W.setCell ⟨pv, 0, none⟩ (.int .u32 (u : Int))).setCell ⟨pa, 0, none⟩ (.int .i64 ((k : Int) + 1)))) := by
    have hr1 : pr ≠ pv := h.rest.ne_ h.val (by decide)
    have hr2 : pr ≠ pa := h.rest.ne_ h.at_ (by decide)
    have hf : Frm (fun i => i = pa ∨ i = pv) W ((W.setCell ⟨pv, 0, none⟩ (.int .u32 (u : Int))).setCell ⟨pa, 0, none⟩ (.int .i64 ((k : Int) + 1))) := ((Frm.setCell W ⟨pv, 0, none⟩ _).mono (S' := fun i => i = pa ∨ i = pv) (fun i hi => .inr hi)).trans (Frm.setCell _ ⟨pa, 0, none⟩ _) (fun i hi => .inl (.inl hi))
    refine Lib.hid ⟨⟨h.bel.trans (hf.below h.bel.size (fun i hi => by rcases hi with rfl | rfl; exact h.ale; exact h.vle)), h.ale, h.vle, ?_, ?_, ?_⟩, hf⟩
    · have := ((h.at_.far (p := ⟨pv, 0, none⟩) hne (.int .u32 (u : Int))).set_ 0 (.int .i64 ((k : Int) + 1)))
      simpa using this
    · exact (h.rest.far (p := ⟨pv, 0, none⟩) hr1 _).far (p := ⟨pa, 0, none⟩) hr2 _
    · rw [HV.out]
      have := (h.val.set_ 0 (.int .u32 (u : Int))).far (p := ⟨pa, 0, none⟩) hne.symm (.int .i64 ((k : Int) + 1))
      simpa using this
  have HF2 : Hid (DecB w0 pa pr pv A rl rc body (k + 1) ((W.setCell ⟨pa, 0, none⟩ (.int .i64 ((k : Int) + 1))).setCell ⟨pv, 0, none⟩ (.int .u32 (u : Int))) ∧ Frm (fun i => i = pa ∨ i = pv) W ((W.setCell ⟨pa, 0, none⟩ (.int .i64 ((k : Int) + 1))).setCell ⟨pv, 0, none⟩ (.int .u32 (u : Int)))) := by
    have hr1 : pr ≠ pv := h.rest.ne_ h.val (by decide)
    have hr2 : pr ≠ pa := h.rest.ne_ h.at_ (by decide)
    have hf : Frm (fun i => i = pa ∨ i = pv) W ((W.setCell ⟨pa, 0, none⟩ (.int .i64 ((k : Int) + 1))).setCell ⟨pv, 0, none⟩ (.int .u32 (u : Int))) := ((Frm.setCell W ⟨pa, 0, none⟩ _).mono (S' := fun i => i = pa ∨ i = pv) (fun i hi => .inl hi)).trans (Frm.setCell _ ⟨pv, 0, none⟩ _) (fun i hi => .inl (.inr hi))
    refine Lib.hid ⟨⟨h.bel.trans (hf.below h.bel.size (fun i hi => by rcases hi with rfl | rfl; exact h.ale; exact h.vle)), h.ale, h.vle, ?_, ?_, ?_⟩, hf⟩
    · have := (h.at_.set_ 0 (.int .i64 ((k : Int) + 1))).far (p := ⟨pv, 0, none⟩) hne (.int .u32 (u : Int))
      simpa using this
    · exact (h.rest.far (p := ⟨pa, 0, none⟩) hr2 _).far (p := ⟨pv, 0, none⟩) hr1 _
    · rw [HV.out]
      have := (h.val.far (p := ⟨pa, 0, none⟩) hne.symm (.int .i64 ((k : Int) + 1))).set_ 0 (.int .u32 (u : Int))
      simpa using this
  have HWY : Hid (IntKind.u32.wrap (y : Int) = (y : Int)) := by show _ = _; rw [IntKind.wrap_u32]; omega
  have HOR := Lib.hid hor
  have hk1 : IntKind.i64.wrap ((k : Int) + 1) = (k : Int) + 1 := IntWalk.i64_in _ (by omega)
  clear h hv hrd hy hv8 hu hb hl
  by_cases hkl : k < rl
  · obtain ⟨b, off, rfl, hc⟩ := HRC.out hkl
    have hki : (k : Int) < (rl : Int) := by omega
    go_enter Try.func36, Try.ntmps36
    go_upto_region 3 with (fail)
    go_region_with (fail)
    all_goals go_end0
    all_goals
      (try rw [HWY.out])
      (try rw [HOR.out])
      first
      | exact ⟨rfl, HF1.out.1.frm ((Frm.refl (fun _ => False) _).drewN 1) (fun _ h => h.elim) (fun h => h) (fun h => h) (fun h => h), HF1.out.2.drewN 1⟩
      | exact ⟨rfl, HF2.out.1.frm ((Frm.refl (fun _ => False) _).drewN 1) (fun _ h => h.elim) (fun h => h) (fun h => h) (fun h => h), HF2.out.2.drewN 1⟩
  · obtain rfl : y = 0 := by
      rw [HY.out, List.getD_eq_getElem?_getD, List.getElem?_eq_none (by rw [HL.out]; omega)]; rfl
    have hki : ¬ ((k : Int) < (rl : Int)) := by omega
    have HWY : Hid (IntKind.u32.wrap 0 = 0) := Lib.hid (by rw [IntKind.wrap_u32]; rfl)
    have HOR : Hid (bits BinOp.or IntKind.u32 (v8 : Int) 0 = (u : Int)) := Lib.hid HOR.out
    go_enter Try.func36, Try.ntmps36
    go_upto_region 3 with (fail)
    go_region_with (fail)
    all_goals go_end0
    all_goals
      (try rw [HWY.out])
      (try rw [HOR.out])
      first
      | exact ⟨rfl, HF1.out.1.frm ((Frm.refl (fun _ => False) _).drewN 1) (fun _ h => h.elim) (fun h => h) (fun h => h) (fun h => h), HF1.out.2.drewN 1⟩
      | exact ⟨rfl, HF2.out.1.frm ((Frm.refl (fun _ => False) _).drewN 1) (fun _ h => h.elim) (fun h => h) (fun h => h) (fun h => h), HF2.out.2.drewN 1⟩
/-- The decoder's boxes while the coder (block g) is at work, and the block q, which stays as it is. -/
structure DecJ (w0 : World) (pa pr pv g : Nat) (A : Option Addr) (rl rc : Nat) (body : List Nat) (q : Nat) (qo : Obj) (o : List Nat) (W : World) : Prop where
  box : DecB w0 pa pr pv A rl rc body (4 + o.length) W
  gle : w0.heap.size ≤ g
  ga : g ≠ pa
  gr : g ≠ pr
  gv : g ≠ pv
  kq : W.heap[q]? = some qo
  qg : q ≠ g
  qa : q ≠ pa
  qv : q ≠ pv
theorem DecJ.frm {w0 : World} {pa pr pv g : Nat} {A : Option Addr} {rl rc : Nat} {body : List Nat} {q : Nat} {qo : Obj} {o : List Nat} {W W' : World} (h : DecJ w0 pa pr pv g A rl rc body q qo o W) {S : Nat → Prop} (hf : Frm S W W') (hS : ∀ k, S k → k = g) : DecJ w0 pa pr pv g A rl rc body q qo o W' :=
  ⟨h.box.frm hf (fun k hk => by rw [hS k hk]; exact h.gle) (fun e => h.ga (hS _ e).symm) (fun e => h.gr (hS _ e).symm) (fun e => h.gv (hS _ e).symm), h.gle, h.ga, h.gr, h.gv,
    (hf.block q (Array.getElem?_eq_some_iff.1 h.kq).1 (fun e => h.qg (hS _ e))).trans h.kq, h.qg, h.qa, h.qv⟩
theorem dec_sink (w0 : World) (pa pr pv g : Nat) (A : Option Addr) (rl rc : Nat) (body : List Nat) (q : Nat) (qo : Obj) (hb : Bytes body) (hl : body.length = rl) (hrd : RdU w0 w0.heap.size A (natI body)) :
    Sink 36 #[.pointer (some ⟨pa, 0, none⟩), .pointer (some ⟨pr, 0, none⟩), .pointer (some ⟨pv, 0, none⟩)] g (DecJ w0 pa pr pv g A rl rc body q qo) where
  enter := fun _ _ => rfl
  set_ := fun o W i v h => h.frm (Frm.setCell W ⟨g, i, none⟩ v) (fun k hk => hk)
  drew := fun o W n h => h.frm ((Frm.refl (fun k => k = g) W).drewN n) (fun k hk => hk)
  call := fun o W x hx ho h hg => by
    refine (dec1_any w0 pa pr pv A rl rc body hb hl hrd (4 + o.length) (by omega) x W h.box).mono ?_
    rintro e w' ⟨rfl, h1, h2⟩
    have hng : ¬ (g = pa ∨ g = pv) := fun e => e.elim h.ga h.gv
    have hnq : ¬ (q = pa ∨ q = pv) := fun e => e.elim h.qa h.qv
    exact ⟨rfl, ⟨by rw [List.length_append]; exact h1, h.gle, h.ga, h.gr, h.gv, (h2.block q (Array.getElem?_eq_some_iff.1 h.kq).1 hnq).trans h.kq, h.qg, h.qa, h.qv⟩, fun cs hcs => (h2.block g hcs.lt hng).trans hcs⟩
def LenPost (n b off m c L : Nat) (w : World) (e : Ending) (w' : World) : Prop := ∃ c', e = .returned (.tuple #[.int .i64 (n : Int), .slice (if c = L then some ⟨b, off, none⟩ else some ⟨b, off + L, none⟩) (m - L) c', .int .i64 0]) ∧ ∃ k, w' = w.drewN k
set_option maxHeartbeats 4000000 in
theorem length_any (n : Nat) (hn : n ≤ 4000) (b off m c L : Nat) (w : World) (hL : (enc n).length = L) (hm : L ≤ m) (hmc : m ≤ c) (hm6 : m < 1000000) (hcl : ∀ k, k < L → w.cell? ⟨b, off + k, none⟩ = some (.int .u8 (ix (enc n) k))) :
    Calls Try.prog 35 #[.slice (some ⟨b, off, none⟩) m c] w (LenPost n b off m c L w) := by
  by_cases hs : n < 128
  · rw [enc_small hs] at hL hcl
    obtain rfl : L = 1 := hL.symm
    have q0 : w.cell? ⟨b, off, none⟩ = some (.int .u8 (n : Int)) := hcl 0 (by omega)
    clear hcl hL
    go_enter Try.func35, Try.ntmps35
    go_wp2
    go_loopw [5, 6, 15] (fun nv sv iv W => nv = .int .i64 0 ∧ sv = .int .i64 1 ∧ iv = .int .i64 0 ∧ W = w) (fun _ _ _ _ => 0)
    case atStart => exact ⟨rfl, rfl, rfl, rfl⟩
    case round =>
      obtain ⟨rfl, rfl, rfl, rfl⟩ := hrel
      have hn1 : (n : Int) < 128 := by omega
      have hn2 : ¬ ((4000 : Int) < (n : Int)) := by omega
      have hmin : (0 : Int) < ((min m 5 : Nat) : Int) := by omega
      go_upto_region 12 with (fail)
      all_goals go_quiet (fail)
      all_goals go_wp2
      all_goals go_ret3
      · exact ⟨0, by simp_all, _, rfl⟩
      · exact ⟨c - 1, by simp_all, _, rfl⟩
      · exact ⟨0, by simp; omega, _, rfl⟩
      · exact ⟨c - 1, by simp; omega, _, rfl⟩
  · have he : enc n = [((n % 128 + 128 : Nat) : Int), ((n / 128 : Nat) : Int)] := by rw [enc_big hs, enc_small (by omega)]
    rw [he] at hL hcl
    obtain rfl : L = 2 := hL.symm
    have q0 : w.cell? ⟨b, off, none⟩ = some (.int .u8 ((n % 128 + 128 : Nat) : Int)) := hcl 0 (by omega)
    have q1 : w.cell? ⟨b, off + 1, none⟩ = some (.int .u8 ((n / 128 : Nat) : Int)) := hcl 1 (by omega)
    obtain ⟨d, hd⟩ : ∃ d, d = n % 128 := ⟨_, rfl⟩
    obtain ⟨u, hu⟩ : ∃ u, u = n / 128 := ⟨_, rfl⟩
    rw [← hd] at q0
    rw [← hu] at q1
    have hd2 : d < 128 := by omega
    have hu1 : 0 < u := by omega
    have hu2 : u < 32 := by omega
    have HN : Hid (d + 128 * u = n) := Lib.hid (by omega)
    have hnn : d + 128 * u ≤ 4000 := by omega
    clear hcl hL he hd hu
    go_enter Try.func35, Try.ntmps35
    go_wp2
    go_loopw [5, 6, 15] (fun nv sv iv W => ∃ i : Nat, i < 2 ∧ nv = .int .i64 (if i = 0 then 0 else (d : Int)) ∧ sv = .int .i64 (if i = 0 then 1 else 128) ∧ iv = .int .i64 (i : Int) ∧ W = w) (fun _ _ iv _ => 2 - (intOf iv).toNat)
    case atStart => exact ⟨0, by omega, rfl, rfl, rfl, rfl⟩
    case round =>
      obtain ⟨i, hi, rfl, rfl, rfl, rfl⟩ := hrel
      by_cases h0 : i = 0
      · subst h0
        have hmin : (0 : Int) < ((min m 5 : Nat) : Int) := by omega
        rw [if_pos rfl, if_pos rfl]
        go_wp2
        go_roundw
        case rel => exact ⟨1, by omega, by go_num, by simp, by simp⟩
        case measure => simp [intOf]
      · obtain rfl : i = 1 := by omega
        have hmin : (1 : Int) < ((min m 5 : Nat) : Int) := by omega
        rw [if_neg h0, if_neg h0]
        have hn2 : ¬ ((4000 : Int) < (d : Int) + (u : Int) * 128) := by omega
        have huz : ((u : Int) == 0) = false := by simp; omega
        go_upto_region 12 with (fail)
        all_goals go_quiet (fail)
        all_goals go_wp2
        all_goals go_ret3
        · exact ⟨0, by have := HN.out; simp; omega, _, rfl⟩
        · exact ⟨c - 2, by have := HN.out; simp; omega, _, rfl⟩
end Go.Proofs.Ytcniepogobgaoaa
