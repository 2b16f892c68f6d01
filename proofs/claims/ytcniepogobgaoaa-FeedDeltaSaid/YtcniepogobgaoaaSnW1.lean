/-
  Package snapshot: the small functions, called: Find, Equal, SameBytes, Varint, Zigzag and their twins.
-/
import Derived.Test.YtcniepogobgaoaaSnDef
import Derived.Deep.RegionHeld3
import Derived.StillTailTactics
import Derived.Laws.StructEq
import Derived.Laws.BitsAllLaws
namespace Go.Proofs.Ytcniepogobgaoaa
set_option linter.unusedVariables false
set_option linter.unusedSimpArgs false
set_option maxRecDepth 4000
open Go.RowKit

theorem rdp_at {w : World} {B : Nat} {A : Option Addr} {es : List (Int × Int)} (h : RdP w B A es) (hp : 0 < es.length) : ∃ b off, A = some ⟨b, off, none⟩ ∧ b < B ∧ ∀ i, i < es.length → w.cell? ⟨b, off + i * 2, none⟩ = some (.int .i64 (ea es i)) ∧ w.cell? ⟨b, off + i * 2 + 1, none⟩ = some (.int .i64 (eb es i)) := h hp
theorem findD_snoc (l : Vw) (x : Int × Int) (i : Int) : findD (l ++ [x]) i = match findD l i with | some v => some v | none => if x.1 = i then some x.2 else none := by
  induction l with
  | nil => simp only [List.nil_append, findD]
  | cons a t ih =>
    simp only [List.cons_append, findD]
    by_cases h : a.1 = i
    · simp [h]
    · simp [h, ih]

theorem ext_pair {xs ys : Vw} (hl : xs.length = ys.length) (h : ∀ k, k < xs.length → ea xs k = ea ys k ∧ eb xs k = eb ys k) : xs = ys := by
  apply List.ext_getElem hl
  intro k h1 h2
  obtain ⟨h3, h4⟩ := h k h1
  simp only [ea, eb, List.getD, List.getElem?_eq_getElem h1, List.getElem?_eq_getElem h2, Option.getD_some] at h3 h4
  exact Prod.ext h3 h4

set_option maxHeartbeats 1000000 in
theorem req_any (A : Option Addr) (n c : Nat) (xs : Vw) (A' : Option Addr) (n' c' : Nat) (ys : Vw) (res : Bool) (B B' : Nat) (w : World) (hl : xs.length = n) (hl' : ys.length = n') (hr : RdP w B A xs) (hr' : RdP w B' A' ys) (hn : n ≤ 1000000) (hn' : n' ≤ 1000000) (hres : decide (xs = ys) = res) (hB : B ≤ w.heap.size) (hB' : B' ≤ w.heap.size) :
    Calls Try.prog 18 #[.slice A n c, .slice A' n' c'] w fun e w' => e = .returned (.bool res) ∧ Below w.heap.size w w' := by
  by_cases hne : n = n'
  · subst hl
    subst hne
    have HL := Lib.hid hl'
    have HRES := Lib.hid hres
    clear hl' hres
    go_enter Try.func18, Try.ntmps18
    go_wp2
    go_loopw [5] (fun i wr => ∃ k : Nat, k ≤ xs.length ∧ i = .int .i64 k ∧ (∀ j, j < k → ea xs j = ea ys j ∧ eb xs j = eb ys j) ∧ Below w.heap.size w wr) (fun i _ => xs.length - (intOf i).toNat)
    case atStart => exact ⟨0, Nat.zero_le _, rfl, fun _ h => absurd h (by omega), Below.refl _ _⟩
    case round =>
      obtain ⟨k, hk, rfl, hpre, hb⟩ := hrel
      have HP := Lib.hid hpre
      clear hpre
      by_cases hlt : k < xs.length
      · obtain ⟨b, off, rfl, hbb, hc⟩ := rdp_at hr (by omega)
        obtain ⟨b', off', rfl, hbb', hc'⟩ := rdp_at hr' (by rw [HL.out]; omega)
        have c1 := (hb.cell (p := ⟨b, off + k * 2, none⟩) (by show b < _; omega)).trans (hc k hlt).1
        have c2 := (hb.cell (p := ⟨b, off + k * 2 + 1, none⟩) (by show b < _; omega)).trans (hc k hlt).2
        have d1 := (hb.cell (p := ⟨b', off' + k * 2, none⟩) (by show b' < _; omega)).trans (hc' k (by rw [HL.out]; omega)).1
        have d2 := (hb.cell (p := ⟨b', off' + k * 2 + 1, none⟩) (by show b' < _; omega)).trans (hc' k (by rw [HL.out]; omega)).2
        obtain ⟨x1, hx1⟩ : ∃ x, x = ea xs k := ⟨_, rfl⟩
        obtain ⟨x2, hx2⟩ : ∃ x, x = eb xs k := ⟨_, rfl⟩
        obtain ⟨y1, hy1⟩ : ∃ x, x = ea ys k := ⟨_, rfl⟩
        obtain ⟨y2, hy2⟩ : ∃ x, x = eb ys k := ⟨_, rfl⟩
        rw [← hx1] at c1
        rw [← hx2] at c2
        rw [← hy1] at d1
        rw [← hy2] at d2
        by_cases heq : x1 = y1 ∧ x2 = y2
        · obtain ⟨rfl, rfl⟩ := heq
          have HE : Hid (ea xs k = ea ys k ∧ eb xs k = eb ys k) := ⟨hx1.symm.trans hy1, hx2.symm.trans hy2⟩
          clear hc hc' hx1 hx2 hy1 hy2
          go_wp2
          go_quiet (fail)
          go_wp2
          go_roundw
          case rel => exact ⟨k + 1, by omega, by go_num, fun j hj => by rcases Nat.lt_succ_iff_lt_or_eq.1 hj with h | h; exact HP.out j h; rw [h]; exact HE.out, below_drewN hb _⟩
          case measure => simp [intOf]; omega
        · have hres : res = false := by
            rw [← HRES.out, decide_eq_false_iff_not]
            intro h; apply heq; rw [hx1, hx2, hy1, hy2, h]; exact ⟨rfl, rfl⟩
          subst hres
          clear hc hc' hx1 hx2 hy1 hy2
          by_cases h1 : x1 = y1
          · subst h1
            have hq2 : (x2 == y2) = false := beq_eq_false_iff_ne.2 (fun h2 => heq ⟨rfl, h2⟩)
            clear heq
            go_wp2
            go_quiet (fail)
            go_wp2
            go_ret
            exact ⟨rfl, below_drewN hb _⟩
          · have hq1 : (x1 == y1) = false := beq_eq_false_iff_ne.2 h1
            clear heq h1
            go_wp2
            go_quiet (fail)
            go_wp2
            go_ret
            exact ⟨rfl, below_drewN hb _⟩
      · have hres : res = true := by
          rw [← HRES.out, decide_eq_true_eq]
          exact ext_pair (by rw [HL.out]) fun j hj => HP.out j (by omega)
        subst hres
        go_wp2
        go_ret
        exact ⟨rfl, hb⟩
  · have hres' : res = false := by
      rw [← hres, decide_eq_false_iff_not]
      intro h; exact hne (by rw [← hl, ← hl', h])
    subst hres'
    clear hl hl' hres
    go_enter Try.func18, Try.ntmps18
    go_wp2
    go_ret
    exact ⟨rfl, Below.refl _ _⟩

set_option maxHeartbeats 1000000 in
theorem sleq_any (A : Option Addr) (n c : Nat) (xs : Vw) (A' : Option Addr) (n' c' : Nat) (ys : Vw) (res : Bool) (B B' : Nat) (w : World) (hl : xs.length = n) (hl' : ys.length = n') (hr : RdP w B A xs) (hr' : RdP w B' A' ys) (hn : n ≤ 1000000) (hn' : n' ≤ 1000000) (hres : decide (xs = ys) = res) (hB : B ≤ w.heap.size) (hB' : B' ≤ w.heap.size) :
    Calls Try.prog 45 #[.slice A n c, .slice A' n' c'] w fun e w' => e = .returned (.bool res) ∧ Below w.heap.size w w' := by
  by_cases hne : n = n'
  · subst hl
    subst hne
    have HL := Lib.hid hl'
    have HRES := Lib.hid hres
    clear hl' hres
    go_enter Try.func45, Try.ntmps45
    go_wp2
    go_loopw [5, 13] (fun _ i wr => ∃ k : Nat, k ≤ xs.length ∧ i = .int .i64 k ∧ (∀ j, j < k → ea xs j = ea ys j ∧ eb xs j = eb ys j) ∧ Below w.heap.size w wr) (fun _ i _ => xs.length - (intOf i).toNat)
    case atStart => exact ⟨0, Nat.zero_le _, rfl, fun _ h => absurd h (by omega), Below.refl _ _⟩
    case round =>
      obtain ⟨k, hk, rfl, hpre, hb⟩ := hrel
      have HP := Lib.hid hpre
      clear hpre
      by_cases hlt : k < xs.length
      · obtain ⟨b, off, rfl, hbb, hc⟩ := rdp_at hr (by omega)
        obtain ⟨b', off', rfl, hbb', hc'⟩ := rdp_at hr' (by rw [HL.out]; omega)
        have c1 := (hb.cell (p := ⟨b, off + k * 2, none⟩) (by show b < _; omega)).trans (hc k hlt).1
        have c2 := (hb.cell (p := ⟨b, off + k * 2 + 1, none⟩) (by show b < _; omega)).trans (hc k hlt).2
        have d1 := (hb.cell (p := ⟨b', off' + k * 2, none⟩) (by show b' < _; omega)).trans (hc' k (by rw [HL.out]; omega)).1
        have d2 := (hb.cell (p := ⟨b', off' + k * 2 + 1, none⟩) (by show b' < _; omega)).trans (hc' k (by rw [HL.out]; omega)).2
        obtain ⟨x1, hx1⟩ : ∃ x, x = ea xs k := ⟨_, rfl⟩
        obtain ⟨x2, hx2⟩ : ∃ x, x = eb xs k := ⟨_, rfl⟩
        obtain ⟨y1, hy1⟩ : ∃ x, x = ea ys k := ⟨_, rfl⟩
        obtain ⟨y2, hy2⟩ : ∃ x, x = eb ys k := ⟨_, rfl⟩
        rw [← hx1] at c1
        rw [← hx2] at c2
        rw [← hy1] at d1
        rw [← hy2] at d2
        by_cases heq : x1 = y1 ∧ x2 = y2
        · obtain ⟨rfl, rfl⟩ := heq
          have HE : Hid (ea xs k = ea ys k ∧ eb xs k = eb ys k) := ⟨hx1.symm.trans hy1, hx2.symm.trans hy2⟩
          clear hc hc' hx1 hx2 hy1 hy2
          go_wp2
          go_quiet (fail)
          go_wp2
          go_roundw
          case rel => exact ⟨k + 1, by omega, by go_num, fun j hj => by rcases Nat.lt_succ_iff_lt_or_eq.1 hj with h | h; exact HP.out j h; rw [h]; exact HE.out, below_drewN hb _⟩
          case measure => simp [intOf]; omega
        · have hres : res = false := by
            rw [← HRES.out, decide_eq_false_iff_not]
            intro h; apply heq; rw [hx1, hx2, hy1, hy2, h]; exact ⟨rfl, rfl⟩
          subst hres
          clear hc hc' hx1 hx2 hy1 hy2
          by_cases h1 : x1 = y1
          · subst h1
            have hq2 : (x2 == y2) = false := beq_eq_false_iff_ne.2 (fun h2 => heq ⟨rfl, h2⟩)
            clear heq
            go_wp2
            go_quiet (fail)
            go_wp2
            go_ret
            exact ⟨rfl, below_drewN hb _⟩
          · have hq1 : (x1 == y1) = false := beq_eq_false_iff_ne.2 h1
            clear heq h1
            go_wp2
            go_quiet (fail)
            go_wp2
            go_ret
            exact ⟨rfl, below_drewN hb _⟩
      · have hres : res = true := by
          rw [← HRES.out, decide_eq_true_eq]
          exact ext_pair (by rw [HL.out]) fun j hj => HP.out j (by omega)
        subst hres
        go_wp2
        go_ret
        exact ⟨rfl, hb⟩
  · have hres' : res = false := by
      rw [← hres, decide_eq_false_iff_not]
      intro h; exact hne (by rw [← hl, ← hl', h])
    subst hres'
    clear hl hl' hres
    go_enter Try.func45, Try.ntmps45
    go_wp2
    go_ret
    exact ⟨rfl, Below.refl _ _⟩

theorem eqv_any (A : Option Addr) (n c : Nat) (xs : Vw) (A' : Option Addr) (n' c' : Nat) (ys : Vw) (res : Bool) (B B' : Nat) (w : World) (hl : xs.length = n) (hl' : ys.length = n') (hr : RdP w B A xs) (hr' : RdP w B' A' ys) (hn : n ≤ 1000000) (hn' : n' ≤ 1000000) (hres : decide (xs = ys) = res) (hB : B ≤ w.heap.size) (hB' : B' ≤ w.heap.size) :
    Calls Try.prog 23 #[.slice A n c, .slice A' n' c'] w fun e w' => e = .returned (.bool res) ∧ Below w.heap.size w w' := by
  have HC := Lib.hid (sleq_any A n c xs A' n' c' ys res B B' w hl hl' hr hr' hn hn' hres hB hB')
  clear hl hl' hr hr' hres
  go_enter Try.func23, Try.ntmps23
  go_wp2_with fail
  refine HC.out.mono ?_
  rintro e w1 ⟨rfl, hb⟩
  go_wp2
  go_ret
  exact ⟨rfl, hb⟩

theorem rdu_at {w : World} {B : Nat} {A : Option Addr} {zs : List Int} (h : RdU w B A zs) (hp : 0 < zs.length) : ∃ b off, A = some ⟨b, off, none⟩ ∧ b < B ∧ ∀ k, k < zs.length → w.cell? ⟨b, off + k, none⟩ = some (.int .u8 (ix zs k)) := h hp
theorem u8_info : (Try.prog.info? 5).map (fun i => (i.zero, i.size, i.bytes)) = some (some (.int .u8 0), 1, 1) := by kernel_rfl
theorem u8_one (z : Int) (w : World) : (w.alloc (.cells #[.int .u8 z] 5)).cell? ⟨w.heap.size, 0, none⟩ = some (.int .u8 z) := by
  rw [World.cell?_alloc_at _ _ _ _ rfl]; rfl
theorem enc_len (n : Nat) : ∀ k, n < 128 ^ k → 0 < k → (enc n).length ≤ k := by
  intro k
  induction k generalizing n with
  | zero => intro _ h; omega
  | succ k ih =>
    intro h _
    by_cases hs : n < 128
    · rw [enc_small hs]; simp
    · rw [enc_big hs, List.length_cons]
      rw [Nat.pow_succ] at h
      have hk : 0 < k := by
        rcases Nat.eq_zero_or_pos k with h0 | h0
        · subst h0; simp at h; omega
        · exact h0
      have := ih (n / 128) (by omega) hk
      omega
theorem enc_len10 {n : Nat} (h : n < 18446744073709551616) : (enc n).length ≤ 10 := enc_len n 10 (by omega) (by omega)

theorem xor_ones (a : Nat) (ha : a < 18446744073709551616) : a ^^^ 18446744073709551615 = 18446744073709551615 - a := by
  have h : (BitVec.ofNat 64 a ^^^ BitVec.allOnes 64).toNat = a ^^^ 18446744073709551615 := by
    rw [BitVec.toNat_xor, BitVec.toNat_ofNat, BitVec.toNat_allOnes, Nat.mod_eq_of_lt (by omega)]
  rw [← h, BitVec.xor_allOnes, BitVec.toNat_not, BitVec.toNat_ofNat, Nat.mod_eq_of_lt (by omega)]
theorem zig_bits {d : Int} (h1 : -9223372036854775808 ≤ d) (h2 : d ≤ 9223372036854775807) :
    bits BinOp.xor IntKind.u64 (IntKind.u64.wrap (IntKind.u64.wrap d * 2)) (IntKind.u64.wrap (d / 9223372036854775808)) = (zig d : Int) := by
  rw [IntKind.wrap_u64, IntKind.wrap_u64, IntKind.wrap_u64]
  unfold zig
  by_cases hd : 0 ≤ d
  · rw [if_pos hd]
    obtain ⟨x, rfl⟩ : ∃ x : Nat, d = (x : Int) := ⟨d.toNat, by omega⟩
    rw [show ((x : Int) % 18446744073709551616 * 2 % 18446744073709551616) = ((2 * x : Nat) : Int) from by omega, show ((x : Int) / 9223372036854775808 % 18446744073709551616) = ((0 : Nat) : Int) from by omega]
    rw [bits_xor_u64_nat _ _ (by omega) (by omega), Nat.xor_zero]
    omega
  · rw [if_neg hd]
    obtain ⟨x, hx⟩ : ∃ x : Nat, (x : Int) = 2 * d + 18446744073709551616 := ⟨(2 * d + 18446744073709551616).toNat, by omega⟩
    rw [show (d % 18446744073709551616 * 2 % 18446744073709551616) = (x : Int) from by omega, show (d / 9223372036854775808 % 18446744073709551616) = ((18446744073709551615 : Nat) : Int) from by omega]
    rw [bits_xor_u64_nat _ _ (by omega) (by omega), xor_ones x (by omega)]
    omega
set_option maxHeartbeats 1000000 in
theorem zig_any (d : Int) (w : World) (h1 : -9223372036854775808 ≤ d) (h2 : d ≤ 9223372036854775807) :
    Calls Try.prog 44 #[.int .i64 d] w fun e w' => e = .returned (.int .u64 (zig d : Int)) ∧ w = w' := by
  have HZ := Lib.hid (zig_bits h1 h2)
  go_enter Try.func44, Try.ntmps44
  go_wp2
  go_ret
  exact ⟨ret_int HZ.out, rfl⟩

theorem or128 : ∀ a : Nat, a < 256 → (a ||| 128) = a % 128 + 128 := by decide
theorem or_bits (x : Nat) : bits BinOp.or IntKind.u8 ((x : Int) % 256) 128 = ((x % 128 + 128 : Nat) : Int) := by
  rw [show ((x : Int) % 256) = ((x % 256 : Nat) : Int) from by omega]
  have := u8_or_nat (x % 256) 128 (by omega) (by omega)
  rw [show ((128 : Nat) : Int) = (128 : Int) from rfl] at this
  rw [this, or128 _ (by omega)]
  omega
set_option maxHeartbeats 1000000 in
theorem appn_any (v0 : Value) (pre0 : List Int) (B : Nat) (t0 : Nat) (A0 : Option Addr) (c0 : Nat) (n : Nat) (w : World) (hn : n < 18446744073709551616) (hv : v0 = .slice A0 t0 c0) (hown0 : OwnU 5 w B v0 pre0) (ht0 : t0 < 100000) (hB : B ≤ w.heap.size) (out : List Int) (m : Nat) (ho : out = pre0 ++ enc n) (hm : out.length = m) :
    Calls Try.prog 43 #[v0, .int .u64 (n : Int)] w fun e w' => ∃ A c, e = .returned (.slice A m c) ∧ OwnU 5 w' B (.slice A m c) out ∧ Below B w w' := by
  subst hv
  have HO := Lib.hid ho
  have HM := Lib.hid hm
  have HL0 := Lib.hid hown0.len
  clear ho hm
  go_enter Try.func43, Try.ntmps43
  go_wp2
  go_loopw [0, 1] (fun o v wr => ∃ (x t : Nat) (pre : List Int), x < 18446744073709551616 ∧ v = .int .u64 (x : Int) ∧ pre ++ enc x = pre0 ++ enc n ∧ pre.length = t ∧ t < 101000 ∧ (∃ A c, o = .slice A t c ∧ OwnU 5 wr B (.slice A t c) pre) ∧ Below B w wr) (fun _ v _ => (intOf v).toNat)
  case atStart => exact ⟨n, t0, pre0, hn, rfl, rfl, HL0.out, by omega, ⟨A0, c0, rfl, hown0⟩, Below.refl _ _⟩
  case round =>
    obtain ⟨x, t, pre, hx, rfl, hpre, ht, ht9, ⟨A, c, rfl, hown⟩, hb⟩ := hrel
    have HP := Lib.hid hpre
    have HT := Lib.hid ht
    have hsz := hb.size
    have hln : pre.length < 1000000000000 := by omega
    clear hpre ht
    have hln2 : Hid (pre.length + 1 = t + 1) := by show _ = _; rw [HT.out]
    by_cases hbig : 128 ≤ x
    · have hbi : (128 : Int) ≤ (x : Int) := by omega
      have hor := or_bits x
      have HE : Hid (pre ++ [((x % 128 + 128 : Nat) : Int)] ++ enc (x / 128) = pre0 ++ enc n) := by
        show _ = _
        rw [← HP.out, enc_big (n := x) (by omega), List.append_assoc]; rfl
      have HL : Hid ((pre ++ [((x % 128 + 128 : Nat) : Int)]).length = t + 1) := by show _ = _; rw [List.length_append, HT.out]; rfl
      have htn : t + 1 < 101000 := by
        have h1 := congrArg List.length HE.out
        have h2 := enc_len10 hn
        rw [List.length_append, HL.out, List.length_append, HL0.out] at h1
        omega
      obtain ⟨y, hy⟩ : ∃ y : Int, y = ((x % 128 + 128 : Nat) : Int) := ⟨_, rfl⟩
      rw [← hy] at hor HE HL
      clear hy
      go_wp2_with (at_builtin; refine wpl_append1U rfl (.tmp 9) (.tmp 13) 33 rfl 5 Try.underlying33 u8_info B _ _ rfl (hown.alloc _) ⟨wr.heap.size, 0, none⟩ 1 y (t + 1) hln2.out rfl (u8_one _ _) hln (by simp; omega) ?_; intro A3 c3 w1 hown' hb')
      go_roundw
      case rel => exact ⟨x / 128, t + 1, _, by omega, by go_num, HE.out, HL.out, htn, ⟨A3, c3, rfl, hown'.out⟩, (hb.alloc (by omega) _).trans hb'⟩
      case measure => simp [intOf]; omega
    · have hbi : (x : Int) < 128 := by omega
      have hwr : (x : Int) % 256 = (x : Int) := by omega
      have hov : out = pre ++ [(x : Int)] := by rw [HO.out, ← HP.out, enc_small (by omega)]
      have hmm : m = t + 1 := by rw [← HM.out, hov, List.length_append, HT.out]; rfl
      subst hmm
      have HOV := Lib.hid hov
      clear hov
      go_wp2_with (at_builtin; refine wpl_append1U rfl (.tmp 15) (.tmp 18) 33 rfl 5 Try.underlying33 u8_info B _ _ rfl (hown.alloc _) ⟨wr.heap.size, 0, none⟩ 1 (x : Int) (t + 1) hln2.out rfl (u8_one _ _) hln (by simp; omega) ?_; intro A3 c3 w1 hown' hb')
      go_ret
      exact ⟨A3, c3, rfl, by rw [HOV.out]; exact hown'.out, (hb.alloc (by omega) _).trans hb'⟩

end Go.Proofs.Ytcniepogobgaoaa
