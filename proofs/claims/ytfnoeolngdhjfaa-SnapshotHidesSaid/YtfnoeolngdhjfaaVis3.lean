/-
  Package visibility: mask.
-/
import Derived.Test.YtfnoeolngdhjfaaVis2
import Derived.Laws.BitsAllLaws
namespace Go.Proofs.Ytfnoeolngdhjfaa
set_option linter.unusedVariables false
set_option linter.unusedSimpArgs false
set_option maxRecDepth 4000
open Go.RowKit

/-- One door's part of the mask. -/
def maskS (room : Int) (m : Nat) (d : Int × Int) : Nat :=
  let m1 := if d.1 = room then m ||| 2 ^ d.2.toNat else m
  if d.2 = room then m1 ||| 2 ^ d.1.toNat else m1
def maskD (ds : List (Int × Int)) (room : Int) : Nat := ds.foldl (maskS room) (2 ^ room.toNat)
theorem maskD_snoc (ds : List (Int × Int)) (d : Int × Int) (room : Int) : maskD (ds ++ [d]) room = maskS room (maskD ds room) d := by
  unfold maskD; rw [List.foldl_append]; rfl
def DoorsOk (ds : List (Int × Int)) : Prop := ∀ d ∈ ds, 0 ≤ d.1 ∧ d.1 < 3 ∧ 0 ≤ d.2 ∧ d.2 < 3
theorem doorsOf_ok (k : Int) : DoorsOk (doorsOf k) := by
  unfold doorsOf DoorsOk
  split
  · simp
  · split <;> simp
theorem pow_lt8 {a : Int} (h0 : 0 ≤ a) (h3 : a < 3) : 2 ^ a.toNat < 2 ^ 3 := Nat.pow_lt_pow_right (by omega) (by omega)
theorem maskS_lt {room : Int} {m : Nat} {d : Int × Int} (hm : m < 2 ^ 3) (h : 0 ≤ d.1 ∧ d.1 < 3 ∧ 0 ≤ d.2 ∧ d.2 < 3) : maskS room m d < 2 ^ 3 := by
  have h1 : (if d.1 = room then m ||| 2 ^ d.2.toNat else m) < 2 ^ 3 := by
    split
    · exact Nat.or_lt_two_pow hm (pow_lt8 h.2.2.1 h.2.2.2)
    · exact hm
  unfold maskS
  simp only []
  split
  · exact Nat.or_lt_two_pow h1 (pow_lt8 h.1 h.2.1)
  · exact h1
theorem maskD_lt {ds : List (Int × Int)} {room : Int} (h : DoorsOk ds) (h0 : 0 ≤ room) (h3 : room < 3) : maskD ds room < 8 := by
  refine snoc_ind (P := fun ds => DoorsOk ds → maskD ds room < 2 ^ 3) (fun _ => pow_lt8 h0 h3) (fun l x ih hl => ?_) ds h
  rw [maskD_snoc]
  exact maskS_lt (ih fun d hd => hl d (List.mem_append_left _ hd)) (hl x (by simp))
/-- Two rooms are one, or a door connects them. -/
def connD (ds : List (Int × Int)) (a b : Int) : Bool := (ds.any fun d => decide (d.1 = a) && decide (d.2 = b) || decide (d.1 = b) && decide (d.2 = a)) || decide (a = b)
theorem bit_pow (a : Int) (j : Nat) (h0 : 0 ≤ a) : (2 ^ a.toNat).testBit j = decide (a = (j : Int)) := by
  rw [Nat.testBit_two_pow]
  by_cases h : a = (j : Int)
  · subst h; simp
  · rw [decide_eq_false h, decide_eq_false (by omega)]
theorem maskD_bit {ds : List (Int × Int)} {room : Int} (h : DoorsOk ds) (h0 : 0 ≤ room) (j : Nat) : (maskD ds room).testBit j = connD ds room (j : Int) := by
  refine snoc_ind (P := fun ds => DoorsOk ds → (maskD ds room).testBit j = connD ds room (j : Int)) (fun _ => ?_) (fun l x ih hl => ?_) ds h
  · simp only [maskD, List.foldl_nil, connD, List.any_nil, Bool.false_or]
    exact bit_pow room j h0
  · have hx := hl x (by simp)
    have ih' := ih fun d hd => hl d (List.mem_append_left _ hd)
    rw [maskD_snoc]
    simp only [connD, List.any_append, List.any_cons, List.any_nil, Bool.or_false] at ih' ⊢
    unfold maskS
    simp only []
    by_cases e1 : x.1 = room
    · by_cases e2 : x.2 = room
      · simp only [e1, e2, if_true, Nat.testBit_or, ih', bit_pow room j h0]
        cases decide (room = (j : Int)) <;> simp
      · simp only [e1, e2, if_true, if_false, Nat.testBit_or, ih', bit_pow x.2 j hx.2.2.1]
        simp
        cases decide (x.2 = (j : Int)) <;> cases decide (room = (j : Int)) <;> simp
    · by_cases e2 : x.2 = room
      · simp only [e1, e2, if_true, if_false, Nat.testBit_or, ih', bit_pow x.1 j hx.1]
        simp
        cases decide (x.1 = (j : Int)) <;> cases decide (room = (j : Int)) <;> simp
      · simp [e1, e2, ih']
theorem maskD_and {ds : List (Int × Int)} {room : Int} (h : DoorsOk ds) (h0 : 0 ≤ room) (j : Nat) : maskD ds room / 2 ^ j % 2 = if connD ds room (j : Int) then 1 else 0 := by
  rw [← maskD_bit h h0 j, Nat.testBit_eq_decide_div_mod_eq]
  rcases Nat.mod_two_eq_zero_or_one (maskD ds room / 2 ^ j) with e | e <;> simp [e]
theorem connD_comm (ds : List (Int × Int)) (a b : Int) : connD ds a b = connD ds b a := by
  unfold connD
  congr 1
  · congr 1; funext d; rw [Bool.or_comm]
  · by_cases h : a = b
    · subst h; rfl
    · rw [decide_eq_false h, decide_eq_false (fun e => h e.symm)]
def maskOf (ds : List (Int × Int)) (room : Int) : Nat := if room < 0 then 0 else maskD ds room
theorem maskS_step (room d1 d2 : Int) (m : Nat) (h : 0 ≤ d1 ∧ d1 < 3 ∧ 0 ≤ d2 ∧ d2 < 3) (hm : m < 8) : ∃ a b : Nat, 2 ^ d1.toNat = a ∧ 2 ^ d2.toNat = b ∧ a < 8 ∧ b < 8 := ⟨_, _, rfl, rfl, pow_lt8 h.1 h.2.1, pow_lt8 h.2.2.1 h.2.2.2⟩

theorem or_step (m D : Nat) (hm : m < 8) (hD : (D : Int) < 3) : bits BinOp.or IntKind.u64 (m : Int) (IntKind.u64.wrap (2 ^ D)) = ((m ||| 2 ^ D : Nat) : Int) := by
  have e : IntKind.u64.wrap (2 ^ D) = ((2 ^ D : Nat) : Int) := by
    have : D = 0 ∨ D = 1 ∨ D = 2 := by omega
    rcases this with rfl | rfl | rfl <;> rfl
  have hp : 2 ^ D < 2 ^ 3 := Nat.pow_lt_pow_right (by omega) (by omega)
  rw [e]
  exact bits_or_u64_nat m (2 ^ D) (by omega) (by omega)
theorem maskS_11 (r m D : Nat) (h : D = r) : maskS r m ((D : Int), (D : Int)) = (m ||| 2 ^ D) ||| 2 ^ D := by subst h; simp [maskS]
theorem maskS_10 (r m D1 D2 : Nat) (h1 : D1 = r) (h2 : D2 ≠ r) : maskS r m ((D1 : Int), (D2 : Int)) = m ||| 2 ^ D2 := by
  have : ((D2 : Int) = (r : Int)) = False := by simp; omega
  simp only [maskS, this, h1, if_true, if_false, Int.toNat_natCast]
theorem maskS_01 (r m D1 D2 : Nat) (h1 : D1 ≠ r) (h2 : D2 = r) : maskS r m ((D1 : Int), (D2 : Int)) = m ||| 2 ^ D1 := by
  have : ((D1 : Int) = (r : Int)) = False := by simp; omega
  simp only [maskS, this, h2, if_true, if_false, Int.toNat_natCast]
theorem maskS_00 (r m D1 D2 : Nat) (h1 : D1 ≠ r) (h2 : D2 ≠ r) : maskS r m ((D1 : Int), (D2 : Int)) = m := by
  have e1 : ((D1 : Int) = (r : Int)) = False := by simp; omega
  have e2 : ((D2 : Int) = (r : Int)) = False := by simp; omega
  simp only [maskS, e1, e2, if_false]

set_option maxHeartbeats 2000000 in
theorem mask_any (cs : Array Value) (s : Su) (m : SuM) (B : Nat) (room : Int) (ds : List (Int × Int)) (w : World) (hcs : cs = suVals s m) (hr : RdP w B m.Ad ds) (hn : ds.length = m.nd) (hnn : m.nd ≤ 100) (hnr : m.nr = 3) (hB : B ≤ w.heap.size) (hd : DoorsOk ds) (h0 : 0 ≤ room) (h3 : room < 3) :
    Calls Try.prog 67 #[.agg cs, .int .i64 room] w fun e w' => e = .returned (.int .u64 ((maskD ds room : Nat) : Int)) ∧ Below w.heap.size w w' := by
  have hc6 := su_c6 hcs
  have hc7 := su_c7 hcs
  rw [← hn] at hc7 hnn
  rw [hnr] at hc6
  clear hn hnr hcs
  have HD := Lib.hid hd
  obtain ⟨Ad, hAd⟩ : ∃ A, A = m.Ad := ⟨_, rfl⟩
  rw [← hAd] at hr hc7
  have HC := Lib.hid hr
  clear hr hd hAd
  obtain ⟨r, hr⟩ : ∃ r : Nat, (r : Int) = room := ⟨room.toNat, by omega⟩
  subst hr
  go_enter Try.func67, Try.ntmps67
  go_wp2
  go_loopw [5, 22] (fun m i wr => ∃ k : Nat, k ≤ ds.length ∧ i = .int .i64 (k : Int) ∧ m = .int .u64 ((maskD (ds.take k) r : Nat) : Int) ∧ Below w.heap.size w wr) (fun _ i _ => ds.length - (intOf i).toNat)
  case atStart =>
    refine ⟨0, by omega, rfl, ?_, (Below.refl _ _).alloc (Nat.le_refl _) _⟩
    congr 1
    have : r = 0 ∨ r = 1 ∨ r = 2 := by omega
    rcases this with rfl | rfl | rfl <;> rfl
  case round =>
    obtain ⟨k, hk, rfl, hm, hb⟩ := hrel
    have hdk : DoorsOk (ds.take k) := fun d hd => HD.out d (List.mem_of_mem_take hd)
    have hml := maskD_lt hdk h0 h3
    obtain ⟨m, hmm⟩ : ∃ m, m = maskD (ds.take k) r := ⟨_, rfl⟩
    rw [← hmm] at hm hml
    subst hm
    by_cases hlt : k < ds.length
    · obtain ⟨b, off, rfl, hbb, hc⟩ := HC.out (by omega)
      obtain ⟨q0, q1⟩ := hc k hlt
      have c0 := (hb.cell (p := ⟨b, off + k * 2, none⟩) (by show b < _; omega)).trans q0
      have c1 := (hb.cell (p := ⟨b, off + k * 2 + 1, none⟩) (by show b < _; omega)).trans q1
      have hdr := HD.out _ (pair_mem hlt)
      obtain ⟨d1, hd1⟩ : ∃ z, z = ea ds k := ⟨_, rfl⟩
      obtain ⟨d2, hd2⟩ : ∃ z, z = eb ds k := ⟨_, rfl⟩
      have hsn : maskD (ds.take (k + 1)) r = maskS r m (d1, d2) := by rw [take_snoc_pair hlt, maskD_snoc, ← hmm, hd1, hd2]
      rw [← hd1] at c0 hdr
      rw [← hd2] at c1 hdr
      obtain ⟨D1, rfl⟩ : ∃ n : Nat, (n : Int) = d1 := ⟨d1.toNat, by omega⟩
      obtain ⟨D2, rfl⟩ : ∃ n : Nat, (n : Int) = d2 := ⟨d2.toNat, by omega⟩
      simp only [] at hdr
      obtain ⟨g0, g1, g2, g3⟩ := hdr
      clear q0 q1 hc hd1 hd2 hmm
      by_cases t1 : D1 = r
      · by_cases t2 : D2 = r
        · have e1 : ((D1 : Int) == (r : Int)) = true := by simp [t1]
          have e2 : ((D2 : Int) == (r : Int)) = true := by simp [t2]
          have h12 : D2 = D1 := by omega
          subst h12
          rw [maskS_11 r m D2 t1] at hsn
          have hor := Nat.or_lt_two_pow (n := 3) hml (Nat.pow_lt_pow_right (a := 2) (m := D2) (n := 3) (by omega) (by omega))
          have HE : Hid (Value.int IntKind.u64 (bits BinOp.or IntKind.u64 (bits BinOp.or IntKind.u64 (↑m) (IntKind.u64.wrap (2 ^ D2))) (IntKind.u64.wrap (2 ^ D2))) = Value.int IntKind.u64 ↑(maskD (ds.take (k + 1)) ↑r)) := by
            rw [hsn, or_step m D2 hml g1, or_step _ D2 hor g1]; exact Lib.hid rfl
          clear t1 t2 hsn hor
          go_wp2
          go_roundw
          case rel => exact ⟨k + 1, by omega, by go_num, HE.out, hb.alloc hb.size _⟩
          case measure => simp [intOf]; omega
        · have e1 : ((D1 : Int) == (r : Int)) = true := by simp [t1]
          have e2 : ((D2 : Int) == (r : Int)) = false := by simp; omega
          rw [maskS_10 r m D1 D2 t1 t2] at hsn
          have HE : Hid (Value.int IntKind.u64 (bits BinOp.or IntKind.u64 (↑m) (IntKind.u64.wrap (2 ^ D2))) = Value.int IntKind.u64 ↑(maskD (ds.take (k + 1)) ↑r)) := by
            rw [hsn, or_step m D2 hml g3]; exact Lib.hid rfl
          clear t1 t2 hsn
          go_wp2
          go_roundw
          case rel => exact ⟨k + 1, by omega, by go_num, HE.out, hb.alloc hb.size _⟩
          case measure => simp [intOf]; omega
      · by_cases t2 : D2 = r
        · have e1 : ((D1 : Int) == (r : Int)) = false := by simp; omega
          have e2 : ((D2 : Int) == (r : Int)) = true := by simp [t2]
          rw [maskS_01 r m D1 D2 t1 t2] at hsn
          have HE : Hid (Value.int IntKind.u64 (bits BinOp.or IntKind.u64 (↑m) (IntKind.u64.wrap (2 ^ D1))) = Value.int IntKind.u64 ↑(maskD (ds.take (k + 1)) ↑r)) := by
            rw [hsn, or_step m D1 hml g1]; exact Lib.hid rfl
          clear t1 t2 hsn
          go_wp2
          go_roundw
          case rel => exact ⟨k + 1, by omega, by go_num, HE.out, hb.alloc hb.size _⟩
          case measure => simp [intOf]; omega
        · have e1 : ((D1 : Int) == (r : Int)) = false := by simp; omega
          have e2 : ((D2 : Int) == (r : Int)) = false := by simp; omega
          rw [maskS_00 r m D1 D2 t1 t2] at hsn
          have HE : Hid (Value.int IntKind.u64 (m : Int) = Value.int IntKind.u64 ↑(maskD (ds.take (k + 1)) ↑r)) := by
            rw [hsn]; exact Lib.hid rfl
          clear t1 t2 hsn
          go_wp2
          go_roundw
          case rel => exact ⟨k + 1, by omega, by go_num, HE.out, hb.alloc hb.size _⟩
          case measure => simp [intOf]; omega
    · have HF : Hid (m = maskD ds r) := by
        rw [List.take_of_length_le (by omega)] at hmm
        exact Lib.hid hmm
      have hd : decide (k < ds.length) = false := decide_eq_false hlt
      clear hlt hmm
      go_wp2
      go_ret
      exact ⟨ret_int (by rw [HF.out]), hb⟩
theorem mask_neg (cs : Array Value) (s : Su) (m : SuM) (w : World) (hcs : cs = suVals s m) :
    Calls Try.prog 67 #[.agg cs, .int .i64 (-1)] w fun e w' => e = .returned (.int .u64 0) ∧ Below w.heap.size w w' := by
  clear hcs
  go_enter Try.func67, Try.ntmps67
  go_wp2
  go_ret
  exact ⟨rfl, (Below.refl _ _).alloc (Nat.le_refl _) _⟩
/-- visibility.mask, wherever Room points. -/
theorem mask_all (cs : Array Value) (s : Su) (m : SuM) (B : Nat) (room : Int) (ds : List (Int × Int)) (w : World) (hcs : cs = suVals s m) (hr : RdP w B m.Ad ds) (hn : ds.length = m.nd) (hnn : m.nd ≤ 100) (hnr : m.nr = 3) (hB : B ≤ w.heap.size) (hd : DoorsOk ds) (h0 : -1 ≤ room) (h3 : room < 3) :
    Calls Try.prog 67 #[.agg cs, .int .i64 room] w fun e w' => e = .returned (.int .u64 ((maskOf ds room : Nat) : Int)) ∧ Below w.heap.size w w' := by
  by_cases hneg : room < 0
  · obtain rfl : room = -1 := by omega
    exact mask_neg cs s m w hcs
  · have : maskOf ds room = maskD ds room := by unfold maskOf; rw [if_neg hneg]
    rw [this]
    exact mask_any cs s m B room ds w hcs hr hn hnn hnr hB hd (by omega) h3
end Go.Proofs.Ytfnoeolngdhjfaa
