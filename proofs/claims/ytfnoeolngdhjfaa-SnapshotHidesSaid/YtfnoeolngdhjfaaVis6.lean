/-
  Package arenanetref27: Sees.
-/
import Derived.Test.YtfnoeolngdhjfaaVis5
import Derived.Test.YtfnoeolngdhjfaaVec
import Derived.Test.YtfnoeolngdhjfaaLd
import Derived.Deep.RegionHeld3
namespace Go.Proofs.Ytfnoeolngdhjfaa
set_option linter.unusedVariables false
set_option linter.unusedSimpArgs false
set_option maxRecDepth 4000
open Go.RowKit

/-- The root of n, rounded down. -/
def rootN : Nat → Nat
  | 0 => 0
  | n + 1 => if (rootN n + 1) * (rootN n + 1) ≤ n + 1 then rootN n + 1 else rootN n
theorem rootN_is (n : Nat) : IsRoot n (rootN n) := by
  induction n with
  | zero => exact ⟨by simp [rootN], by simp [rootN]⟩
  | succ n ih =>
    obtain ⟨h1, h2⟩ := ih
    unfold rootN
    split
    · rename_i h
      refine ⟨h, ?_⟩
      have : (rootN n + 1) * (rootN n + 1) < (rootN n + 1 + 1) * (rootN n + 1 + 1) := Nat.mul_lt_mul_of_lt_of_lt (by omega) (by omega)
      omega
    · rename_i h
      exact ⟨by omega, by omega⟩
/-- A state that stays in its range has its bodies near. -/
theorem OkC.pos {p : Nat} {zs : List Int} (h : OkC p zs) {i : Nat} (hi : 48 + 4 * p + 8 * i + 1 < zs.length) : (-1048576 ≤ posX p zs i ∧ posX p zs i ≤ 1048576) ∧ (-1048576 ≤ posY p zs i ∧ posY p zs i ≤ 1048576) :=
  ⟨(h (48 + 4 * p + 8 * i) (by omega)).2 (by omega) (by omega), (h (48 + 4 * p + 8 * i + 1) hi).2 (by omega) (by omega)⟩
def sq2 (a b c d : Int) : Nat := ((a - c) * (a - c) + (b - d) * (b - d)).toNat
theorem sq2_eq (a b c d : Int) : ((sq2 a b c d : Nat) : Int) = (a - c) * (a - c) + (b - d) * (b - d) := by
  unfold sq2
  have h1 := int_sq (a - c)
  have h2 := int_sq (b - d)
  omega
theorem sq_le {x m : Int} (h : -m ≤ x ∧ x ≤ m) : x * x ≤ m * m := by
  have h1 : 0 ≤ (m - x) * (m + x) := Int.mul_nonneg (by omega) (by omega)
  have h2 : (m - x) * (m + x) = m * m - x * x := by rw [Int.sub_mul, Int.mul_add, Int.mul_add, Int.mul_comm x m]; omega
  omega
theorem sq2_lt {a b c d : Int} (h1 : -1048576 ≤ a ∧ a ≤ 1048576) (h2 : -1048576 ≤ b ∧ b ≤ 1048576) (h3 : -1048576 ≤ c ∧ c ≤ 1048576) (h4 : -1048576 ≤ d ∧ d ≤ 1048576) : sq2 a b c d < 4611686018427387904 := by
  have e := sq2_eq a b c d
  have g1 := sq_le (x := a - c) (m := 2097152) (by omega)
  have g2 := sq_le (x := b - d) (m := 2097152) (by omega)
  omega
/-- Does player pl see body i? -/
def nearB (fog : Int) (qx qy px py : Int) : Bool := decide ((rootN (sq2 qx qy px py) : Int) ≤ fog)
def seesR (ds : List (Int × Int)) (fog px py qx qy : Int) : Bool :=
  decide (0 ≤ roomFrom 0 px py) && decide (0 ≤ roomFrom 0 qx qy) && (nearB fog qx qy px py && connD ds (roomFrom 0 px py) (roomFrom 0 qx qy))
def seesB (s : Su) (zs : List Int) (pl i : Nat) : Bool :=
  decide (pl = i) || seesR s.doors s.fog (posX s.players zs pl) (posY s.players zs pl) (posX s.players zs i) (posY s.players zs i)
theorem roomFrom_bd (x y : Int) : -1 ≤ roomFrom 0 x y ∧ roomFrom 0 x y < 3 := by
  unfold roomFrom
  split
  · omega
  · split
    · omega
    · split <;> omega
def EqS (w W : World) : Prop := Below w.heap.size w W
theorem EqS.refl (w : World) : EqS w w := Below.refl _ _
theorem EqS.drew {w W : World} (h : EqS w W) : EqS w W.drew := Below.drew h
theorem EqS.next {w W W' : World} (h : EqS w W) (hb : Below W.heap.size W W') : EqS w W' := h.trans (hb.mono h.size)
/-- What the functions of visibility take: a setup, a state's cells. -/
structure VisIn (w : World) (B : Nat) (cs : Array Value) (s : Su) (m : SuM) (A : Option Addr) (N : Nat) (zs : List Int) : Prop where
  su : SuV w B cs s m
  p8 : s.players ≤ 100
  n8 : m.nb ≤ 100
  pn : s.players ≤ m.nb
  n0 : 0 < s.players
  hN : 48 + 4 * s.players + 8 * m.nb = N
  len : zs.length = N
  rd : Rd w B A zs
  ok : OkC s.players zs
  nd : m.nd ≤ 100
  doors : DoorsOk s.doors
  B : B ≤ w.heap.size
theorem VisIn.below {w w' : World} {B : Nat} {cs : Array Value} {s : Su} {m : SuM} {A : Option Addr} {N : Nat} {zs : List Int} (h : VisIn w B cs s m A N zs) (hb : Below B w w') : VisIn w' B cs s m A N zs :=
  ⟨h.su.below hb (Nat.le_refl _), h.p8, h.n8, h.pn, h.n0, h.hN, h.len, h.rd.below hb (Nat.le_refl _), h.ok, h.nd, h.doors, Nat.le_trans h.B hb.size⟩
theorem VisIn.pos {w : World} {B : Nat} {cs : Array Value} {s : Su} {m : SuM} {A : Option Addr} {N : Nat} {zs : List Int} (h : VisIn w B cs s m A N zs) {i : Nat} (hi : i < m.nb) : (-1048576 ≤ posX s.players zs i ∧ posX s.players zs i ≤ 1048576) ∧ (-1048576 ≤ posY s.players zs i ∧ posY s.players zs i ≤ 1048576) :=
  h.ok.pos (by rw [h.len, ← h.hN]; omega)

set_option maxHeartbeats 2000000 in
theorem rsees_any (cs : Array Value) (s : Su) (m : SuM) (A : Option Addr) (N c B pl i : Nat) (zs : List Int) (r : Bool) (w : World) (hv : VisIn w B cs s m A N zs) (hpl : pl < s.players) (hi : i < m.nb) (hr : seesB s zs pl i = r) :
    Calls Try.prog 64 #[.agg cs, .slice A N c, .int .i64 (pl : Int), .int .i64 (i : Int)] w fun e w' => e = .returned (.bool r) ∧ Below w.heap.size w w' := by
  have hc0 : (w.alloc (.cells cs 49)).cell? ⟨w.heap.size, 0, none⟩ = some (.int .i64 (s.players : Int)) := ((Blk.new w 49 cs).cell 0).trans (su_c0 hv.su.eq)
  have hc1 : (w.alloc (.cells cs 49)).cell? ⟨w.heap.size, 1, none⟩ = some (.slice m.Ab m.nb m.cb) := ((Blk.new w 49 cs).cell 1).trans (su_c1 hv.su.eq)
  have HBS := Lib.hid (Blk.new w 49 cs)
  have HB0 : Hid (Below w.heap.size w (w.alloc (.cells cs 49))) := (Below.refl _ _).alloc (Nat.le_refl _) _
  have HV := Lib.hid hv
  have HRR := Lib.hid hr
  have g1 : ¬ (pl : Int) < 0 := by omega
  have g2 : ¬ (i : Int) < 0 := by omega
  clear hv hr
  by_cases heq : pl = i
  · have hrt : r = true := by rw [← HRR.out]; simp [seesB, heq]
    subst hrt heq
    go_enter Try.func64, Try.ntmps64
    go_wp2
    go_ret
    exact ⟨rfl, HB0.out⟩
  · have he : (pl == i) = false := by simp [heq]
    have hq : seesR s.doors s.fog (posX s.players zs pl) (posY s.players zs pl) (posX s.players zs i) (posY s.players zs i) = r := by
      rw [← HRR.out]; simp [seesB, heq]
    obtain ⟨hpx, hpy⟩ := HV.out.pos (show pl < m.nb by have := HV.out.pn; omega)
    obtain ⟨hqx, hqy⟩ := HV.out.pos hi
    obtain ⟨px, ex⟩ : ∃ x, x = posX s.players zs pl := ⟨_, rfl⟩
    obtain ⟨py, ey⟩ : ∃ x, x = posY s.players zs pl := ⟨_, rfl⟩
    obtain ⟨qx, fx⟩ : ∃ x, x = posX s.players zs i := ⟨_, rfl⟩
    obtain ⟨qy, fy⟩ : ∃ x, x = posY s.players zs i := ⟨_, rfl⟩
    rw [← ex, ← ey, ← fx, ← fy] at hq
    rw [← ex] at hpx
    rw [← ey] at hpy
    rw [← fx] at hqx
    rw [← fy] at hqy
    have EX := Lib.hid ex
    have EY := Lib.hid ey
    have FX := Lib.hid fx
    have FY := Lib.hid fy
    have HQ := Lib.hid hq
    clear heq HRR hq ex ey fx fy
    go_enter Try.func64, Try.ntmps64
    go_wp2_with (refine wpList_load_row rfl 49 _ rfl _ rfl 49 cs (0, 0) _ HBS.out Try.underlying49 rfl (su_info' HV.out.su.eq) ?_)
    refine (rpos_any cs s m A N c B pl zs _ HV.out.su.eq HV.out.p8 HV.out.n8 (by have := HV.out.pn; omega) HV.out.hN HV.out.len (HV.out.rd.below (HB0.out.mono HV.out.B) (Nat.le_refl _)) (Nat.le_trans HV.out.B HB0.out.size)).mono ?_
    rintro e w1 ⟨rfl, hb1⟩
    rw [← EX.out, ← EY.out]
    have HB1 := Lib.hid ((HB0.out.trans (hb1.mono HB0.out.size)).alloc (by have := HB0.out.size; have := hb1.size; omega) (.cells #[.int .i64 px, .int .i64 py] 47))
    have HBS1 := Lib.hid ((HBS.out.below hb1 (by simp)).alloc (.cells #[.int .i64 px, .int .i64 py] 47))
    have HP1 := Lib.hid (Blk.new w1 47 #[.int .i64 px, .int .i64 py])
    have hz1 : w.heap.size < w1.heap.size := (HBS.out.below hb1 (by simp)).lt
    clear hb1
    go_wp2_with (refine wpList_load_row rfl 49 _ rfl _ rfl 49 cs (0, 0) _ HBS1.out Try.underlying49 rfl (su_info' HV.out.su.eq) ?_)
    refine (rpos_any cs s m A N c B i zs _ HV.out.su.eq HV.out.p8 HV.out.n8 hi HV.out.hN HV.out.len (HV.out.rd.below (HB1.out.mono HV.out.B) (Nat.le_refl _)) (Nat.le_trans HV.out.B HB1.out.size)).mono ?_
    rintro e w2 ⟨rfl, hb2⟩
    rw [← FX.out, ← FY.out]
    have HB2 := Lib.hid ((HB1.out.trans (hb2.mono HB1.out.size)).alloc (by have := HB1.out.size; have := hb2.size; omega) (.cells #[.int .i64 qx, .int .i64 qy] 47))
    have HBS2 := Lib.hid ((HBS1.out.below hb2 (by simp; omega)).alloc (.cells #[.int .i64 qx, .int .i64 qy] 47))
    have HP2 := Lib.hid ((HP1.out.below hb2 (by simp)).alloc (.cells #[.int .i64 qx, .int .i64 qy] 47))
    have HQ2 := Lib.hid (Blk.new w2 47 #[.int .i64 qx, .int .i64 qy])
    have hz2 : w1.heap.size < w2.heap.size := (HP1.out.below hb2 (by simp)).lt
    have p0 : w2.cell? ⟨w1.heap.size, 0, none⟩ = some (.int .i64 px) := (HP1.out.below hb2 (by simp)).cell 0
    have p1 : w2.cell? ⟨w1.heap.size, 1, none⟩ = some (.int .i64 py) := (HP1.out.below hb2 (by simp)).cell 1
    clear hb2
    go_wp2_with (refine wpList_load_row rfl 49 _ rfl _ rfl 49 cs (0, 0) _ HBS2.out Try.underlying49 rfl (su_info' HV.out.su.eq) ?_)
    refine (rroom_any cs s m B px py _ HV.out.su.eq HV.out.su.nr (HV.out.su.rooms.keep fun p hp => HB2.out.cell (by have := HV.out.B; omega)) (Nat.le_trans HV.out.B HB2.out.size)).mono ?_
    rintro e w3 ⟨rfl, hb3⟩
    obtain ⟨a, ha⟩ : ∃ a, a = roomFrom 0 px py := ⟨_, rfl⟩
    have hab := roomFrom_bd px py
    rw [← ha] at hab ⊢
    have HA := Lib.hid ha
    have HB3 := Lib.hid (HB2.out.trans (hb3.mono HB2.out.size))
    have HBS3 := Lib.hid (HBS2.out.below hb3 (by simp; omega))
    have HP3 := Lib.hid (HP2.out.below hb3 (by simp; omega))
    have HQ3 := Lib.hid (HQ2.out.below hb3 (by simp))
    have q0 : w3.cell? ⟨w2.heap.size, 0, none⟩ = some (.int .i64 qx) := HQ3.out.cell 0
    have q1 : w3.cell? ⟨w2.heap.size, 1, none⟩ = some (.int .i64 qy) := HQ3.out.cell 1
    clear ha hb3 p0 p1
    go_wp2_with (refine wpList_load_row rfl 49 _ rfl _ rfl 49 cs (0, 0) _ HBS3.out Try.underlying49 rfl (su_info' HV.out.su.eq) ?_)
    refine (rroom_any cs s m B qx qy _ HV.out.su.eq HV.out.su.nr (HV.out.su.rooms.keep fun p hp => HB3.out.cell (by have := HV.out.B; omega)) (Nat.le_trans HV.out.B HB3.out.size)).mono ?_
    rintro e w4 ⟨rfl, hb4⟩
    obtain ⟨b, hbb⟩ : ∃ b, b = roomFrom 0 qx qy := ⟨_, rfl⟩
    have hbb2 := roomFrom_bd qx qy
    rw [← hbb] at hbb2 ⊢
    have HBB := Lib.hid hbb
    have HB4 := Lib.hid (HB3.out.trans (hb4.mono HB3.out.size))
    have HBS4 := Lib.hid (HBS3.out.below hb4 HBS3.out.lt)
    have HP4 := Lib.hid (HP3.out.below hb4 HP3.out.lt)
    have HQ4 := Lib.hid (HQ3.out.below hb4 HQ3.out.lt)
    clear hbb hb4 q0 q1
    have hr2 := HQ.out
    unfold seesR at hr2
    rw [← HA.out, ← HBB.out] at hr2
    by_cases ha0 : a < 0
    · have : r = false := by rw [← hr2, decide_eq_false (by omega)]; rfl
      subst this
      clear hr2
      go_wp2
      go_ret
      exact ⟨rfl, HB4.out⟩
    · by_cases hb0 : b < 0
      · have : r = false := by rw [← hr2, decide_eq_false (show ¬ 0 ≤ b by omega)]; simp
        subst this
        clear hr2
        go_wp2
        go_ret
        exact ⟨rfl, HB4.out⟩
      · have hr3 : (nearB s.fog qx qy px py && connD s.doors a b) = r := by rw [← hr2, decide_eq_true (show 0 ≤ a by omega), decide_eq_true (show 0 ≤ b by omega)]; rfl
        have HR3 := Lib.hid hr3
        have hfog : w4.cell? ⟨w.heap.size, 8, none⟩ = some (.int .i64 s.fog) := (HBS4.out.cell 8).trans (su_c8 HV.out.su.eq)
        have q0 : w4.cell? ⟨w2.heap.size, 0, none⟩ = some (.int .i64 qx) := HQ4.out.cell 0
        have q1 : w4.cell? ⟨w2.heap.size, 1, none⟩ = some (.int .i64 qy) := HQ4.out.cell 1
        have p0 : w4.cell? ⟨w1.heap.size, 0, none⟩ = some (.int .i64 px) := HP4.out.cell 0
        have p1 : w4.cell? ⟨w1.heap.size, 1, none⟩ = some (.int .i64 py) := HP4.out.cell 1
        have z1 : w2.heap.size < w4.heap.size := HQ4.out.lt
        have z2 : w1.heap.size < w4.heap.size := HP4.out.lt
        have z3 : w.heap.size < w4.heap.size := HBS4.out.lt
        have mkS : ∀ W, EqS w4 W → W.cell? ⟨w2.heap.size, 0, none⟩ = some (.int .i64 qx) ∧ W.cell? ⟨w2.heap.size, 1, none⟩ = some (.int .i64 qy) ∧ W.cell? ⟨w1.heap.size, 0, none⟩ = some (.int .i64 px) ∧ W.cell? ⟨w1.heap.size, 1, none⟩ = some (.int .i64 py) ∧ W.cell? ⟨w.heap.size, 8, none⟩ = some (.int .i64 s.fog) ∧ EqS w4 W := fun W h =>
          ⟨(Below.cell (p := ⟨w2.heap.size, 0, none⟩) h z1).trans q0, (Below.cell (p := ⟨w2.heap.size, 1, none⟩) h z1).trans q1, (Below.cell (p := ⟨w1.heap.size, 0, none⟩) h z2).trans p0, (Below.cell (p := ⟨w1.heap.size, 1, none⟩) h z2).trans p1, (Below.cell (p := ⟨w.heap.size, 8, none⟩) h z3).trans hfog, h⟩
        have MKS := Lib.hid mkS
        have hS0 := mkS w4 (EqS.refl _)
        obtain ⟨n, hn⟩ : ∃ n, n = sq2 qx qy px py := ⟨_, rfl⟩
        have hn1 : (n : Int) = (qx - px) * (qx - px) + (qy - py) * (qy - py) := by rw [hn]; exact sq2_eq _ _ _ _
        have hn2 : n < 4611686018427387904 := by rw [hn]; exact sq2_lt hqx hqy hpx hpy
        obtain ⟨rt, hrt⟩ : ∃ rt, rt = rootN n := ⟨_, rfl⟩
        have HRT : Hid (∀ x, IsRoot n x → x = rt) := fun x hx => by rw [hrt]; exact hx.uniq (rootN_is n)
        obtain ⟨nb, hnb⟩ : ∃ nb, nb = decide ((rt : Int) ≤ s.fog) := ⟨_, rfl⟩
        have HNB : Hid ((nb && connD s.doors a b) = r) := by
          show _ = _
          rw [← HR3.out, hnb, hrt, hn]; rfl
        have HN1 := Lib.hid hn1
        have HN2 := Lib.hid hn2
        have HNN := Lib.hid hnb
        clear hr2 hr3 mkS hn1 hn2 hn hrt hnb q0 q1 p0 p1 hfog
        go_wp2
        go_region_held3 (fun W => W.cell? ⟨w2.heap.size, 0, none⟩ = some (.int .i64 qx) ∧ W.cell? ⟨w2.heap.size, 1, none⟩ = some (.int .i64 qy) ∧ W.cell? ⟨w1.heap.size, 0, none⟩ = some (.int .i64 px) ∧ W.cell? ⟨w1.heap.size, 1, none⟩ = some (.int .i64 py) ∧ W.cell? ⟨w.heap.size, 8, none⟩ = some (.int .i64 s.fog) ∧ EqS w4 W) (first | exact hS0 | exact MKS.out _ (EqS.drew (EqS.refl _)) | assumption) (first
          | (go_at_call 76; rename (_ ∧ _ ∧ _ ∧ _ ∧ _ ∧ EqS w4 _) => hSS; refine (rsub_any _ _ _ _ _ (by omega) (by omega) (by omega) (by omega)).mono ?_; rintro e w5 ⟨rfl, hb5⟩; have hS1 := MKS.out _ (hSS.2.2.2.2.2.next hb5))
          | (go_at_call 75; rename (_ ∧ _ ∧ _ ∧ _ ∧ _ ∧ EqS w4 _) => hSS; refine (rlen_any _ _ n _ HN1.out HN2.out).mono ?_; rintro e w6 ⟨x, hx1, hx2, rfl, hb6⟩; obtain rfl := HRT.out x hx1; have hS1 := MKS.out _ (hSS.2.2.2.2.2.next hb6)))
        rename (_ ∧ _ ∧ _ ∧ _ ∧ _ ∧ EqS w4 _) => hE
        have HE := Lib.hid hE.2.2.2.2.2
        clear hE hS0
        by_cases hnear : (x : Int) ≤ s.fog
        · have hrr : connD s.doors a b = r := by rw [← HNB.out, HNN.out, decide_eq_true hnear]; rfl
          have HRR := Lib.hid hrr
          have HBS5 := Lib.hid (HBS4.out.below HE.out z3)
          have HB5 := Lib.hid (HB4.out.trans (HE.out.mono HB4.out.size))
          clear hrr
          go_wp2_with (refine wpl_load_g (by simp [Region.wanted, yielded, hnear]) 49 _ rfl _ rfl 49 cs (0, 0) _ HBS5.out Try.underlying49 rfl (su_info' HV.out.su.eq) ?_)
          refine (rconn_any cs s m B a b s.doors _ HV.out.su.eq (HV.out.su.doors.below (HB5.out.mono HV.out.B) (Nat.le_refl _)) HV.out.su.nd HV.out.nd (Nat.le_trans HV.out.B HB5.out.size)).mono ?_
          rintro e w7 ⟨rfl, hb7⟩
          rw [HRR.out]
          go_wp2
          go_ret
          exact ⟨rfl, HB5.out.trans (hb7.mono HB5.out.size)⟩
        · have hrr : r = false := by rw [← HNB.out, HNN.out, decide_eq_false hnear]; rfl
          have hd : decide ((x : Int) ≤ s.fog) = false := decide_eq_false hnear
          have HB5 := Lib.hid (HB4.out.trans (HE.out.mono HB4.out.size))
          subst hrr
          clear hnear
          go_wp2
          go_ret
          exact ⟨rfl, HB5.out⟩
end Go.Proofs.Ytfnoeolngdhjfaa
