/-
  Package arenanetref12: Setup.
-/
import Derived.Test.YtfnoeolngdhjfaaSet1
import Derived.StillTailTactics
import Derived.Deep.RegionHeld3
namespace Go.Proofs.Ytfnoeolngdhjfaa
set_option linter.unusedVariables false
set_option linter.unusedSimpArgs false
set_option maxRecDepth 4000
open Go.RowKit

def ksOf (l : List Int) (i : Nat) : List Int := (List.range i).map (kAt l)
theorem ksOf_len (l : List Int) (i : Nat) : (ksOf l i).length = i := by simp [ksOf]
theorem ksOf_yes {l : List Int} {i : Nat} (h : i < l.length) : ksOf l (i + 1) = ksOf l i ++ [around (ix l i) 1000000] := by
  unfold ksOf; rw [List.range_succ, List.map_append]; simp [kAt, h]
theorem ksOf_no {l : List Int} {i : Nat} (h : ¬ i < l.length) : ksOf l (i + 1) = ksOf l i ++ [0] := by
  unfold ksOf; rw [List.range_succ, List.map_append]; simp [kAt, h]
theorem ksOf_ix {l : List Int} {i n : Nat} (h : i < n) : ix (ksOf l n) i = kAt l i := by
  unfold ksOf; rw [ix_get (by simpa using h)]; simp

theorem wrapI64 (x : Int) : IntKind.i64.wrap x = wrap64 x := by unfold wrap64; exact IntKind.wrap_i64 x
/-- A setup's cells, all zero. -/
def su0 : Array Value := #[.int .i64 0, .slice none 0 0, .int .i64 0, .int .i64 0, .int .i64 0, .int .i64 0, .slice none 0 0, .slice none 0 0, .int .i64 0, .int .i64 0, .int .i64 0, .int .i64 0, .int .i64 0, .int .i64 0, .int .i64 0, .int .i64 0]
/-- The numbers that Setup makes of k0 .. k3. -/
structure SuN (l : List Int) (k0 k1 k2 k3 : Int) (pn d bn : Nat) (fog gy push drag rest rounds : Int) : Prop where
  pl : IntKind.i64.wrap (1 + k0.tmod 3) = (pn : Int)
  fogm : IntKind.i64.wrap (4000 + IntKind.i64.wrap (k1.tmod 9 * 1000)) = fog
  pushm : IntKind.i64.wrap ((IntKind.i64.wrap (k1.tdiv 9)).tmod 5 * 100) = push
  dragm : IntKind.i64.wrap (k2.tmod 4 * 100) = drag
  restm : IntKind.i64.wrap ((IntKind.i64.wrap (k2.tdiv 4)).tmod 3 * 512) = rest
  roundsm : IntKind.i64.wrap (1 + (IntKind.i64.wrap (k2.tdiv 12)).tmod 3) = rounds
  gym : wrap64 (wrap64 (-(wrap64 (k2.tdiv 36)).tmod 3) * 40) = gy
  d3m : k3.tmod 3 = (d : Int)
  bnm : (wrap64 (k3.tdiv 3)).tmod 3 = (bn : Int) - (pn : Int)
  d3 : d < 3
  bn5 : bn ≤ 5
  pn1 : 1 ≤ pn ∧ pn ≤ bn
  doors : doorsOf k3 = if d = 0 then [] else if d = 1 then [(0, 1)] else [(0, 2), (1, 2)]
  su : ∀ bs, (mkSetup l).bodies = bs → mkSetup l = ⟨pn, bs, -12000, -9000, 12000, 9000, fog, 0, gy, push, drag, rest, rounds, 60, doorsOf k3⟩
  bodies : (mkSetup l).bodies = bodiesOf l bn
theorem suN (l : List Int) : ∃ pn d bn fog gy push drag rest rounds, SuN l (kAt l 0) (kAt l 1) (kAt l 2) (kAt l 3) pn d bn fog gy push drag rest rounds := by
  have h0 := kAt_bd l 0
  have h1 := kAt_bd l 1
  have h2 := kAt_bd l 2
  have h3 := kAt_bd l 3
  have hm : mkSetup l = ⟨(1 + kAt l 0 % 3).toNat, bodiesOf l (bdN l), -12000, -9000, 12000, 9000, 4000 + kAt l 1 % 9 * 1000, 0, -(kAt l 2 / 36 % 3) * 40, kAt l 1 / 9 % 5 * 100, kAt l 2 % 4 * 100, kAt l 2 / 4 % 3 * 512, 1 + kAt l 2 / 12 % 3, 60, doorsOf (kAt l 3)⟩ := rfl
  have hb : bdN l = (1 + kAt l 0 % 3).toNat + (kAt l 3 / 3 % 3).toNat := rfl
  generalize kAt l 0 = k0 at *
  generalize kAt l 1 = k1 at *
  generalize kAt l 2 = k2 at *
  generalize kAt l 3 = k3 at *
  have W : ∀ x : Int, IntKind.i64.wrap x = wrap64 x := fun x => by unfold wrap64; exact IntKind.wrap_i64 x
  have m3 : ∀ x : Int, 0 ≤ x → x.tmod 3 = x % 3 := fun x h => Int.tmod_eq_emod_of_nonneg h
  have ed : ∀ (x : Int) (y : Int), 0 ≤ x → x < 1000000 → 0 < y → wrap64 (x.tdiv y) = x / y := fun x y h h' hy => by
    rw [Int.tdiv_eq_ediv_of_nonneg h]
    have h1 : 0 ≤ x / y := Int.ediv_nonneg h (by omega)
    have h2 : x / y ≤ x := Int.ediv_le_self _ h
    exact wr64 (by omega) (by omega)
  refine ⟨(1 + k0 % 3).toNat, (k3 % 3).toNat, bdN l, 4000 + k1 % 9 * 1000, -(k2 / 36 % 3) * 40, k1 / 9 % 5 * 100, k2 % 4 * 100, k2 / 4 % 3 * 512, 1 + k2 / 12 % 3, ?_, ?_, ?_, ?_, ?_, ?_, ?_, ?_, ?_, ?_, ?_, ?_, ?_, ?_, ?_⟩
  · rw [W, m3 _ h0.1, wr64 (by omega) (by omega)]; omega
  · rw [W, W, Int.tmod_eq_emod_of_nonneg h1.1, wr64 (x := _ * 1000) (by omega) (by omega), wr64 (by omega) (by omega)]
  · rw [W, W, ed _ _ h1.1 h1.2 (by omega), Int.tmod_eq_emod_of_nonneg (by omega), wr64 (by omega) (by omega)]
  · rw [W, Int.tmod_eq_emod_of_nonneg h2.1, wr64 (by omega) (by omega)]
  · rw [W, W, ed _ _ h2.1 h2.2 (by omega), Int.tmod_eq_emod_of_nonneg (by omega), wr64 (by omega) (by omega)]
  · rw [W, W, ed _ _ h2.1 h2.2 (by omega), Int.tmod_eq_emod_of_nonneg (by omega), wr64 (by omega) (by omega)]
  · rw [ed _ _ h2.1 h2.2 (by omega), Int.tmod_eq_emod_of_nonneg (by omega), wr64 (x := -_) (by omega) (by omega), wr64 (by omega) (by omega)]
  · rw [m3 _ h3.1]; omega
  · rw [ed _ _ h3.1 h3.2 (by omega), m3 _ (by omega), hb]; omega
  · omega
  · omega
  · omega
  · unfold doorsOf
    rcases (by omega : k3 % 3 = 0 ∨ k3 % 3 = 1 ∨ k3 % 3 = 2) with h | h | h <;> rw [h] <;> rfl
  · intro bs hbs; rw [← hbs, hm]
  · rw [hm]

/-- The cells of a setup under way. -/
def suA (pn s6 bd d : Nat) (fog gy push drag rest rounds : Int) (v : Value) : Array Value :=
  #[.int .i64 (pn : Int), v, .int .i64 (-12000), .int .i64 (-9000), .int .i64 12000, .int .i64 9000, .slice (some ⟨s6 + 1, 0, none⟩) 3 3, .slice (some ⟨bd, 0, none⟩) d d, .int .i64 fog, .int .i64 0, .int .i64 gy, .int .i64 push, .int .i64 drag, .int .i64 rest, .int .i64 rounds, .int .i64 60]
def rooms0 : Array Value := #[.int .i64 (-12000), .int .i64 (-9000), .int .i64 (-1), .int .i64 9000, .int .i64 0, .int .i64 0, .int .i64 12000, .int .i64 9000, .int .i64 0, .int .i64 (-9000), .int .i64 12000, .int .i64 (-1)]
/-- Between the rounds: the setup's block, the rooms, the doors, the bodies so far. -/
structure LS (wr W : World) (s6 bd d : Nat) (cells : Value → Array Value) (drs : List (Int × Int)) (v : Value) (bs : List Bd) : Prop where
  su : Blk W s6 49 (cells v)
  rooms : Blk W (s6 + 1) 43 rooms0
  doors : PairsX W (s6 + 1) (.slice (some ⟨bd, 0, none⟩) d d) drs v.ownBlock
  bodies : OwnBs W (s6 + 6) v bs
  below : Below s6 wr W
  size : s6 + 6 ≤ W.heap.size
theorem LS.step {wr W W1 W2 : World} {s6 bd d : Nat} {cells : Value → Array Value} {drs : List (Int × Int)} {v v' : Value} {bs bs' : List Bd} (h : LS wr W s6 bd d cells drs v bs) (hb : Below W.heap.size W W1) (hg : W1.grownBy W2 v.ownBlock)
    (hv : OwnBs W2 (s6 + 6) v' bs') (hr : v'.ownBlock = v.ownBlock ∨ ∃ j, v'.ownBlock = some j ∧ W1.heap.size ≤ j) (hc : (cells v).setIfInBounds 1 v' = cells v') : LS wr (W2.setCell ⟨s6, 1, none⟩ v') s6 bd d cells drs v' bs' := by
  have hz := h.size
  have hz1 := hb.size
  have hz2 := hg.size
  obtain ⟨_, _, _, _, hrow⟩ := h.bodies.form
  have hblk : ∀ k, k < s6 + 6 → W2.heap[k]? = W.heap[k]? := fun k hk => by
    rw [hg.block k (by omega) (fun e => by have := hrow k e.symm; omega)]
    exact hb.block k (by omega)
  refine ⟨?_, ?_, ?_, ?_, ?_, ?_⟩
  · have h1 : Blk W2 s6 49 (cells v) := (hblk s6 (by omega)).trans h.su
    have := h1.set_ 1 v'
    rw [hc] at this
    exact this
  · exact ((Below.heap_setCell W2 ⟨s6, 1, none⟩ v' (s6 + 1) (by simp)).trans (hblk (s6 + 1) (by omega))).trans h.rooms
  · have h1 : PairsX W1 (s6 + 1) (.slice (some ⟨bd, 0, none⟩) d d) drs v.ownBlock := h.doors.frame hb.size (fun k _ hk _ => hb.block k hk) (.inl rfl)
    have h2 : PairsX W2 (s6 + 1) (.slice (some ⟨bd, 0, none⟩) d d) drs v'.ownBlock := h1.frame hg.size (fun k _ hk hn => hg.block k hk (fun e => hn e.symm)) hr
    exact h2.frame (by simp) (fun k hk _ _ => Below.heap_setCell W2 _ v' k (by show k ≠ s6; omega)) (.inl rfl)
  · exact hv.frame (by simp) (fun k hk _ => Below.heap_setCell W2 _ v' k (by show k ≠ s6; omega))
  · refine h.below.trans (Below.setCell ⟨hg.os.trans hb.os, hg.tape.trans hb.tape, hg.output.trans hb.output, by omega, fun k hk => hblk k (by omega)⟩ (by simp) _)
  · simp; omega
/-- The numbers of a body. -/
structure BoN (n m px py vx vy im a b : Int) (j : Nat) : Prop where
  pxm : wrap64 (wrap64 ((wrap64 (n.tdiv 1000)).tmod 13 - 6) * 900) = px
  pym : wrap64 (wrap64 ((wrap64 (m.tdiv 50)).tmod 11 - 5) * 800) = py
  vxm : wrap64 (wrap64 ((wrap64 (m.tdiv 550)).tmod 9 - 4) * 300) = vx
  vym : wrap64 (wrap64 ((wrap64 (n.tdiv 13000)).tmod 9 - 4) * 300) = vy
  am : m.tmod 50 = a
  bm : n.tmod 7 = b
  jm : (wrap64 (m.tdiv 5000)).tmod 5 = (j : Int)
  j5 : j < 5
  imm : ∀ h, ([Value.int .i64 1024, Value.int .i64 1024, Value.int .i64 512, Value.int .i64 2048, Value.int .i64 0] : List Value)[j]'h = .int .i64 im
  bo : bodyOf n m = ⟨(shapeOf n).1, (shapeOf n).2, px, py, vx, vy, im, a, b⟩
theorem boN (n m : Int) (hn : 0 ≤ n ∧ n < 1000000) (hm : 0 ≤ m ∧ m < 1000000) : ∃ px py vx vy im a b j, BoN n m px py vx vy im a b j := by
  have ed : ∀ (x : Int) (y : Int), 0 ≤ x → x < 1000000 → 0 < y → wrap64 (x.tdiv y) = x / y := fun x y h h' hy => by
    rw [Int.tdiv_eq_ediv_of_nonneg h]
    have h1 : 0 ≤ x / y := Int.ediv_nonneg h (by omega)
    have h2 : x / y ≤ x := Int.ediv_le_self _ h
    exact wr64 (by omega) (by omega)
  refine ⟨(n / 1000 % 13 - 6) * 900, (m / 50 % 11 - 5) * 800, (m / 550 % 9 - 4) * 300, (n / 13000 % 9 - 4) * 300, massAt m, m % 50, n % 7, (m / 5000 % 5).toNat, ?_, ?_, ?_, ?_, ?_, ?_, ?_, ?_, ?_, rfl⟩
  · rw [ed _ _ hn.1 hn.2 (by omega), Int.tmod_eq_emod_of_nonneg (by omega), wr64 (x := _ - _) (by omega) (by omega), wr64 (by omega) (by omega)]
  · rw [ed _ _ hm.1 hm.2 (by omega), Int.tmod_eq_emod_of_nonneg (by omega), wr64 (x := _ - _) (by omega) (by omega), wr64 (by omega) (by omega)]
  · rw [ed _ _ hm.1 hm.2 (by omega), Int.tmod_eq_emod_of_nonneg (by omega), wr64 (x := _ - _) (by omega) (by omega), wr64 (by omega) (by omega)]
  · rw [ed _ _ hn.1 hn.2 (by omega), Int.tmod_eq_emod_of_nonneg (by omega), wr64 (x := _ - _) (by omega) (by omega), wr64 (by omega) (by omega)]
  · exact Int.tmod_eq_emod_of_nonneg hm.1
  · exact Int.tmod_eq_emod_of_nonneg hn.1
  · rw [ed _ _ hm.1 hm.2 (by omega), Int.tmod_eq_emod_of_nonneg (by omega)]; omega
  · omega
  · unfold massAt
    intro h
    rcases (by omega : (m / 5000 % 5).toNat = 0 ∨ (m / 5000 % 5).toNat = 1 ∨ (m / 5000 % 5).toNat = 2 ∨ (m / 5000 % 5).toNat = 3 ∨ (m / 5000 % 5).toNat = 4) with e | e | e | e | e <;> simp only [e] <;> rfl

theorem doors_new (wr : World) (o1 : Obj) (d bd : Nat) (k3 : Int) (hd : doorsOf k3 = if d = 0 then [] else if d = 1 then [(0, 1)] else [(0, 2), (1, 2)]) (hbd : bd = wr.heap.size + 1 + 1 + d) (h3 : d < 3) :
    PairsX ((((((wr.alloc o1).alloc (.cells rooms0 43)).alloc (.cells #[] 91)).alloc (.cells #[.int .i64 0, .int .i64 1] 91)).alloc (.cells #[.int .i64 0, .int .i64 2, .int .i64 1, .int .i64 2] 91)).alloc (.cells #[.slice (some ⟨wr.heap.size + 1 + 1, 0, none⟩) 0 0, .slice (some ⟨wr.heap.size + 1 + 1 + 1, 0, none⟩) 1 1, .slice (some ⟨wr.heap.size + 1 + 1 + 1 + 1, 0, none⟩) 2 2] 45)).drew (wr.heap.size + 1) (.slice (some ⟨bd, 0, none⟩) d d) (doorsOf k3) none := by
  rw [hd, hbd]
  rcases (by omega : d = 0 ∨ d = 1 ∨ d = 2) with rfl | rfl | rfl
  · refine ⟨_, _, rfl, fun h => absurd h (by simp), fun a e => ?_⟩
    injection e with e
    subst e
    exact ⟨by show _ ≤ wr.heap.size + 1 + 1 + 0; omega, by simp, by simp⟩
  · refine ⟨_, _, rfl, ?_, fun a e => ?_⟩
    · have h1 := rdP_new (((wr.alloc o1).alloc (.cells rooms0 43)).alloc (.cells #[] 91)) #[.int .i64 0, .int .i64 1] 91 [(0, 1)] rfl
      have e : (((wr.alloc o1).alloc (.cells rooms0 43)).alloc (.cells #[] 91)).heap.size = wr.heap.size + 1 + 1 + 1 := by simp
      rw [e] at h1
      exact ((h1.below (((Below.refl _ _).alloc (by simp) (.cells #[.int .i64 0, .int .i64 2, .int .i64 1, .int .i64 2] 91)).alloc (by simp) (.cells #[.slice (some ⟨wr.heap.size + 1 + 1, 0, none⟩) 0 0, .slice (some ⟨wr.heap.size + 1 + 1 + 1, 0, none⟩) 1 1, .slice (some ⟨wr.heap.size + 1 + 1 + 1 + 1, 0, none⟩) 2 2] 45)) (Nat.le_refl _)).below ((Below.refl _ _).drew) (Nat.le_refl _)).more (by simp)
    · injection e with e
      subst e
      exact ⟨by show _ ≤ wr.heap.size + 1 + 1 + 1; omega, by simp, by simp⟩
  · refine ⟨_, _, rfl, ?_, fun a e => ?_⟩
    · have h1 := rdP_new ((((wr.alloc o1).alloc (.cells rooms0 43)).alloc (.cells #[] 91)).alloc (.cells #[.int .i64 0, .int .i64 1] 91)) #[.int .i64 0, .int .i64 2, .int .i64 1, .int .i64 2] 91 [(0, 2), (1, 2)] rfl
      have e : ((((wr.alloc o1).alloc (.cells rooms0 43)).alloc (.cells #[] 91)).alloc (.cells #[.int .i64 0, .int .i64 1] 91)).heap.size = wr.heap.size + 1 + 1 + 2 := by simp
      rw [e] at h1
      exact ((h1.below ((Below.refl _ _).alloc (by simp) (.cells #[.slice (some ⟨wr.heap.size + 1 + 1, 0, none⟩) 0 0, .slice (some ⟨wr.heap.size + 1 + 1 + 1, 0, none⟩) 1 1, .slice (some ⟨wr.heap.size + 1 + 1 + 1 + 1, 0, none⟩) 2 2] 45)) (Nat.le_refl _)).below ((Below.refl _ _).drew) (Nat.le_refl _)).more (by simp)
    · injection e with e
      subst e
      exact ⟨by show _ ≤ wr.heap.size + 1 + 1 + 2; omega, by simp, by simp⟩

theorem rooms_rd {w : World} {g : Nat} {T : TypeId} (h : Blk w g T rooms0) : RdRooms w w.heap.size (some ⟨g, 0, none⟩) :=
  ⟨g, rfl, h.lt, h.cell 0, h.cell 1, h.cell 2, h.cell 3, h.cell 4, h.cell 5, h.cell 6, h.cell 7, h.cell 8, h.cell 9, h.cell 10, h.cell 11⟩
/-- The setup handed on: only the result's block x differs. -/
theorem setup_end {W W' : World} {s6 bd d x k c : Nat} {A : Option Addr} {l : List Int} {k0 k1 k2 k3 : Int} {pn bn : Nat} {fog gy push drag rest rounds : Int} {wr : World} (hN : SuN l k0 k1 k2 k3 pn d bn fog gy push drag rest rounds)
    (h : LS wr W s6 bd d (suA pn s6 bd d fog gy push drag rest rounds) (doorsOf k3) (.slice A k c) (bodiesOf l k)) (hkb : k = bn) (hx : x < s6) (hz : W'.heap.size = W.heap.size) (hk : ∀ i, i ≠ x → W'.heap[i]? = W.heap[i]?) :
    SuV W' W'.heap.size (suA pn s6 bd d fog gy push drag rest rounds (.slice A k c)) (mkSetup l) ⟨A, k, c, some ⟨s6 + 1, 0, none⟩, 3, 3, some ⟨bd, 0, none⟩, d, d⟩ := by
  have hs := hN.su _ hN.bodies
  have hsz := h.size
  have hb : OwnBs W' (s6 + 6) (.slice A k c) (bodiesOf l k) := h.bodies.frame (by omega) (fun i hi _ => hk i (by omega))
  have hd : PairsX W' (s6 + 1) (.slice (some ⟨bd, 0, none⟩) d d) (doorsOf k3) (Value.slice A k c).ownBlock := h.doors.frame (by omega) (fun i hi _ _ => hk i (by omega)) (.inl rfl)
  have hr : Blk W' (s6 + 1) 43 rooms0 := (hk (s6 + 1) (by omega)).trans h.rooms
  obtain ⟨A2, c2, hv, hrd, _⟩ := hd
  injection hv with e1 e2 e3
  subst e1 hkb
  rw [hs]
  exact ⟨rfl, bodiesOf_len _ _, e2.symm, hb.rd, rooms_rd hr, rfl, hrd⟩

set_option maxHeartbeats 2000000 in
theorem setup_any (A : Option Addr) (n c : Nat) (l : List Int) (w : World) (hl : l.length = n) (hr : Rd w w.heap.size A l) (hx : ∀ x ∈ l, -9223372036854775808 ≤ x ∧ x ≤ 9223372036854775807) (hn : n ≤ maxLen) :
    Calls Try.prog 20 #[.slice A n c] w fun e w' => ∃ cs m, e = .returned (.agg cs) ∧ SuV w' w'.heap.size cs (mkSetup l) m ∧ Below w.heap.size w w' := by
  unfold maxLen at hn
  have HX := Lib.hid hx
  have HL := Lib.hid hl
  clear hx hl
  go_enter Try.func20, Try.ntmps20
  go_wp2
  go_loopw [3, 4] (fun v i wr => ∃ k : Nat, k ≤ 24 ∧ i = .int .i64 k ∧ (∃ A2 c2, v = .slice A2 k c2 ∧ Own 3 wr (w.heap.size + 1) (.slice A2 k c2) (ksOf l k)) ∧ Below w.heap.size w wr ∧ Blk wr w.heap.size 49 su0) (fun _ i _ => 24 - (intOf i).toNat)
  case atStart => exact ⟨0, Nat.zero_le _, rfl, ⟨none, 0, rfl, Own.nil _ _ _⟩, (Below.refl _ _).alloc (Nat.le_refl _) _, Blk.new _ _ _⟩
  case round =>
    obtain ⟨k, hk, rfl, ⟨A2, c2, rfl, hown⟩, hb, hB⟩ := hrel
    have HLN := Lib.hid (ksOf_len l k)
    have hlt2 := hB.lt
    have HB := Lib.hid hB
    by_cases hlt : k < 24
    · have hln : (ksOf l k).length < 1000000000000 := by rw [HLN.out]; omega
      have hln2 : Hid ((ksOf l k).length + 1 = k + 1) := by show _ = _; rw [HLN.out]
      clear hB
      by_cases hkn : k < n
      · obtain ⟨b, off, rfl, hbb, hc⟩ := hr (by rw [HL.out]; omega)
        have hkl : k < l.length := by rw [HL.out]; exact hkn
        have hck := (hb.cell (p := ⟨b, off + k, none⟩) hbb).trans (hc k hkl)
        have hbd := HX.out _ (ix_mem hkl)
        have HS := Lib.hid (ksOf_yes hkl)
        clear hc
        go_wp2_with (first | (go_at_call 18; refine (around_any _ 1000000 _ hbd.1 hbd.2 (by omega) (by omega)).mono ?_; rintro e w2 ⟨rfl, rfl⟩) | (at_builtin; refine wpl_append1 rfl (.tmp 24) (.tmp 26) 22 rfl 3 Try.underlying22 int_info3 (w.heap.size + 1) _ _ rfl (hown.alloc _) ⟨wr.heap.size, 0, none⟩ 1 (around (ix l k) 1000000) (k + 1) hln2.out rfl (int_one _ _) hln (by simp; omega) ?_; intro A3 c3 w1 hown' hb'))
        go_roundw
        case rel => exact ⟨k + 1, by omega, by go_num, ⟨A3, c3, rfl, by rw [HS.out]; exact hown'.out⟩, (hb.alloc hb.size _).trans (hb'.mono (by omega)), (HB.out.alloc _).below hb' (by omega)⟩
        case measure => simp [intOf]; omega
      · have HS := Lib.hid (ksOf_no (l := l) (i := k) (by rw [HL.out]; exact hkn))
        go_wp2_with (first | (at_builtin; refine wpl_append1 rfl (.tmp 24) (.tmp 26) 22 rfl 3 Try.underlying22 int_info3 (w.heap.size + 1) _ _ rfl (hown.alloc _) ⟨wr.heap.size, 0, none⟩ 1 0 (k + 1) hln2.out rfl (int_one _ _) hln (by simp; omega) ?_; intro A3 c3 w1 hown' hb'))
        go_roundw
        case rel => exact ⟨k + 1, by omega, by go_num, ⟨A3, c3, rfl, by rw [HS.out]; exact hown'.out⟩, (hb.alloc hb.size _).trans (hb'.mono (by omega)), (HB.out.alloc _).below hb' (by omega)⟩
        case measure => simp [intOf]; omega
    · obtain rfl : k = 24 := by omega
      rename World => wq
      have hrd := hown.rd
      obtain ⟨g, off, rfl, hg1, hgc⟩ := hrd (by rw [HLN.out]; omega)
      have hgc' : ∀ i, i < 24 → wq.cell? ⟨g, off + i, none⟩ = some (.int .i64 (kAt l i)) := fun i hi => (hgc i (by rw [HLN.out]; exact hi)).trans (by show some (Value.int .i64 (ix _ _)) = _; rw [ksOf_ix hi])
      obtain ⟨pn, d, bn, fog, gy, push, drag, rest, rounds, hN⟩ := suN l
      obtain ⟨k0, hk0⟩ : ∃ k0, k0 = kAt l 0 := ⟨_, rfl⟩
      obtain ⟨k1, hk1⟩ : ∃ k0, k0 = kAt l 1 := ⟨_, rfl⟩
      obtain ⟨k2, hk2⟩ : ∃ k0, k0 = kAt l 2 := ⟨_, rfl⟩
      obtain ⟨k3, hk3⟩ : ∃ k0, k0 = kAt l 3 := ⟨_, rfl⟩
      rw [← hk0, ← hk1, ← hk2, ← hk3] at hN
      have hc0 := hgc' 0 (by omega)
      have hc1 := hgc' 1 (by omega)
      have hc2 := hgc' 2 (by omega)
      have hc3 := hgc' 3 (by omega)
      rw [← hk0] at hc0
      rw [← hk1] at hc1
      rw [← hk2] at hc2
      rw [← hk3] at hc3
      have HGC := Lib.hid hgc'
      have HRD := Lib.hid hrd
      have HOW := Lib.hid hown
      have HH0 := Lib.hid hk0
      have HH1 := Lib.hid hk1
      have HH2 := Lib.hid hk2
      have HN := Lib.hid hN
      have HC3 := Lib.hid hc3
      have hal : ∀ o, (wq.alloc o).drew.cell? ⟨g, off, none⟩ = some (.int .i64 k0) ∧ (wq.alloc o).drew.cell? ⟨g, off + 1, none⟩ = some (.int .i64 k1) ∧ (wq.alloc o).drew.cell? ⟨g, off + 2, none⟩ = some (.int .i64 k2) := fun o =>
        ⟨(World.cell?_alloc_lt wq o _ hg1).trans hc0, (World.cell?_alloc_lt wq o _ hg1).trans hc1, (World.cell?_alloc_lt wq o _ hg1).trans hc2⟩
      have HAL := Lib.hid hal
      clear hgc hgc' hrd hown hk0 hk1 hk2 hk3 hal hc3 hN
      go_wp2_with fail
      go_region_held3 (fun W => W.cell? ⟨g, off, none⟩ = some (.int .i64 k0) ∧ W.cell? ⟨g, off + 1, none⟩ = some (.int .i64 k1) ∧ W.cell? ⟨g, off + 2, none⟩ = some (.int .i64 k2)) (first | exact hS0 | exact ⟨hc0, hc1, hc2⟩ | exact HAL.out _ | assumption) (fail)
      simp only [HN.out.pl, HN.out.fogm, HN.out.pushm, HN.out.dragm, HN.out.restm, HN.out.roundsm]
      simp only [wrapI64]
      have e1 := HN.out.gym
      have e2 := HN.out.d3m
      have e3 := HN.out.d3
      have hc3' : ∀ o1 o2 o3 o4 o5 o6, ((((((wq.alloc o1).alloc o2).alloc o3).alloc o4).alloc o5).alloc o6).cell? ⟨g, off + 3, none⟩ = some (.int .i64 k3) := fun o1 o2 o3 o4 o5 o6 => by
        have h1 : g < wq.heap.size := hg1
        rw [World.cell?_alloc_lt, World.cell?_alloc_lt, World.cell?_alloc_lt, World.cell?_alloc_lt, World.cell?_alloc_lt, World.cell?_alloc_lt, HC3.out] <;> simp <;> omega
      obtain ⟨bd, hbd⟩ : ∃ bd, bd = wq.heap.size + 1 + 1 + d := ⟨_, rfl⟩
      have hdd : ∀ h, ([Value.slice (some ⟨wq.heap.size + 1 + 1, 0, none⟩) 0 0, Value.slice (some ⟨wq.heap.size + 1 + 1 + 1, 0, none⟩) 1 1, Value.slice (some ⟨wq.heap.size + 1 + 1 + 1 + 1, 0, none⟩) 2 2] : List Value)[d]'h = .slice (some ⟨bd, 0, none⟩) d d := by
        intro h
        rw [hbd]
        rcases (by omega : d = 0 ∨ d = 1 ∨ d = 2) with rfl | rfl | rfl <;> rfl
      have HBD := Lib.hid hbd
      clear hbd
      have hdrs : PairsX ((((((wq.alloc (.cells (suA pn wq.heap.size bd d fog gy push drag rest rounds (.slice none 0 0)) 49)).alloc (.cells rooms0 43)).alloc (.cells #[] 91)).alloc (.cells #[.int .i64 0, .int .i64 1] 91)).alloc (.cells #[.int .i64 0, .int .i64 2, .int .i64 1, .int .i64 2] 91)).alloc (.cells #[.slice (some ⟨wq.heap.size + 1 + 1, 0, none⟩) 0 0, .slice (some ⟨wq.heap.size + 1 + 1 + 1, 0, none⟩) 1 1, .slice (some ⟨wq.heap.size + 1 + 1 + 1 + 1, 0, none⟩) 2 2] 45)).drew (wq.heap.size + 1) (.slice (some ⟨bd, 0, none⟩) d d) (doorsOf k3) none := by
        exact doors_new wq _ d bd k3 HN.out.doors HBD.out HN.out.d3
      have HDR := Lib.hid hdrs
      clear hdrs
      go_wp2_with fail
      try simp only [HN.out.gym, HN.out.d3m]
      clear e1 e2 e3 hdd
      go_loopw [7] (fun i W => ∃ (k : Nat) (A : Option Addr) (c : Nat), k ≤ bn ∧ i = .int .i64 k ∧ LS wq W wq.heap.size bd d (suA pn wq.heap.size bd d fog gy push drag rest rounds) (doorsOf k3) (.slice A k c) (bodiesOf l k)) (fun i _ => bn - (intOf i).toNat)
      case atStart =>
        refine ⟨0, none, 0, Nat.zero_le _, rfl, ?_, ?_, HDR.out, OwnBs.nil _ _, ?_, ?_⟩
        · exact ((((((Blk.new wq _ _).alloc _).alloc _).alloc _).alloc _).alloc _).drew
        · have := (((((Blk.new (wq.alloc (.cells (suA pn wq.heap.size bd d fog gy push drag rest rounds (.slice none 0 0)) 49)) 43 rooms0).alloc (.cells #[] 91)).alloc (.cells #[.int .i64 0, .int .i64 1] 91)).alloc (.cells #[.int .i64 0, .int .i64 2, .int .i64 1, .int .i64 2] 91)).alloc (.cells #[.slice (some ⟨wq.heap.size + 1 + 1, 0, none⟩) 0 0, .slice (some ⟨wq.heap.size + 1 + 1 + 1, 0, none⟩) 1 1, .slice (some ⟨wq.heap.size + 1 + 1 + 1 + 1, 0, none⟩) 2 2] 45)).drew
          rw [World.size_alloc] at this
          exact this
        · exact (((((((Below.refl _ _).alloc (Nat.le_refl _) _).alloc (by simp) _).alloc (by simp; omega) _).alloc (by simp; omega) _).alloc (by simp; omega) _).alloc (by simp; omega) _).drew
        · simp
      case round =>
        obtain ⟨k, A2, c3, hk, rfl, hLS⟩ := hrel
        have hcw : ∀ i, i < 24 → wr.cell? ⟨g, off + i, none⟩ = some (.int .i64 (kAt l i)) := fun i hi => (hLS.below.cell (p := ⟨g, off + i, none⟩) hg1).trans (HGC.out i hi)
        have hc0 : wr.cell? ⟨wq.heap.size, 0, none⟩ = some (.int .i64 (pn : Int)) := hLS.su.cell 0
        have hc3 : wr.cell? ⟨g, off + 3, none⟩ = some (.int .i64 k3) := (hLS.below.cell (p := ⟨g, off + 3, none⟩) hg1).trans HC3.out
        have hq : IntKind.i64.wrap (↑pn + (IntKind.i64.wrap (k3.tdiv 3)).tmod 3) = (bn : Int) := by
          have W : ∀ x : Int, IntKind.i64.wrap x = wrap64 x := fun x => by unfold wrap64; exact IntKind.wrap_i64 x
          rw [W, W, HN.out.bnm]
          have := HN.out.bn5
          exact (wr64 (by omega) (by omega)).trans (by omega)
        have hq' : wrap64 (↑pn + (wrap64 (k3.tdiv 3)).tmod 3) = (bn : Int) := by
          rw [HN.out.bnm]
          have := HN.out.bn5
          exact (wr64 (by omega) (by omega)).trans (by omega)
        have HLS := Lib.hid hLS
        have HCW := Lib.hid hcw
        clear hLS hcw
        by_cases hlt : k < bn
        · have hb5 := HN.out.bn5
          have hp24 : 4 + 2 * k < 24 := by omega
          have hp24' : 5 + 2 * k < 24 := by omega
          have hcp := HCW.out (4 + 2 * k) hp24
          have hcp' := HCW.out (5 + 2 * k) hp24'
          have hnb := kAt_bd l (4 + 2 * k)
          have hmb := kAt_bd l (5 + 2 * k)
          have hsn := bodiesOf_snoc l k
          obtain ⟨nn, hnn⟩ : ∃ nn, nn = kAt l (4 + 2 * k) := ⟨_, rfl⟩
          obtain ⟨mm, hmm⟩ : ∃ nn, nn = kAt l (5 + 2 * k) := ⟨_, rfl⟩
          rw [← hnn] at hcp hsn hnb
          rw [← hmm] at hcp' hsn hmb
          obtain ⟨px, py, vx, vy, im, ba, bb, j, hBN⟩ := boN nn mm hnb hmb
          have g1 := hBN.pxm
          have g2 := hBN.pym
          have g3 := hBN.vxm
          have g4 := hBN.vym
          have g5 := hBN.am
          have g6 := hBN.bm
          have g7 := hBN.jm
          have g8 := hBN.j5
          have g9 := hBN.imm
          have HBN := Lib.hid hBN
          have HSN := Lib.hid hsn
          have HNB := Lib.hid hnb
          clear hnn hmm hsn hBN hnb hmb
          go_wp2_with fail
          go_quiet (fail)
          try simp only [wrapI64]
          go_wp2_with fail
          refine (shape_any nn _ (by have := HNB.out; omega) (by have := HNB.out; omega)).mono ?_
          rintro e1 w2 ⟨pv, rfl, hpv, hb2⟩
          have hb2' : Below wr.heap.size wr w2 := (below_drewN (Below.refl wr.heap.size wr) _).trans hb2
          have HPV := Lib.hid hpv
          obtain ⟨Ap, cp, rfl, _, _⟩ := hpv
          have f1 : wr.cell? ⟨wq.heap.size, 1, none⟩ = some (.slice A2 k c3) := HLS.out.su.cell 1
          have hsz6 := HLS.out.size
          have hsz2 := hb2'.size
          have f1' : w2.cell? ⟨wq.heap.size, 1, none⟩ = some (.slice A2 k c3) := (hb2'.cell (p := ⟨wq.heap.size, 1, none⟩) (by show wq.heap.size < wr.heap.size; omega)).trans f1
          have hc1' : ∀ o1 o2, ((w2.alloc o1).alloc o2).cell? ⟨wq.heap.size, 1, none⟩ = some (.slice A2 k c3) := fun o1 o2 => by
            rw [World.cell?_alloc_lt, World.cell?_alloc_lt, f1'] <;> simp <;> omega
          have hbw : ∀ o1 o2 o3, Below wr.heap.size wr (((w2.alloc o1).alloc o2).alloc o3) := fun o1 o2 o3 => ((hb2'.alloc hsz2 o1).alloc (by simp; omega) o2).alloc (by simp; omega) o3
          have hbw2 : ∀ o1 o2 o3, Below w2.heap.size w2 (((w2.alloc o1).alloc o2).alloc o3) := fun o1 o2 o3 => (((Below.refl _ _).alloc (Nat.le_refl _) o1).alloc (by simp) o2).alloc (by simp; omega) o3
          have HBW := Lib.hid hbw
          have HBW2 := Lib.hid hbw2
          have hll : (bodiesOf l k).length + 1 = k + 1 := by rw [bodiesOf_len]
          have hll2 : (bodiesOf l k).length < 1000000 := by rw [bodiesOf_len]; omega
          have HL1 := Lib.hid hll
          have HL2 := Lib.hid hll2
          clear hbw hbw2 f1 hll hll2 hb2
          go_wp2_with (at_builtin; refine wpl_append_body rfl (.tmp 154) (.tmp 156) rfl (wq.heap.size + 6) _ (bodiesOf l k) rfl (OwnBs.frame HLS.out.bodies (HBW.out _ _ _).size (fun i _ hi => (HBW.out _ _ _).block i hi)) ⟨w2.heap.size + 1 + 1, 0, none⟩ 1 (.slice Ap (shapeOf nn).2.length cp) ⟨(shapeOf nn).1, (shapeOf nn).2, px, py, vx, vy, im, ba, bb⟩ (k + 1) HL1.out rfl (cells_new _ _ _ _ (by simp)) (HPV.out.x (HBW2.out _ _ _) (by show _ ≤ wr.heap.size; omega) (fun r hr => (HLS.out.bodies.row r hr).2)) HL2.out (by simp; omega) ?_; intro A4 c4 w4 hown4 hg4 hr4; have hrow4 : ∀ r, (Value.slice A2 k c3).ownBlock = some r → wq.heap.size + 6 ≤ r := (fun r hr => (HLS.out.bodies.row r hr).1); have hblk4 : w4.heap[wq.heap.size]? = wr.heap[wq.heap.size]? := ((hg4.out.block wq.heap.size (by simp; omega) (fun e => by have := hrow4 _ e.symm; omega)).trans ((HBW.out _ _ _).block wq.heap.size (by omega))); have hf4 : w4.cell? ⟨wq.heap.size, 1, none⟩ = some (.slice A2 k c3) := (World.cell?_of_block (w := wr) (a := ⟨wq.heap.size, 1, none⟩) hblk4).trans (HLS.out.su.cell 1); have hz4 : w4.frozen? ⟨wq.heap.size, 1, none⟩ = false := (World.frozen?_of_block (w := wr) (a := ⟨wq.heap.size, 1, none⟩) hblk4).trans (HLS.out.su.frozen 1))
          go_roundw
          case rel => exact ⟨k + 1, A4, c4, by omega, by go_num, HLS.out.step (HBW.out _ _ _) hg4.out (by rw [HSN.out, HBN.out.bo]; exact hown4.out) hr4.out rfl⟩
          case measure => simp [intOf]; omega
        · have hkb : k = bn := by omega
          have HKB := Lib.hid hkb
          have hdec1 : decide (k < bn) = false := decide_eq_false hlt
          have hdec2 : decide ((k : Int) < (bn : Int)) = false := decide_eq_false (by omega)
          clear hkb hlt
          have f1 : wr.cell? ⟨wq.heap.size, 1, none⟩ = some (.slice A2 k c3) := HLS.out.su.cell 1
          have f2 : wr.cell? ⟨wq.heap.size, 2, none⟩ = some (.int .i64 (-12000)) := HLS.out.su.cell 2
          have f3 : wr.cell? ⟨wq.heap.size, 3, none⟩ = some (.int .i64 (-9000)) := HLS.out.su.cell 3
          have f4 : wr.cell? ⟨wq.heap.size, 4, none⟩ = some (.int .i64 12000) := HLS.out.su.cell 4
          have f5 : wr.cell? ⟨wq.heap.size, 5, none⟩ = some (.int .i64 9000) := HLS.out.su.cell 5
          have f6 : wr.cell? ⟨wq.heap.size, 6, none⟩ = some (.slice (some ⟨wq.heap.size + 1, 0, none⟩) 3 3) := HLS.out.su.cell 6
          have f7 : wr.cell? ⟨wq.heap.size, 7, none⟩ = some (.slice (some ⟨bd, 0, none⟩) d d) := HLS.out.su.cell 7
          have f8 : wr.cell? ⟨wq.heap.size, 8, none⟩ = some (.int .i64 fog) := HLS.out.su.cell 8
          have f9 : wr.cell? ⟨wq.heap.size, 9, none⟩ = some (.int .i64 0) := HLS.out.su.cell 9
          have f10 : wr.cell? ⟨wq.heap.size, 10, none⟩ = some (.int .i64 gy) := HLS.out.su.cell 10
          have f11 : wr.cell? ⟨wq.heap.size, 11, none⟩ = some (.int .i64 push) := HLS.out.su.cell 11
          have f12 : wr.cell? ⟨wq.heap.size, 12, none⟩ = some (.int .i64 drag) := HLS.out.su.cell 12
          have f13 : wr.cell? ⟨wq.heap.size, 13, none⟩ = some (.int .i64 rest) := HLS.out.su.cell 13
          have f14 : wr.cell? ⟨wq.heap.size, 14, none⟩ = some (.int .i64 rounds) := HLS.out.su.cell 14
          have f15 : wr.cell? ⟨wq.heap.size, 15, none⟩ = some (.int .i64 60) := HLS.out.su.cell 15
          have hB2 : Blk wr w.heap.size 49 su0 := HB.out.below HLS.out.below hlt2
          have q0 : wr.cell? ⟨w.heap.size, 0, none⟩ = some (.int .i64 0) := hB2.cell 0
          have q1 : wr.cell? ⟨w.heap.size, 1, none⟩ = some (.slice none 0 0) := hB2.cell 1
          have q2 : wr.cell? ⟨w.heap.size, 2, none⟩ = some (.int .i64 0) := hB2.cell 2
          have q3 : wr.cell? ⟨w.heap.size, 3, none⟩ = some (.int .i64 0) := hB2.cell 3
          have q4 : wr.cell? ⟨w.heap.size, 4, none⟩ = some (.int .i64 0) := hB2.cell 4
          have q5 : wr.cell? ⟨w.heap.size, 5, none⟩ = some (.int .i64 0) := hB2.cell 5
          have q6 : wr.cell? ⟨w.heap.size, 6, none⟩ = some (.slice none 0 0) := hB2.cell 6
          have q7 : wr.cell? ⟨w.heap.size, 7, none⟩ = some (.slice none 0 0) := hB2.cell 7
          have q8 : wr.cell? ⟨w.heap.size, 8, none⟩ = some (.int .i64 0) := hB2.cell 8
          have q9 : wr.cell? ⟨w.heap.size, 9, none⟩ = some (.int .i64 0) := hB2.cell 9
          have q10 : wr.cell? ⟨w.heap.size, 10, none⟩ = some (.int .i64 0) := hB2.cell 10
          have q11 : wr.cell? ⟨w.heap.size, 11, none⟩ = some (.int .i64 0) := hB2.cell 11
          have q12 : wr.cell? ⟨w.heap.size, 12, none⟩ = some (.int .i64 0) := hB2.cell 12
          have q13 : wr.cell? ⟨w.heap.size, 13, none⟩ = some (.int .i64 0) := hB2.cell 13
          have q14 : wr.cell? ⟨w.heap.size, 14, none⟩ = some (.int .i64 0) := hB2.cell 14
          have q15 : wr.cell? ⟨w.heap.size, 15, none⟩ = some (.int .i64 0) := hB2.cell 15
          have qf : ∀ i, wr.frozen? ⟨w.heap.size, i, none⟩ = false := fun i => hB2.frozen i
          have HB2 := Lib.hid hB2
          clear hB2
          have hq2 : wr.heap.size = wr.heap.size := rfl
          go_wp2_with fail
          go_quiet (fail)
          try simp only [wrapI64]
          go_wp2_with fail
          refine bodyPost_ret (v := .agg (suA pn wq.heap.size bd d fog gy push drag rest rounds (.slice A2 k c3))) (by simp [results, Try.results20, go_sem, suA, q0, q1, q2, q3, q4, q5, q6, q7, q8, q9, q10, q11, q12, q13, q14, q15]) rfl ⟨_, ⟨A2, k, c3, some ⟨wq.heap.size + 1, 0, none⟩, 3, 3, some ⟨bd, 0, none⟩, d, d⟩, rfl, setup_end HN.out HLS.out HKB.out hlt2 ?_ ?_, ?_⟩
          · first | (simp; done) | (simp; rfl)
          · intro i hi
            iterate 16 refine (Below.heap_setCell _ _ _ i hi).trans ?_
            rfl
          · iterate 16 refine Below.setCell (B := w.heap.size) ?_ (by exact Nat.le_refl w.heap.size) _
            exact below_drewN (hb.trans (HLS.out.below.mono (Nat.le_of_lt hlt2))) _
end Go.Proofs.Ytfnoeolngdhjfaa
