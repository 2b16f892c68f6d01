/-
  A setup made from numbers (the reference's generator), in plain Lean; how a setup lies in memory.
-/
import Derived.Test.YtfnoeolngdhjfaaPair
namespace Go.Proofs.Ytfnoeolngdhjfaa
set_option linter.unusedVariables false
set_option linter.unusedSimpArgs false
open Go.RowKit

structure Bd where
  rad : Int
  poly : List (Int × Int)
  px : Int
  py : Int
  vx : Int
  vy : Int
  im : Int
  a : Int
  b : Int
structure Su where
  players : Nat
  bodies : List Bd
  b0 : Int
  b1 : Int
  b2 : Int
  b3 : Int
  fog : Int
  gx : Int
  gy : Int
  push : Int
  drag : Int
  rest : Int
  rounds : Int
  fuel : Int
  doors : List (Int × Int)
/-- The numbers, reduced. -/
def kAt (l : List Int) (i : Nat) : Int := if i < l.length then around (ix l i) 1000000 else 0
theorem kAt_bd (l : List Int) (i : Nat) : 0 ≤ kAt l i ∧ kAt l i < 1000000 := by
  unfold kAt
  split
  · exact ⟨around_lo (by omega), around_hi (by omega)⟩
  · omega
def shapeR (n : Int) : Int := 512 * (1 + around n 1000 / 7 % 5)
def shapeK (n : Int) : Int := around n 1000 % 7
theorem shapeR_bd (n : Int) : 512 ≤ shapeR n ∧ shapeR n ≤ 2560 := by
  have h1 := around_lo (n := n) (m := 1000) (by omega)
  unfold shapeR; omega
theorem shapeK_bd (n : Int) : 0 ≤ shapeK n ∧ shapeK n < 7 := by unfold shapeK; omega
def shapeOf (n : Int) : Int × List (Int × Int) :=
  if shapeK n < 3 then (shapeR n, [])
  else if shapeK n < 5 then (0, [(-shapeR n, -shapeR n), (shapeR n, -shapeR n), (shapeR n, shapeR n), (-shapeR n, shapeR n)])
  else if shapeK n < 6 then (0, [(-shapeR n, -shapeR n), (shapeR n, -shapeR n), (0, shapeR n)])
  else (0, [(-2 * shapeR n, -300), (2 * shapeR n, -300), (2 * shapeR n, 300), (-2 * shapeR n, 300)])
def massAt (m : Int) : Int := ix [1024, 1024, 512, 2048, 0] (m / 5000 % 5).toNat
def bodyOf (n m : Int) : Bd :=
  ⟨(shapeOf n).1, (shapeOf n).2, (n / 1000 % 13 - 6) * 900, (m / 50 % 11 - 5) * 800, (m / 550 % 9 - 4) * 300, (n / 13000 % 9 - 4) * 300, massAt m, m % 50, n % 7⟩
def doorsOf (k : Int) : List (Int × Int) := if k % 3 = 0 then [] else if k % 3 = 1 then [(0, 1)] else [(0, 2), (1, 2)]
def roomsL : List (Int × Int × Int × Int) := [(-12000, -9000, -1, 9000), (0, 0, 12000, 9000), (0, -9000, 12000, -1)]
def plN (l : List Int) : Nat := (1 + kAt l 0 % 3).toNat
def bdN (l : List Int) : Nat := plN l + (kAt l 3 / 3 % 3).toNat
def bodiesOf (l : List Int) (n : Nat) : List Bd := (List.range n).map fun i => bodyOf (kAt l (4 + 2 * i)) (kAt l (5 + 2 * i))
theorem bodiesOf_snoc (l : List Int) (n : Nat) : bodiesOf l (n + 1) = bodiesOf l n ++ [bodyOf (kAt l (4 + 2 * n)) (kAt l (5 + 2 * n))] := by
  unfold bodiesOf; rw [List.range_succ, List.map_append]; rfl
theorem bodiesOf_len (l : List Int) (n : Nat) : (bodiesOf l n).length = n := by simp [bodiesOf]
def mkSetup (l : List Int) : Su where
  players := plN l
  bodies := bodiesOf l (bdN l)
  b0 := -12000
  b1 := -9000
  b2 := 12000
  b3 := 9000
  gx := 0
  fuel := 60
  fog := 4000 + kAt l 1 % 9 * 1000
  gy := -(kAt l 2 / 36 % 3) * 40
  push := kAt l 1 / 9 % 5 * 100
  drag := kAt l 2 % 4 * 100
  rest := kAt l 2 / 4 % 3 * 512
  rounds := 1 + kAt l 2 / 12 % 3
  doors := doorsOf (kAt l 3)
theorem plN_bd (l : List Int) : 1 ≤ plN l ∧ plN l ≤ 3 := by unfold plN; have := kAt_bd l 0; omega
theorem bdN_bd (l : List Int) : plN l ≤ bdN l ∧ bdN l ≤ 5 := by unfold bdN; have := plN_bd l; have := kAt_bd l 3; omega

/-! ### In memory -/
/-- A slice value that reads as a list of pairs. -/
def PairsV (w : World) (B : Nat) (v : Value) (es : List (Int × Int)) : Prop := ∃ A c, v = .slice A es.length c ∧ RdP w B A es
theorem PairsV.keep {w w' : World} {B : Nat} {v : Value} {es : List (Int × Int)} (h : PairsV w B v es) (hk : ∀ p : Addr, p.block < B → w'.cell? p = w.cell? p) : PairsV w' B v es := by
  obtain ⟨A, c, hv, hr⟩ := h
  exact ⟨A, c, hv, hr.keep hk⟩
theorem PairsV.more {w : World} {B B' : Nat} {v : Value} {es : List (Int × Int)} (h : PairsV w B v es) (hB : B ≤ B') : PairsV w B' v es := by
  obtain ⟨A, c, hv, hr⟩ := h
  exact ⟨A, c, hv, hr.more hB⟩
/-- The nine cells of a body. -/
def bodyVals (pv : Value) (b : Bd) : List Value := [.int .i64 b.rad, pv, .int .i64 b.px, .int .i64 b.py, .int .i64 b.vx, .int .i64 b.vy, .int .i64 b.im, .int .i64 b.a, .int .i64 b.b]
/-- Bodies in a row, each nine cells, from an address on. -/
def RdBs (w : World) (B : Nat) (A : Option Addr) (bs : List Bd) : Prop :=
  0 < bs.length → ∃ b off, A = some ⟨b, off, none⟩ ∧ b < B ∧ ∀ i (h : i < bs.length), ∃ pv, PairsV w B pv bs[i].poly ∧ ∀ j u, (bodyVals pv bs[i])[j]? = some u → w.cell? ⟨b, off + i * 9 + j, none⟩ = some u
theorem RdBs.keep {w w' : World} {B : Nat} {A : Option Addr} {bs : List Bd} (h : RdBs w B A bs) (hk : ∀ p : Addr, p.block < B → w'.cell? p = w.cell? p) : RdBs w' B A bs := fun hn => by
  obtain ⟨b, off, e, hb, hc⟩ := h hn
  refine ⟨b, off, e, hb, fun i hi => ?_⟩
  obtain ⟨pv, h1, h2⟩ := hc i hi
  exact ⟨pv, h1.keep hk, fun j u hu => (hk _ hb).trans (h2 j u hu)⟩
theorem RdBs.more {w : World} {B B' : Nat} {A : Option Addr} {bs : List Bd} (h : RdBs w B A bs) (hB : B ≤ B') : RdBs w B' A bs := fun hn => by
  obtain ⟨b, off, e, hb, hc⟩ := h hn
  refine ⟨b, off, e, by omega, fun i hi => ?_⟩
  obtain ⟨pv, h1, h2⟩ := hc i hi
  exact ⟨pv, h1.more hB, h2⟩
/-- The three rooms, four cells each. -/
def RdRooms (w : World) (B : Nat) (A : Option Addr) : Prop :=
  ∃ b, A = some ⟨b, 0, none⟩ ∧ b < B ∧ w.cell? ⟨b, 0, none⟩ = some (.int .i64 (-12000)) ∧ w.cell? ⟨b, 1, none⟩ = some (.int .i64 (-9000)) ∧ w.cell? ⟨b, 2, none⟩ = some (.int .i64 (-1)) ∧ w.cell? ⟨b, 3, none⟩ = some (.int .i64 9000) ∧
    w.cell? ⟨b, 4, none⟩ = some (.int .i64 0) ∧ w.cell? ⟨b, 5, none⟩ = some (.int .i64 0) ∧ w.cell? ⟨b, 6, none⟩ = some (.int .i64 12000) ∧ w.cell? ⟨b, 7, none⟩ = some (.int .i64 9000) ∧
    w.cell? ⟨b, 8, none⟩ = some (.int .i64 0) ∧ w.cell? ⟨b, 9, none⟩ = some (.int .i64 (-9000)) ∧ w.cell? ⟨b, 10, none⟩ = some (.int .i64 12000) ∧ w.cell? ⟨b, 11, none⟩ = some (.int .i64 (-1))
theorem RdRooms.keep {w w' : World} {B : Nat} {A : Option Addr} (h : RdRooms w B A) (hk : ∀ p : Addr, p.block < B → w'.cell? p = w.cell? p) : RdRooms w' B A := by
  obtain ⟨b, e, hb, h0, h1, h2, h3, h4, h5, h6, h7, h8, h9, h10, h11⟩ := h
  exact ⟨b, e, hb, (hk _ hb).trans h0, (hk _ hb).trans h1, (hk _ hb).trans h2, (hk _ hb).trans h3, (hk _ hb).trans h4, (hk _ hb).trans h5, (hk _ hb).trans h6, (hk _ hb).trans h7, (hk _ hb).trans h8, (hk _ hb).trans h9, (hk _ hb).trans h10, (hk _ hb).trans h11⟩
/-- Where a setup's slices lie. -/
structure SuM where
  Ab : Option Addr
  nb : Nat
  cb : Nat
  Ar : Option Addr
  nr : Nat
  cr : Nat
  Ad : Option Addr
  nd : Nat
  cd : Nat
/-- The sixteen cells of a setup. -/
def suVals (s : Su) (m : SuM) : Array Value :=
  #[.int .i64 (s.players : Int), .slice m.Ab m.nb m.cb, .int .i64 s.b0, .int .i64 s.b1, .int .i64 s.b2, .int .i64 s.b3, .slice m.Ar m.nr m.cr, .slice m.Ad m.nd m.cd, .int .i64 s.fog, .int .i64 s.gx, .int .i64 s.gy, .int .i64 s.push, .int .i64 s.drag, .int .i64 s.rest, .int .i64 s.rounds, .int .i64 s.fuel]
section
variable {cs : Array Value} {s : Su} {m : SuM}
theorem su_size (h : cs = suVals s m) : cs.size = 16 := by rw [h]; rfl
theorem su_c0 (h : cs = suVals s m) : cs[0]? = some (.int .i64 (s.players : Int)) := by rw [h]; rfl
theorem su_c1 (h : cs = suVals s m) : cs[1]? = some (.slice m.Ab m.nb m.cb) := by rw [h]; rfl
theorem su_c2 (h : cs = suVals s m) : cs[2]? = some (.int .i64 s.b0) := by rw [h]; rfl
theorem su_c3 (h : cs = suVals s m) : cs[3]? = some (.int .i64 s.b1) := by rw [h]; rfl
theorem su_c4 (h : cs = suVals s m) : cs[4]? = some (.int .i64 s.b2) := by rw [h]; rfl
theorem su_c5 (h : cs = suVals s m) : cs[5]? = some (.int .i64 s.b3) := by rw [h]; rfl
theorem su_c6 (h : cs = suVals s m) : cs[6]? = some (.slice m.Ar m.nr m.cr) := by rw [h]; rfl
theorem su_c7 (h : cs = suVals s m) : cs[7]? = some (.slice m.Ad m.nd m.cd) := by rw [h]; rfl
theorem su_c8 (h : cs = suVals s m) : cs[8]? = some (.int .i64 s.fog) := by rw [h]; rfl
theorem su_c9 (h : cs = suVals s m) : cs[9]? = some (.int .i64 s.gx) := by rw [h]; rfl
theorem su_c10 (h : cs = suVals s m) : cs[10]? = some (.int .i64 s.gy) := by rw [h]; rfl
theorem su_c11 (h : cs = suVals s m) : cs[11]? = some (.int .i64 s.push) := by rw [h]; rfl
theorem su_c12 (h : cs = suVals s m) : cs[12]? = some (.int .i64 s.drag) := by rw [h]; rfl
theorem su_c13 (h : cs = suVals s m) : cs[13]? = some (.int .i64 s.rest) := by rw [h]; rfl
theorem su_c14 (h : cs = suVals s m) : cs[14]? = some (.int .i64 s.rounds) := by rw [h]; rfl
theorem su_c15 (h : cs = suVals s m) : cs[15]? = some (.int .i64 s.fuel) := by rw [h]; rfl
end
/-- A setup as it is handed on: its cells, and what its slices lead to. -/
structure SuV (w : World) (B : Nat) (cs : Array Value) (s : Su) (m : SuM) : Prop where
  eq : cs = suVals s m
  nb : s.bodies.length = m.nb
  nd : s.doors.length = m.nd
  bodies : RdBs w B m.Ab s.bodies
  rooms : RdRooms w B m.Ar
  nr : m.nr = 3
  doors : RdP w B m.Ad s.doors
theorem SuV.keep {w w' : World} {B : Nat} {cs : Array Value} {s : Su} {m : SuM} (h : SuV w B cs s m) (hk : ∀ p : Addr, p.block < B → w'.cell? p = w.cell? p) : SuV w' B cs s m :=
  ⟨h.eq, h.nb, h.nd, h.bodies.keep hk, h.rooms.keep hk, h.nr, h.doors.keep hk⟩
theorem RdRooms.more {w : World} {B B' : Nat} {A : Option Addr} (h : RdRooms w B A) (hB : B ≤ B') : RdRooms w B' A := by
  obtain ⟨b, e, hb, h⟩ := h
  exact ⟨b, e, by omega, h⟩
theorem SuV.below {w w' : World} {B B' : Nat} {cs : Array Value} {s : Su} {m : SuM} (h : SuV w B cs s m) (hb : Below B w w') (hz : B ≤ B') : SuV w' B' cs s m := by
  have := h.keep (w' := w') fun p hp => hb.cell hp
  exact ⟨this.eq, this.nb, this.nd, this.bodies.more hz, this.rooms.more hz, this.nr, this.doors.more hz⟩
theorem su_info : (Try.prog.info? 49).map (·.size) = some 16 := by kernel_rfl
theorem su_info' {cs : Array Value} {s : Su} {m : SuM} (h : cs = suVals s m) : (Try.prog.info? 49).map (·.size) = some cs.size := by rw [su_size h]; exact su_info
end Go.Proofs.Ytfnoeolngdhjfaa
