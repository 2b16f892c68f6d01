/-
  Package unionfind: Equal on two slices of slices, the law's helpers size, lives and merged, called.
-/
import Derived.Test.YtglfmchddbaceaaUfW3
import Derived.Deep.RegionHeld3
namespace Go.Proofs.Ytglfmchddbaceaa
set_option linter.unusedVariables false
set_option linter.unusedSimpArgs false
open Go.RowKit

abbrev gx (gs : List (List Int)) (j : Nat) : List Int := gs.getD j []
theorem gx_mem {gs : List (List Int)} {j : Nat} (h : j < gs.length) : gx gs j ∈ gs := by
  simp [gx, List.getD, List.getElem?_eq_getElem h]
theorem gx_ext {gs hs : List (List Int)} (hl : gs.length = hs.length) (h : ∀ j, j < gs.length → gx gs j = gx hs j) : gs = hs := by
  apply List.ext_getElem hl
  intro j h1 h2
  have := h j h1
  simpa [gx, List.getD, List.getElem?_eq_getElem h1, List.getElem?_eq_getElem h2] using this

/-- The slice reads as the slices gs. -/
def RdM (w : World) (B : Nat) (A : Option Addr) (gs : List (List Int)) : Prop :=
  0 < gs.length → ∃ b off, A = some ⟨b, off, none⟩ ∧ b < B ∧ ∀ j, j < gs.length → ∃ A' c', w.cell? ⟨b, off + j, none⟩ = some (.slice A' (gx gs j).length c') ∧ Rd w B A' (gx gs j)
theorem RdM.keep {w w' : World} {B : Nat} {A : Option Addr} {gs : List (List Int)} (h : RdM w B A gs) (hk : ∀ p : Addr, p.block < B → w'.cell? p = w.cell? p) : RdM w' B A gs := fun hn => by
  obtain ⟨b, off, e, hb, hc⟩ := h hn
  refine ⟨b, off, e, hb, fun j hj => ?_⟩
  obtain ⟨A', c', h1, h2⟩ := hc j hj
  exact ⟨A', c', (hk ⟨b, off + j, none⟩ hb).trans h1, h2.keep hk⟩
theorem RdM.more {w : World} {B B' : Nat} {A : Option Addr} {gs : List (List Int)} (h : RdM w B A gs) (hB : B ≤ B') : RdM w B' A gs := fun hn => by
  obtain ⟨b, off, e, hb, hc⟩ := h hn
  refine ⟨b, off, e, by omega, fun j hj => ?_⟩
  obtain ⟨A', c', h1, h2⟩ := hc j hj
  exact ⟨A', c', h1, h2.more hB⟩
theorem RdM.below {w w' : World} {B B' : Nat} {A : Option Addr} {gs : List (List Int)} (h : RdM w B A gs) (hb : Below B' w w') (hB : B ≤ B') : RdM w' B A gs := h.keep fun _ hp => hb.cell (Nat.lt_of_lt_of_le hp hB)
theorem OwnM.rd {w : World} {Bo Bi n c : Nat} {A : Option Addr} {gs : List (List Int)} (h : OwnM w Bo Bi (.slice A n c) gs) : RdM w w.heap.size A gs := by
  obtain ⟨vals, h1, h2⟩ := h
  rcases h1.2 with ⟨_, h0⟩ | ⟨g, cap, cur, hv, hb, hh, hn, hc, hs, ht⟩
  · exact fun hn => absurd hn (by omega)
  · injection hv with e1 e2 e3
    subst e1
    refine fun hp => ⟨g, 0, rfl, (Array.getElem?_eq_some_iff.1 hh).1, fun j hj => ?_⟩
    obtain ⟨A', c', e, ho⟩ := h2 j hj
    refine ⟨A', c', ?_, ho.rd⟩
    rw [← ht, List.getElem?_take_of_lt (by omega)] at e
    simp only [World.cell?, hh, Nat.zero_add]
    simp only [Option.isSome_none, Bool.false_eq_true, if_false]
    rw [← Array.getElem?_toList, e]
theorem OwnM.len {w : World} {Bo Bi n c : Nat} {A : Option Addr} {gs : List (List Int)} (h : OwnM w Bo Bi (.slice A n c) gs) : gs.length = n := by
  obtain ⟨A', c', e⟩ := h.form
  injection e with _ e2 _
  exact e2.symm

def EqS (w W : World) : Prop := Below w.heap.size w W
theorem EqS.drew {w W : World} (h : Below w.heap.size w W) : EqS w W.drew := Below.drew h

set_option maxHeartbeats 1000000 in
theorem equal_any (A : Option Addr) (n c : Nat) (gs : List (List Int)) (A' : Option Addr) (n' c' : Nat) (hs : List (List Int)) (res : Bool) (w : World) (hl : gs.length = n) (hl' : hs.length = n')
    (hr : RdM w w.heap.size A gs) (hr' : RdM w w.heap.size A' hs) (hn : n ≤ 1000000) (hn' : n' ≤ 1000000) (hg : ∀ g ∈ gs, g.length ≤ 1000000) (hh : ∀ g ∈ hs, g.length ≤ 1000000) (hres : decide (gs = hs) = res) :
    Calls Try.prog 13 #[.slice A n c, .slice A' n' c'] w fun e w' => e = .returned (.bool res) ∧ Below w.heap.size w w' := by
  have HG := Lib.hid hg
  have HH := Lib.hid hh
  have HRES := Lib.hid hres
  clear hg hh hres
  by_cases hne : n = n'
  · subst hl
    subst hne
    have HL := Lib.hid hl'
    clear hl'
    go_enter Try.func13, Try.ntmps13
    go_wp2
    go_loopw [5] (fun i wr => ∃ k : Nat, k ≤ gs.length ∧ i = .int .i64 k ∧ (∀ j, j < k → gx gs j = gx hs j) ∧ Below w.heap.size w wr) (fun i _ => gs.length - (intOf i).toNat)
    case atStart => exact ⟨0, Nat.zero_le _, rfl, fun j hj => absurd hj (by omega), Below.refl _ _⟩
    case round =>
      obtain ⟨k, hk, rfl, hpre, hb⟩ := hrel
      have HP := Lib.hid hpre
      clear hpre
      by_cases hlt : k < gs.length
      · obtain ⟨b, off, rfl, hbb, hc⟩ := hr (by omega)
        obtain ⟨b', off', rfl, hbb', hc'⟩ := hr' (by rw [HL.out]; omega)
        obtain ⟨A1, c1, e1, r1⟩ := hc k hlt
        obtain ⟨A2, c2, e2, r2⟩ := hc' k (by rw [HL.out]; omega)
        have g1 := HG.out _ (gx_mem hlt)
        have g2 := HH.out _ (gx_mem (gs := hs) (j := k) (by rw [HL.out]; omega))
        have ck : wr.cell? ⟨b, off + k, none⟩ = some (.slice A1 (gx gs k).length c1) := (hb.cell (p := ⟨b, off + k, none⟩) hbb).trans e1
        have ck' : wr.cell? ⟨b', off' + k, none⟩ = some (.slice A2 (gx hs k).length c2) := (hb.cell (p := ⟨b', off' + k, none⟩) hbb').trans e2
        obtain ⟨x1, hx1⟩ : ∃ x, x = (gx gs k).length := ⟨_, rfl⟩
        obtain ⟨x2, hx2⟩ : ∃ x, x = (gx hs k).length := ⟨_, rfl⟩
        rw [← hx1] at ck g1
        rw [← hx2] at ck' g2
        have HX1 := Lib.hid hx1.symm
        have HX2 := Lib.hid hx2.symm
        have R1 := Lib.hid (r1.below hb (Nat.le_refl _))
        have R2 := Lib.hid (r2.below hb (Nat.le_refl _))
        clear hc hc' e1 e2 r1 r2 hx1 hx2
        have hS0 : wr.cell? ⟨b, off + k, none⟩ = some (.slice A1 x1 c1) ∧ wr.cell? ⟨b', off' + k, none⟩ = some (.slice A2 x2 c2) ∧ EqS wr wr := ⟨ck, ck', Below.refl _ _⟩
        have hsz := hb.size
        by_cases heq : gx gs k = gx hs k
        · have HE := Lib.hid heq
          have HD := Lib.hid (decide_eq_true heq)
          clear heq
          go_wp2
          go_region_held3 (fun W => W.cell? ⟨b, off + k, none⟩ = some (.slice A1 x1 c1) ∧ W.cell? ⟨b', off' + k, none⟩ = some (.slice A2 x2 c2) ∧ EqS wr W) (first | exact hS0 | exact ⟨hS0.1, hS0.2.1, EqS.drew (Below.refl _ _)⟩ | assumption) (first | (go_at_call 19; rename (_ ∧ _ ∧ EqS wr _) => hSS; refine (sameInts_any A1 x1 c1 _ A2 x2 c2 _ true _ _ _ HX1.out HX2.out (R1.out.below hSS.2.2 hsz) (R2.out.below hSS.2.2 hsz) (by omega) (by omega) HD.out).mono ?_; rintro e w1 ⟨rfl, hb1⟩; have hS1 : w1.cell? ⟨b, off + k, none⟩ = some (.slice A1 x1 c1) ∧ w1.cell? ⟨b', off' + k, none⟩ = some (.slice A2 x2 c2) ∧ EqS wr w1 := ⟨((hSS.2.2.trans (hb1.mono hSS.2.2.size)).cell (p := ⟨b, off + k, none⟩) (Nat.lt_of_lt_of_le hbb hsz)).trans ck, ((hSS.2.2.trans (hb1.mono hSS.2.2.size)).cell (p := ⟨b', off' + k, none⟩) (Nat.lt_of_lt_of_le hbb' hsz)).trans ck', hSS.2.2.trans (hb1.mono hSS.2.2.size)⟩))
          all_goals
            rename (_ ∧ _ ∧ EqS wr _) => hE
            go_wp2
            go_roundw
            case rel => exact ⟨k + 1, by omega, by go_num, fun j hj => by rcases Nat.lt_succ_iff_lt_or_eq.1 hj with h | h; exact HP.out j h; rw [h]; exact HE.out, hb.trans (Below.mono hE.2.2 hsz)⟩
            case measure => simp [intOf]; omega
        · have HD := Lib.hid (decide_eq_false heq)
          have hres : res = false := by
            rw [← HRES.out, decide_eq_false_iff_not]
            exact fun h => heq (by rw [h])
          subst hres
          clear heq
          go_wp2
          go_region_held3 (fun W => W.cell? ⟨b, off + k, none⟩ = some (.slice A1 x1 c1) ∧ W.cell? ⟨b', off' + k, none⟩ = some (.slice A2 x2 c2) ∧ EqS wr W) (first | exact hS0 | exact ⟨hS0.1, hS0.2.1, EqS.drew (Below.refl _ _)⟩ | assumption) (first | (go_at_call 19; rename (_ ∧ _ ∧ EqS wr _) => hSS; refine (sameInts_any A1 x1 c1 _ A2 x2 c2 _ false _ _ _ HX1.out HX2.out (R1.out.below hSS.2.2 hsz) (R2.out.below hSS.2.2 hsz) (by omega) (by omega) HD.out).mono ?_; rintro e w1 ⟨rfl, hb1⟩; have hS1 : w1.cell? ⟨b, off + k, none⟩ = some (.slice A1 x1 c1) ∧ w1.cell? ⟨b', off' + k, none⟩ = some (.slice A2 x2 c2) ∧ EqS wr w1 := ⟨((hSS.2.2.trans (hb1.mono hSS.2.2.size)).cell (p := ⟨b, off + k, none⟩) (Nat.lt_of_lt_of_le hbb hsz)).trans ck, ((hSS.2.2.trans (hb1.mono hSS.2.2.size)).cell (p := ⟨b', off' + k, none⟩) (Nat.lt_of_lt_of_le hbb' hsz)).trans ck', hSS.2.2.trans (hb1.mono hSS.2.2.size)⟩))
          all_goals
            rename (_ ∧ _ ∧ EqS wr _) => hE
            go_wp2
            go_ret
            exact ⟨rfl, hb.trans (Below.mono hE.2.2 hsz)⟩
      · have hres : res = true := by
          rw [← HRES.out, decide_eq_true_eq]
          exact gx_ext (by rw [HL.out]) fun j hj => HP.out j (by omega)
        subst hres
        go_wp2
        go_ret
        exact ⟨rfl, hb⟩
  · have hres : res = false := by
      rw [← HRES.out, decide_eq_false_iff_not]
      exact fun h => hne (by rw [← hl, ← hl', h])
    subst hres
    clear hl hl'
    go_enter Try.func13, Try.ntmps13
    go_wp2
    go_ret
    exact ⟨rfl, Below.refl _ _⟩

/-- Between two calls on the sets. -/
def RunS (w W : World) (g gp n : Nat) (r : Nat → Nat) : Prop := IsSets W g gp n r ∧ Below w.heap.size w W
theorem size_any (n : Int) (w : World) (h1 : -9223372036854775808 ≤ n) (h2 : n ≤ 9223372036854775807) (k : Nat) (hk : (k : Int) = around n 15) :
    Calls Try.prog 11 #[.int .i64 n] w fun e w' => e = .returned (.int .i64 (k : Int)) ∧ w = w' := by
  have HA := Lib.hid (around_any n 15 w h1 h2 (by omega) (by omega))
  rw [← hk] at HA
  go_enter Try.func11, Try.ntmps11
  go_wp2_with (go_at_call 17; refine HA.out.mono ?_; rintro e w1 ⟨rfl, rfl⟩)
  go_ret
  exact ⟨ret_int hk.symm, rfl⟩

def liveW (w : World) : World := (((w.alloc (.cells #[.int .i64 0, .int .i64 3, .int .i64 4] 3)).alloc (.cells #[.int .i64 1] 3)).alloc (.cells #[.int .i64 2] 3)).alloc (.cells #[.slice (some ⟨w.heap.size, 0, none⟩) 3 3, .slice (some ⟨w.heap.size + 1, 0, none⟩) 1 1, .slice (some ⟨w.heap.size + 1 + 1, 0, none⟩) 1 1] 22)
theorem liveW_size (w : World) : (liveW w).heap.size = w.heap.size + 4 := by simp [liveW]
theorem liveW_below (w : World) : Below w.heap.size w (liveW w) := ((((Below.refl _ _).alloc (Nat.le_refl _) _).alloc (by simp) _).alloc (by simp; omega) _).alloc (by simp; omega) _
theorem rd_blk {w : World} {g : Nat} {xs : List Int} (h : Blk w g 3 (ints xs)) : Rd w w.heap.size (some ⟨g, 0, none⟩) xs := fun _ => ⟨g, 0, rfl, h.lt, fun i hi => by rw [h.cell, Nat.zero_add, ints_get hi]⟩
theorem liveW_rd (w : World) : RdM (liveW w) (liveW w).heap.size (some ⟨w.heap.size + 1 + 1 + 1, 0, none⟩) [[0, 3, 4], [1], [2]] := by
  have e1 : (w.alloc (.cells #[.int .i64 0, .int .i64 3, .int .i64 4] 3)).heap.size = w.heap.size + 1 := by simp
  have e2 : ((w.alloc (.cells #[.int .i64 0, .int .i64 3, .int .i64 4] 3)).alloc (.cells #[.int .i64 1] 3)).heap.size = w.heap.size + 1 + 1 := by simp
  have e3 : (((w.alloc (.cells #[.int .i64 0, .int .i64 3, .int .i64 4] 3)).alloc (.cells #[.int .i64 1] 3)).alloc (.cells #[.int .i64 2] 3)).heap.size = w.heap.size + 1 + 1 + 1 := by simp
  have b0 := (((Blk.new w 3 #[.int .i64 0, .int .i64 3, .int .i64 4]).alloc (.cells #[.int .i64 1] 3)).alloc (.cells #[.int .i64 2] 3)).alloc (.cells #[.slice (some ⟨w.heap.size, 0, none⟩) 3 3, .slice (some ⟨w.heap.size + 1, 0, none⟩) 1 1, .slice (some ⟨w.heap.size + 1 + 1, 0, none⟩) 1 1] 22)
  have b1 := ((Blk.new (w.alloc (.cells #[.int .i64 0, .int .i64 3, .int .i64 4] 3)) 3 #[.int .i64 1]).alloc (.cells #[.int .i64 2] 3)).alloc (.cells #[.slice (some ⟨w.heap.size, 0, none⟩) 3 3, .slice (some ⟨w.heap.size + 1, 0, none⟩) 1 1, .slice (some ⟨w.heap.size + 1 + 1, 0, none⟩) 1 1] 22)
  have b2 := (Blk.new ((w.alloc (.cells #[.int .i64 0, .int .i64 3, .int .i64 4] 3)).alloc (.cells #[.int .i64 1] 3)) 3 #[.int .i64 2]).alloc (.cells #[.slice (some ⟨w.heap.size, 0, none⟩) 3 3, .slice (some ⟨w.heap.size + 1, 0, none⟩) 1 1, .slice (some ⟨w.heap.size + 1 + 1, 0, none⟩) 1 1] 22)
  have b3 := Blk.new (((w.alloc (.cells #[.int .i64 0, .int .i64 3, .int .i64 4] 3)).alloc (.cells #[.int .i64 1] 3)).alloc (.cells #[.int .i64 2] 3)) 22 #[.slice (some ⟨w.heap.size, 0, none⟩) 3 3, .slice (some ⟨w.heap.size + 1, 0, none⟩) 1 1, .slice (some ⟨w.heap.size + 1 + 1, 0, none⟩) 1 1]
  rw [e1] at b1
  rw [e2] at b2
  rw [e3] at b3
  refine fun _ => ⟨_, _, rfl, by rw [liveW_size]; omega, fun j hj => ?_⟩
  match j, hj with
  | 0, _ => exact ⟨_, 3, (Blk.cell b3 0), rd_blk b0⟩
  | 1, _ => exact ⟨_, 1, (Blk.cell b3 1), rd_blk b1⟩
  | 2, _ => exact ⟨_, 1, (Blk.cell b3 2), rd_blk b2⟩
theorem lives_groups : groups (runE 5 [(0, 3), (3, 4)]) 5 = [[0, 3, 4], [1], [2]] := by decide
set_option maxHeartbeats 1000000 in
theorem lives_any (w : World) : Calls Try.prog 16 #[] w fun e w' => e = .returned (.bool true) ∧ Below w.heap.size w w' := by
  go_enter Try.func16, Try.ntmps16
  have hr3 : RdP (w.alloc (.cells #[.int .i64 0, .int .i64 3, .int .i64 3, .int .i64 4] 32)) (w.alloc (.cells #[.int .i64 0, .int .i64 3, .int .i64 3, .int .i64 4] 32)).heap.size (some ⟨w.heap.size, 0, none⟩) [(0, 3), (3, 4)] := fun _ => by
    refine ⟨_, _, rfl, by simp, fun i hi => ?_⟩
    match i, hi with
    | 0, _ => exact ⟨by rw [World.cell?_alloc_at _ _ _ _ rfl]; rfl, by rw [World.cell?_alloc_at _ _ _ _ rfl]; rfl⟩
    | 1, _ => exact ⟨by rw [World.cell?_alloc_at _ _ _ _ rfl]; rfl, by rw [World.cell?_alloc_at _ _ _ _ rfl]; rfl⟩
  have hsz3 : (w.alloc (.cells #[.int .i64 0, .int .i64 3, .int .i64 3, .int .i64 4] 32)).heap.size = w.heap.size + 1 := by simp
  go_wp2_with fail
  refine (islands_any 5 _ 2 2 [(0, 3), (3, 4)] _ rfl hr3 (by omega) (by omega) 3 _ lives_groups.symm rfl).mono ?_
  rintro e w1 ⟨A, c, rfl, ho, hb⟩
  rw [hsz3] at ho hb
  have hb1 : Below w.heap.size w w1 := ((Below.refl _ _).alloc (Nat.le_refl _) _).trans (hb.mono (by omega))
  clear hb hsz3 hr3
  have HR := Lib.hid (ho.rd.below (liveW_below w1) (Nat.le_refl _) |>.more (by rw [liveW_size]; omega : w1.heap.size ≤ (liveW w1).heap.size))
  clear ho
  go_wp2_with fail
  refine (equal_any A 3 c _ _ 3 3 _ true (liveW w1) rfl rfl HR.out (liveW_rd w1) (by omega) (by omega) (by decide) (by decide) (by decide)).mono ?_
  rintro e w2 ⟨rfl, hb2⟩
  have hb12 := hb1.trans ((liveW_below w1).trans (hb2.mono (by rw [liveW_size]; omega)) |>.mono hb1.size)
  clear hb2
  go_wp2
  go_ret
  exact ⟨rfl, hb12⟩

set_option maxHeartbeats 1000000 in
theorem merged_any (n : Nat) (A : Option Addr) (m c : Nat) (es : List (Int × Int)) (w : World) (hl : es.length = m) (hr : RdP w w.heap.size A es) (hm : m ≤ 1000) (hn : n ≤ 1000) :
    Calls Try.prog 20 #[.int .i64 (n : Int), .slice A m c] w fun e w' => ∃ g gp, e = .returned (.pointer (some ⟨g, 0, none⟩)) ∧ w.heap.size ≤ g ∧ w.heap.size ≤ gp ∧ IsSets w' g gp n (runE n es) ∧ Below w.heap.size w w' := by
  subst hl
  go_enter Try.func20, Try.ntmps20
  go_wp2_with (go_at_call 22; refine (new_any n _ hn).mono ?_; rintro e w1 ⟨g, gp, rfl, hg1, hgp1, hs1, hb1⟩)
  go_loopw [6] (fun i wr => ∃ k : Nat, k ≤ es.length ∧ i = .int .i64 k ∧ IsSets wr g gp n (runE n (es.take k)) ∧ Below w.heap.size w wr) (fun i _ => es.length - (intOf i).toNat)
  case atStart => exact ⟨0, Nat.zero_le _, rfl, hs1, hb1⟩
  case round =>
    obtain ⟨k, hk, rfl, hs, hb⟩ := hrel
    by_cases hlt : k < es.length
    · obtain ⟨b, off, rfl, hbb, hc⟩ := hr (by omega)
      have hca : wr.cell? ⟨b, off + k * 2, none⟩ = some (.int .i64 (ea es k)) := (hb.cell (p := ⟨b, _, none⟩) hbb).trans (hc k hlt).1
      have hcb : wr.cell? ⟨b, off + k * 2 + 1, none⟩ = some (.int .i64 (eb es k)) := (hb.cell (p := ⟨b, _, none⟩) hbb).trans (hc k hlt).2
      have HR := Lib.hid (runE_take (n := n) hlt)
      clear hc
      have hsz := hb.size
      have hS0 : wr.cell? ⟨b, off + k * 2, none⟩ = some (.int .i64 (ea es k)) ∧ wr.cell? ⟨b, off + k * 2 + 1, none⟩ = some (.int .i64 (eb es k)) ∧ EqS w wr := ⟨hca, hcb, hb⟩
      have HS := Lib.hid hs.drew
      clear hs
      go_wp2
      go_region_held3 (fun W => W.cell? ⟨b, off + k * 2, none⟩ = some (.int .i64 (ea es k)) ∧ W.cell? ⟨b, off + k * 2 + 1, none⟩ = some (.int .i64 (eb es k)) ∧ EqS w W) (first | exact hS0 | exact ⟨hS0.1, hS0.2.1, EqS.drew hb⟩ | assumption) (first | (go_at_call 25; rename (_ ∧ _ ∧ EqS w _) => hSS; refine (union_s g gp n (runE n (es.take k)) _ _ _ _ _ HS.out HR.out rfl).mono ?_; rintro e w1 ⟨rfl, hs1, ho1⟩; have hb1 := OnlyP.below (Below.drew hb) ho1 hsz hgp1; have hS1 : w1.cell? ⟨b, off + k * 2, none⟩ = some (.int .i64 (ea es k)) ∧ w1.cell? ⟨b, off + k * 2 + 1, none⟩ = some (.int .i64 (eb es k)) ∧ EqS w w1 := ⟨(hb1.cell (p := ⟨b, _, none⟩) hbb).trans ((hb.cell (p := ⟨b, _, none⟩) hbb).symm.trans hca), (hb1.cell (p := ⟨b, _, none⟩) hbb).trans ((hb.cell (p := ⟨b, _, none⟩) hbb).symm.trans hcb), hb1⟩))
      go_wp2
      rename (IsSets _ g gp n _) => hs1
      rename (_ ∧ _ ∧ EqS w _) => hE
      go_roundw
      case rel => exact ⟨k + 1, by omega, by go_num, hs1, hE.2.2⟩
      case measure => simp [intOf]; omega
    · obtain rfl : k = es.length := by omega
      rw [List.take_length] at hs
      have HS := Lib.hid hs
      clear hs
      go_wp2
      go_ret
      exact ⟨g, gp, rfl, hg1, hgp1, HS.out, hb⟩

end Go.Proofs.Ytglfmchddbaceaa
