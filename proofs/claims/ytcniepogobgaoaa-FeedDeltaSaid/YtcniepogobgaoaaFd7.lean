/-
  Package feed: slices.IndexFunc, slices.DeleteFunc by Sender.Ack's function; Sender.Ack.
-/
import Derived.Test.YtcniepogobgaoaaFd6
import Derived.Lib.SliceRun
namespace Go.Proofs.Ytcniepogobgaoaa
set_option linter.unusedVariables false
set_option linter.unusedSimpArgs false
set_option maxRecDepth 4000
open Go.RowKit Go.Maps Go.Sort Go.Shelf

/-- A block of ints whose first n cells are ys. -/
structure ABk (W : World) (q c n : Nat) (ys : List Int) : Prop where
  len : ys.length = n
  blk : ∃ cs, Blk W q 3 cs ∧ cs.size = c ∧ ∀ j, j < n → cs[j]? = some (.int .i64 (ix ys j))
theorem ABk.cell_ {W : World} {q c n : Nat} {ys : List Int} (h : ABk W q c n ys) {j : Nat} (hj : j < n) : W.cell? ⟨q, j, Option.none⟩ = some (.int .i64 (ix ys j)) := by
  obtain ⟨cs, h1, _, h3⟩ := h.blk
  exact (h1.cell j).trans (h3 j hj)
theorem ABk.frozen_ {W : World} {q c n : Nat} {ys : List Int} (h : ABk W q c n ys) (j : Nat) : W.frozen? ⟨q, j, Option.none⟩ = false := by
  obtain ⟨cs, h1, _, _⟩ := h.blk
  exact h1.frozen j
theorem ABk.set_ {W : World} {q c n : Nat} {ys : List Int} (h : ABk W q c n ys) {i : Nat} (hi : i < n) (hc : n ≤ c) (v : Int) : ABk (W.setCell ⟨q, i, Option.none⟩ (.int .i64 v)) q c n (ys.set i v) := by
  obtain ⟨cs, h1, h2, h3⟩ := h.blk
  refine ⟨by rw [List.length_set]; exact h.len, _, h1.set_ i (.int .i64 v), by simp [h2], fun j hj => ?_⟩
  rw [Array.getElem?_setIfInBounds, ix_set (by rw [h.len]; exact hi)]
  split
  · rw [if_pos (by omega)]
  · exact h3 j hj
theorem ABk.own {W : World} {q c n : Nat} {ys : List Int} (h : ABk W q c n ys) (hc : n ≤ c) (hm : c ≤ maxLen) : Own 3 W 0 (.slice (some ⟨q, 0, Option.none⟩) n c) ys := by
  obtain ⟨cs, h1, h2, h3⟩ := h.blk
  have hl := h.len
  subst hl
  refine ⟨by simp, .inr ⟨q, c, cs, rfl, Nat.zero_le _, h1, hc, hm, by omega, ?_⟩⟩
  apply List.ext_getElem?
  intro j
  rw [Nat.mul_one, List.getElem?_take, List.getElem?_map]
  split
  · rename_i hj
    rw [Array.getElem?_toList, h3 j hj, List.getElem?_eq_getElem hj, ix_get hj]; rfl
  · rename_i hj
    rw [List.getElem?_eq_none (by omega)]; rfl
theorem ABk.take_ {W : World} {q c n m : Nat} {ys : List Int} (h : ABk W q c n ys) (hm : m ≤ n) : ABk W q c m (ys.take m) := by
  obtain ⟨cs, h1, h2, h3⟩ := h.blk
  exact ⟨by rw [List.length_take, h.len]; omega, cs, h1, h2, fun j hj => by rw [ix_take hj]; exact h3 j (by omega)⟩
theorem own_abk {W : World} {q n c B : Nat} {ys : List Int} (h : Own 3 W B (.slice (some ⟨q, 0, Option.none⟩) n c) ys) : ABk W q c n ys ∧ n ≤ c ∧ c ≤ maxLen := by
  obtain ⟨A', c', e, k1, k2, k3⟩ := h.form
  injection e with e1 e2 e3
  rcases h.2 with ⟨h0, _⟩ | ⟨g, cap, cur, hv, hb, hh, hn, hc, hs, ht⟩
  · injection h0 with h0; cases h0
  · injection hv with hv1 hv2 hv3
    injection hv1 with hv1
    injection hv1 with hv1
    subst hv1 hv3
    have hl : ys.length = n := by omega
    refine ⟨⟨hl, cur, hh, by omega, fun j hj => ?_⟩, by omega, hc⟩
    have h1 : (cur.toList.take ys.length)[j]? = (ys.map (Value.int .i64))[j]? := by rw [← ht, Nat.mul_one]
    rw [List.getElem?_take_of_lt (by omega), Array.getElem?_toList, List.getElem?_map, List.getElem?_eq_getElem (by omega)] at h1
    rw [h1, ix_get (by omega)]; rfl
theorem Blk.setCells_ {q : Nat} {T : TypeId} (vs : List Value) : ∀ (o : Nat) (W : World) (cs : Array Value), Blk W q T cs → ∃ cs', Blk (W.setCells q o vs) q T cs' ∧ cs'.size = cs.size ∧ (∀ i, i < o → cs'[i]? = cs[i]?) ∧ Frm (fun k => k = q) W (W.setCells q o vs) := by
  induction vs with
  | nil => intro o W cs h; exact ⟨cs, h, rfl, fun _ _ => rfl, Frm.refl _ _⟩
  | cons v r ih =>
    intro o W cs h
    obtain ⟨cs', h1, h2, h3, h4⟩ := ih (o + 1) _ _ (h.set_ o v)
    refine ⟨cs', h1, by rw [h2]; simp, fun i hi => ?_, (Frm.setCell W ⟨q, o, Option.none⟩ v).trans h4 (fun k hk => .inl hk)⟩
    rw [h3 i (by omega), Array.getElem?_setIfInBounds_ne (by omega)]
theorem ABk.clear_ {W : World} {q c n i : Nat} {ys : List Int} (h : ABk W q c n ys) (hi : i ≤ n) (vs : List Value) : ABk (W.setCells q i vs) q c i (ys.take i) ∧ Frm (fun k => k = q) W (W.setCells q i vs) := by
  obtain ⟨cs, h1, h2, h3⟩ := h.blk
  obtain ⟨cs', k1, k2, k3, k4⟩ := Blk.setCells_ vs i W cs h1
  exact ⟨⟨by rw [List.length_take, h.len]; omega, cs', k1, by omega, fun j hj => by rw [k3 j hj, ix_take hj]; exact h3 j (by omega)⟩, k4⟩

/-- Ack's predicate: the tick itself, or not kept. -/
def pdA (l : Kept) (t x : Int) : Bool := decide (x = t) || !(findK l x).isSome
set_option maxHeartbeats 2000000 in
theorem ack1_any (pt ps g b : Nat) (P : Nat → Prop) (l : Kept) (t x : Int) (w : World) (h1 : w.cell? ⟨pt, 0, Option.none⟩ = some (.int .i64 t)) (h2 : w.cell? ⟨ps, 0, Option.none⟩ = some (.pointer (some ⟨g, 0, Option.none⟩))) (hc : w.cell? ⟨g, 1, Option.none⟩ = some (.map (some b))) (hst : StM w P b l) (hu : UpK l) (hi : (Lit.int .i64 x).wf = true) :
    Calls Try.prog 32 #[.int .i64 x, .pointer (some ⟨pt, 0, Option.none⟩), .pointer (some ⟨ps, 0, Option.none⟩)] w fun e w' => e = .returned (.bool (pdA l t x)) ∧ w = w' := by
  unfold pdA
  have HST := Lib.hid hst
  have HU := Lib.hid hu
  clear hst hu
  by_cases hx : x = t
  · subst hx
    have hxx : (x == x) = true := by simp
    rw [decide_eq_true rfl, Bool.true_or]
    go_enter Try.func32, Try.ntmps32
    go_wp2
    go_ret
    exact ⟨rfl, rfl⟩
  · have hxx : (x == t) = false := by simp [hx]
    rw [decide_eq_false hx, Bool.false_or]
    obtain ⟨is, his⟩ : ∃ is, (findK l x).isSome = is := ⟨_, rfl⟩
    rw [his]
    have HIS := Lib.hid his
    have hx2 : ¬ x = t := hx
    clear his
    go_enter Try.func32, Try.ntmps32
    go_wp2_with fail
    refine (has_st g b P l x w hc HST.out HU.out hi is HIS.out).mono ?_
    rintro e w1 ⟨rfl, rfl⟩
    cases is with
    | true =>
      go_wp2
      go_ret
      exact ⟨rfl, rfl⟩
    | false =>
      go_wp2
      go_ret
      exact ⟨rfl, rfl⟩
def IdxPost (zs : List Int) (pd : Int → Bool) (w : World) (e : Ending) (w' : World) : Prop :=
  w = w' ∧ ((∃ k, k < zs.length ∧ e = .returned (.int .i64 (k : Int)) ∧ pd (ix zs k) = true ∧ ∀ j, j < k → pd (ix zs j) = false) ∨ (e = .returned (.int .i64 (-1)) ∧ ∀ j, j < zs.length → pd (ix zs j) = false))
set_option maxHeartbeats 2000000 in
theorem idx_any (pt ps : Nat) (pd : Int → Bool) (A : Option Addr) (n c B : Nat) (zs : List Int) (w : World) (hl : zs.length = n) (hn : n < 1000000) (hr : Rd w B A zs) (hp : ∀ x ∈ zs, Calls Try.prog 32 #[.int .i64 x, .pointer (some ⟨pt, 0, Option.none⟩), .pointer (some ⟨ps, 0, Option.none⟩)] w fun e w' => e = .returned (.bool (pd x)) ∧ w = w') :
    Calls Try.prog 59 #[.slice A n c, .func (.func 32) #[] #[.pointer (some ⟨pt, 0, Option.none⟩), .pointer (some ⟨ps, 0, Option.none⟩)]] w (IdxPost zs pd w) := by
  have HL := Lib.hid hl
  have HR := Lib.hid hr
  have HP := Lib.hid hp
  clear hl hr hp
  go_enter Try.func59, Try.ntmps59
  go_wp2
  go_loopw [8] (fun iv W => ∃ k : Nat, k ≤ n ∧ iv = .int .i64 (k : Int) ∧ Hid (∀ j, j < k → pd (ix zs j) = false) ∧ w = W) (fun iv _ => n - (intOf iv).toNat)
  case atStart => exact ⟨0, by omega, rfl, Lib.hid (fun j hj => absurd hj (by omega)), rfl⟩
  case round =>
    obtain ⟨k, hk, rfl, HF, rfl⟩ := hrel
    by_cases hkn : k < n
    · have hki : (k : Int) < (n : Int) := by omega
      obtain ⟨ba, oa, rfl, _, hca⟩ := HR.out (by rw [HL.out]; omega)
      have q4 : w.cell? ⟨ba, oa + k, Option.none⟩ = some (.int .i64 (ix zs k)) := hca k (by rw [HL.out]; exact hkn)
      have hcall := HP.out _ (ix_mem (show k < zs.length by rw [HL.out]; exact hkn))
      obtain ⟨x, hx⟩ : ∃ x, x = ix zs k := ⟨_, rfl⟩
      rw [← hx] at q4 hcall
      have HX := Lib.hid hx
      have HC := Lib.hid hcall
      clear hca hx hcall
      go_wp2_with fail
      refine HC.out.mono ?_
      rintro e w1 ⟨rfl, rfl⟩
      cases hpx : pd x with
      | true =>
        have HPX := Lib.hid hpx
        clear hpx
        go_wp2
        go_ret
        exact ⟨rfl, .inl ⟨k, by rw [HL.out]; exact hkn, rfl, by rw [← HX.out]; exact HPX.out, HF.out⟩⟩
      | false =>
        have HPX := Lib.hid hpx
        clear hpx
        go_wp2
        go_roundw
        case rel =>
          refine ⟨k + 1, by omega, by go_num, Lib.hid (fun j hj => ?_), trivial⟩
          rcases Nat.lt_succ_iff_lt_or_eq.1 hj with h | h
          · exact HF.out j h
          · rw [h, ← HX.out]; exact HPX.out
        case measure => simp [intOf]; omega
    · have hki : ¬ ((k : Int) < (n : Int)) := by omega
      obtain rfl : k = n := by omega
      go_wp2
      go_ret
      exact ⟨rfl, .inr ⟨rfl, fun j hj => HF.out j (by rw [← HL.out]; exact hj)⟩⟩
section
variable {P : Program}
theorem wpl_clear {w : World} {ops : Array Oper} {rest : List Oper} {o : Oper} {a : Act} {Q : Exit → Act → World → Prop} (hgd : o.guard = none) (x : Operand) (t : TypeId)
    (ho : o.op = .call { callee := .builtin .clear, args := #[x], argTypes := #[t] }) (v : Value) (hx : a.eval x = v) (w' : World) (hrun : (Builtin.clear_ #[t] o.type #[v]).run P w = .ok (.tuple #[]) w')
    (h : wpList P ops Q rest (a.put o.dst (.tuple #[])) w') : wpList P ops Q (o :: rest) a w := by
  refine wpList_plain hgd fun _ hK => ?_
  unfold Oper.wp
  simp [execOp, ho, resolve, invoke, builtin, hx, hrun, Result.andThen]
  exact hK _ _ h
end
theorem filter_take_first {zs : List Int} {pd : Int → Bool} {k : Nat} (hk : k < zs.length) (h1 : pd (ix zs k) = true) (h2 : ∀ j, j < k → pd (ix zs j) = false) : (zs.take (k + 1)).filter (fun x => !pd x) = zs.take k := by
  rw [take_snoc_ix hk, List.filter_append, List.filter_cons_of_neg (by simp [h1]), List.filter_nil, List.append_nil]
  rw [List.filter_eq_self]
  intro x hx
  obtain ⟨j, hj, rfl⟩ := List.getElem_of_mem hx
  rw [List.length_take] at hj
  have := h2 j (by omega)
  rw [ix_get (by omega)] at this
  simp [this]
theorem filter_none {zs : List Int} {pd : Int → Bool} (h : ∀ j, j < zs.length → pd (ix zs j) = false) : zs.filter (fun x => !pd x) = zs := by
  rw [List.filter_eq_self]
  intro x hx
  obtain ⟨j, hj, rfl⟩ := List.getElem_of_mem hx
  have := h j hj
  rw [ix_get hj] at this
  simp [this]
def DelPost (q c : Nat) (zs : List Int) (w : World) (e : Ending) (w' : World) : Prop := e = .returned (.slice (some ⟨q, 0, none⟩) zs.length c) ∧ ABk w' q c zs.length zs ∧ Frm (fun k => k = q) w w'
set_option maxHeartbeats 8000000 in
theorem del_any (pt ps q n c : Nat) (pd : Int → Bool) (zs : List Int) (w : World) (hk : ABk w q c n zs) (hnc : n ≤ c) (hcm : c ≤ maxLen) (hn : n < 1000000) (hp : ∀ W, Frm (fun k => k = q) w W → ∀ x ∈ zs, Calls Try.prog 32 #[.int .i64 x, .pointer (some ⟨pt, 0, none⟩), .pointer (some ⟨ps, 0, none⟩)] W fun e w' => e = .returned (.bool (pd x)) ∧ W = w') :
    Calls Try.prog 31 #[.slice (some ⟨q, 0, none⟩) n c, .func (.func 32) #[] #[.pointer (some ⟨pt, 0, none⟩), .pointer (some ⟨ps, 0, none⟩)]] w (DelPost q c (zs.filter (fun x => !pd x)) w) := by
  have HK := Lib.hid hk
  have HP := Lib.hid hp
  have HL := Lib.hid hk.len
  obtain ⟨zf, hzf⟩ : ∃ zf, zf = zs.filter (fun x => !pd x) := ⟨_, rfl⟩
  rw [← hzf]
  have HZF := Lib.hid hzf
  have hrd : Rd w w.heap.size (some ⟨q, 0, none⟩) zs := (hk.own hnc hcm).rd
  have HIDX := Lib.hid (idx_any pt ps pd (some ⟨q, 0, none⟩) n c _ zs w hk.len hn hrd (hp w (Frm.refl _ _)))
  clear hk hp hzf hrd
  go_enter Try.func31, Try.ntmps31
  go_wp2_with fail
  refine HIDX.out.mono ?_
  rintro e w1 ⟨rfl, ⟨k, hk, rfl, h1, h2⟩ | ⟨rfl, h1⟩⟩
  · have HF1 := Lib.hid (filter_take_first hk h1 h2)
    rw [HL.out] at hk
    have hk1 : ((k : Int) == -1) = false := by simp
    have hk2 : ¬ ((k : Int) = -1) := by omega
    clear h1 h2
    go_wp2
    go_loopw [5, 6] (fun iv jv W => ∃ (i j : Nat) (ys : List Int), i < j ∧ j ≤ n ∧ iv = .int .i64 (i : Int) ∧ jv = .int .i64 (j : Int) ∧ Hid (ABk W q c n ys) ∧ Hid (ys.take i = (zs.take j).filter (fun x => !pd x)) ∧ Hid (∀ m, j ≤ m → m < n → ix ys m = ix zs m) ∧ Hid (Frm (fun k => k = q) w W)) (fun _ jv _ => n - (intOf jv).toNat)
    case atStart => exact ⟨k, k + 1, zs, by omega, by omega, rfl, by go_num, HK, Lib.hid HF1.out.symm, Lib.hid (fun _ _ _ => rfl), Lib.hid (Frm.refl _ _)⟩
    case round =>
      obtain ⟨i, j, ys, hij, hjn, rfl, rfl, HA, HT, HS, HF⟩ := hrel
      by_cases hj : j < n
      · have hji : (j : Int) < (n : Int) := by omega
        have hjz : j < zs.length := by rw [HL.out]; exact hj
        have q4 : wr.cell? ⟨q, j, none⟩ = some (.int .i64 (ix zs j)) := by rw [← HS.out j (Nat.le_refl _) hj]; exact HA.out.cell_ hj
        have q5 : wr.cell? ⟨q, i, none⟩ = some (.int .i64 (ix ys i)) := HA.out.cell_ (by omega)
        have qf := HA.out.frozen_ i
        have hcall := HP.out wr HF.out _ (ix_mem hjz)
        have HTK := Lib.hid (take_snoc_ix hjz)
        obtain ⟨x, hx⟩ : ∃ x, x = ix zs j := ⟨_, rfl⟩
        obtain ⟨y, hy⟩ : ∃ y, y = ix ys i := ⟨_, rfl⟩
        rw [← hx] at q4 hcall HTK
        rw [← hy] at q5
        have HC := Lib.hid hcall
        clear hx hy hcall
        go_wp2_with fail
        refine HC.out.mono ?_
        rintro e w1 ⟨rfl, rfl⟩
        cases hpx : pd x with
        | true =>
          have HPX := Lib.hid hpx
          clear hpx
          go_wp2
          go_roundw
          case rel => exact ⟨i, j + 1, ys, by omega, by omega, rfl, by go_num, HA, Lib.hid (by rw [HTK.out, List.filter_append, List.filter_cons_of_neg (by simp [HPX.out]), List.filter_nil, List.append_nil]; exact HT.out), Lib.hid (fun m h1 h2 => HS.out m (by omega) h2), HF⟩
          case measure => simp [intOf]; omega
        | false =>
          have HPX := Lib.hid hpx
          have HA2 := Lib.hid (HA.out.set_ (i := i) (by omega) hnc x)
          have HF2 := Lib.hid (HF.out.trans (Frm.setCell wr ⟨q, i, none⟩ (.int .i64 x)) (fun k hk => .inl hk))
          clear hpx
          go_wp2
          go_roundw
          case rel =>
            refine ⟨i + 1, j + 1, ys.set i x, by omega, by omega, by go_num, by go_num, HA2, Lib.hid ?_, Lib.hid (fun m h1 h2 => ?_), HF2⟩
            · rw [HTK.out, List.filter_append, List.filter_cons_of_pos (by simp [HPX.out]), List.filter_nil, ← HT.out]
              have hil : i < (ys.set i x).length := by rw [List.length_set, HA.out.len]; omega
              rw [List.take_succ_eq_append_getElem hil, List.getElem_set_self, List.take_set_of_le (Nat.le_refl _)]
            · rw [ix_set (by rw [HA.out.len]; omega), if_neg (by omega)]
              exact HS.out m (by omega) h2
          case measure => simp [intOf]; omega
      · have hji : ¬ ((j : Int) < (n : Int)) := by omega
        obtain rfl : j = n := by omega
        have HZ : Hid (ys.take i = zf) := Lib.hid (by rw [HT.out, HZF.out, List.take_of_length_le (by rw [HL.out]; exact Nat.le_refl _)])
        have hrun := Lib.run_clear_slice (P := Try.prog) wr 22 3 0 (.int .i64 0) Try.underlying22 (fun W => zeroI W) rfl rfl q i (j - i) (c - i) (by omega) (fun m hm => by rw [HA.out.cell_ (by omega)]; rfl) (fun m hm => HA.out.frozen_ _)
        obtain ⟨w5, hw5⟩ : ∃ w5, w5 = wr.setCells q i (List.replicate (j - i) (.int .i64 0)) := ⟨_, rfl⟩
        have HCL := Lib.hid (HA.out.clear_ (i := i) (by omega) (List.replicate (j - i) (.int .i64 0)))
        rw [← hw5] at hrun HCL
        have hci : ¬ (c = i) := by omega
        clear hw5
        go_wp2
        go_ret
        have hzl : zf.length = i := by rw [← HZ.out, List.length_take, HA.out.len]; omega
        unfold DelPost
        rw [hzl]
        exact ⟨rfl, by rw [← HZ.out]; exact HCL.out.1, HF.out.trans HCL.out.2 (fun k hk => .inl hk)⟩
  · have HF1 := Lib.hid (filter_none h1)
    clear h1
    go_wp2
    go_ret
    have e : zf = zs := HZF.out.trans HF1.out
    rw [e]
    exact ⟨by rw [HL.out]; rfl, by rw [HL.out]; exact HK.out, Frm.refl _ _⟩
/-- DeleteFunc on a slice that the sender owns. -/
theorem del_own (pt ps : Nat) (A : Option Addr) (n c : Nat) (pd : Int → Bool) (zs : List Int) (w : World) (h : Own 3 w 0 (.slice A n c) zs) (hn : n < 1000000) (hp : ∀ W, Frm (fun k => (Value.slice A n c).ownBlock = some k) w W → ∀ x ∈ zs, Calls Try.prog 32 #[.int .i64 x, .pointer (some ⟨pt, 0, none⟩), .pointer (some ⟨ps, 0, none⟩)] W fun e w' => e = .returned (.bool (pd x)) ∧ W = w') (zf : List Int) (m : Nat) (hzf : zf = zs.filter (fun x => !pd x)) (hm : zf.length = m) :
    Calls Try.prog 31 #[.slice A n c, .func (.func 32) #[] #[.pointer (some ⟨pt, 0, none⟩), .pointer (some ⟨ps, 0, none⟩)]] w fun e w' => e = .returned (.slice A m c) ∧ Own 3 w' 0 (.slice A m c) zf ∧ Frm (fun k => (Value.slice A n c).ownBlock = some k) w w' := by
  subst hzf hm
  rcases h.2 with ⟨h0, h1⟩ | ⟨g, cap, cur, hv, hb, hh, hnn, hc, hs, ht⟩
  · injection h0 with e1 e2 e3
    subst e1 e2 e3
    have hz : zs = [] := List.eq_nil_of_length_eq_zero h1
    subst hz
    have HIDX := Lib.hid (idx_any pt ps pd none 0 0 0 [] w rfl (by omega) Rd.nil (fun x hx => by cases hx))
    clear h hp
    go_enter Try.func31, Try.ntmps31
    go_wp2_with fail
    refine HIDX.out.mono ?_
    rintro e w1 ⟨rfl, ⟨k, hk, _⟩ | ⟨rfl, _⟩⟩
    · simp at hk
    · go_wp2
      go_ret
      exact ⟨rfl, Own.nil _ _ _, Frm.refl _ _⟩
  · injection hv with e1 e2 e3
    subst e1 e3
    obtain ⟨k1, k2, k3⟩ := own_abk h
    have hob : ∀ k, (Value.slice (some ⟨g, 0, none⟩) n c).ownBlock = some k ↔ k = g := fun k => by simp [Value.ownBlock]; exact eq_comm
    refine (del_any pt ps g n c pd zs w k1 k2 k3 hn (fun W hW => hp W (hW.mono (fun k hk => (hob k).2 hk)))).mono ?_
    rintro e w' ⟨rfl, h2, h3⟩
    have hle : (zs.filter (fun x => !pd x)).length ≤ c := Nat.le_trans (List.length_filter_le _ _) (by rw [k1.len]; exact k2)
    exact ⟨rfl, h2.own hle k3, h3.mono (fun k hk => (hob k).2 hk)⟩
section
variable {P : Program}
/-- 'out = append(out, z)' at a step of a region that draws its order. -/
theorem stp_append1I {w : World} {ops : Array Oper} {o : Oper} {a : Act} {K : Act → World → Prop} {Q : Exit → Act → World → Prop} {E : Prop} (hgd : o.guard = none) (s x : Operand) (t : TypeId)
    (ho : o.op = .call { callee := .builtin .append, args := #[s, x], argTypes := #[t, t] })
    (T : TypeId) (ht : P.underlying t = some (.slice T)) (hi : (P.info? T).map (fun i => (i.zero, i.size, i.bytes)) = some (some (.int .i64 0), 1, 8))
    (v : Value) (zs : List Int) (hs : a.eval s = v) (hown : Own T w 0 v zs)
    (ad : Addr) (c : Nat) (z : Int) (n' : Nat) (hn' : zs.length + 1 = n') (hx : a.eval x = .slice (some ad) 1 c) (hc : w.cell? ad = some (.int .i64 z))
    (hlen : zs.length < 1000000000000)
    (h : ∀ A' c' w', Hid (Own T w' 0 (.slice A' n' c') (zs ++ [z])) → Hid (w.grownBy w' v.ownBlock) → Hid (RowAt w.heap.size v (.slice A' n' c')) → K (a.put o.dst (.slice A' n' c')) w') : if Region.wanted o (yielded ops a.tmps) = true then Oper.wp P o a w K Q else E := by
  have hw : Region.wanted o (yielded ops a.tmps) = true := by simp [Region.wanted, hgd]
  rw [if_pos hw]
  obtain ⟨i0, hi0, hz0, hz1, hz2⟩ := info_parts hi
  obtain ⟨v', w', hr, h2, h3, _, h5⟩ := run_append_own_at (P := P) w 0 t o.type T i0 (.int .i64 0) 1 8 ht hi0 hz0 hz1 hz2 rfl (by decide) v zs.length (zs.map (Value.int .i64)) hown ad 1 c [.int .i64 z] rfl (fun j u hj => by
    match j, hj with
    | 0, hj => simp at hj; subst hj; simpa [Addr.add] using hc) (fun u hu => by simp at hu; subst hu; rfl) (by simp [maxLen]; omega) (by omega) (Nat.zero_le _)
  have h1' : Own T w' 0 v' (zs ++ [z]) := by
    unfold Own
    rw [List.map_append, List.length_append]
    exact h2
  obtain ⟨A', c', rfl, _⟩ := h1'.form
  rw [List.length_append, List.length_singleton, hn'] at h1' h5 hr
  unfold Oper.wp execOp
  simp only [ho, resolve, invoke, builtin, Sem.run_bind, Sem.run_pure, Result.andThen_ok, List.map_toArray, List.map_cons, List.map_nil, hs, hx, hr]
  refine h A' c' w' h1' h3 (fun r hr' => ?_)
  rcases h5 with h4 | h4
  · exact .inl (by rw [← h4]; exact hr')
  · rw [hr'] at h4; injection h4 with h4; exact .inr (by omega)
end
/-- What Ack makes of the acknowledged ticks. -/
def ackL (l : Kept) (acked : List Int) (t : Int) : List Int := acked.filter (fun x => !pdA l t x) ++ (if (findK l t).isSome then [t] else [])
/-- The state between Ack's statements. -/
structure AckR (w : World) (P : Nat → Prop) (g keep b : Nat) (last : Int) (l : Kept) (sb : Nat) (t : Int) (A : Option Addr) (c n : Nat) (ys : List Int) (W : World) : Prop where
  len : ys.length = n
  bs : Blk W sb 24 #[.pointer (some ⟨g, 0, Option.none⟩)]
  bt : Blk W (sb + 1) 3 #[.int .i64 t]
  bg : Blk W g 57 #[.int .i64 (keep : Int), .map (some b), .int .i64 last, .slice A n c]
  st : StM W P b l
  own : Own 3 W 0 (.slice A n c) ys
  row : ∀ r, (Value.slice A n c).ownBlock = some r → P r ∨ w.heap.size ≤ r
  frm : Frm P w W
theorem AckR.drew {w : World} {P : Nat → Prop} {g keep b : Nat} {last : Int} {l : Kept} {sb : Nat} {t : Int} {A : Option Addr} {c n : Nat} {ys : List Int} {W : World} (h : AckR w P g keep b last l sb t A c n ys W) : AckR w P g keep b last l sb t A c n ys W.drew :=
  ⟨h.len, h.bs, h.bt, h.bg, h.st.frmP ((Frm.refl (fun _ => False) W).drewN 1) (fun _ h => h.elim), h.own, h.row, h.frm.drewN 1⟩
theorem one_int (w : World) (z : Int) : (World.drew (w.alloc (.cells #[.int .i64 z] 3))).cell? ⟨w.heap.size, 0, Option.none⟩ = some (.int .i64 z) := by
  show (w.alloc (.cells #[.int .i64 z] 3)).cell? _ = _
  rw [World.cell?_alloc_at _ _ _ _ rfl]; rfl
def AckPost (w : World) (P : Nat → Prop) (g keep : Nat) (l : Kept) (last : Int) (acked' : List Int) (e : Ending) (w' : World) : Prop := e = .returned (.tuple #[]) ∧ SndM w' (fun k => P k ∨ w.heap.size ≤ k) g keep l last acked' ∧ Frm P w w'
theorem rowAt_alloc {w : World} {o : Obj} {v v' : Value} (h : RowAt (World.drew (w.alloc o)).heap.size v v') : RowAt (w.heap.size + 1) v v' := by
  have e : (World.drew (w.alloc o)).heap.size = w.heap.size + 1 := World.size_alloc w o
  rwa [e] at h
theorem ack_fin {w : World} {P : Nat → Prop} {g keep b : Nat} {last : Int} {l : Kept} {sb : Nat} {t : Int} {Aa : Option Addr} {ca mf : Nat} {zf : List Int} {w3 : World} (h : AckR w P g keep b last l sb t Aa ca mf zf w3) (hPg : P g) (hsg : sb ≠ g) (hz : w.heap.size ≤ w3.heap.size) (hne : g ≠ b)
    (w5 : World) (A' : Option Addr) (c' : Nat) (ho : Own 3 w5 0 (.slice A' (mf + 1) c') (zf ++ [t])) (hg5 : (w3.alloc (.cells #[.int .i64 t] 3)).grownBy w5 (Value.slice Aa mf ca).ownBlock) (hrow : RowAt (w3.heap.size + 1) (.slice Aa mf ca) (.slice A' (mf + 1) c')) :
    AckPost w P g keep l last (zf ++ [t]) (.returned (.tuple #[])) (w5.setCell ⟨g, 3, none⟩ (.slice A' (mf + 1) c')) ∧ w5.cell? ⟨sb, 0, none⟩ = some (.pointer (some ⟨g, 0, none⟩)) ∧ w5.cell? ⟨g, 3, none⟩ = some (.slice Aa mf ca) ∧ w5.frozen? ⟨g, 3, none⟩ = false := by
  have hfr : Frm (fun k => (Value.slice Aa mf ca).ownBlock = some k) w3 w5 := ((frm_of_below ((Below.refl w3.heap.size w3).alloc (Nat.le_refl _) (.cells #[.int .i64 t] 3))).mono (S' := fun k => (Value.slice Aa mf ca).ownBlock = some k) (fun _ h => h.elim)).trans (Frm.of_grown hg5) (fun k hk => .inl hk)
  have hty : ∀ k, (Value.slice Aa mf ca).ownBlock = some k → ∃ cur, w3.heap[k]? = some (.cells cur 3 (0, 0)) := fun k hk => (own_rowLt h.own k hk).2.2
  have hnot : ∀ {T : TypeId} {i : Nat} {cs : Array Value}, Blk w3 i T cs → T ≠ 3 → ¬ (Value.slice Aa mf ca).ownBlock = some i := fun {T i cs} hb hT e => by
    obtain ⟨cur, hc⟩ := hty i e
    unfold Blk at hb
    rw [hb] at hc
    injection hc with hc
    injection hc with _ h2
    exact hT h2
  have k1 : Blk w5 sb 24 _ := (hfr.block sb h.bs.lt (hnot h.bs (by decide))).trans h.bs
  have k3 : Blk w5 g 57 _ := (hfr.block g h.bg.lt (hnot h.bg (by decide))).trans h.bg
  have k4 : StM w5 P b l := h.st.frm hfr (fun e => by
    obtain ⟨cur, hc⟩ := hty b e
    obtain ⟨_, D', f', ho', _⟩ := h.st
    obtain ⟨es, ck, hb', _⟩ := ho'
    rw [hb'] at hc
    injection hc with hc
    cases hc) (fun k hk => by
    obtain ⟨cur, hc⟩ := hty k hk
    rintro ⟨cur', hc'⟩
    rw [hc] at hc'
    injection hc' with hc'
    injection hc' with _ h2
    exact absurd h2 (by decide)) (fun k h => h)
  have hgp : ∀ k, k = g → ¬ ∃ cur, w5.heap[k]? = some (.cells cur 48 (0, 0)) := by
    rintro k rfl ⟨cur, hc⟩
    unfold Blk at k3
    rw [k3] at hc
    injection hc with hc
    injection hc with _ h2
    exact absurd h2 (by decide)
  have hgi : ∀ r, (Value.slice A' (mf + 1) c').ownBlock = some r → r ≠ g := by
    rintro r hr rfl
    obtain ⟨_, _, cur, hc⟩ := own_rowLt ho _ hr
    unfold Blk at k3
    rw [k3] at hc
    injection hc with hc
    injection hc with _ h2
    exact absurd h2 (by decide)
  have hs := Frm.setCell w5 ⟨g, 3, none⟩ (.slice A' (mf + 1) c')
  have hl : (zf ++ [t]).length = mf + 1 := by rw [List.length_append, h.len]; rfl
  refine ⟨⟨rfl, ⟨.inl hPg, b, A', c', ?_, k4.frm hs (fun e => hne e.symm) hgp (fun k h => .inl h), ?_, ?_⟩, ?_⟩, k1.cell 0, k3.cell 3, k3.frozen 3⟩
  · rw [hl]
    have := k3.set_ 3 (.slice A' (mf + 1) c')
    simpa using this
  · rw [hl]
    exact own_keepRow ho (fun r hr => Below.heap_setCell w5 _ _ r (hgi r hr))
  · rw [hl]
    intro r hr
    rcases hrow r hr with h1 | h1
    · exact h.row r h1
    · exact .inr (by omega)
  · refine (h.frm.trans hfr (fun k hk => ?_)).trans hs (fun k hk => .inl (by rw [hk]; exact hPg))
    exact (h.row k hk).elim .inl .inr
set_option maxHeartbeats 40000000 in
theorem ack_any (g keep : Nat) (P : Nat → Prop) (l : Kept) (last : Int) (acked : List Int) (t : Int) (w : World) (h : SndM w P g keep l last acked) (hu : UpK l) (ht : 0 ≤ t ∧ t ≤ 1000000) (hack : ∀ z ∈ acked, 0 ≤ z ∧ z ≤ 1000000) (hackn : acked.length < 100000) :
    Calls Try.prog 15 #[.pointer (some ⟨g, 0, none⟩), .int .i64 t] w (AckPost w P g keep l last (ackL l acked t)) := by
  obtain ⟨hPg, b, Aa, ca, hb, hst, hak⟩ := h
  obtain ⟨na, hna⟩ : ∃ na, na = acked.length := ⟨_, rfl⟩
  have hown := hak.1
  have hakP := hak.2
  rw [← hna] at hown hakP hb
  have hg : g < w.heap.size := hb.lt
  have hne : g ≠ b := by
    rintro rfl
    obtain ⟨_, D', f', ho', _⟩ := hst
    obtain ⟨es, ck, hb', _⟩ := ho'
    unfold Blk at hb
    rw [hb'] at hb
    injection hb with hb
    cases hb
  have hwfx : ∀ z : Int, 0 ≤ z ∧ z ≤ 1000000 → (Lit.int .i64 z).wf = true := fun z hz => by simp [Lit.wf, IntKind.min, IntKind.max, IntKind.signed, IntKind.bits]; omega
  -- the world with the two boxes
  obtain ⟨w0, hw0⟩ : ∃ w0, w0 = (w.alloc (.cells #[.pointer (some ⟨g, 0, none⟩)] 24)).alloc (.cells #[.int .i64 t] 3) := ⟨_, rfl⟩
  have hb0 : Below w.heap.size w w0 := by rw [hw0]; exact ((Below.refl _ _).alloc (Nat.le_refl _) _).alloc (by simp) _
  obtain ⟨sb, hsb⟩ : ∃ sb, sb = w.heap.size := ⟨_, rfl⟩
  have hks : Blk w0 sb 24 #[.pointer (some ⟨g, 0, none⟩)] := by rw [hw0, hsb]; exact (Blk.new w 24 _).alloc _
  have hkt : Blk w0 (sb + 1) 3 #[.int .i64 t] := by
    rw [hw0, hsb]
    have := Blk.new (w.alloc (.cells #[.pointer (some ⟨g, 0, none⟩)] 24)) 3 #[.int .i64 t]
    rwa [World.size_alloc] at this
  have hblk0 : Blk w0 g 57 _ := hb.below hb0 hg
  have hst0 : StM w0 P b l := hst.frm (frm_of_below hb0) (fun h => h) (fun _ h => h.elim) (fun k h => h)
  have hown0 : Own 3 w0 0 (.slice Aa na ca) acked := own_keepRow hown (fun r hr => hb0.block r (own_rowLt hown r hr).2.1)
  have hrlt : ∀ r, (Value.slice Aa na ca).ownBlock = some r → r < w.heap.size ∧ ∃ cur, w0.heap[r]? = some (.cells cur 3 (0, 0)) := fun r hr => ⟨(own_rowLt hown r hr).2.1, (own_rowLt hown0 r hr).2.2⟩
  -- what stays as it is while the acknowledged ticks are written
  have hstay : ∀ W, Frm (fun k => (Value.slice Aa na ca).ownBlock = some k) w0 W → Blk W sb 24 #[.pointer (some ⟨g, 0, none⟩)] ∧ Blk W (sb + 1) 3 #[.int .i64 t] ∧ Blk W g 57 #[.int .i64 (keep : Int), .map (some b), .int .i64 last, .slice Aa na ca] ∧ StM W P b l := fun W hW => by
    refine ⟨(hW.block sb hks.lt (fun e => ?_)).trans hks, (hW.block (sb + 1) hkt.lt (fun e => ?_)).trans hkt, (hW.block g hblk0.lt (fun e => ?_)).trans hblk0, hst0.frm hW (fun e => ?_) (fun k hk => ?_) (fun k h => h)⟩
    · have := (hrlt _ e).1; omega
    · have := (hrlt _ e).1; omega
    · obtain ⟨cur, hc⟩ := (hrlt _ e).2
      unfold Blk at hblk0
      rw [hblk0] at hc
      injection hc with hc
      injection hc with _ h2
      exact absurd h2 (by decide)
    · obtain ⟨cur, hc⟩ := (hrlt _ e).2
      obtain ⟨_, D', f', ho', _⟩ := hst0
      obtain ⟨es, ck, hb', _⟩ := ho'
      rw [hb'] at hc
      injection hc with hc
      cases hc
    · obtain ⟨cur, hc⟩ := (hrlt _ hk).2
      rintro ⟨cur', hc'⟩
      rw [hc] at hc'
      injection hc' with hc'
      injection hc' with _ h2
      exact absurd h2 (by decide)
  obtain ⟨zf, hzf⟩ : ∃ zf, zf = acked.filter (fun x => !pdA l t x) := ⟨_, rfl⟩
  obtain ⟨mf, hmf⟩ : ∃ mf, zf.length = mf := ⟨_, rfl⟩
  have hmfn : mf ≤ na := by rw [← hmf, hzf, hna]; exact List.length_filter_le _ _
  have hdel := del_own (sb + 1) sb Aa na ca (pdA l t) acked w0.drew hown0 (by omega) (fun W hW x hx => by
    obtain ⟨k1, k2, k3, k4⟩ := hstay W ⟨hW.os, hW.tape, hW.output, hW.size, hW.block⟩
    exact ack1_any (sb + 1) sb g b P l t x W (k2.cell 0) (k1.cell 0) (k3.cell 1) k4 hu (hwfx x (hack x hx))) zf mf hzf hmf
  have HDEL := Lib.hid hdel
  have HSTAY := Lib.hid hstay
  have HZF := Lib.hid hzf
  have HMF := Lib.hid hmf
  have HU := Lib.hid hu
  have HW0 := Lib.hid hw0
  have HSB := Lib.hid hsb
  have HNA := Lib.hid hna
  have HB0 := Lib.hid hb0
  have HAKP := Lib.hid hakP
  have HRLT := Lib.hid hrlt
  have HWT := Lib.hid (hwfx t ht)
  obtain ⟨k1, k2, k3, k4⟩ := hstay w0 (Frm.refl _ _)
  have s0 : w0.cell? ⟨sb, 0, none⟩ = some (.pointer (some ⟨g, 0, none⟩)) := k1.cell 0
  have s3 : w0.cell? ⟨g, 3, none⟩ = some (.slice Aa na ca) := k3.cell 3
  have hna9 : na < 100000 := by omega
  clear hdel hstay hzf hmf hu hsb hna hb0 hakP hrlt hwfx k1 k2 k3 k4 hown0 hst0 hblk0 hkt hks hown hst hak hb hack hackn
  have hsbg : sb ≠ g := by rw [HSB.out]; omega
  have htbg : sb + 1 ≠ g := by rw [HSB.out]; omega
  have s0d : w0.drew.cell? ⟨sb, 0, none⟩ = some (.pointer (some ⟨g, 0, none⟩)) := s0
  have s3d : w0.drew.cell? ⟨g, 3, none⟩ = some (.slice Aa na ca) := s3
  have HNEXT : Hid (∀ w1, Own 3 w1 0 (.slice Aa mf ca) zf → Frm (fun k => (Value.slice Aa na ca).ownBlock = some k) w0.drew w1 → AckR w P g keep b last l sb t Aa ca mf zf (w1.setCell ⟨g, 3, none⟩ (.slice Aa mf ca)) ∧ w1.cell? ⟨sb, 0, none⟩ = some (.pointer (some ⟨g, 0, none⟩)) ∧ (w1.cell? ⟨g, 3, none⟩ = some (.slice Aa na ca) ∧ w1.frozen? ⟨g, 3, none⟩ = false)) := Lib.hid fun w1 ho1 hf1 => by
    have hf1' : Frm (fun k => (Value.slice Aa na ca).ownBlock = some k) w0 w1 := ⟨hf1.os, hf1.tape, hf1.output, hf1.size, hf1.block⟩
    obtain ⟨k1, k2, k3, k4⟩ := HSTAY.out w1 hf1'
    have hgp : ∀ k, k = g → ¬ ∃ cur, w1.heap[k]? = some (.cells cur 48 (0, 0)) := by
      rintro k rfl ⟨cur, hc⟩
      unfold Blk at k3
      rw [k3] at hc
      injection hc with hc
      injection hc with _ h2
      exact absurd h2 (by decide)
    have hgi : ∀ r, (Value.slice Aa mf ca).ownBlock = some r → r ≠ g := by
      rintro r hr rfl
      obtain ⟨_, _, cur, hc⟩ := own_rowLt ho1 _ hr
      unfold Blk at k3
      rw [k3] at hc
      injection hc with hc
      injection hc with _ h2
      exact absurd h2 (by decide)
    have hob : ∀ r, (Value.slice Aa mf ca).ownBlock = some r → (Value.slice Aa na ca).ownBlock = some r := fun r hr => by cases Aa <;> exact hr
    have hs := Frm.setCell w1 ⟨g, 3, none⟩ (.slice Aa mf ca)
    refine ⟨⟨HMF.out, k1.far hsbg _, k2.far htbg _, ?_, k4.frm hs (fun e => hne e.symm) hgp (fun k h => h), own_keepRow ho1 (fun r hr => Below.heap_setCell w1 _ _ r (hgi r hr)), fun r hr => .inl (HAKP.out r (hob r hr)), ?_⟩, k1.cell 0, k3.cell 3, k3.frozen 3⟩
    · have := k3.set_ 3 (.slice Aa mf ca)
      simpa using this
    · have f1 : Frm P w w0 := (frm_of_below HB0.out).mono (fun _ h => h.elim)
      exact (f1.trans (hf1'.mono (S' := P) (fun k hk => HAKP.out k hk)) (fun k hk => .inl hk)).trans (hs.mono (S' := P) (fun k hk => by rw [hk]; exact hPg)) (fun k hk => .inl hk)
  clear hw0
  go_enter Try.func15, Try.ntmps15
  go_upto_region 1 with (fail)
  rw [← HW0.out, ← HSB.out]
  go_cut [] (fun W => Hid (AckR w P g keep b last l sb t Aa ca mf zf W))
  case first =>
    go_region_with (go_at_call 31; refine HDEL.out.mono ?_; rintro e w1 ⟨rfl, ho1, hf1⟩; have hn1 := HNEXT.out w1 ho1 hf1; have c1 := hn1.2.1; have c3 := hn1.2.2.1; have f3 := hn1.2.2.2)
    all_goals
      refine ‹∀ (a : Act) (w : World), _ → _› _ _ ?_
      go_meet
      exact Lib.hid hn1.1
  rename World => w2
  have HR := hcut
  clear HDEL HSTAY HNEXT s0d s3d s0 s3
  obtain ⟨is, his⟩ : ∃ is, (findK l t).isSome = is := ⟨_, rfl⟩
  have HIS := Lib.hid his
  clear his
  have d0 : w2.cell? ⟨sb, 0, none⟩ = some (.pointer (some ⟨g, 0, none⟩)) := HR.out.bs.cell 0
  have d1 : w2.cell? ⟨sb + 1, 0, none⟩ = some (.int .i64 t) := HR.out.bt.cell 0
  have HH : Hid (∀ N, Calls Try.prog 24 #[.pointer (some ⟨g, 0, none⟩), .int .i64 t] (w2.drewN N) fun e w'' => e = .returned (.bool is) ∧ ∃ m, w'' = w2.drewN m) := Lib.hid fun N =>
    (has_st g b P l t (w2.drewN N) (HR.out.bg.cell 1) (HR.out.st.frmP ((Frm.refl (fun _ => False) w2).drewN N) (fun _ h => h.elim)) HU.out HWT.out is HIS.out).mono fun e w'' ⟨he, hw⟩ => ⟨he, N, hw.symm⟩
  have HACK : Hid (ackL l acked t = zf ++ (if is = true then [t] else [])) := Lib.hid (by rw [ackL, HZF.out, HIS.out])
  go_upto_region 2 with (fail)
  go_quiet (first | (go_at_call 24; exact HH.out _))
  obtain ⟨w3, hw3⟩ : ∃ w3, w3 = w2.drewN nq := ⟨_, rfl⟩
  rw [← hw3]
  have HR3 : Hid (AckR w P g keep b last l sb t Aa ca mf zf w3) := by
    rw [hw3]
    have h := HR.out
    exact Lib.hid ⟨h.len, h.bs, h.bt, h.bg, h.st.frmP ((Frm.refl (fun _ => False) w2).drewN nq) (fun _ h => h.elim), h.own, h.row, h.frm.drewN nq⟩
  clear hw3 HH HR hcut d0 d1
  cases is with
  | false =>
    go_wp2
    go_end0
    have h := HR3.out
    have he : ackL l acked t = zf := by rw [HACK.out]; simp
    rw [he]
    have hl := h.len
    refine ⟨rfl, ⟨.inl hPg, b, Aa, ca, by rw [hl]; exact h.bg, h.st.mono (fun k h => .inl h), by rw [hl]; exact h.own, by rw [hl]; exact h.row⟩, h.frm⟩
  | true =>
    have he : ackL l acked t = zf ++ [t] := by rw [HACK.out]; simp
    rw [he]
    have d0 : w3.cell? ⟨sb, 0, none⟩ = some (.pointer (some ⟨g, 0, none⟩)) := HR3.out.bs.cell 0
    have d1 : w3.cell? ⟨sb + 1, 0, none⟩ = some (.int .i64 t) := HR3.out.bt.cell 0
    have d3 : w3.cell? ⟨g, 3, none⟩ = some (.slice Aa mf ca) := HR3.out.bg.cell 3
    have hba := (Below.refl w3.heap.size w3).alloc (Nat.le_refl _) (.cells #[.int .i64 t] 3)
    have d0a := (hba.cell (p := ⟨sb, 0, none⟩) HR3.out.bs.lt).trans d0
    have d3a := (hba.cell (p := ⟨g, 3, none⟩) HR3.out.bg.lt).trans d3
    have d0b : (w3.alloc (.cells #[.int .i64 t] 3)).drew.cell? ⟨sb, 0, none⟩ = _ := d0a
    have d3b : (w3.alloc (.cells #[.int .i64 t] 3)).drew.cell? ⟨g, 3, none⟩ = _ := d3a
    have hnn : Hid (zf.length + 1 = mf + 1) := Lib.hid (by rw [HR3.out.len])
    have hlz : zf.length < 1000000000000 := by rw [HR3.out.len]; omega
    have HFIN : Hid (∀ w5 A' c', Own 3 w5 0 (.slice A' (mf + 1) c') (zf ++ [t]) → (w3.alloc (.cells #[.int .i64 t] 3)).grownBy w5 (Value.slice Aa mf ca).ownBlock → RowAt (w3.heap.size + 1) (.slice Aa mf ca) (.slice A' (mf + 1) c') → AckPost w P g keep l last (zf ++ [t]) (.returned (.tuple #[])) (w5.setCell ⟨g, 3, none⟩ (.slice A' (mf + 1) c')) ∧ w5.cell? ⟨sb, 0, none⟩ = some (.pointer (some ⟨g, 0, none⟩)) ∧ w5.cell? ⟨g, 3, none⟩ = some (.slice Aa mf ca) ∧ w5.frozen? ⟨g, 3, none⟩ = false) := Lib.hid fun w5 A' c' ho hg5 hrow => ack_fin HR3.out hPg hsbg HR3.out.frm.size hne w5 A' c' ho hg5 hrow
    go_upto_region 3 with (fail)
    go_region_law (refine stp_append1I rfl (.tmp 22) (.tmp 24) 22 rfl 3 Try.underlying22 int_info3 (.slice Aa mf ca) zf rfl (Own.alloc HR3.out.own _) ⟨w3.heap.size, 0, none⟩ 1 t (mf + 1) hnn.out rfl (one_int w3 t) hlz ?_; intro A5 c5 w5 ho5 hg5 hr5; have hf5 := HFIN.out w5 A5 c5 ho5.out (grownBy_drew hg5.out) (rowAt_alloc hr5.out); have e0 := hf5.2.1; have e3 := hf5.2.2.1; have ef := hf5.2.2.2)
    all_goals go_end0
    all_goals (rw [he]; exact hf5.1)
end Go.Proofs.Ytcniepogobgaoaa
