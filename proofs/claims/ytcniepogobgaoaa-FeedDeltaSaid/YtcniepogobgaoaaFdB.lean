/-
  Package feed's laws: lives.
-/
import Derived.Test.YtcniepogobgaoaaFdA
namespace Go.Proofs.Ytcniepogobgaoaa
set_option linter.unusedVariables false
set_option linter.unusedSimpArgs false
set_option maxRecDepth 4000
open Go.RowKit Go.Maps Go.Sort Go.Shelf

/-- A tick that is not later is refused. -/
theorem send_err (g keep : Nat) (P : Nat → Prop) (l : Kept) (last : Int) (acked : List Int) (t : Int) (A : Option Addr) (n c : Nat) (w : World) (h : SndM w P g keep l last acked) (ht : t ≤ last) :
    Calls Try.prog 12 #[.pointer (some ⟨g, 0, none⟩), .int .i64 t, .slice A n c] w fun e w' => e = .returned (.tuple #[.slice none 0 0, .int .i64 5]) ∧ w = w' := by
  obtain ⟨_, b, Aa, ca, hb, _⟩ := h
  have q2 : w.cell? ⟨g, 2, none⟩ = some (.int .i64 last) := hb.cell 2
  clear hb
  go_enter Try.func12, Try.ntmps12
  go_wp2
  go_ret2
  exact ⟨rfl, rfl⟩
theorem net_new2 {w W1 W2 : World} {M1 M2 : World → (Nat → Prop) → Prop} (s1 : Stab M1) (h1 : M1 W1 (fun k => w.heap.size ≤ k ∧ k < W1.heap.size)) (b1 : Below w.heap.size w W1) (h2 : M2 W2 (fun k => W1.heap.size ≤ k ∧ k < W2.heap.size)) (b2 : Below W1.heap.size W1 W2) : Net w W2 (fun _ => False) M1 M2 := by
  have z1 := b1.size
  have z2 := b2.size
  exact ⟨⟨_, _, s1.frm _ _ _ _ h1 (frm_of_below b2) (fun _ h => h.elim), h2, fun k hk => ⟨hk.1, by omega, fun h => h, fun hr => by have := hr.1; have := hk.2; omega⟩, fun k hk => ⟨by omega, hk.2, fun h => h⟩⟩, b1.trans (b2.mono z1), fun k h => h.elim⟩
theorem net_view {w0 W : World} {X : Nat → Prop} {M2 : World → (Nat → Prop) → Prop} {gr kr : Nat} {lr : Kept} {latest : Int} (h : Net w0 W X (fun W P => RcvM W P gr kr lr latest) M2) (s2 : Stab M2) (hu : UpK lr) (t : Int) (ht : -1 ≤ t ∧ t ≤ 100000) (hl : ∀ p ∈ lr, p.2.length ≤ 100) (v : Option Vw) (hv : findK lr t = v) (n : Nat) (hn : (v.getD []).length = n) (is : Bool) (his : v.isSome = is) :
    Calls Try.prog 17 #[.pointer (some ⟨gr, 0, none⟩), .int .i64 t] W fun e w' => ∃ A c, e = .returned (.tuple #[.slice A n c, .bool is]) ∧ SlP w' w'.heap.size A n c (v.getD []) ∧ Below W.heap.size W w' ∧ Net w0 w' X (fun W P => RcvM W P gr kr lr latest) M2 ∧ KeepX X W w' := by
  have h' := h
  obtain ⟨⟨P, R, h1, h2, h3, h4⟩, h5, h6⟩ := h
  subst hv hn his
  refine (rview_any gr P kr lr latest t W h1 hu (by simp [Lit.wf, IntKind.min, IntKind.max, IntKind.signed, IntKind.bits]; omega) (fun v hv => by have := hl _ (findK_mem hv); simp only [] at this; omega)).mono ?_
  rintro e w' ⟨A, c, rfl, hs, hb⟩
  exact ⟨A, c, rfl, hs, hb, h'.more (stabR gr kr lr latest) s2 hb (fun k hk => .inl hk), hb.size, fun k hk => hb.block k (h6 k hk)⟩
theorem net_latest {w0 W : World} {X : Nat → Prop} {M2 : World → (Nat → Prop) → Prop} {gr kr : Nat} {lr : Kept} {latest : Int} (h : Net w0 W X (fun W P => RcvM W P gr kr lr latest) M2) :
    Calls Try.prog 19 #[.pointer (some ⟨gr, 0, none⟩)] W fun e w' => e = .returned (.int .i64 latest) ∧ W = w' := by
  obtain ⟨⟨P, R, h1, _⟩, _⟩ := h
  exact latest_any gr P kr lr latest W h1
set_option maxHeartbeats 40000000 in
theorem lives_any (w : World) : Calls Try.prog 16 #[] w fun e w' => e = .returned (.bool true) ∧ Below w.heap.size w w' := by
  have va : IsV [(1, 5)] := isV1 (by omega) (by omega)
  have vb : IsV [(1, 6), (2, 7)] := ⟨by simp, by simp⟩
  go_enter Try.func16, Try.ntmps16
  go_wp2_with fail
  refine (news_any 4 w).mono ?_
  rintro e w1 ⟨gs, rfl, _, hm1, hb1⟩
  go_wp2_with fail
  refine (newr_any 4 w1).mono ?_
  rintro e w2 ⟨gr, rfl, _, hm2, hb2⟩
  have HN := Lib.hid (net_new2 (M2 := fun W P => RcvM W P gr 4 [] (-1)) (stabS gs 4 [] (-1) []) hm1 hb1 hm2 hb2)
  clear hm1 hb1 hm2 hb2
  go_wp2_with fail
  -- the first view
  obtain ⟨w3, hw3⟩ : ∃ w3, w3 = w2.alloc (.cells #[.int .i64 1, .int .i64 5] 48) := ⟨_, rfl⟩
  have hb3 : Below w2.heap.size w2 w3 := by rw [hw3]; exact (Below.refl _ _).alloc (Nat.le_refl _) _
  have hv3 : SlP w3 w3.heap.size (some ⟨w2.heap.size, 0, none⟩) 1 1 [(1, 5)] := by rw [hw3, World.size_alloc]; exact one_slP w2 1 5
  have hz3 : w3.heap.size = w2.heap.size + 1 := by rw [hw3, World.size_alloc]
  rw [← hw3]
  have hn3 := HN.out.more (X' := fun k => k = w2.heap.size) (stabS gs 4 [] (-1) []) (stabR gr 4 [] (-1)) hb3 (fun k hk => .inr ⟨by omega, by omega⟩)
  refine (net_send hn3 (stabR gr 4 [] (-1)) (SOk.nil 4 (-1)) 3 (by omega) (by omega) (by omega) (by omega) (by omega) (by simp) _ 1 1 [(1, 5)] hv3 (fun bv off e => .inl (by injection e with e; injection e with e; exact e.symm)) va (by omega)).mono ?_
  rintro e w4 ⟨A4, m4, c4, rfl, ho4, hn4, _⟩
  have HN4 := Lib.hid hn4
  have HO4 := Lib.hid ho4
  clear hn3 hn4 ho4 hw3 hb3 hv3 hz3 HN
  go_wp2_with fail
  refine (net_latest HN4.out.swap).mono ?_
  rintro e w5 ⟨rfl, rfl⟩
  go_wp2_with fail
  refine (net_recv HN4.out.swap (stabS gs 4 _ _ _) List.Pairwise.nil 3 0 (fun p hp => by cases hp) (by omega) (by omega) (by omega) (by simp) (by omega) (by omega) [] [(1, 5)] IsV.nil va (by simp) (by simp) (pktI [] [] 3 [(1, 5)]) rfl (pkt_len (SOk.nil 4 (-1)) (by omega) (by omega) va (by simp)) A4 m4 c4 HO4.out true (fun _ => ⟨rfl, fun h => absurd h (by omega)⟩) (fun h => by cases h)).mono ?_
  rintro e w6 ⟨rfl, hn6, _⟩
  have HN6 : Hid (Net w w6 (fun k => k = w2.heap.size) (fun W P => SndM W P gs 4 [(3, [(1, 5)])] 3 []) fun W P => RcvM W P gr 4 [(3, [(1, 5)])] 3) := Lib.hid hn6.swap
  clear hn6 HN4 HO4
  have hs1 : SOk 4 [(3, [(1, 5)])] 3 [] := (SOk.nil 4 (-1)).send (t := 3) (by omega) (by omega) va (by simp)
  have hs2 : SOk 4 [(3, [(1, 5)])] 3 [3] := hs1.ackd 3
  have HS1 := Lib.hid hs1
  have HS2 := Lib.hid hs2
  clear hs1 hs2
  go_wp2_with fail
  refine (net_ack HN6.out (stabR gr 4 _ _) HS1.out 3 (by omega) (by omega) (by simp)).mono ?_
  rintro e w7 ⟨rfl, hn7, _⟩
  have HN7 : Hid (Net w w7 (fun k => k = w2.heap.size) (fun W P => SndM W P gs 4 [(3, [(1, 5)])] 3 [3]) fun W P => RcvM W P gr 4 [(3, [(1, 5)])] 3) := Lib.hid hn7
  clear hn7 HN6
  go_wp2_with fail
  obtain ⟨w8, hw8⟩ : ∃ w8, w8 = w7.alloc (.cells #[.int .i64 1, .int .i64 6, .int .i64 2, .int .i64 7] 48) := ⟨_, rfl⟩
  have hb8 : Below w7.heap.size w7 w8 := by rw [hw8]; exact (Below.refl _ _).alloc (Nat.le_refl _) _
  have hz8 : w8.heap.size = w7.heap.size + 1 := by rw [hw8, World.size_alloc]
  have hv8 : SlP w8 w8.heap.size (some ⟨w7.heap.size, 0, none⟩) 2 2 [(1, 6), (2, 7)] := by rw [hw8, World.size_alloc]; exact ⟨rfl, Nat.le_refl _, by simp [maxLen], (fun h => by cases h), pairs2_rd w7 1 6 2 7⟩
  rw [← hw8]
  have hn8 := HN7.out.more (X' := fun k => k = w7.heap.size) (stabS gs 4 _ _ _) (stabR gr 4 _ _) hb8 (fun k hk => .inr ⟨by omega, by omega⟩)
  refine (net_send hn8 (stabR gr 4 _ _) HS2.out 4 (by omega) (by omega) (by omega) (by omega) (by omega) (by simp) _ 2 2 [(1, 6), (2, 7)] hv8 (fun bv off e => .inl (by injection e with e; injection e with e; exact e.symm)) vb (by omega)).mono ?_
  rintro e w9 ⟨A9, m9, c9, rfl, ho9, hn9, _⟩
  have HN9 : Hid (Net w w9 (fun k => k = w7.heap.size) (fun W P => SndM W P gs 4 [(3, [(1, 5)]), (4, [(1, 6), (2, 7)])] 4 [3]) fun W P => RcvM W P gr 4 [(3, [(1, 5)])] 3) := Lib.hid hn9
  have HO9 := Lib.hid ho9
  clear hn8 hn9 ho9 hw8 hb8 hv8 hz8 HN7
  go_wp2_with fail
  have hpl := pkt_len HS2.out (by omega) (t := 4) (by omega) vb (by simp)
  refine (net_recv HN9.out.swap (stabS gs 4 _ _ _) HS1.out.up 4 4 (fun p hp => by simp at hp; subst hp; simp) (by omega) (by omega) (by omega) (by simp) (by omega) (by omega) [(1, 5)] [(1, 6), (2, 7)] va vb (by simp) (by simp) (pktI [(3, [(1, 5)])] [3] 4 [(1, 6), (2, 7)]) rfl hpl A9 m9 c9 HO9.out true (fun _ => ⟨rfl, fun _ => rfl⟩) (fun h => by cases h)).mono ?_
  rintro e w10 ⟨rfl, hn10, _⟩
  have HN10 : Hid (Net w w10 (fun k => k = w7.heap.size) (fun W P => RcvM W P gr 4 [(3, [(1, 5)]), (4, [(1, 6), (2, 7)])] 4) fun W P => SndM W P gs 4 [(3, [(1, 5)]), (4, [(1, 6), (2, 7)])] 4 [3]) := Lib.hid hn10
  have HU : Hid (UpK [(3, [(1, 5)]), (4, [(1, 6), (2, 7)])]) := Lib.hid (by simp [UpK])
  clear hn10 hpl HN9 HO9
  go_wp2_with fail
  refine (net_view HN10.out (stabS gs 4 _ _ _) HU.out 4 (by omega) (fun p hp => by simp at hp; rcases hp with rfl | rfl <;> simp) (some [(1, 6), (2, 7)]) rfl 2 rfl true rfl).mono ?_
  rintro e w11 ⟨A11, c11, rfl, hs11, _, hn11, _⟩
  have HN11 := Lib.hid hn11
  have HS11 := Lib.hid hs11
  clear hn11 hs11 HN10
  go_wp2_with fail
  refine (net_view HN11.out (stabS gs 4 _ _ _) HU.out 5 (by omega) (fun p hp => by simp at hp; rcases hp with rfl | rfl <;> simp) none rfl 0 rfl false rfl).mono ?_
  rintro e w12 ⟨A12, c12, rfl, _, hb12, hn12, _⟩
  have HN12 := Lib.hid hn12
  have HS12 := Lib.hid (HS11.out.below hb12 hb12.size)
  clear hn12 hb12 HN11 HS11
  go_wp2_with fail
  have hsm : ∃ R, SndM w12 R gs 4 [(3, [(1, 5)]), (4, [(1, 6), (2, 7)])] 4 [3] := by
    obtain ⟨⟨P, R, _, h2, _⟩, _⟩ := HN12.out
    exact ⟨R, h2⟩
  obtain ⟨R, hsm⟩ := hsm
  refine (send_err gs 4 R _ 4 _ 4 none 0 0 w12 hsm (by omega)).mono ?_
  rintro e w13 ⟨rfl, rfl⟩
  clear hsm
  go_wp2_with fail
  obtain ⟨w14, hw14⟩ : ∃ w14, w14 = w12.alloc (.cells #[.int .i64 1, .int .i64 6, .int .i64 2, .int .i64 7] 48) := ⟨_, rfl⟩
  have hb14 : Below w12.heap.size w12 w14 := by rw [hw14]; exact (Below.refl _ _).alloc (Nat.le_refl _) _
  have hr14 : RdP w14 (w12.heap.size + 1) (some ⟨w12.heap.size, 0, none⟩) [(1, 6), (2, 7)] := by rw [hw14]; exact pairs2_rd w12 1 6 2 7
  have hz14 : w14.heap.size = w12.heap.size + 1 := by rw [hw14, World.size_alloc]
  rw [← hw14]
  refine (req_any A11 2 c11 [(1, 6), (2, 7)] (some ⟨w12.heap.size, 0, none⟩) 2 2 [(1, 6), (2, 7)] true _ _ w14 rfl rfl (HS12.out.below hb14 hb14.size).rd hr14 (by omega) (by omega) (by simp) (Nat.le_refl _) (by omega)).mono ?_
  rintro e w15 ⟨rfl, hb15⟩
  have HN15 := Lib.hid ((HN12.out.more (X' := fun _ => False) (stabR gr 4 _ _) (stabS gs 4 _ _ _) hb14 (fun k hk => hk.elim)).more (X' := fun _ => False) (stabR gr 4 _ _) (stabS gs 4 _ _ _) hb15 (fun k hk => hk.elim))
  clear hb15 hb14 hr14 hz14 hw14 HN12 HS12
  go_wp2_with fail
  refine (net_latest HN15.out).mono ?_
  rintro e w16 ⟨rfl, rfl⟩
  have HB := Lib.hid HN15.out.bel
  clear HN15
  go_wp2
  go_ret
  exact ⟨rfl, HB.out⟩
end Go.Proofs.Ytcniepogobgaoaa
