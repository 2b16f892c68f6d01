/-
  Package feed's laws: two parties in memory, side by side; Send, Receive, Ack, View between them.
-/
import Derived.Test.YtcniepogobgaoaaFd7
import Derived.Test.YtcniepogobgaoaaFd8
namespace Go.Proofs.Ytcniepogobgaoaa
set_option linter.unusedVariables false
set_option linter.unusedSimpArgs false
set_option maxRecDepth 4000
open Go.RowKit Go.Maps Go.Sort Go.Shelf

theorem ViewM.restrict {W : World} {P : Nat → Prop} {u : Value} {v : Vw} (h : ViewM W P u v) : ViewM W (fun k => P k ∧ k < W.heap.size) u v :=
  ⟨h.1, h.2.1, fun r hr => ⟨h.2.2 r hr, (h.2.1.rowLt_ r hr).2.1⟩⟩
theorem StM.restrict {W : World} {P : Nat → Prop} {b : Nat} {l : Kept} (h : StM W P b l) : StM W (fun k => P k ∧ k < W.heap.size) b l := by
  obtain ⟨h0, D, f, h1, h2, h3, h4, h5⟩ := h
  refine ⟨⟨h0, h1.lt⟩, D, f, h1, h2, h3, fun i u hu => ?_, fun i v hv => ?_⟩
  · obtain ⟨v, k1, k2⟩ := h4 i u hu; exact ⟨v, k1, k2.restrict⟩
  · obtain ⟨u, k1, k2⟩ := h5 i v hv; exact ⟨u, k1, k2.restrict⟩
theorem SndM.restrict {W : World} {P : Nat → Prop} {g keep : Nat} {l : Kept} {last : Int} {acked : List Int} (h : SndM W P g keep l last acked) : SndM W (fun k => P k ∧ k < W.heap.size) g keep l last acked := by
  obtain ⟨h0, b, A, c, h1, h2, h3⟩ := h
  exact ⟨⟨h0, h1.lt⟩, b, A, c, h1, h2.restrict, h3.1, fun r hr => ⟨h3.2 r hr, (own_rowLt h3.1 r hr).2.1⟩⟩
theorem RcvM.restrict {W : World} {P : Nat → Prop} {g keep : Nat} {l : Kept} {latest : Int} (h : RcvM W P g keep l latest) : RcvM W (fun k => P k ∧ k < W.heap.size) g keep l latest := by
  obtain ⟨h0, b, h1, h2⟩ := h
  exact ⟨⟨h0, h1.lt⟩, b, h1, h2.restrict⟩
/-- A party: it lies in blocks, and stays while others are written. -/
structure Stab (M : World → (Nat → Prop) → Prop) : Prop where
  frm : ∀ (W W' : World) (P S : Nat → Prop), M W P → Frm S W W' → (∀ k, S k → ¬ P k) → M W' P
  res : ∀ (W : World) (P : Nat → Prop), M W P → M W (fun k => P k ∧ k < W.heap.size)
theorem stabS (g keep : Nat) (l : Kept) (last : Int) (acked : List Int) : Stab fun W P => SndM W P g keep l last acked :=
  ⟨fun _ _ _ _ h hf hS => h.frmP hf hS, fun _ _ h => h.restrict⟩
theorem stabR (g keep : Nat) (l : Kept) (latest : Int) : Stab fun W P => RcvM W P g keep l latest :=
  ⟨fun _ _ _ _ h hf hS => h.frmP hf hS, fun _ _ h => h.restrict⟩
theorem stabT : Stab fun _ _ => True := ⟨fun _ _ _ _ _ _ _ => trivial, fun _ _ _ => trivial⟩
/-- Two parties side by side, in blocks that are neither of the world w0 nor of X. -/
structure Net (w0 W : World) (X : Nat → Prop) (M1 M2 : World → (Nat → Prop) → Prop) : Prop where
  ex : ∃ P R : Nat → Prop, M1 W P ∧ M2 W R ∧ (∀ k, P k → w0.heap.size ≤ k ∧ k < W.heap.size ∧ ¬ X k ∧ ¬ R k) ∧ (∀ k, R k → w0.heap.size ≤ k ∧ k < W.heap.size ∧ ¬ X k)
  bel : Below w0.heap.size w0 W
  xlt : ∀ k, X k → k < W.heap.size
/-- The blocks of X stay. -/
def KeepX (X : Nat → Prop) (W W' : World) : Prop := W.heap.size ≤ W'.heap.size ∧ ∀ k, X k → W'.heap[k]? = W.heap[k]?
theorem KeepX.trans {X : Nat → Prop} {a b c : World} (h : KeepX X a b) (h' : KeepX X b c) : KeepX X a c := ⟨Nat.le_trans h.1 h'.1, fun k hk => (h'.2 k hk).trans (h.2 k hk)⟩
theorem Net.swap {w0 W : World} {X : Nat → Prop} {M1 M2 : World → (Nat → Prop) → Prop} (h : Net w0 W X M1 M2) : Net w0 W X M2 M1 := by
  obtain ⟨⟨P, R, h1, h2, h3, h4⟩, h5, h6⟩ := h
  exact ⟨⟨R, P, h2, h1, fun k hk => ⟨(h4 k hk).1, (h4 k hk).2.1, (h4 k hk).2.2, fun hp => (h3 k hp).2.2.2 hk⟩, fun k hk => ⟨(h3 k hk).1, (h3 k hk).2.1, (h3 k hk).2.2.1⟩⟩, h5, h6⟩
/-- Something new is made: it may be counted to X. -/
theorem Net.more {w0 W W' : World} {X X' : Nat → Prop} {M1 M2 : World → (Nat → Prop) → Prop} (h : Net w0 W X M1 M2) (s1 : Stab M1) (s2 : Stab M2) (hb : Below W.heap.size W W') (hX : ∀ k, X' k → X k ∨ (W.heap.size ≤ k ∧ k < W'.heap.size)) : Net w0 W' X' M1 M2 := by
  obtain ⟨⟨P, R, h1, h2, h3, h4⟩, h5, h6⟩ := h
  have hf := frm_of_below hb
  have hz := hb.size
  refine ⟨⟨P, R, s1.frm _ _ _ _ h1 hf (fun _ h => h.elim), s2.frm _ _ _ _ h2 hf (fun _ h => h.elim), fun k hk => ?_, fun k hk => ?_⟩, h5.trans (hb.mono h5.size), fun k hk => ?_⟩
  · obtain ⟨a, b, c, d⟩ := h3 k hk
    exact ⟨a, by omega, fun hx => (hX k hx).elim c (fun h => by omega), d⟩
  · obtain ⟨a, b, c⟩ := h4 k hk
    exact ⟨a, by omega, fun hx => (hX k hx).elim c (fun h => by omega)⟩
  · rcases hX k hk with h | h
    · have := h6 k h; omega
    · exact h.2
/-- The first party does something. -/
theorem Net.step {w0 W W' : World} {X : Nat → Prop} {M1 M1' M2 : World → (Nat → Prop) → Prop} {P R : Nat → Prop} (s1 : Stab M1') (s2 : Stab M2) (h2 : M2 W R) (h3 : ∀ k, P k → w0.heap.size ≤ k ∧ k < W.heap.size ∧ ¬ X k ∧ ¬ R k) (h4 : ∀ k, R k → w0.heap.size ≤ k ∧ k < W.heap.size ∧ ¬ X k) (hb : Below w0.heap.size w0 W) (hx : ∀ k, X k → k < W.heap.size)
    (hm : M1' W' (fun k => P k ∨ W.heap.size ≤ k)) (hf : Frm P W W') : Net w0 W' X M1' M2 ∧ KeepX X W W' := by
  have hz := hf.size
  refine ⟨⟨⟨_, R, s1.res _ _ hm, s2.frm _ _ _ _ h2 hf (fun k hk => (h3 k hk).2.2.2), fun k hk => ?_, fun k hk => ?_⟩, hb.trans (hf.below hb.size (fun k hk => (h3 k hk).1)), fun k hk => by have := hx k hk; omega⟩, hz, fun k hk => hf.block k (hx k hk) (fun hp => (h3 k hp).2.2.1 hk)⟩
  · obtain ⟨h | h, hlt⟩ := hk
    · obtain ⟨a, b, c, d⟩ := h3 k h
      exact ⟨a, hlt, c, d⟩
    · have hbs := hb.size
      exact ⟨by omega, hlt, fun hxx => by have := hx k hxx; omega, fun hr => by have := (h4 k hr).2.1; omega⟩
  · obtain ⟨a, b, c⟩ := h4 k hk
    exact ⟨a, by omega, c⟩
theorem SlP.keepX {W W' : World} {A : Option Addr} {n c : Nat} {v : Vw} {X : Nat → Prop} (h : SlP W W.heap.size A n c v) (hk : KeepX X W W') (hA : ∀ bv off, A = some ⟨bv, off, Option.none⟩ → X bv) : SlP W' W'.heap.size A n c v := by
  refine ⟨h.len, h.cap, h.capmax, h.nil, fun hn => ?_⟩
  obtain ⟨bv, off, e, hb, hc⟩ := h.rd hn
  have hcell : ∀ i, W'.cell? ⟨bv, i, Option.none⟩ = W.cell? ⟨bv, i, Option.none⟩ := fun i => by
    have := hk.2 bv (hA bv off e)
    unfold World.cell?
    rw [this]
  exact ⟨bv, off, e, Nat.lt_of_lt_of_le hb hk.1, fun i hi => ⟨(hcell _).trans (hc i hi).1, (hcell _).trans (hc i hi).2⟩⟩

/-! ### Plain: what a sender knows -/
structure SOk (keep : Nat) (l : Kept) (last : Int) (acked : List Int) : Prop where
  up : UpK l
  bd : ∀ p ∈ l, 0 ≤ p.1 ∧ p.1 ≤ last
  vw : ∀ p ∈ l, IsV p.2 ∧ p.2.length ≤ 100
  len : l.length ≤ keep
  ack : ∀ z ∈ acked, 0 ≤ z ∧ z ≤ last
theorem SOk.nil (keep : Nat) (last : Int) : SOk keep [] last [] := ⟨List.Pairwise.nil, (fun p hp => by cases hp), (fun p hp => by cases hp), Nat.zero_le _, (fun z hz => by cases hz)⟩
theorem putL_len {k : Nat} {l : Kept} {t : Int} {v : Vw} (h : l.length ≤ k) : (putL k l t v).length ≤ k := by
  unfold putL
  split
  · simp; omega
  · simp; omega
theorem SOk.send {keep : Nat} {l : Kept} {last : Int} {acked : List Int} (h : SOk keep l last acked) {t : Int} (ht : last < t) (ht0 : 0 ≤ t) {v : Vw} (hv : IsV v) (hvl : v.length ≤ 100) : SOk keep (putL keep l t v) t acked := by
  refine ⟨h.up.putL (fun p hp => by have := (h.bd p hp).2; omega), fun p hp => ?_, fun p hp => ?_, putL_len h.len, fun z hz => ?_⟩
  · rcases putL_mem hp with rfl | hp
    · exact ⟨ht0, Int.le_refl _⟩
    · have := h.bd p hp; omega
  · rcases putL_mem hp with rfl | hp
    · exact ⟨hv, hvl⟩
    · exact h.vw p hp
  · have := h.ack z hz; omega
theorem SOk.ackd {keep : Nat} {l : Kept} {last : Int} {acked : List Int} (h : SOk keep l last acked) (t : Int) : SOk keep l last (ackL l acked t) := by
  refine ⟨h.up, h.bd, h.vw, h.len, fun z hz => ?_⟩
  unfold ackL at hz
  rcases List.mem_append.1 hz with hz | hz
  · exact h.ack z (List.mem_filter.1 hz).1
  · split at hz
    · rename_i hs
      rw [List.mem_singleton] at hz
      subst hz
      obtain ⟨v, hv⟩ := Option.isSome_iff_exists.1 hs
      exact h.bd _ (findK_mem hv)
    · cases hz
theorem ackL_len (l : Kept) (acked : List Int) (t : Int) : (ackL l acked t).length ≤ acked.length + 1 := by
  unfold ackL
  rw [List.length_append]
  have := List.length_filter_le (fun x => !pdA l t x) acked
  split <;> simp <;> omega
theorem SOk.base {keep : Nat} {l : Kept} {last : Int} {acked : List Int} (h : SOk keep l last acked) : (baseN l acked : Int) ≤ last + 1 ∨ baseN l acked = 0 := by
  rcases Nat.eq_zero_or_pos (baseN l acked) with h0 | h0
  · exact .inr h0
  · obtain ⟨v, h1, h2⟩ := baseN_kept (fun z hz => (h.ack z hz).1) h0
    have := h.bd _ (findK_mem h1)
    exact .inl (by simp only [] at this; omega)
theorem SOk.old {keep : Nat} {l : Kept} {last : Int} {acked : List Int} (h : SOk keep l last acked) (i : Int) : IsV ((findK l i).getD []) ∧ ((findK l i).getD []).length ≤ 100 := by
  cases hf : findK l i with
  | none => exact ⟨IsV.nil, by simp⟩
  | some v => exact h.vw _ (findK_mem hf)
theorem pkt_len {keep : Nat} {l : Kept} {last : Int} {acked : List Int} (h : SOk keep l last acked) (hl : last ≤ 100000) {t : Nat} (ht : t ≤ 100000) {v : Vw} (hv : IsV v) (hvl : v.length ≤ 100) : (pktI l acked t v).length ≤ 4000 := by
  obtain ⟨h1, h2⟩ := h.old ((baseN l acked : Int) - 1)
  have h3 := dif_len h1 hv (by omega) (by omega)
  have h4 := enc_len10' (n := t) (by omega)
  have h5 := enc_len10' (n := baseN l acked) (by rcases h.base with hb | hb <;> omega)
  unfold pktI
  rw [List.length_append, List.length_append]
  omega

/-! ### The parties' calls -/
theorem net_send {w0 W : World} {X : Nat → Prop} {M2 : World → (Nat → Prop) → Prop} {gs ks : Nat} {ls : Kept} {last : Int} {acked : List Int} (h : Net w0 W X (fun W P => SndM W P gs ks ls last acked) M2) (s2 : Stab M2) (hs : SOk ks ls last acked) (t : Nat) (hlast : last < (t : Int)) (ht : t ≤ 7000) (hk1 : 1 ≤ ks) (hk2 : ks ≤ 1000) (hl7 : last ≤ 100000) (hackn : acked.length < 100000)
    (A : Option Addr) (n c : Nat) (v : Vw) (hv : SlP W W.heap.size A n c v) (hA : ∀ bv off, A = some ⟨bv, off, none⟩ → X bv ∨ bv < w0.heap.size) (hvv : IsV v) (hn : n ≤ 100) :
    Calls Try.prog 12 #[.pointer (some ⟨gs, 0, none⟩), .int .i64 (t : Int), .slice A n c] W fun e w' => ∃ A' m c', e = .returned (.tuple #[.slice A' m c', .int .i64 0]) ∧ OwnU 5 w' W.heap.size (.slice A' m c') (rcPack (toN (pktI ls acked t v))) ∧
      Net w0 w' X (fun W P => SndM W P gs ks (putL ks ls (t : Int) v) (t : Int) acked) M2 ∧ KeepX X W w' := by
  obtain ⟨⟨P, R, h1, h2, h3, h4⟩, h5, h6⟩ := h
  have hvl : v.length ≤ 100 := by have := hv.len; omega
  refine (send_any gs ks P ls last acked t v A n c W h1 hs.up hs.bd hlast (by omega) hk1 hs.len hk2 (fun z hz => by have := hs.ack z hz; omega) hackn hv (fun bv off e hp => ?_) hvv hn hs.vw (pkt_len hs (by omega) (by omega) hvv hvl)).mono ?_
  · rcases hA bv off e with hx | hx
    · exact (h3 bv hp).2.2.1 hx
    · have := (h3 bv hp).1; omega
  · rintro e w' ⟨A', m, c', rfl, ho, hm, hf⟩
    obtain ⟨k1, k2⟩ := Net.step (M1 := fun W P => SndM W P gs ks ls last acked) (stabS gs ks _ _ _) s2 h2 h3 h4 h5 h6 hm hf
    exact ⟨A', m, c', rfl, ho, k1, k2⟩
theorem net_ack {w0 W : World} {X : Nat → Prop} {M2 : World → (Nat → Prop) → Prop} {gs ks : Nat} {ls : Kept} {last : Int} {acked : List Int} (h : Net w0 W X (fun W P => SndM W P gs ks ls last acked) M2) (s2 : Stab M2) (hs : SOk ks ls last acked) (t : Int) (ht : 0 ≤ t ∧ t ≤ 100000) (hl7 : last ≤ 100000) (hackn : acked.length < 100000) :
    Calls Try.prog 15 #[.pointer (some ⟨gs, 0, none⟩), .int .i64 t] W fun e w' => e = .returned (.tuple #[]) ∧ Net w0 w' X (fun W P => SndM W P gs ks ls last (ackL ls acked t)) M2 ∧ KeepX X W w' := by
  obtain ⟨⟨P, R, h1, h2, h3, h4⟩, h5, h6⟩ := h
  refine (ack_any gs ks P ls last acked t W h1 hs.up (by omega) (fun z hz => by have := hs.ack z hz; omega) hackn).mono ?_
  rintro e w' ⟨rfl, hm, hf⟩
  obtain ⟨k1, k2⟩ := Net.step (M1 := fun W P => SndM W P gs ks ls last acked) (stabS gs ks _ _ _) s2 h2 h3 h4 h5 h6 hm hf
  exact ⟨rfl, k1, k2⟩
theorem net_recv {w0 W : World} {X : Nat → Prop} {M2 : World → (Nat → Prop) → Prop} {gr kr : Nat} {lr : Kept} {latest : Int} (h : Net w0 W X (fun W P => RcvM W P gr kr lr latest) M2) (s2 : Stab M2) (hu : UpK lr) (t bn : Nat) (hl0 : ∀ p ∈ lr, 0 ≤ p.1 ∧ p.1 < (t : Int)) (ht : t ≤ 6000) (hbt : bn ≤ t) (hk1 : 1 ≤ kr) (hlk : lr.length ≤ kr) (hk2 : kr ≤ 1000) (hla : -1 ≤ latest ∧ latest ≤ 100000)
    (old v : Vw) (hvo : IsV old) (hvv : IsV v) (hol : old.length ≤ 100) (hvl : v.length ≤ 100) (pk : List Int) (hpk : pk = enc t ++ enc bn ++ difD old v) (hlen : pk.length ≤ 4000) (A : Option Addr) (m c : Nat) {B : Nat} (ho : OwnU 5 W B (.slice A m c) (rcPack (toN pk)))
    (ok : Bool) (hok : ok = true → (findK lr ((bn : Int) - 1)).getD [] = old ∧ (0 < bn → (findK lr ((bn : Int) - 1)).isSome = true)) (hst : ok = false → 0 < bn ∧ (findK lr ((bn : Int) - 1)).isSome = false) :
    Calls Try.prog 13 #[.pointer (some ⟨gr, 0, none⟩), .slice A m c] W fun e w' => e = .returned (.tuple #[.int .i64 (if ok = true then (t : Int) else 0), .int .i64 (if ok = true then 0 else 24)]) ∧
      Net w0 w' X (fun W P => RcvM W P gr kr (if ok = true then putL kr lr (t : Int) v else lr) (if ok = true then max latest (t : Int) else latest)) M2 ∧ KeepX X W w' := by
  obtain ⟨⟨P, R, h1, h2, h3, h4⟩, h5, h6⟩ := h
  have hl := ho.len
  have hp0 : 0 < (rcPack (toN pk)).length := by
    unfold rcPack
    rw [List.length_append]
    have := List.length_pos_iff.2 (enc_ne (toN pk).length)
    omega
  obtain ⟨g, hg, _, _, _, _⟩ := ho.open_ (by omega)
  subst hg
  refine (recv_any gr kr P lr latest t bn old v g 0 m c W h1 hu hl0 ht hbt hk1 hlk hk2 hla hvo hvv hol hvl pk hpk hlen ho.rd hl ho.cap.1 ok hok hst).mono ?_
  rintro e w' ⟨rfl, hm, hf⟩
  obtain ⟨k1, k2⟩ := Net.step (M1 := fun W P => RcvM W P gr kr lr latest) (stabR gr kr _ _) s2 h2 h3 h4 h5 h6 hm hf
  exact ⟨rfl, k1, k2⟩
end Go.Proofs.Ytcniepogobgaoaa
