/-
  Package snapshot's laws: SnapshotPrefix, walked.
-/
import Derived.Test.YtfnoeolngdhjfaaSnL1
namespace Go.Proofs.Ytfnoeolngdhjfaa
set_option linter.unusedVariables false
set_option linter.unusedSimpArgs false
set_option maxRecDepth 4000
open Go.RowKit

theorem SlU.take {w : World} {B n c : Nat} {A : Option Addr} {zs : List Int} (h : SlU w B A n c zs) {k : Nat} (hk : k ≤ n) : SlU w B A k c (zs.take k) :=
  ⟨by rw [List.length_take]; have := h.len; omega, by have := h.cap; omega, h.capmax, h.nil, h.rd.take k⟩
theorem OwnU.lit (w : World) (B : Nat) (hB : B ≤ w.heap.size) : OwnU 5 (w.alloc (.cells #[] 5)) B (.slice (some ⟨w.heap.size, 0, none⟩) 0 0) [] :=
  ⟨rfl, .inr ⟨w.heap.size, 0, #[], rfl, hB, heap_alloc_new w _, Nat.le_refl _, by simp [maxLen], by simp, rfl⟩⟩
/-- Apply where it fails. -/
theorem apply_err (A1 : Option Addr) (n1 c1 : Nat) (a : Vw) (A2 : Option Addr) (n2 c2 : Nat) (d : List Int) (w : World) (hs1 : SlP w w.heap.size A1 n1 c1 a) (hs2 : SlU w w.heap.size A2 n2 c2 d) (ha : IsV a) (hd : IsB d) (hal : a.length ≤ 100) (hdl : d.length ≤ 10000) (er : Int) (he : errA a d = er) (hne : er ≠ 0) :
    Calls Try.prog 17 #[.slice A1 n1 c1, .slice A2 n2 c2] w fun e w' => e = .returned (.tuple #[.slice none 0 0, .int .i64 er]) ∧ Below w.heap.size w w' := by
  have hl1 := hs1.len
  have hl2 := hs2.len
  refine (apply_any A1 n1 c1 a A2 n2 c2 d w hs1 hs2 (by omega) (by omega) ha hd).mono ?_
  rintro e w' ⟨hb1, ⟨_, rfl⟩ | ⟨h0, _⟩⟩
  · rw [he]; exact ⟨rfl, hb1⟩
  · rw [he] at h0; exact absurd h0 hne

set_option maxHeartbeats 4000000 in
theorem prefix_walk (A1 : Option Addr) (n1 c1 : Nat) (xs : List Int) (A2 : Option Addr) (n2 c2 : Nat) (ys : List Int) (cc : Int) (w : World) (h1 : In w A1 n1 xs) (h2 : In w A2 n2 ys) (hc0 : 0 ≤ cc) (hc1 : cc ≤ 255) :
    Calls Try.prog 6 #[.slice A1 n1 c1, .slice A2 n2 c2, .int .u8 cc] w fun e w' => e = .returned (.bool true) ∧ Below w.heap.size w w' := by
  obtain ⟨a, ha⟩ : ∃ a, a = mkCells xs := ⟨_, rfl⟩
  obtain ⟨b, hb⟩ : ∃ b, b = mkCells ys := ⟨_, rfl⟩
  have va : IsV a := by rw [ha]; exact mkCells_isV h1.bd
  have vb : IsV b := by rw [hb]; exact mkCells_isV h2.bd
  have la : a.length ≤ 12 := by rw [ha]; exact mkCells_len xs
  have lb : b.length ≤ 12 := by rw [hb]; exact mkCells_len ys
  obtain ⟨na, hna⟩ : ∃ n, a.length = n := ⟨_, rfl⟩
  obtain ⟨nb, hnb⟩ : ∃ n, b.length = n := ⟨_, rfl⟩
  have hdl := dif_len va vb (by omega) (by omega)
  have hdb := dif_isB a b
  have hsh : ∀ k, k < (difD a b).length → errA a ((difD a b).take k) = 7 := fun k hk => dif_short va vb (by omega) (by omega) hk
  have hmo := dif_more va vb (by omega) (by omega) cc
  obtain ⟨d, hd⟩ : ∃ d, difD a b = d := ⟨_, rfl⟩
  rw [hd] at hdl hdb hsh hmo
  obtain ⟨nd, hnd⟩ : ∃ n, d.length = n := ⟨_, rfl⟩
  rw [hnd] at hdl hsh
  have hnd1 : nd ≤ 1000 := by omega
  have H1 := Lib.hid h1
  have H2 := Lib.hid h2
  have HA := Lib.hid ha
  have HB := Lib.hid hb
  have HNA := Lib.hid hna
  have HNB := Lib.hid hnb
  have HD := Lib.hid hd
  have HND := Lib.hid hnd
  have HSH := Lib.hid hsh
  have HMO := Lib.hid hmo
  have HDB := Lib.hid hdb
  clear h1 h2 ha hb hna hnb hd hnd hsh hmo hdl hdb
  go_enter Try.func6, Try.ntmps6
  go_wp2_with fail
  refine (cells_sl A1 n1 c1 xs w H1.out.len H1.out.rd H1.out.bd H1.out.max a na HA.out HNA.out).mono ?_
  rintro e w1 ⟨Aa, ca, rfl, hs1, hb1⟩
  have S1 := Lib.hid hs1
  have B1 := Lib.hid hb1
  clear hs1 hb1
  go_wp2_with fail
  refine (cells_sl A2 n2 c2 ys w1 H2.out.len ((H2.out.rd.below B1.out (Nat.le_refl _)).more B1.out.size) H2.out.bd H2.out.max b nb HB.out HNB.out).mono ?_
  rintro e w2 ⟨Ab, cb, rfl, hs2, hb2⟩
  have SA := Lib.hid (S1.out.below hb2 hb2.size)
  have SB := Lib.hid hs2
  have B2 := Lib.hid (B1.out.trans (hb2.mono B1.out.size))
  clear hs2 hb2 S1 B1
  go_wp2_with fail
  refine (diff_sl Aa na ca a Ab nb cb b w2 SA.out SB.out va vb (by omega) (by omega) d nd HD.out HND.out).mono ?_
  rintro e w3 ⟨Ad, cd, rfl, hs3, hb3⟩
  have SA3 := Lib.hid (SA.out.below hb3 hb3.size)
  have S3 := Lib.hid hs3
  have B3 := Lib.hid (B2.out.trans (hb3.mono B2.out.size))
  have hcap := hs3.cap
  have hcmax := hs3.capmax
  unfold maxLen at hcmax
  have HNIL := Lib.hid hs3.nil
  clear hs3 hb3 SA SB B2
  go_wp2
  go_loopw [9] (fun i wr => ∃ k : Nat, k ≤ nd ∧ i = .int .i64 (k : Int) ∧ Below w3.heap.size w3 wr) (fun i _ => nd - (intOf i).toNat)
  case atStart => exact ⟨0, Nat.zero_le _, rfl, Below.refl _ _⟩
  case round =>
    obtain ⟨k, hk, rfl, hbr⟩ := hrel
    have hsz := hbr.size
    have SAr := Lib.hid (SA3.out.below hbr hsz)
    have S3r := Lib.hid (S3.out.below hbr hsz)
    have BR := Lib.hid hbr
    clear hbr
    by_cases hlt : k < nd
    · have HE := Lib.hid (HSH.out k hlt)
      have STK := Lib.hid (S3r.out.take hk)
      have HTB : Hid (IsB (d.take k)) := fun c hc => HDB.out c (List.mem_of_mem_take hc)
      have HTL : Hid ((d.take k).length ≤ 10000) := by show _ ≤ _; rw [List.length_take]; omega
      have hkc : k ≤ cd := by omega
      obtain ⟨ad, had⟩ : ∃ ad, Ad = some ad := by
        cases Ad with
        | none => have := HNIL.out rfl; omega
        | some ad => exact ⟨ad, rfl⟩
      subst had
      go_wp2_with fail
      refine (apply_err Aa na ca a _ k cd (d.take k) wr SAr.out STK.out va HTB.out (by omega) HTL.out 7 HE.out (by omega)).mono ?_
      rintro e w4 ⟨rfl, hb4⟩
      have B4 := Lib.hid (BR.out.trans (hb4.mono hsz))
      clear hb4
      go_wp2
      go_roundw
      case rel => exact ⟨k + 1, by omega, by go_num, B4.out⟩
      case measure => simp [intOf]; omega
    · obtain rfl : k = nd := by omega
      have hl0 : Hid (([] : List Int).length + k = k) := by show _ = _; simp
      have hl0' : ([] : List Int).length + k < 1000000000000 := by simp; omega
      have hS3a : Hid (∀ o, RdU (wr.alloc o) wr.heap.size Ad d) := fun o => S3r.out.rd.alloc (Nat.le_refl _) o
      have HMO' : Hid (errA a (d ++ [cc]) = 8) := HMO.out
      have hln2 : Hid (d.length + 1 = k + 1) := by show _ = _; rw [HND.out]
      have hln2' : d.length < 1000000000000 := by rw [HND.out]; omega
      have hal : Hid (∀ (w5 : World) A5 c5 (o : Obj), OwnU 5 w5 wr.heap.size (.slice A5 k c5) d → Below wr.heap.size (wr.alloc (.cells #[] 5)) w5 → OwnU 5 (w5.alloc o) wr.heap.size (.slice A5 k c5) d ∧ wr.heap.size ≤ (w5.alloc o).heap.size) := fun w5 A5 c5 o h hb => by
        refine ⟨h.alloc o, ?_⟩
        have := hb.size
        simp at this ⊢; omega
      go_wp2_with (first
        | (at_builtin; refine wpl_appendsU rfl (.tmp 38) (.tmp 39) 26 rfl 5 Try.underlying26 u8_info wr.heap.size _ [] d rfl (OwnU.lit wr wr.heap.size (Nat.le_refl _)) Ad k cd _ k hl0.out rfl HND.out (hS3a.out _) HNIL.out hl0' (by simp) ?_; intro A5 c5 w5 ho5 hg5 hb5)
        | (at_builtin; (refine wpl_append1U rfl (.tmp 40) (.tmp 42) 26 rfl 5 Try.underlying26 u8_info wr.heap.size _ d rfl (hal.out w5 A5 c5 _ ho5.out hb5).1 ⟨w5.heap.size, 0, none⟩ 1 cc (k + 1) hln2.out rfl (u8_one _ _) hln2' (hal.out w5 A5 c5 _ ho5.out hb5).2 ?_; intro A6 c6 w6 ho6 hb6)))
      have hb6w : Below wr.heap.size wr w6 := ((((Below.refl _ _).alloc (Nat.le_refl _) _).trans hb5).alloc (by have := hb5.size; simp at this; omega) _).trans hb6
      have S6 := Lib.hid (SAr.out.below hb6w hb6w.size)
      have B6 := Lib.hid (BR.out.trans (hb6w.mono hsz))
      have HE6 : Hid (errA a (d ++ [cc]) = 8) := HMO.out
      have SU6 := Lib.hid ho6.out.slU
      have HB6 : Hid (IsB (d ++ [cc])) := fun c hc => by
        rcases List.mem_append.1 hc with h | h
        · exact HDB.out c h
        · rw [List.mem_singleton] at h; subst h; omega
      have HL6 : Hid ((d ++ [cc]).length ≤ 10000) := by show _ ≤ _; rw [List.length_append, HND.out]; simp; omega
      clear ho5 hg5 hb5 ho6 hb6 hb6w
      refine (apply_err Aa na ca a _ (k + 1) c6 (d ++ [cc]) w6 S6.out SU6.out va HB6.out (by omega) HL6.out 8 HE6.out (by omega)).mono ?_
      rintro e w7 ⟨rfl, hb7⟩
      have B7 := Lib.hid (B6.out.trans (hb7.mono B6.out.size))
      clear hb7
      go_wp2_with fail
      refine (lives_any w7).mono ?_
      rintro e w8 ⟨rfl, hb8⟩
      have B8 := Lib.hid (B7.out.trans (hb8.mono B7.out.size))
      clear hb8
      go_wp2
      go_ret
      exact ⟨rfl, B3.out.trans (B8.out.mono B3.out.size)⟩
end Go.Proofs.Ytfnoeolngdhjfaa
