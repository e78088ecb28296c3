/- The walks of enough; tables in memory, and whether two are equal. -/
import Derived.Test.YtcpnkhiillgffaaReachJ
namespace Go.Proofs.Ytcpnkhiillgffaa
open Go.RowKit
attribute [local go_sem] bqOp bqAll bqUpon
attribute [local irreducible] wpQuiet wpBQ
set_option linter.unusedVariables false
theorem ifInt_any (n c : Nat) (ad : Option Addr) (b1 b2 : Nat) (X : Nat → Nat → Int) (B : Nat → Bool) (w : World) (hR : Rows 1 w (.slice ad n c) n X) (hn : n ≤ 9223372036854775807)
    (hf : ∀ i, i < n → ∀ w', Below w.heap.size w w' → Calls Try.prog 92 #[.int .i64 (X i 0), .pointer (some ⟨b1, 0, none⟩), .pointer (some ⟨b2, 0, none⟩)] w' fun e w'' => e = .returned (.bool (B i)) ∧ Below w'.heap.size w' w'') {r : Int} (hr : fstI B n = r) :
    Calls Try.prog 101 #[.slice ad n c, .func (.func 92) #[] #[.pointer (some ⟨b1, 0, none⟩), .pointer (some ⟨b2, 0, none⟩)]] w fun e w' => e = .returned (.int .i64 r) ∧ Below w.heap.size w w' := by
  have HR := Lib.hid hR
  have HF := Lib.hid hf
  have RR := Lib.hid hr
  clear hR hf hr
  go_enter Try.func101, Try.ntmps101
  go_wp2
  go_loopw [8] (fun i wr => ∃ k : Nat, k ≤ n ∧ i = .int .i64 k ∧ Below w.heap.size w wr ∧ ∀ m, m < k → B m = false) (fun i _ => n - (intOf i).toNat)
  case atStart => exact ⟨0, by omega, rfl, Below.refl _ _, fun m hm => by omega⟩
  case round =>
    obtain ⟨k, hk, rfl, hb, hall⟩ := hrel
    have ALL := Lib.hid hall
    clear hall
    by_cases hlt : k < n
    · obtain ⟨g, o, rfl, hc⟩ := HR.out.row hlt
      have c0 := cell_later hb (hc 0 (by omega))
      simp only [Nat.add_zero] at c0 
      simp only [Nat.mul_one] at c0
      clear hc
      obtain ⟨v, hv⟩ : ∃ v, B k = v := ⟨_, rfl⟩
      have F := Lib.hid (HF.out k hlt wr hb)
      rw [hv] at F
      have V := Lib.hid hv
      clear hv
      go_wp2_with fail
      (with_reducible refine F.out.mono ?_)
      rintro e w1 ⟨rfl, hb1⟩
      have hb2 := below_step hb hb1
      clear F hb1 c0
      cases v
      · go_wp2_with fail
        go_roundw
        case rel => exact ⟨k + 1, by omega, by go_num, hb2, fun m hm => by
          rcases Nat.lt_or_ge m k with h | h
          · exact ALL.out m h
          · obtain rfl : m = k := by omega
            exact V.out⟩
        case measure => simp [intOf]; omega
      · go_wp2_with fail
        go_returns
        exact ⟨ret_int (by rw [← RR.out]; exact (fstI_at hlt ALL.out V.out).symm), hb2⟩
    · obtain rfl : k = n := by omega
      go_wp2_with fail
      go_returns
      exact ⟨ret_int (by rw [← RR.out]; exact (fstI_none ALL.out).symm), hb⟩
theorem cfInt_any (n c : Nat) (ad : Option Addr) (b1 b2 : Nat) (X : Nat → Nat → Int) (B : Nat → Bool) (w : World) (hR : Rows 1 w (.slice ad n c) n X) (hn : n ≤ 9223372036854775807)
    (hf : ∀ i, i < n → ∀ w', Below w.heap.size w w' → Calls Try.prog 92 #[.int .i64 (X i 0), .pointer (some ⟨b1, 0, none⟩), .pointer (some ⟨b2, 0, none⟩)] w' fun e w'' => e = .returned (.bool (B i)) ∧ Below w'.heap.size w' w'') {r : Bool} (hr : anyN B n = r) :
    Calls Try.prog 91 #[.slice ad n c, .func (.func 92) #[] #[.pointer (some ⟨b1, 0, none⟩), .pointer (some ⟨b2, 0, none⟩)]] w fun e w' => e = .returned (.bool r) ∧ Below w.heap.size w w' := by
  obtain ⟨q, hq⟩ : ∃ q, fstI B n = q := ⟨_, rfl⟩
  have F := Lib.hid (fun w' hb => ifInt_any n c ad b1 b2 X B w' (hR.later hb) hn (fun i hi w'' hb' => hf i hi w'' (below_step hb hb')) hq)
  have hqr : decide (0 ≤ q) = r := by rw [← hq, fstI_any, hr]
  have Q := Lib.hid hqr
  clear hR hf hr hq hqr
  go_enter Try.func91, Try.ntmps91
  go_wp2_with fail
  (with_reducible refine (F.out _ (Below.refl _ _)).mono ?_)
  rintro e w1 ⟨rfl, hb1⟩
  go_wp2_with fail
  go_returns
  exact ⟨ret_bool Q.out, hb1⟩
theorem hEnough_any (nr cr m c3 : Nat) (adr ad3 : Option Addr) (R : Nat → Int) (Y : Nat → Nat → Int) (need : Int) (w : World) (hR : Rows 1 w (.slice adr nr cr) nr (fun i _ => R i)) (hY : Rows 1 w (.slice ad3 m c3) m Y) (hn : nr ≤ 9223372036854775807) (hn3 : m ≤ 9223372036854775807) (ha : ∀ i, i < m → 0 ≤ Y i 0 ∧ Y i 0 < (nr : Int)) {v : Bool} (hv : decide (EnoughOk m Y R need) = v) :
    Calls Try.prog 69 #[.slice adr nr cr, .slice ad3 m c3, .int .i64 need] w fun e w' => e = .returned (.bool v) ∧ Below w.heap.size w w' := by
  have HR := Lib.hid hR
  have HY := Lib.hid hY
  have HA := Lib.hid ha
  have HV := Lib.hid hv
  clear hR hY ha hv
  go_enter Try.func69, Try.ntmps69
  go_wp2_with fail
  refine calls_named fun W hW => ?_
  obtain ⟨p1, p2, hB⟩ := box2 hW
  clear hW
  obtain ⟨q, hq⟩ : ∃ q, anyN (fun i => decide (R (Y i 0).toNat < need)) m = q := ⟨_, rfl⟩
  have F := Lib.hid (cfInt_any m c3 ad3 w.heap.size (w.heap.size + 1) Y (fun i => decide (R (Y i 0).toNat < need)) W (HY.out.later hB) hn3 (fun i hi w' hb' => by
    obtain ⟨p, hp⟩ : ∃ p : Nat, Y i 0 = (p : Int) := ⟨(Y i 0).toNat, by have := HA.out i hi; omega⟩
    have hh := HA.out i hi
    rw [hp, Int.toNat_natCast]
    rw [hp] at hh
    exact hEnough1_any p nr cr 0 need adr R _ _ w' (HR.out.later (below_step hB hb')) (by omega) hn (block_later hb' p1) (block_later hb' p2) rfl) hq)
  have Q := Lib.hid hq
  clear hq p1 p2
  (with_reducible refine F.out.mono ?_)
  rintro e w1 ⟨rfl, hb1⟩
  clear F
  go_wp2_with fail
  go_returns
  refine ⟨ret_bool ?_, below_step hB hb1⟩
  rw [← HV.out, ← Q.out, Bool.eq_iff_iff, decide_eq_true_iff]
  unfold anyN EnoughOk
  simp
theorem q33enough_any (nr cr m c3 : Nat) (adr ad3 : Option Addr) (R : Nat → Int) (Y : Nat → Nat → Int) (need : Int) (w : World) (hR : Rows 1 w (.slice adr nr cr) nr (fun i _ => R i)) (hY : Rows 1 w (.slice ad3 m c3) m Y) (hn : nr ≤ 9223372036854775807) (hn3 : m ≤ 9223372036854775807) (ha : ∀ i, i < m → 0 ≤ Y i 0 ∧ Y i 0 < (nr : Int)) {v : Bool} (hv : decide (EnoughOk m Y R need) = v) :
    Calls Try.prog 72 #[.slice adr nr cr, .slice ad3 m c3, .int .i64 need] w fun e w' => e = .returned (.bool v) ∧ Below w.heap.size w w' := by
  have HR := Lib.hid hR
  have HY := Lib.hid hY
  have HA := Lib.hid ha
  have HV := Lib.hid hv
  clear hR hY ha hv
  go_enter Try.func72, Try.ntmps72
  go_wp2
  go_loopw [7] (fun i wr => ∃ k : Nat, k ≤ m ∧ i = .int .i64 k ∧ Below w.heap.size w wr ∧ EnoughOk k Y R need) (fun i _ => m - (intOf i).toNat)
  case atStart => exact ⟨0, by omega, rfl, Below.refl _ _, fun i hi => by omega⟩
  case round =>
    obtain ⟨k, hk, rfl, hbr, hall⟩ := hrel
    have ALL := Lib.hid hall
    clear hall
    by_cases hlt : k < m
    rotate_left
    · obtain rfl : k = m := by omega
      go_wp2_with fail
      go_returns
      exact ⟨ret_bool (by rw [← HV.out]; exact (decide_eq_true ALL.out).symm), hbr⟩
    obtain ⟨g, o, rfl, hc⟩ := HY.out.int hlt
    have hh := HA.out k hlt
    obtain ⟨p, hp⟩ : ∃ p : Nat, Y k 0 = (p : Int) := ⟨(Y k 0).toNat, by omega⟩
    rw [hp] at hc hh
    have pl : p < nr := by omega
    obtain ⟨g2, o2, rfl, hc2⟩ := HR.out.int pl
    have c0 := cell_later hbr hc
    have c1 := cell_later hbr hc2
    have RP : Hid ((Y k 0).toNat = p) := Lib.hid (by rw [hp]; simp)
    clear hc hc2 hh hp
    by_cases hbad : R p < need
    · go_wp2_with fail
      go_returns
      exact ⟨ret_bool (by rw [← HV.out]; exact (decide_eq_false (fun h => by have := h k hlt; rw [RP.out] at this; omega)).symm), hbr⟩
    have db : decide (R p < need) = false := by simp; omega
    go_wp2_with fail
    go_roundw
    case rel => exact ⟨k + 1, by omega, by go_num, hbr, fun i hi => by
      rcases Nat.lt_or_ge i k with h | h
      · exact ALL.out i h
      · obtain rfl : i = k := by omega
        rw [RP.out]; omega⟩
    case measure => simp [intOf]; omega
/-- The slice v has n rows of integers; the row t has len t of them, T t j. -/
def Tab (w : World) (v : Value) (n : Nat) (len : Nat → Nat) (T : Nat → Nat → Int) : Prop :=
  ∃ ad c, v = .slice ad n c ∧ n ≤ 9223372036854775807 ∧ ∀ t, t < n → ∃ g o a k, ad = some ⟨g, o, none⟩ ∧ w.cell? ⟨g, o + t, none⟩ = some (.slice a (len t) k) ∧ len t ≤ 9223372036854775807 ∧ Rows 1 w (.slice a (len t) k) (len t) (fun j _ => T t j)
theorem Tab.later {w w' : World} {v : Value} {n : Nat} {len : Nat → Nat} {T : Nat → Nat → Int} (h : Tab w v n len T) (hb : Below w.heap.size w w') : Tab w' v n len T := by
  obtain ⟨ad, c, hv, hn, hc⟩ := h
  exact ⟨ad, c, hv, hn, fun t ht => by
    obtain ⟨g, o, a, k, h1, h2, h3, h4⟩ := hc t ht
    exact ⟨g, o, a, k, h1, cell_later hb h2, h3, h4.later hb⟩⟩
theorem Tab.form {w : World} {v : Value} {n : Nat} {len : Nat → Nat} {T : Nat → Nat → Int} (h : Tab w v n len T) : ∃ ad c, v = .slice ad n c ∧ Tab w (.slice ad n c) n len T ∧ n ≤ 9223372036854775807 := by
  obtain ⟨ad, c, rfl, hn, hc⟩ := h
  exact ⟨ad, c, rfl, ⟨ad, c, rfl, hn, hc⟩, hn⟩
theorem Tab.row {w : World} {ad : Option Addr} {c n : Nat} {len : Nat → Nat} {T : Nat → Nat → Int} (h : Tab w (.slice ad n c) n len T) {t : Nat} (ht : t < n) :
    ∃ g o a k, ad = some ⟨g, o, none⟩ ∧ w.cell? ⟨g, o + t, none⟩ = some (.slice a (len t) k) ∧ len t ≤ 9223372036854775807 ∧ Rows 1 w (.slice a (len t) k) (len t) (fun j _ => T t j) := by
  obtain ⟨ad', c', e, _, hc⟩ := h
  cases e
  exact hc t ht
def TabsEq (n m : Nat) (l1 l2 : Nat → Nat) (T U : Nat → Nat → Int) : Prop := n = m ∧ ∀ t, t < n → l1 t = l2 t ∧ ∀ j, j < l1 t → T t j = U t j
instance (n m : Nat) (l1 l2 : Nat → Nat) (T U : Nat → Nat → Int) : Decidable (TabsEq n m l1 l2 T U) := by unfold TabsEq; exact inferInstance
end Go.Proofs.Ytcpnkhiillgffaa
