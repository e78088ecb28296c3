/- The walks of slices.Min and slices.Max, of shaped, and of the search for a row that is not shaped. -/
import Derived.Test.YtcpnkhiillgffaaRtF
namespace Go.Proofs.Ytcpnkhiillgffaa
open Go.RowKit
attribute [local go_sem] bqOp bqAll bqUpon
attribute [local irreducible] wpQuiet wpBQ
set_option linter.unusedVariables false
def minN (R : Nat → Int) : Nat → Int
  | 0 => R 0
  | k + 1 => min (minN R k) (R k)
def maxN (R : Nat → Int) : Nat → Int
  | 0 => R 0
  | k + 1 => max (maxN R k) (R k)
theorem minN_ge (R : Nat → Int) (B : Int) : ∀ {n : Nat}, 1 ≤ n → (B ≤ minN R n ↔ ∀ j, j < n → B ≤ R j)
  | 0, h => by omega
  | 1, _ => by
    show B ≤ min (R 0) (R 0) ↔ _
    exact ⟨fun h j hj => by obtain rfl : j = 0 := by omega
                            omega, fun h => by have := h 0 (by omega); omega⟩
  | n + 2, _ => by
    have ih := minN_ge R B (n := n + 1) (by omega)
    show B ≤ min (minN R (n + 1)) (R (n + 1)) ↔ _
    exact ⟨fun h j hj => by
      rcases Nat.lt_or_ge j (n + 1) with g | g
      · exact ih.1 (by omega) j g
      · obtain rfl : j = n + 1 := by omega
        omega, fun h => by have h1 := ih.2 (fun j hj => h j (by omega)); have h2 := h (n + 1) (by omega); omega⟩
theorem maxN_le (R : Nat → Int) (B : Int) : ∀ {n : Nat}, 1 ≤ n → (maxN R n ≤ B ↔ ∀ j, j < n → R j ≤ B)
  | 0, h => by omega
  | 1, _ => by
    show max (R 0) (R 0) ≤ B ↔ _
    exact ⟨fun h j hj => by obtain rfl : j = 0 := by omega
                            omega, fun h => by have := h 0 (by omega); omega⟩
  | n + 2, _ => by
    have ih := maxN_le R B (n := n + 1) (by omega)
    show max (maxN R (n + 1)) (R (n + 1)) ≤ B ↔ _
    exact ⟨fun h j hj => by
      rcases Nat.lt_or_ge j (n + 1) with g | g
      · exact ih.1 (by omega) j g
      · obtain rfl : j = n + 1 := by omega
        omega, fun h => by have h1 := ih.2 (fun j hj => h j (by omega)); have h2 := h (n + 1) (by omega); omega⟩
theorem lMinInts_any (n c : Nat) (ad : Option Addr) (R : Nat → Int) (w : World) (hR : Rows 1 w (.slice ad n c) n (fun i _ => R i)) (h1 : 1 ≤ n) (hn : n ≤ 9223372036854775807) {r : Int} (hr : minN R n = r) :
    Calls Try.prog 87 #[.slice ad n c] w fun e w' => e = .returned (.int .i64 r) ∧ Below w.heap.size w w' := by
  obtain ⟨g, o, rfl, hc0⟩ := hR.int (show 0 < n by omega)
  have HR := Lib.hid hR
  have RR := Lib.hid hr
  have d1 : ¬ (n : Int) < 1 := by omega
  have d0 : (0 : Int) < (n : Int) := by omega
  have d2 : 0 < n := by omega
  clear hR hr
  simp only [Nat.add_zero] at hc0
  go_enter Try.func87, Try.ntmps87
  go_wp2_with fail
  clear hc0
  go_loopw [3, 4] (fun mv i wr => ∃ (k : Nat) (cur : Int), 1 ≤ k ∧ k ≤ n ∧ i = .int .i64 k ∧ mv = .int .i64 cur ∧ minN R k = cur ∧ Below w.heap.size w wr) (fun _ i _ => n - (intOf i).toNat)
  case atStart => exact ⟨1, _, by omega, h1, rfl, rfl, by show min (R 0) (R 0) = R 0; omega, Below.refl _ _⟩
  case round =>
    obtain ⟨k, cur, hk1, hk, rfl, rfl, hcur, hb⟩ := hrel
    have CU := Lib.hid hcur
    clear hcur
    by_cases hlt : k < n
    rotate_left
    · obtain rfl : k = n := by omega
      go_wp2_with fail
      go_returns
      exact ⟨ret_int (by rw [← RR.out, CU.out]), hb⟩
    obtain ⟨g', o', e', hc⟩ := HR.out.int hlt
    obtain ⟨rfl, rfl⟩ : g = g' ∧ o = o' := by simpa using e'
    have hc' := cell_later hb hc
    obtain ⟨r, hr⟩ : ∃ r, R k = r := ⟨_, rfl⟩
    rw [hr] at hc'
    have HK := Lib.hid (show minN R (k + 1) = min cur r by show min (minN R k) (R k) = _; rw [CU.out, hr])
    clear hc e' hr
    by_cases hl : r < cur
    · have hl2 : ¬ (cur ≤ r) := by omega
      go_wp2_with fail
      go_roundw
      case rel => exact ⟨k + 1, r, by omega, by omega, by go_num, rfl, by rw [HK.out]; omega, hb⟩
      case measure => simp [intOf]; omega
    · have hl2 : cur ≤ r := by omega
      go_wp2_with fail
      go_roundw
      case rel => exact ⟨k + 1, cur, by omega, by omega, by go_num, rfl, by rw [HK.out]; omega, hb⟩
      case measure => simp [intOf]; omega
theorem lMaxInts_any (n c : Nat) (ad : Option Addr) (R : Nat → Int) (w : World) (hR : Rows 1 w (.slice ad n c) n (fun i _ => R i)) (h1 : 1 ≤ n) (hn : n ≤ 9223372036854775807) {r : Int} (hr : maxN R n = r) :
    Calls Try.prog 88 #[.slice ad n c] w fun e w' => e = .returned (.int .i64 r) ∧ Below w.heap.size w w' := by
  obtain ⟨g, o, rfl, hc0⟩ := hR.int (show 0 < n by omega)
  have HR := Lib.hid hR
  have RR := Lib.hid hr
  have d1 : ¬ (n : Int) < 1 := by omega
  have d0 : (0 : Int) < (n : Int) := by omega
  have d2 : 0 < n := by omega
  clear hR hr
  simp only [Nat.add_zero] at hc0
  go_enter Try.func88, Try.ntmps88
  go_wp2_with fail
  clear hc0
  go_loopw [3, 4] (fun mv i wr => ∃ (k : Nat) (cur : Int), 1 ≤ k ∧ k ≤ n ∧ i = .int .i64 k ∧ mv = .int .i64 cur ∧ maxN R k = cur ∧ Below w.heap.size w wr) (fun _ i _ => n - (intOf i).toNat)
  case atStart => exact ⟨1, _, by omega, h1, rfl, rfl, by show max (R 0) (R 0) = R 0; omega, Below.refl _ _⟩
  case round =>
    obtain ⟨k, cur, hk1, hk, rfl, rfl, hcur, hb⟩ := hrel
    have CU := Lib.hid hcur
    clear hcur
    by_cases hlt : k < n
    rotate_left
    · obtain rfl : k = n := by omega
      go_wp2_with fail
      go_returns
      exact ⟨ret_int (by rw [← RR.out, CU.out]), hb⟩
    obtain ⟨g', o', e', hc⟩ := HR.out.int hlt
    obtain ⟨rfl, rfl⟩ : g = g' ∧ o = o' := by simpa using e'
    have hc' := cell_later hb hc
    obtain ⟨r, hr⟩ : ∃ r, R k = r := ⟨_, rfl⟩
    rw [hr] at hc'
    have HK := Lib.hid (show maxN R (k + 1) = max cur r by show max (maxN R k) (R k) = _; rw [CU.out, hr])
    clear hc e' hr
    by_cases hl : cur < r
    · have hl2 : ¬ (r ≤ cur) := by omega
      go_wp2_with fail
      go_roundw
      case rel => exact ⟨k + 1, r, by omega, by omega, by go_num, rfl, by rw [HK.out]; omega, hb⟩
      case measure => simp [intOf]; omega
    · have hl2 : r ≤ cur := by omega
      go_wp2_with fail
      go_roundw
      case rel => exact ⟨k + 1, cur, by omega, by omega, by go_num, rfl, by rw [HK.out]; omega, hb⟩
      case measure => simp [intOf]; omega
/-- What shaped says of a row of n integers. -/
def RowSh (np n : Nat) (R : Nat → Int) : Prop := n = np ∧ ∀ j, j < np → -1000000 ≤ R j ∧ R j ≤ 1000000
instance (np n : Nat) (R : Nat → Int) : Decidable (RowSh np n R) := by unfold RowSh; exact inferInstance
theorem hShaped_any (np n c : Nat) (ad : Option Addr) (R : Nat → Int) (w : World) (hR : Rows 1 w (.slice ad n c) n (fun i _ => R i)) (h1 : 1 ≤ np) (hn : n ≤ 9223372036854775807) (hp : np ≤ 64) {v : Bool} (hv : decide (RowSh np n R) = v) :
    Calls Try.prog 66 #[.slice ad n c, .int .i64 (np : Int)] w fun e w' => e = .returned (.bool v) ∧ Below w.heap.size w w' := by
  have HR := Lib.hid hR
  have HV := Lib.hid hv
  clear hR hv
  by_cases he : n = np
  rotate_left
  · have d1 : ((n : Int) == (np : Int)) = false := by simp; omega
    have V := Lib.hid (show false = v by rw [← HV.out]; exact (decide_eq_false (fun h => he h.1)).symm)
    clear he
    go_enter Try.func66, Try.ntmps66
    go_wp2_with fail
    go_returns
    exact ⟨ret_bool V.out, Below.refl _ _⟩
  subst he
  obtain ⟨r1, hr1⟩ : ∃ r, minN R n = r := ⟨_, rfl⟩
  obtain ⟨r2, hr2⟩ : ∃ r, maxN R n = r := ⟨_, rfl⟩
  have C1 := Lib.hid (lMinInts_any n c ad R w HR.out h1 hn hr1)
  have C2 := Lib.hid (fun w' (hb : Below w.heap.size w w') => lMaxInts_any n c ad R w' (HR.out.later hb) h1 hn hr2)
  have V := Lib.hid (show decide (-1000000 ≤ r1 ∧ r2 ≤ 1000000) = v by
    rw [← HV.out, decide_eq_decide, ← hr1, ← hr2, minN_ge R _ h1, maxN_le R _ h1]
    unfold RowSh
    exact ⟨fun h => ⟨rfl, fun j hj => ⟨h.1 j hj, h.2 j hj⟩⟩, fun h => ⟨fun j hj => (h.2 j hj).1, fun j hj => (h.2 j hj).2⟩⟩)
  clear hr1 hr2
  go_enter Try.func66, Try.ntmps66
  go_wp2_with fail
  (with_reducible refine C1.out.mono ?_)
  rintro e w1 ⟨rfl, hb1⟩
  clear C1
  by_cases h2 : -1000000 ≤ r1
  rotate_left
  · have d2 : decide (-1000000 ≤ r1) = false := by simp; omega
    have V2 := Lib.hid (show false = v by rw [← V.out]; exact (decide_eq_false (fun h => h2 h.1)).symm)
    clear h2
    go_wp2_with fail
    go_returns
    exact ⟨ret_bool V2.out, hb1⟩
  go_wp2_with fail
  (with_reducible refine (C2.out w1 hb1).mono ?_)
  rintro e w2 ⟨rfl, hb2⟩
  clear C2
  have V3 := Lib.hid (show decide (r2 ≤ 1000000) = v by rw [← V.out, decide_eq_decide]; exact ⟨fun h => ⟨h2, h⟩, fun h => h.2⟩)
  go_wp2_with fail
  go_returns
  exact ⟨ret_bool V3.out, below_step hb1 hb2⟩
theorem hCheck1_any (np c ne c2 n k bn : Nat) (ad ad2 adr : Option Addr) (ty : TypeId) (R : Nat → Int) (w : World) (hR : Rows 1 w (.slice adr n k) n (fun i _ => R i)) (h1 : 1 ≤ np) (hn : n ≤ 9223372036854775807) (hp : np ≤ 64) (hb : w.heap[bn]? = some (.cells #[.slice ad np c, .slice ad2 ne c2] ty (0, 0))) {v : Bool} (hv : decide (RowSh np n R) = v) :
    Calls Try.prog 65 #[.slice adr n k, .pointer (some ⟨bn, 0, none⟩)] w fun e w' => e = .returned (.bool (!v)) ∧ Below w.heap.size w w' := by
  have q0 := cell_block hb 0
  have C := Lib.hid (hShaped_any np n k adr R w hR h1 hn hp hv)
  clear hR hv hb
  go_enter Try.func65, Try.ntmps65
  go_wp2_with fail
  (with_reducible refine C.out.mono ?_)
  rintro e w1 ⟨rfl, hb1⟩
  clear C
  go_wp2_with fail
  go_returns
  exact ⟨rfl, hb1⟩
theorem ifRow_any (n c : Nat) (ad : Option Addr) (bn : Nat) (len : Nat → Nat) (T : Nat → Nat → Int) (B : Nat → Bool) (w : World) (hT : Tab w (.slice ad n c) n len T) (hn : n ≤ 9223372036854775807)
    (hf : ∀ i, i < n → ∀ a k w', Below w.heap.size w w' → Rows 1 w' (.slice a (len i) k) (len i) (fun j _ => T i j) → len i ≤ 9223372036854775807 → Calls Try.prog 65 #[.slice a (len i) k, .pointer (some ⟨bn, 0, none⟩)] w' fun e w'' => e = .returned (.bool (B i)) ∧ Below w'.heap.size w' w'') {r : Int} (hr : fstI B n = r) :
    Calls Try.prog 89 #[.slice ad n c, .func (.func 65) #[] #[.pointer (some ⟨bn, 0, none⟩)]] w fun e w' => e = .returned (.int .i64 r) ∧ Below w.heap.size w w' := by
  have HT := Lib.hid hT
  have HF := Lib.hid hf
  have RR := Lib.hid hr
  clear hT hf hr
  go_enter Try.func89, Try.ntmps89
  go_wp2
  go_loopw [8] (fun i wr => ∃ k : Nat, k ≤ n ∧ i = .int .i64 k ∧ Below w.heap.size w wr ∧ ∀ m, m < k → B m = false) (fun i _ => n - (intOf i).toNat)
  case atStart => exact ⟨0, by omega, rfl, Below.refl _ _, fun m hm => by omega⟩
  case round =>
    obtain ⟨k, hk, rfl, hb, hall⟩ := hrel
    have ALL := Lib.hid hall
    clear hall
    by_cases hlt : k < n
    · obtain ⟨g, o, a, ca, rfl, hc, hl, hrow⟩ := HT.out.row hlt
      have c0 := cell_later hb hc
      obtain ⟨v, hv⟩ : ∃ v, B k = v := ⟨_, rfl⟩
      have F := Lib.hid (HF.out k hlt a ca wr hb (hrow.later hb) hl)
      rw [hv] at F
      have V := Lib.hid hv
      clear hv hc hl hrow
      go_wp2_with fail
      (with_reducible refine F.out.mono ?_)
      rintro e w1 ⟨rfl, hb1⟩
      have hb2 := below_step hb hb1
      clear F hb1 c0
      cases v
      · go_wp2_with fail
        go_roundw
        case rel => exact ⟨k + 1, by omega, by go_num, hb2, fun m hm => by
          rcases Nat.lt_or_ge m k with h | h
          · exact ALL.out m h
          · obtain rfl : m = k := by omega
            exact V.out⟩
        case measure => simp [intOf]; omega
      · go_wp2_with fail
        go_returns
        exact ⟨ret_int (by rw [← RR.out]; exact (fstI_at hlt ALL.out V.out).symm), hb2⟩
    · obtain rfl : k = n := by omega
      go_wp2_with fail
      go_returns
      exact ⟨ret_int (by rw [← RR.out]; exact (fstI_none ALL.out).symm), hb⟩
theorem cfRow_any (n c : Nat) (ad : Option Addr) (bn : Nat) (len : Nat → Nat) (T : Nat → Nat → Int) (B : Nat → Bool) (w : World) (hT : Tab w (.slice ad n c) n len T) (hn : n ≤ 9223372036854775807)
    (hf : ∀ i, i < n → ∀ a k w', Below w.heap.size w w' → Rows 1 w' (.slice a (len i) k) (len i) (fun j _ => T i j) → len i ≤ 9223372036854775807 → Calls Try.prog 65 #[.slice a (len i) k, .pointer (some ⟨bn, 0, none⟩)] w' fun e w'' => e = .returned (.bool (B i)) ∧ Below w'.heap.size w' w'') {r : Bool} (hr : anyN B n = r) :
    Calls Try.prog 67 #[.slice ad n c, .func (.func 65) #[] #[.pointer (some ⟨bn, 0, none⟩)]] w fun e w' => e = .returned (.bool r) ∧ Below w.heap.size w w' := by
  obtain ⟨q, hq⟩ : ∃ q, fstI B n = q := ⟨_, rfl⟩
  have F := Lib.hid (ifRow_any n c ad bn len T B w hT hn hf hq)
  have hqr : decide (0 ≤ q) = r := by rw [← hq, fstI_any, hr]
  have Q := Lib.hid hqr
  clear hT hf hr hq hqr
  go_enter Try.func67, Try.ntmps67
  go_wp2_with fail
  (with_reducible refine F.out.mono ?_)
  rintro e w1 ⟨rfl, hb1⟩
  go_wp2_with fail
  go_returns
  exact ⟨ret_bool Q.out, hb1⟩
end Go.Proofs.Ytcpnkhiillgffaa
