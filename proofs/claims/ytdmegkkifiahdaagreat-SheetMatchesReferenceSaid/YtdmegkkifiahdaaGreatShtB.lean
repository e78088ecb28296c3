/- The walks of sheet.put and its functions: writing lists with their lengths. -/
import Derived.Test.YtdmegkkifiahdaaGreatAppI
namespace Go.Proofs.YtdmegkkifiahdaaGreat
open Go.RowKit
attribute [local go_sem] bqOp bqAll bqUpon sqOp sqAll sqUpon
attribute [local irreducible] wpQuiet wpBQ wpPlan
set_option linter.unusedVariables false
theorem shall1_any (n : Int) (w : World) : Calls Tryz.prog 216 #[.int .i64 n] w (GivesL (encInt n) w) := by
  go_enter Tryz.func216, Tryz.ntmps216
  go_wp2
  go_returns
  exact ⟨_, _, rfl, lit_ints (encInt n) rfl rfl rfl (by unfold maxLen; simp [encInt]), by go_grown⟩
theorem shone1_any (s : Sec) (w : World) : Calls Tryz.prog 311 #[.agg #[.int .i64 s.fx, .int .i64 s.fy, .int .i64 s.tx, .int .i64 s.ty, .int .i64 s.col, .int .i64 s.rng]] w (GivesL (encSec s) w) := by
  go_enter Tryz.func311, Tryz.ntmps311
  go_wp2
  go_returns
  exact ⟨_, _, rfl, lit_ints (encSec s) rfl (by simp) rfl (by unfold maxLen; simp [encSec]), by go_grown⟩
theorem shone2_any (p : Int × Int) (w : World) : Calls Tryz.prog 313 #[.agg #[.int .i64 p.1, .int .i64 p.2]] w (GivesL (encPt p) w) := by
  go_enter Tryz.func313, Tryz.ntmps313
  go_wp2
  go_returns
  exact ⟨_, _, rfl, lit_ints (encPt p) rfl (by simp) rfl (by unfold maxLen; simp [encPt]), by go_grown⟩
theorem put_step {α : Type} (enc : α → List Int) (l : List Int) (xs : List α) (d : α) {k : Nat} (h : k < xs.length) : (l ++ [(xs.length : Int)] ++ (xs.take k).flatMap enc) ++ enc (xs.getD k d) = l ++ [(xs.length : Int)] ++ (xs.take (k + 1)).flatMap enc := by
  rw [List.take_succ_eq_append_getElem h, List.flatMap_append, List.getD_eq_getElem?_getD, List.getElem?_eq_getElem h]
  simp
theorem put_done {α : Type} (enc : α → List Int) (l : List Int) (xs : List α) : l ++ [(xs.length : Int)] ++ (xs.take xs.length).flatMap enc = l ++ putL enc xs := by
  rw [List.take_length]
  simp [putL]
theorem flat_lenS {α : Type} (enc : α → List Int) (b : Nat) : ∀ (xs : List α), (∀ x ∈ xs, (enc x).length ≤ b) → (xs.flatMap enc).length ≤ xs.length * b
  | [], _ => by simp
  | x :: xs, h => by
    have h1 := h x (by simp)
    have h2 := flat_lenS enc b xs (fun y hy => h y (by simp [hy]))
    simp only [List.flatMap_cons, List.length_append, List.length_cons, Nat.add_mul, Nat.one_mul]
    omega
set_option maxHeartbeats 2000000 in
theorem shputI_any (base : Nat) (v0 : Value) (l : List Int) (xs : List Int) (v1 : Value) (w0 w : World) (hown : OwnI base w v0 l) (hx : IntsAt w0 v1 xs) (h0 : w0.heap.size ≤ base) (hb0 : Below w0.heap.size w0 w) (hbase : base ≤ w.heap.size) (hsz : l.length + 1 + xs.length * 1 ≤ 1000000) :
    Calls Tryz.prog 215 #[v0, v1, .func (.func 216) #[] #[]] w (PutsL base (l ++ putL encInt xs) w) := by
  obtain ⟨ad0, c0, rfl⟩ := hown.form
  obtain ⟨ad, c, rfl, hl, hn, hnc⟩ := Lists.form hx
  obtain ⟨n, hxn⟩ : ∃ n, xs.length = n := ⟨_, rfl⟩
  have HX := Lib.hid hl.rows
  have HO := Lib.hid hown
  have HN := Lib.hid hxn
  have HB := Lib.hid hb0
  rw [hxn] at HX hn hsz
  rw [hxn]
  clear hown hx hl hxn hb0
  go_enter Tryz.func215, Tryz.ntmps215
  have HO1 := Lib.hid (HO.out.keep ((Below.refl w.heap.size w).alloc (Nat.le_refl _) (.cells #[.int .i64 (n : Int)] 3)))
  go_wp2_with (at_builtin; refine wpList_app rfl _ _ rfl base _ l [(n : Int)] rfl HO1.out _ 1 _ rfl rfl (lit_ints [(n : Int)] rfl rfl rfl (by unfold maxLen; simp)) (by omega) (by simp; omega) ?_; intro ad1 c1 w1 hown1 hb1)
  have O1 := Lib.hid hown1
  have hB1 : Below base w w1 := ((Below.refl base w).alloc hbase _).trans hb1
  clear HO HO1 hown1 hb1
  go_wp2_with fail
  go_loopw [0, 16] (fun t i wr => ∃ (k : Nat) (ad' : Option Addr) (c' : Nat) (m : List Int), k ≤ n ∧ i = .int .i64 k ∧ t = .slice ad' m.length c' ∧ m = l ++ [(n : Int)] ++ (xs.take k).flatMap encInt ∧ OwnI base wr (.slice ad' m.length c') m ∧ Below base w wr) (fun _ i _ => n - (intOf i).toNat)
  case atStart => exact ⟨0, ad1, c1, l ++ [(n : Int)], by omega, rfl, by simp, by simp, by simpa using O1.out, hB1⟩
  case round =>
    clear hB1 O1
    obtain ⟨k, ad', c', m, hk, rfl, rfl, hm, how, hb⟩ := hrel
    have OW := Lib.hid how
    have M := Lib.hid hm
    clear hm how
    have hszk := hb.size
    rcases Nat.lt_or_ge k n with hlt | hge
    rotate_left
    · obtain rfl : k = n := by omega
      have E := Lib.hid (show m = l ++ putL encInt xs by rw [M.out, ← HN.out]; exact put_done encInt l xs)
      go_wp2_with fail
      go_returns
      exact ⟨ad', c', by rw [← E.out]; rfl, by rw [← E.out]; exact OW.out, hb⟩
    have hkl : k < xs.length := by have := HN.out; omega
    have STEP := Lib.hid (show m ++ encInt (xs.getD k 0) = l ++ [(n : Int)] ++ (xs.take (k + 1)).flatMap encInt by
      have h1 := M.out
      have h2 := HN.out
      subst h1 h2
      exact put_step encInt l xs 0 hkl)
    have hml : m.length ≤ l.length + 1 + k * 1 := by
      rw [M.out]
      have := flat_lenS encInt 1 (xs.take k) (fun x _ => by simp [encInt])
      simp only [List.length_append, List.length_cons, List.length_nil]
      rw [List.length_take, Nat.min_eq_left (by omega)] at this
      omega
    have hml2 : m.length + 1 ≤ 1000000 := by
      have h1 : (k + 1) * 1 ≤ n * 1 := Nat.mul_le_mul_right _ (by omega)
      omega
    obtain ⟨g, o, rfl, hc⟩ := (HX.out.later (HB.out.trans (hb.mono h0))).row hlt
    have e0 := hc 0 (by omega)
    simp only [Nat.add_zero, Nat.mul_one] at e0
    clear hc
    obtain ⟨x, hxk⟩ : ∃ x, xs.getD k 0 = x := ⟨_, rfl⟩
    rw [hxk] at STEP
    have g0 : xs.getD k 0 = x := by rw [← hxk]
    rw [g0] at e0
    clear g0 hxk M
    go_wp2_with fail
    refine calls_named fun W hW => ?_
    have hBW : Below wr.heap.size wr W := by rw [hW]; exact Below.refl _ _
    clear hW e0
    (with_reducible refine (shall1_any x _).mono ?_)
    rintro e w2 ⟨ad2, c2, rfl, hi2, hb2⟩
    have hB2 := below_step hBW hb2
    have I2 := Lib.hid hi2
    have O2 := Lib.hid (OW.out.keep hB2)
    have hB3 : Below base w w2 := hb.trans (hB2.mono (by omega))
    have hs3 := hB2.size
    clear hi2 hb2 hBW hB2 OW
    have hel : (encInt x).length = 1 := by simp [encInt]
    obtain ⟨q, hq⟩ : ∃ q, (encInt x).length = q := ⟨_, rfl⟩
    have HQ := Lib.hid hq
    rw [hq] at hel I2
    rw [hq]
    clear hq
    subst hel
    go_wp2_with (at_builtin; refine wpList_app rfl _ _ rfl base _ m (encInt x) rfl O2.out _ 1 _ rfl HQ.out I2.out (by omega) (by omega) ?_; intro ad4 c4 w4 hown4 hb4)
    have O4 := Lib.hid hown4
    have hB4 : Below base w w4 := hB3.trans hb4
    have LN := Lib.hid (show (m ++ encInt x).length = m.length + 1 by rw [List.length_append, HQ.out])
    clear hown4 hb4 hB3
    go_wp2_with fail
    go_roundw
    case rel => exact ⟨k + 1, ad4, c4, m ++ encInt x, by omega, by go_num, by rw [LN.out], STEP.out, by rw [LN.out]; exact O4.out, hB4⟩
    case measure => simp [intOf]; omega
set_option maxHeartbeats 2000000 in
theorem shputP_any (base : Nat) (v0 : Value) (l : List Int) (xs : List (Int × Int)) (v1 : Value) (w0 w : World) (hown : OwnI base w v0 l) (hx : PtsAt w0 v1 xs) (h0 : w0.heap.size ≤ base) (hb0 : Below w0.heap.size w0 w) (hbase : base ≤ w.heap.size) (hsz : l.length + 1 + xs.length * 2 ≤ 1000000) :
    Calls Tryz.prog 312 #[v0, v1, .func (.func 313) #[] #[]] w (PutsL base (l ++ putL encPt xs) w) := by
  obtain ⟨ad0, c0, rfl⟩ := hown.form
  obtain ⟨ad, c, rfl, hl, hn, hnc⟩ := Lists.form hx
  obtain ⟨n, hxn⟩ : ∃ n, xs.length = n := ⟨_, rfl⟩
  have HX := Lib.hid hl.rows
  have HO := Lib.hid hown
  have HN := Lib.hid hxn
  have HB := Lib.hid hb0
  rw [hxn] at HX hn hsz
  rw [hxn]
  clear hown hx hl hxn hb0
  go_enter Tryz.func312, Tryz.ntmps312
  have HO1 := Lib.hid (HO.out.keep ((Below.refl w.heap.size w).alloc (Nat.le_refl _) (.cells #[.int .i64 (n : Int)] 3)))
  go_wp2_with (at_builtin; refine wpList_app rfl _ _ rfl base _ l [(n : Int)] rfl HO1.out _ 1 _ rfl rfl (lit_ints [(n : Int)] rfl rfl rfl (by unfold maxLen; simp)) (by omega) (by simp; omega) ?_; intro ad1 c1 w1 hown1 hb1)
  have O1 := Lib.hid hown1
  have hB1 : Below base w w1 := ((Below.refl base w).alloc hbase _).trans hb1
  clear HO HO1 hown1 hb1
  go_wp2_with fail
  go_loopw [0, 16] (fun t i wr => ∃ (k : Nat) (ad' : Option Addr) (c' : Nat) (m : List Int), k ≤ n ∧ i = .int .i64 k ∧ t = .slice ad' m.length c' ∧ m = l ++ [(n : Int)] ++ (xs.take k).flatMap encPt ∧ OwnI base wr (.slice ad' m.length c') m ∧ Below base w wr) (fun _ i _ => n - (intOf i).toNat)
  case atStart => exact ⟨0, ad1, c1, l ++ [(n : Int)], by omega, rfl, by simp, by simp, by simpa using O1.out, hB1⟩
  case round =>
    clear hB1 O1
    obtain ⟨k, ad', c', m, hk, rfl, rfl, hm, how, hb⟩ := hrel
    have OW := Lib.hid how
    have M := Lib.hid hm
    clear hm how
    have hszk := hb.size
    rcases Nat.lt_or_ge k n with hlt | hge
    rotate_left
    · obtain rfl : k = n := by omega
      have E := Lib.hid (show m = l ++ putL encPt xs by rw [M.out, ← HN.out]; exact put_done encPt l xs)
      go_wp2_with fail
      go_returns
      exact ⟨ad', c', by rw [← E.out]; rfl, by rw [← E.out]; exact OW.out, hb⟩
    have hkl : k < xs.length := by have := HN.out; omega
    have STEP := Lib.hid (show m ++ encPt (xs.getD k (0, 0)) = l ++ [(n : Int)] ++ (xs.take (k + 1)).flatMap encPt by
      have h1 := M.out
      have h2 := HN.out
      subst h1 h2
      exact put_step encPt l xs (0, 0) hkl)
    have hml : m.length ≤ l.length + 1 + k * 2 := by
      rw [M.out]
      have := flat_lenS encPt 2 (xs.take k) (fun x _ => by simp [encPt])
      simp only [List.length_append, List.length_cons, List.length_nil]
      rw [List.length_take, Nat.min_eq_left (by omega)] at this
      omega
    have hml2 : m.length + 2 ≤ 1000000 := by
      have h1 : (k + 1) * 2 ≤ n * 2 := Nat.mul_le_mul_right _ (by omega)
      omega
    obtain ⟨g, o, rfl, hc⟩ := (HX.out.later (HB.out.trans (hb.mono h0))).row hlt
    have e0 := hc 0 (by omega)
    have e1 := hc 1 (by omega)
    simp only [Nat.add_zero] at e0
    clear hc
    obtain ⟨x, hxk⟩ : ∃ x, xs.getD k (0, 0) = x := ⟨_, rfl⟩
    rw [hxk] at STEP
    have g0 : ptX xs k 0 = x.1 := by rw [← hxk]; rfl
    rw [g0] at e0
    have g1 : ptX xs k 1 = x.2 := by rw [← hxk]; rfl
    rw [g1] at e1
    clear g0 g1 hxk M
    go_wp2_with fail
    refine calls_named fun W hW => ?_
    obtain ⟨p1, hBW⟩ := box1 hW
    clear p1
    clear hW e0 e1
    (with_reducible refine (shone2_any x _).mono ?_)
    rintro e w2 ⟨ad2, c2, rfl, hi2, hb2⟩
    have hB2 := below_step hBW hb2
    have I2 := Lib.hid hi2
    have O2 := Lib.hid (OW.out.keep hB2)
    have hB3 : Below base w w2 := hb.trans (hB2.mono (by omega))
    have hs3 := hB2.size
    clear hi2 hb2 hBW hB2 OW
    have hel : (encPt x).length = 2 := by simp [encPt]
    obtain ⟨q, hq⟩ : ∃ q, (encPt x).length = q := ⟨_, rfl⟩
    have HQ := Lib.hid hq
    rw [hq] at hel I2
    rw [hq]
    clear hq
    subst hel
    go_wp2_with (at_builtin; refine wpList_app rfl _ _ rfl base _ m (encPt x) rfl O2.out _ 2 _ rfl HQ.out I2.out (by omega) (by omega) ?_; intro ad4 c4 w4 hown4 hb4)
    have O4 := Lib.hid hown4
    have hB4 : Below base w w4 := hB3.trans hb4
    have LN := Lib.hid (show (m ++ encPt x).length = m.length + 2 by rw [List.length_append, HQ.out])
    clear hown4 hb4 hB3
    go_wp2_with fail
    go_roundw
    case rel => exact ⟨k + 1, ad4, c4, m ++ encPt x, by omega, by go_num, by rw [LN.out], STEP.out, by rw [LN.out]; exact O4.out, hB4⟩
    case measure => simp [intOf]; omega
set_option maxHeartbeats 2000000 in
theorem shputS_any (base : Nat) (v0 : Value) (l : List Int) (xs : List Sec) (v1 : Value) (w0 w : World) (hown : OwnI base w v0 l) (hx : SecsAt w0 v1 xs) (h0 : w0.heap.size ≤ base) (hb0 : Below w0.heap.size w0 w) (hbase : base ≤ w.heap.size) (hsz : l.length + 1 + xs.length * 6 ≤ 1000000) :
    Calls Tryz.prog 310 #[v0, v1, .func (.func 311) #[] #[]] w (PutsL base (l ++ putL encSec xs) w) := by
  obtain ⟨ad0, c0, rfl⟩ := hown.form
  obtain ⟨ad, c, rfl, hl, hn, hnc⟩ := Lists.form hx
  obtain ⟨n, hxn⟩ : ∃ n, xs.length = n := ⟨_, rfl⟩
  have HX := Lib.hid hl.rows
  have HO := Lib.hid hown
  have HN := Lib.hid hxn
  have HB := Lib.hid hb0
  rw [hxn] at HX hn hsz
  rw [hxn]
  clear hown hx hl hxn hb0
  go_enter Tryz.func310, Tryz.ntmps310
  have HO1 := Lib.hid (HO.out.keep ((Below.refl w.heap.size w).alloc (Nat.le_refl _) (.cells #[.int .i64 (n : Int)] 3)))
  go_wp2_with (at_builtin; refine wpList_app rfl _ _ rfl base _ l [(n : Int)] rfl HO1.out _ 1 _ rfl rfl (lit_ints [(n : Int)] rfl rfl rfl (by unfold maxLen; simp)) (by omega) (by simp; omega) ?_; intro ad1 c1 w1 hown1 hb1)
  have O1 := Lib.hid hown1
  have hB1 : Below base w w1 := ((Below.refl base w).alloc hbase _).trans hb1
  clear HO HO1 hown1 hb1
  go_wp2_with fail
  go_loopw [0, 16] (fun t i wr => ∃ (k : Nat) (ad' : Option Addr) (c' : Nat) (m : List Int), k ≤ n ∧ i = .int .i64 k ∧ t = .slice ad' m.length c' ∧ m = l ++ [(n : Int)] ++ (xs.take k).flatMap encSec ∧ OwnI base wr (.slice ad' m.length c') m ∧ Below base w wr) (fun _ i _ => n - (intOf i).toNat)
  case atStart => exact ⟨0, ad1, c1, l ++ [(n : Int)], by omega, rfl, by simp, by simp, by simpa using O1.out, hB1⟩
  case round =>
    clear hB1 O1
    obtain ⟨k, ad', c', m, hk, rfl, rfl, hm, how, hb⟩ := hrel
    have OW := Lib.hid how
    have M := Lib.hid hm
    clear hm how
    have hszk := hb.size
    rcases Nat.lt_or_ge k n with hlt | hge
    rotate_left
    · obtain rfl : k = n := by omega
      have E := Lib.hid (show m = l ++ putL encSec xs by rw [M.out, ← HN.out]; exact put_done encSec l xs)
      go_wp2_with fail
      go_returns
      exact ⟨ad', c', by rw [← E.out]; rfl, by rw [← E.out]; exact OW.out, hb⟩
    have hkl : k < xs.length := by have := HN.out; omega
    have STEP := Lib.hid (show m ++ encSec (xs.getD k ⟨0, 0, 0, 0, 0, 0⟩) = l ++ [(n : Int)] ++ (xs.take (k + 1)).flatMap encSec by
      have h1 := M.out
      have h2 := HN.out
      subst h1 h2
      exact put_step encSec l xs ⟨0, 0, 0, 0, 0, 0⟩ hkl)
    have hml : m.length ≤ l.length + 1 + k * 6 := by
      rw [M.out]
      have := flat_lenS encSec 6 (xs.take k) (fun x _ => by simp [encSec])
      simp only [List.length_append, List.length_cons, List.length_nil]
      rw [List.length_take, Nat.min_eq_left (by omega)] at this
      omega
    have hml2 : m.length + 6 ≤ 1000000 := by
      have h1 : (k + 1) * 6 ≤ n * 6 := Nat.mul_le_mul_right _ (by omega)
      omega
    obtain ⟨g, o, rfl, hc⟩ := (HX.out.later (HB.out.trans (hb.mono h0))).row hlt
    have e0 := hc 0 (by omega)
    have e1 := hc 1 (by omega)
    have e2 := hc 2 (by omega)
    have e3 := hc 3 (by omega)
    have e4 := hc 4 (by omega)
    have e5 := hc 5 (by omega)
    simp only [Nat.add_zero] at e0
    clear hc
    obtain ⟨x, hxk⟩ : ∃ x, xs.getD k ⟨0, 0, 0, 0, 0, 0⟩ = x := ⟨_, rfl⟩
    rw [hxk] at STEP
    have g0 : secX xs k 0 = x.fx := by rw [← hxk]; rfl
    rw [g0] at e0
    have g1 : secX xs k 1 = x.fy := by rw [← hxk]; rfl
    rw [g1] at e1
    have g2 : secX xs k 2 = x.tx := by rw [← hxk]; rfl
    rw [g2] at e2
    have g3 : secX xs k 3 = x.ty := by rw [← hxk]; rfl
    rw [g3] at e3
    have g4 : secX xs k 4 = x.col := by rw [← hxk]; rfl
    rw [g4] at e4
    have g5 : secX xs k 5 = x.rng := by rw [← hxk]; rfl
    rw [g5] at e5
    clear g0 g1 g2 g3 g4 g5 hxk M
    go_wp2_with fail
    refine calls_named fun W hW => ?_
    obtain ⟨p1, hBW⟩ := box1 hW
    clear p1
    clear hW e0 e1 e2 e3 e4 e5
    (with_reducible refine (shone1_any x _).mono ?_)
    rintro e w2 ⟨ad2, c2, rfl, hi2, hb2⟩
    have hB2 := below_step hBW hb2
    have I2 := Lib.hid hi2
    have O2 := Lib.hid (OW.out.keep hB2)
    have hB3 : Below base w w2 := hb.trans (hB2.mono (by omega))
    have hs3 := hB2.size
    clear hi2 hb2 hBW hB2 OW
    have hel : (encSec x).length = 6 := by simp [encSec]
    obtain ⟨q, hq⟩ : ∃ q, (encSec x).length = q := ⟨_, rfl⟩
    have HQ := Lib.hid hq
    rw [hq] at hel I2
    rw [hq]
    clear hq
    subst hel
    go_wp2_with (at_builtin; refine wpList_app rfl _ _ rfl base _ m (encSec x) rfl O2.out _ 6 _ rfl HQ.out I2.out (by omega) (by omega) ?_; intro ad4 c4 w4 hown4 hb4)
    have O4 := Lib.hid hown4
    have hB4 : Below base w w4 := hB3.trans hb4
    have LN := Lib.hid (show (m ++ encSec x).length = m.length + 6 by rw [List.length_append, HQ.out])
    clear hown4 hb4 hB3
    go_wp2_with fail
    go_roundw
    case rel => exact ⟨k + 1, ad4, c4, m ++ encSec x, by omega, by go_num, by rw [LN.out], STEP.out, by rw [LN.out]; exact O4.out, hB4⟩
    case measure => simp [intOf]; omega
end Go.Proofs.YtdmegkkifiahdaaGreat
