import Derived.Test.YtdmegkkifiahdaaGreatPatTouch
namespace Go.Proofs.YtdmegkkifiahdaaGreat
open Go.RowKit
attribute [local go_sem] bqOp bqAll bqUpon sqOp sqAll sqUpon
attribute [local irreducible] wpQuiet wpBQ wpPlan
set_option linter.unusedVariables false
def OpsOk (ops : List Opn) : Prop := ops.length ≤ 100 ∧ ∀ o ∈ ops, OpOk o
instance (ops : List Opn) : Decidable (OpsOk ops) := by unfold OpsOk; exact inferInstance
theorem pavalid_ok (l : List Opn) (v0 : Value) (w : World) (h : OpsAt w v0 l) {v : Bool} (hv : decide (OpsOk l) = v) : Calls Tryz.prog 86 #[v0] w fun e w' => e = .returned (.bool v) ∧ Below w.heap.size w w' := pavalid_any l v0 w h (by rw [← hv]; exact decide_eq_decide.2 Iff.rfl)
set_option maxHeartbeats 1000000 in
theorem paTouch_no (ops : List Opn) (v0 : Value) (w : World) (h : OpsAt w v0 ops) (hn : ¬ OpsOk ops) : Calls Tryz.prog 26 #[v0] w fun e w' => e = .returned (.tuple #[nilV, .int .i64 1]) ∧ Below w.heap.size w w' := by
 obtain ⟨ad, c, rfl, k1, _, _⟩ := h.form
 have H1 := Lib.hid k1
 have HN := Lib.hid hn
 clear h k1 hn
 go_enter Tryz.func26, Tryz.ntmps26
 go_wp2_with fail
 (with_reducible refine (pavalid_ok ops _ _ H1.out (decide_eq_false HN.out)).mono ?_)
 rintro e w1 ⟨rfl, hb1⟩
 go_wp2_with fail
 go_returns
 exact ⟨rfl, hb1⟩
def firstI (B : Opn → Bool) : List Opn → Int
 | [] => -1
 | o :: l => if B o = true then 0 else if firstI B l < 0 then -1 else firstI B l + 1
theorem firstI_ge (B : Opn → Bool) : ∀ l, -1 ≤ firstI B l
 | [] => Int.le_refl _
 | o :: l => by
   have := firstI_ge B l
   unfold firstI
   split
   · omega
   · split <;> omega
theorem firstR_eq {B : Opn → Bool} : ∀ {l : List Opn} {r : Int}, FirstR B l r → r = firstI B l
 | [], r, h => by
   rcases h with ⟨rfl, _⟩ | ⟨k, hk, _⟩
   · rfl
   · exact absurd hk (Nat.not_lt_zero _)
 | o :: l, r, h => by
   unfold firstI
   rcases h with ⟨rfl, hall⟩ | ⟨k, hk, rfl, hB, hbef⟩
   · rw [if_neg (by rw [hall o (by simp)]; decide), ← firstR_eq (B := B) (l := l) (r := -1) (.inl ⟨rfl, fun x hx => hall x (by simp [hx])⟩), if_pos (by decide)]
   · cases k with
     | zero => rw [if_pos (by simpa using hB)]; rfl
     | succ k =>
       have h0 := hbef 0 (by omega)
       have hr : FirstR B l (k : Int) := .inr ⟨k, by simpa using hk, rfl, by simpa using hB, fun i hi => by have := hbef (i + 1) (by omega); simpa using this⟩
       have := firstR_eq hr
       rw [if_neg (by rw [show (o :: l).getD 0 noOpn = o from rfl] at h0; rw [h0]; decide), ← this, if_neg (by omega)]
       omega
def commI : List Opn → List Opn → Int × Int
 | [], _ => (-1, -1)
 | x :: a, b => if 0 ≤ firstI (fun y => decide (¬ FreeO x y)) b then (0, firstI (fun y => decide (¬ FreeO x y)) b) else if (commI a b).1 < 0 then (-1, -1) else ((commI a b).1 + 1, (commI a b).2)
theorem comm_none : ∀ {a b : List Opn}, (∀ i, i < a.length → firstI (fun y => decide (¬ FreeO (a.getD i noOpn) y)) b < 0) → commI a b = (-1, -1)
 | [], b, _ => rfl
 | x :: a, b, h => by
   have h0 := h 0 (by simp)
   rw [show (x :: a).getD 0 noOpn = x from rfl] at h0
   unfold commI
   rw [if_neg (by omega), comm_none (a := a) (fun i hi => by have := h (i + 1) (by simpa using hi); simpa using this), if_pos (by decide)]
theorem comm_at : ∀ {a b : List Opn} {i : Nat}, i < a.length → (∀ k, k < i → firstI (fun y => decide (¬ FreeO (a.getD k noOpn) y)) b < 0) → 0 ≤ firstI (fun y => decide (¬ FreeO (a.getD i noOpn) y)) b → commI a b = ((i : Int), firstI (fun y => decide (¬ FreeO (a.getD i noOpn) y)) b)
 | [], b, i, hi, _, _ => absurd hi (Nat.not_lt_zero _)
 | x :: a, b, 0, _, _, h => by
   unfold commI
   rw [show (x :: a).getD 0 noOpn = x from rfl] at h ⊢
   rw [if_pos h]
   rfl
 | x :: a, b, i + 1, hi, hb, h => by
   have h0 := hb 0 (by omega)
   rw [show (x :: a).getD 0 noOpn = x from rfl] at h0
   rw [show (x :: a).getD (i + 1) noOpn = a.getD i noOpn from rfl] at h ⊢
   have ih := comm_at (a := a) (b := b) (i := i) (by simpa using hi) (fun k hk => by have := hb (k + 1) (by omega); simpa using this) h
   unfold commI
   rw [if_neg (by omega), ih, if_neg (by show ¬ (i : Int) < 0; omega)]
   rfl
def commO (a b : List Opn) : Int × Int × Int := if OpsOk a ∧ OpsOk b then ((commI a b).1, (commI a b).2, 0) else (0, 0, 1)
set_option maxHeartbeats 4000000 in
theorem paCommute_any (a b : List Opn) (v0 v1 : Value) (w : World) (h0 : OpsAt w v0 a) (h1 : OpsAt w v1 b) {r s er : Int} (hv : commO a b = (r, s, er)) : Calls Tryz.prog 20 #[v0, v1] w fun e w' => e = .returned (.tuple #[.int .i64 r, .int .i64 s, .int .i64 er]) ∧ Below w.heap.size w w' := by
 obtain ⟨ad0, c0, rfl, k0, hn0, _⟩ := h0.form
 obtain ⟨ad1, c1, rfl, k1, _, _⟩ := h1.form
 have H0 := Lib.hid k0
 have H1 := Lib.hid k1
 clear h0 h1 k0 k1
 obtain ⟨u0, hu0⟩ : ∃ u, decide (OpsOk a) = u := ⟨_, rfl⟩
 obtain ⟨u1, hu1⟩ : ∃ u, decide (OpsOk b) = u := ⟨_, rfl⟩
 have U0 := Lib.hid hu0
 have U1 := Lib.hid hu1
 have HV := Lib.hid hv
 obtain ⟨n, hln⟩ : ∃ n, a.length = n := ⟨_, rfl⟩
 rw [hln] at H0 hn0
 rw [hln]
 have HL := Lib.hid hln
 generalize b.length = n1 at *
 clear hu0 hu1 hv hln
 go_enter Tryz.func20, Tryz.ntmps20
 go_wp2_with fail
 (with_reducible refine (pavalid_ok a _ _ H0.out U0.out).mono ?_)
 rintro e w1 ⟨rfl, hb1⟩
 cases u0
 · have E : Hid ((0, 0, 1) = (r, s, er)) := Lib.hid (by rw [← HV.out]; unfold commO; rw [if_neg (fun h => of_decide_eq_false U0.out h.1)])
   have E2 := E.out
   cases E2
   clear HV E
   go_wp2_with fail
   go_returns
   exact ⟨rfl, hb1⟩
 go_wp2_with fail
 (with_reducible refine (pavalid_ok b _ _ (H1.out.later hb1) U1.out).mono ?_)
 rintro e w2 ⟨rfl, hb2⟩
 have hB2 := below_step hb1 hb2
 cases u1
 · have E : Hid ((0, 0, 1) = (r, s, er)) := Lib.hid (by rw [← HV.out]; unfold commO; rw [if_neg (fun h => of_decide_eq_false U1.out h.2)])
   have E2 := E.out
   cases E2
   clear HV E
   go_wp2_with fail
   go_returns
   exact ⟨rfl, hB2⟩
 have E : Hid (((commI a b).1, (commI a b).2, (0 : Int)) = (r, s, er)) := Lib.hid (by rw [← HV.out]; unfold commO; rw [if_pos ⟨of_decide_eq_true U0.out, of_decide_eq_true U1.out⟩])
 obtain rfl : (0 : Int) = er := by have := E.out; simp only [Prod.mk.injEq] at this; exact this.2.2
 clear HV U0 U1 hb1 hb2
 go_wp2_with fail
 go_loopw [20] (fun i wr => ∃ k : Nat, k ≤ n ∧ i = .int .i64 k ∧ Below w.heap.size w wr ∧ ∀ i, i < k → firstI (fun y => decide (¬ FreeO (a.getD i noOpn) y)) b < 0) (fun i _ => n - cntV i)
 case atStart => exact ⟨0, by omega, rfl, hB2, fun i hi => absurd hi (Nat.not_lt_zero i)⟩
 case round =>
  clear hB2
  obtain ⟨k, hk, rfl, hb, hall⟩ := hrel
  have ALL := Lib.hid hall
  clear hall
  rcases Nat.lt_or_ge k n with hlt | hge
  rotate_left
  · obtain rfl : k = n := by omega
    have RS : Hid (r = -1 ∧ s = -1) := Lib.hid (by
     have h := E.out
     rw [comm_none (fun i hi => ALL.out i (by have := HL.out; omega))] at h
     simp only [Prod.mk.injEq] at h
     exact ⟨h.1.symm, h.2.1.symm⟩)
    go_wp2_with fail
    go_returns
    exact ⟨by rw [RS.out.1, RS.out.2]; rfl, hb⟩
  obtain ⟨gg, oo, va, vs, rfl, fc0⟩ := H0.out.row hlt
  obtain ⟨p, hp⟩ : ∃ p, a.getD k noOpn = p := ⟨_, rfl⟩
  rw [hp] at fc0
  have RG0 := (fc0.later hb).range
  have PA := Lib.hid fc0.parts
  obtain ⟨aa, ca, ab, cb, rfl, rfl⟩ := fc0.parts.form
  have RG : Hid (wr.rangeAt gg (oo + k * 16) [.int .i64 p.kind, .int .i64 p.id, .int .i64 p.feat.id, .int .i64 p.feat.kind, .int .i64 p.feat.x, .int .i64 p.feat.y, .int .i64 p.feat.rad, .slice aa p.feat.area.length ca, .int .i64 p.feat.dep, .int .i64 p.feat.sym, .slice ab p.feat.secs.length cb, .int .i64 p.x, .int .i64 p.y, .int .i64 p.rad, .int .i64 p.dep, .int .i64 p.sym]) := Lib.hid RG0
  have HP := Lib.hid hp
  have hszr := hb.size
  clear fc0 RG0 hp
  go_wp2_with (refine wpList_load_mid rfl 34 _ rfl gg (oo + k * 16) rfl [.int .i64 p.kind, .int .i64 p.id, .int .i64 p.feat.id, .int .i64 p.feat.kind, .int .i64 p.feat.x, .int .i64 p.feat.y, .int .i64 p.feat.rad, .slice aa p.feat.area.length ca, .int .i64 p.feat.dep, .int .i64 p.feat.sym, .slice ab p.feat.secs.length cb, .int .i64 p.x, .int .i64 p.y, .int .i64 p.rad, .int .i64 p.dep, .int .i64 p.sym] _ RG.out Tryz.underlying34 rfl (by kernel_rfl) ?_)
  refine calls_named fun W hW => ?_
  obtain ⟨p1, hBW⟩ := box1 hW
  clear hW
  have hbW := below_step2 hb hBW
  (with_reducible refine (ifFree_any p wr.heap.size _ _ b _ W (H1.out.later hbW) p1 (PA.out.later hbW)).mono ?_)
  rintro e w5 ⟨q, rfl, hq, hb5⟩
  have hB5 := below_step2 hbW hb5
  have hq2 := firstR_eq hq
  have hge1 := firstI_ge (fun y => decide (¬ FreeO p y)) b
  have FQ := Lib.hid hq2
  clear hq p1
  rcases Int.lt_or_le q 0 with hneg | hpos
  · have d : decide (0 ≤ q) = false := decide_eq_false (by omega)
    clear hq2 hge1
    go_wp2_with fail
    go_roundw
    case rel => exact ⟨k + 1, by omega, by go_num, hB5, fun i hi => by
     rcases Nat.lt_or_ge i k with h | h
     · exact ALL.out i h
     · obtain rfl : i = k := by omega
       rw [HP.out, ← FQ.out]
       exact hneg⟩
    case measure => simp [cntV]; omega
  · have d : decide (0 ≤ q) = true := decide_eq_true hpos
    have RS : Hid (r = k ∧ s = q) := Lib.hid (by
     have h := E.out
     rw [comm_at (i := k) (by have := HL.out; omega) ALL.out (by rw [HP.out, ← FQ.out]; exact hpos), HP.out, ← FQ.out] at h
     simp only [Prod.mk.injEq] at h
     exact ⟨h.1.symm, h.2.1.symm⟩)
    clear hq2 hge1
    go_wp2_with fail
    go_returns
    exact ⟨by rw [RS.out.1, RS.out.2]; rfl, hB5⟩
end Go.Proofs.YtdmegkkifiahdaaGreat
