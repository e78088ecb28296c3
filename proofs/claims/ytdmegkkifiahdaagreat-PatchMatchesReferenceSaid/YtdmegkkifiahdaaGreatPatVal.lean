import Derived.Test.YtdmegkkifiahdaaGreatPatOp
import Derived.Test.YtdmegkkifiahdaaGreatPCh
import Derived.Deep.MidRow
import Derived.Test.YtdmegkkifiahdaaGreatPatActs
import Derived.Deep.Cut
namespace Go.Proofs.YtdmegkkifiahdaaGreat
open Go.RowKit
attribute [local go_sem] bqOp bqAll bqUpon sqOp sqAll sqUpon
attribute [local irreducible] wpQuiet wpBQ wpPlan
set_option linter.unusedVariables false
theorem OpCells.range {w : World} {g o : Nat} {p : Opn} {va vs : Value} (h : OpCells w g o p va vs) : w.rangeAt g o (opCells (p, va, vs)) := fun j v hj => by
 have hlt := (List.getElem?_eq_some_iff.1 hj).1
 rw [h.at j hlt, hj]
theorem op_row {p : Opn} {va vs : Value} : opCells (p, va, vs) = [.int .i64 p.kind, .int .i64 p.id, .int .i64 p.feat.id, .int .i64 p.feat.kind, .int .i64 p.feat.x, .int .i64 p.feat.y, .int .i64 p.feat.rad, va, .int .i64 p.feat.dep, .int .i64 p.feat.sym, vs, .int .i64 p.x, .int .i64 p.y, .int .i64 p.rad, .int .i64 p.dep, .int .i64 p.sym] := rfl
set_option maxHeartbeats 2000000 in
theorem paValid_any (o : Opn) (va vs : Value) (w : World) (hp : PartsAt w o.feat va vs) {v : Bool} (hv : decide (OpOk o) = v) : Calls Tryz.prog 12 #[opV o va vs] w fun e w' => e = .returned (.bool v) ∧ Below w.heap.size w w' := by
 obtain ⟨aa, ca, ab, cb, rfl, rfl⟩ := hp.form
 have HP := Lib.hid hp
 have HV := Lib.hid hv
 clear hp hv
 go_enter Tryz.func12, Tryz.ntmps12
 go_wp2_with fail
 refine calls_named fun W hW => ?_
 obtain ⟨p1, hB⟩ := box1 hW
 clear hW p1
 (with_reducible refine (ntOp_any o _ _ _ (HP.out.later hB) HV.out).mono ?_)
 rintro e w1 ⟨rfl, hb1⟩
 go_wp2_with fail
 go_returns
 exact ⟨rfl, below_step hB hb1⟩
set_option maxHeartbeats 2000000 in
theorem pavalid1_any (o : Opn) (va vs : Value) (w : World) (hp : PartsAt w o.feat va vs) {v : Bool} (hv : (!decide (OpOk o)) = v) : Calls Tryz.prog 200 #[opV o va vs] w fun e w' => e = .returned (.bool v) ∧ Below w.heap.size w w' := by
 obtain ⟨aa, ca, ab, cb, rfl, rfl⟩ := hp.form
 have HP := Lib.hid hp
 obtain ⟨u, hu⟩ : ∃ u, decide (OpOk o) = u := ⟨_, rfl⟩
 rw [hu] at hv
 have HU := Lib.hid hu
 clear hp hu
 subst hv
 go_enter Tryz.func200, Tryz.ntmps200
 go_wp2_with fail
 refine calls_named fun W hW => ?_
 obtain ⟨p1, hB⟩ := box1 hW
 clear hW p1
 (with_reducible refine (paValid_any o _ _ _ (HP.out.later hB) HU.out).mono ?_)
 rintro e w1 ⟨rfl, hb1⟩
 go_wp2_with fail
 go_returns
 exact ⟨rfl, below_step hB hb1⟩
def FirstR (B : Opn → Bool) (l : List Opn) (r : Int) : Prop := (r = -1 ∧ ∀ o ∈ l, B o = false) ∨ ∃ k, k < l.length ∧ r = k ∧ B (l.getD k noOpn) = true ∧ ∀ i, i < k → B (l.getD i noOpn) = false
set_option maxHeartbeats 4000000 in
theorem ifValid_any (l : List Opn) (v0 : Value) (w : World) (h : OpsAt w v0 l) : Calls Tryz.prog 87 #[v0, .func (.func 200) #[] #[]] w fun e w' => ∃ r : Int, e = .returned (.int .i64 r) ∧ FirstR (fun o => !decide (OpOk o)) l r ∧ Below w.heap.size w w' := by
 obtain ⟨ad, c, rfl, h1, hn, hc⟩ := h.form
 have H := Lib.hid h1
 obtain ⟨n, hln⟩ : ∃ n, l.length = n := ⟨_, rfl⟩
 rw [hln] at H hn hc
 rw [hln]
 have HL := Lib.hid hln
 clear h h1 hln
 go_enter Tryz.func87, Tryz.ntmps87
 go_wp2_with fail
 go_loopw [8] (fun i wr => ∃ k : Nat, k ≤ n ∧ i = .int .i64 k ∧ Below w.heap.size w wr ∧ ∀ i, i < k → (fun o => !decide (OpOk o)) (l.getD i noOpn) = false) (fun i _ => n - (Go.RowKit.intOf i).toNat)
 case atStart => exact ⟨0, by omega, rfl, Below.refl _ _, fun m hm => by omega⟩
 case round =>
  obtain ⟨k, hk, rfl, hb, hall⟩ := hrel
  have ALL := Lib.hid hall
  clear hall
  rcases Nat.lt_or_ge k n with hlt | hge
  rotate_left
  · obtain rfl : k = n := by omega
    go_wp2_with fail
    go_returns
    exact ⟨-1, rfl, .inl ⟨rfl, fun o ho => by
     obtain ⟨i, hi, rfl⟩ := List.getElem_of_mem ho
     have e := ALL.out i (by have := HL.out; omega)
     rw [List.getD_eq_getElem?_getD, List.getElem?_eq_getElem hi] at e
     first | exact e | simpa using e⟩, hb⟩
  obtain ⟨g, o, va, vs, rfl, fc⟩ := (H.out.later hb).row hlt
  obtain ⟨p, hp⟩ : ∃ p, l.getD k noOpn = p := ⟨_, rfl⟩
  rw [hp] at fc
  have HPK := Lib.hid hp
  clear hp
  have HPA := Lib.hid fc.parts
  obtain ⟨aa, ca, ab, cb, rfl, rfl⟩ := fc.parts.form
  have RG := Lib.hid fc.range
  obtain ⟨u, hu⟩ : ∃ u, (fun o => !decide (OpOk o)) p = u := ⟨_, rfl⟩
  have HU := Lib.hid hu
  clear fc hu
  go_wp2_with (first | (refine wpList_load_mid rfl _ _ rfl g (o + k * 16) rfl [.int .i64 p.kind, .int .i64 p.id, .int .i64 p.feat.id, .int .i64 p.feat.kind, .int .i64 p.feat.x, .int .i64 p.feat.y, .int .i64 p.feat.rad, .slice aa p.feat.area.length ca, .int .i64 p.feat.dep, .int .i64 p.feat.sym, .slice ab p.feat.secs.length cb, .int .i64 p.x, .int .i64 p.y, .int .i64 p.rad, .int .i64 p.dep, .int .i64 p.sym] _ RG.out Tryz.underlying34 rfl (by kernel_rfl) ?_))
  (with_reducible refine (pavalid1_any p _ _ _ HPA.out HU.out).mono ?_)
  rintro e w1 ⟨rfl, hb1⟩
  have hB1 := below_step hb hb1
  cases u
  · go_wp2_with fail
    go_roundw
    case rel => exact ⟨k + 1, by omega, by go_num, hB1, fun i hi => by
     rcases Nat.lt_or_ge i k with h | h
     · exact ALL.out i h
     · obtain rfl : i = k := by omega
       rw [HPK.out]
       exact HU.out⟩
    case measure => simp [Go.RowKit.intOf]; omega
  · go_wp2_with fail
    go_returns
    exact ⟨k, rfl, .inr ⟨k, by have := HL.out; omega, rfl, by rw [HPK.out]; exact HU.out, ALL.out⟩, hB1⟩
set_option maxHeartbeats 2000000 in
theorem cfValid_any (l : List Opn) (v0 : Value) (w : World) (h : OpsAt w v0 l) {v : Bool} (hv : (!decide (∀ o ∈ l, OpOk o)) = v) : Calls Tryz.prog 199 #[v0, .func (.func 200) #[] #[]] w fun e w' => e = .returned (.bool v) ∧ Below w.heap.size w w' := by
 obtain ⟨ad, c, rfl, h1, hn, hc⟩ := h.form
 have H := Lib.hid h1
 have HV := Lib.hid hv
 clear h h1 hv
 generalize l.length = n at *
 go_enter Tryz.func199, Tryz.ntmps199
 go_wp2_with fail
 (with_reducible refine (ifValid_any l _ _ H.out).mono ?_)
 rintro e w1 ⟨r, rfl, hr, hb1⟩
 have HR : Hid (decide (0 ≤ r) = v) := Lib.hid (by
  rw [← HV.out]
  rcases hr with ⟨rfl, hall⟩ | ⟨k, hk, rfl, hB, _⟩
  · rw [decide_eq_true (fun o ho => by simpa using hall o ho)]
    rfl
  · have hno : ¬ ∀ o ∈ l, OpOk o := fun h => by
     have := h _ (getD_memD hk noOpn)
     have hB2 : (!decide (OpOk (l.getD k noOpn))) = true := hB
     rw [decide_eq_true this] at hB2
     cases hB2
    rw [decide_eq_false hno, decide_eq_true (by omega : (0 : Int) ≤ (k : Int))]
    rfl)
 clear hr
 go_wp2_with fail
 go_returns
 exact ⟨ret_bool HR.out, hb1⟩
set_option maxHeartbeats 2000000 in
theorem pavalid_any (l : List Opn) (v0 : Value) (w : World) (h : OpsAt w v0 l) {v : Bool} (hv : decide (l.length ≤ 100 ∧ ∀ o ∈ l, OpOk o) = v) : Calls Tryz.prog 86 #[v0] w fun e w' => e = .returned (.bool v) ∧ Below w.heap.size w w' := by
 obtain ⟨ad, c, rfl, h1, hn, hc⟩ := h.form
 have H := Lib.hid h1
 obtain ⟨n, hln⟩ : ∃ n, l.length = n := ⟨_, rfl⟩
 rw [hln] at H hn hc hv
 rw [hln]
 have HV := Lib.hid hv
 clear h h1 hln hv
 rcases Nat.lt_or_ge 100 n with hlt | hge
 · have d : decide ((n : Int) ≤ 100) = false := decide_eq_false (by omega)
   have HF := Lib.hid (show false = v by rw [← HV.out]; exact (decide_eq_false (fun h => by omega)).symm)
   go_enter Tryz.func86, Tryz.ntmps86
   go_wp2_with fail
   go_returns
   exact ⟨ret_bool HF.out, Below.refl _ _⟩
 obtain ⟨u, hu⟩ : ∃ u, decide (∀ o ∈ l, OpOk o) = u := ⟨_, rfl⟩
 have HU := Lib.hid hu
 have HF : Hid (u = v) := Lib.hid (by rw [← hu, ← HV.out, decide_eq_decide]; exact ⟨fun h => ⟨hge, h⟩, fun h => h.2⟩)
 clear hu HV
 have d : decide ((n : Int) ≤ 100) = true := decide_eq_true (by omega)
 go_enter Tryz.func86, Tryz.ntmps86
 go_wp2_with fail
 (with_reducible refine (cfValid_any l _ _ H.out (v := !u) (by rw [HU.out])).mono ?_)
 rintro e w1 ⟨rfl, hb1⟩
 go_wp2_with fail
 go_returns
 exact ⟨ret_bool HF.out, hb1⟩
theorem not_free {x y : Opn} : ¬ FreeO x y ↔ x.id = y.id ∧ (x.kind = y.kind ∨ ¬ (3 ≤ x.kind ∧ x.kind ≤ 5) ∨ ¬ (3 ≤ y.kind ∧ y.kind ≤ 5)) := Decidable.not_not
set_option maxHeartbeats 4000000 in
theorem paCommute1_any (x y : Opn) (b : Nat) (va vs ua us : Value) (w : World) (hb : w.heap[b]? = some (.cells #[.int .i64 x.kind, .int .i64 x.id, .int .i64 x.feat.id, .int .i64 x.feat.kind, .int .i64 x.feat.x, .int .i64 x.feat.y, .int .i64 x.feat.rad, va, .int .i64 x.feat.dep, .int .i64 x.feat.sym, vs, .int .i64 x.x, .int .i64 x.y, .int .i64 x.rad, .int .i64 x.dep, .int .i64 x.sym] 34 (0, 0))) (hx : PartsAt w x.feat va vs) (hy : PartsAt w y.feat ua us) {v : Bool} (hv : decide (¬ FreeO x y) = v) :
  Calls Tryz.prog 88 #[opV y ua us, .pointer (some ⟨b, 0, none⟩)] w fun e w' => e = .returned (.bool v) ∧ Below w.heap.size w w' := by
 obtain ⟨aa, ca, ab, cb, rfl, rfl⟩ := hx.form
 obtain ⟨ac, cc, ad, cd, rfl, rfl⟩ := hy.form
 have HX := Lib.hid hx
 have HY := Lib.hid hy
 have HB := Lib.hid hb
 have HV : Hid (decide (x.id = y.id ∧ (x.kind = y.kind ∨ ¬ (3 ≤ x.kind ∧ x.kind ≤ 5) ∨ ¬ (3 ≤ y.kind ∧ y.kind ≤ 5))) = v) := Lib.hid (by rw [← hv, decide_eq_decide, not_free])
 clear hx hy hb hv
 by_cases gi : x.id = y.id
 rotate_left
 · have d : (x.id == y.id) = false := by simpa using gi
   have HF := Lib.hid (show false = v by rw [← HV.out]; exact (decide_eq_false (fun h => gi h.1)).symm)
   clear gi
   go_enter Tryz.func88, Tryz.ntmps88
   go_upto_region 1 with (fail)
   refine wp_named fun W hW => ?_
   obtain ⟨p1, hB⟩ := box1 hW
   clear hW
   have bq := block_later hB HB.out
   have l0 := cell_block bq 0
   have l1 := cell_block bq 1
   have c0 := cell_block p1 0
   have c1 := cell_block p1 1
   go_wp2_with fail
   go_returns
   exact ⟨ret_bool HF.out, hB⟩
 have d : (x.id == y.id) = true := by simpa using gi
 by_cases gk : x.kind = y.kind
 · have d2 : (x.kind == y.kind) = true := by simpa using gk
   have HF := Lib.hid (show true = v by rw [← HV.out]; exact (decide_eq_true ⟨gi, .inl gk⟩).symm)
   clear gi gk
   go_enter Tryz.func88, Tryz.ntmps88
   go_upto_region 1 with (fail)
   refine wp_named fun W hW => ?_
   obtain ⟨p1, hB⟩ := box1 hW
   clear hW
   have bq := block_later hB HB.out
   have l0 := cell_block bq 0
   have l1 := cell_block bq 1
   have c0 := cell_block p1 0
   have c1 := cell_block p1 1
   go_wp2_with fail
   go_returns
   exact ⟨ret_bool HF.out, hB⟩
 have d2 : (x.kind == y.kind) = false := by simpa using gk
 obtain ⟨u1, hu1⟩ : ∃ u, decide (3 ≤ x.kind ∧ x.kind ≤ 5) = u := ⟨_, rfl⟩
 obtain ⟨u2, hu2⟩ : ∃ u, decide (3 ≤ y.kind ∧ y.kind ≤ 5) = u := ⟨_, rfl⟩
 have HF : Hid ((!u1 || !u2) = v) := Lib.hid (by
  rw [← HV.out, ← hu1, ← hu2, ← decide_not, ← decide_not, ← Bool.decide_or, decide_eq_decide]
  exact ⟨fun h => ⟨gi, .inr h⟩, fun h => h.2.resolve_left gk⟩)
 have U1 := Lib.hid hu1
 have U2 := Lib.hid hu2
 clear hu1 hu2 gi gk HV
 go_enter Tryz.func88, Tryz.ntmps88
 go_upto_region 1 with (fail)
 refine wp_named fun W hW => ?_
 obtain ⟨p1, hB⟩ := box1 hW
 clear hW
 have bq := block_later hB HB.out
 have l0 := cell_block bq 0
 have l1 := cell_block bq 1
 have l2 := cell_block bq 2
 have l3 := cell_block bq 3
 have l4 := cell_block bq 4
 have l5 := cell_block bq 5
 have l6 := cell_block bq 6
 have l7 := cell_block bq 7
 have l8 := cell_block bq 8
 have l9 := cell_block bq 9
 have l10 := cell_block bq 10
 have l11 := cell_block bq 11
 have l12 := cell_block bq 12
 have l13 := cell_block bq 13
 have l14 := cell_block bq 14
 have l15 := cell_block bq 15
 have c0 := cell_block p1 0
 have c1 := cell_block p1 1
 go_wp2_with fail
 clear l0 l1 l2 l3 l4 l5 l6 l7 l8 l9 l10 l11 l12 l13 l14 l15 c0 c1 bq
 (with_reducible refine (pafield_any x _ _ _ (HX.out.later hB) U1.out).mono ?_)
 rintro e w1 ⟨rfl, hb1⟩
 have hB1 := below_step hB hb1
 cases u1
 · go_wp2_with fail
   go_returns
   exact ⟨ret_bool HF.out, hB1⟩
 have r1 := block_later hb1 p1
 have c0 := cell_block r1 0
 have c1 := cell_block r1 1
 have c2 := cell_block r1 2
 have c3 := cell_block r1 3
 have c4 := cell_block r1 4
 have c5 := cell_block r1 5
 have c6 := cell_block r1 6
 have c7 := cell_block r1 7
 have c8 := cell_block r1 8
 have c9 := cell_block r1 9
 have c10 := cell_block r1 10
 have c11 := cell_block r1 11
 have c12 := cell_block r1 12
 have c13 := cell_block r1 13
 have c14 := cell_block r1 14
 have c15 := cell_block r1 15
 go_wp2_with fail
 (with_reducible refine (pafield_any y _ _ _ (HY.out.later hB1) U2.out).mono ?_)
 rintro e w2 ⟨rfl, hb2⟩
 go_wp2_with fail
 go_returns
 exact ⟨ret_bool HF.out, below_step hB1 hb2⟩
set_option maxHeartbeats 4000000 in
theorem ifFree_any (x : Opn) (b : Nat) (wa wx : Value) (l : List Opn) (v0 : Value) (w : World) (h : OpsAt w v0 l) (hbx : w.heap[b]? = some (.cells #[.int .i64 x.kind, .int .i64 x.id, .int .i64 x.feat.id, .int .i64 x.feat.kind, .int .i64 x.feat.x, .int .i64 x.feat.y, .int .i64 x.feat.rad, wa, .int .i64 x.feat.dep, .int .i64 x.feat.sym, wx, .int .i64 x.x, .int .i64 x.y, .int .i64 x.rad, .int .i64 x.dep, .int .i64 x.sym] 34 (0, 0))) (hpx : PartsAt w x.feat wa wx) : Calls Tryz.prog 87 #[v0, .func (.func 88) #[] #[.pointer (some ⟨b, 0, none⟩)]] w fun e w' => ∃ r : Int, e = .returned (.int .i64 r) ∧ FirstR (fun o => decide (¬ FreeO x o)) l r ∧ Below w.heap.size w w' := by
 obtain ⟨ad, c, rfl, h1, hn, hc⟩ := h.form
 have H := Lib.hid h1
 obtain ⟨n, hln⟩ : ∃ n, l.length = n := ⟨_, rfl⟩
 rw [hln] at H hn hc
 rw [hln]
 have HL := Lib.hid hln
 clear h h1 hln
 have BX := Lib.hid hbx
 have PX := Lib.hid hpx
 clear hbx hpx
 go_enter Tryz.func87, Tryz.ntmps87
 go_wp2_with fail
 go_loopw [8] (fun i wr => ∃ k : Nat, k ≤ n ∧ i = .int .i64 k ∧ Below w.heap.size w wr ∧ ∀ i, i < k → (fun o => decide (¬ FreeO x o)) (l.getD i noOpn) = false) (fun i _ => n - (Go.RowKit.intOf i).toNat)
 case atStart => exact ⟨0, by omega, rfl, Below.refl _ _, fun m hm => by omega⟩
 case round =>
  obtain ⟨k, hk, rfl, hb, hall⟩ := hrel
  have ALL := Lib.hid hall
  clear hall
  rcases Nat.lt_or_ge k n with hlt | hge
  rotate_left
  · obtain rfl : k = n := by omega
    go_wp2_with fail
    go_returns
    exact ⟨-1, rfl, .inl ⟨rfl, fun o ho => by
     obtain ⟨i, hi, rfl⟩ := List.getElem_of_mem ho
     have e := ALL.out i (by have := HL.out; omega)
     rw [List.getD_eq_getElem?_getD, List.getElem?_eq_getElem hi] at e
     first | exact e | simpa using e⟩, hb⟩
  obtain ⟨g, o, va, vs, rfl, fc⟩ := (H.out.later hb).row hlt
  obtain ⟨p, hp⟩ : ∃ p, l.getD k noOpn = p := ⟨_, rfl⟩
  rw [hp] at fc
  have HPK := Lib.hid hp
  clear hp
  have HPA := Lib.hid fc.parts
  obtain ⟨aa, ca, ab, cb, rfl, rfl⟩ := fc.parts.form
  have RG := Lib.hid fc.range
  obtain ⟨u, hu⟩ : ∃ u, (fun o => decide (¬ FreeO x o)) p = u := ⟨_, rfl⟩
  have HU := Lib.hid hu
  clear fc hu
  go_wp2_with (first | (refine wpList_load_mid rfl _ _ rfl g (o + k * 16) rfl [.int .i64 p.kind, .int .i64 p.id, .int .i64 p.feat.id, .int .i64 p.feat.kind, .int .i64 p.feat.x, .int .i64 p.feat.y, .int .i64 p.feat.rad, .slice aa p.feat.area.length ca, .int .i64 p.feat.dep, .int .i64 p.feat.sym, .slice ab p.feat.secs.length cb, .int .i64 p.x, .int .i64 p.y, .int .i64 p.rad, .int .i64 p.dep, .int .i64 p.sym] _ RG.out Tryz.underlying34 rfl (by kernel_rfl) ?_))
  (with_reducible refine (paCommute1_any x p b _ _ _ _ _ (block_later hb BX.out) (PX.out.later hb) HPA.out HU.out).mono ?_)
  rintro e w1 ⟨rfl, hb1⟩
  have hB1 := below_step hb hb1
  cases u
  · go_wp2_with fail
    go_roundw
    case rel => exact ⟨k + 1, by omega, by go_num, hB1, fun i hi => by
     rcases Nat.lt_or_ge i k with h | h
     · exact ALL.out i h
     · obtain rfl : i = k := by omega
       rw [HPK.out]
       exact HU.out⟩
    case measure => simp [Go.RowKit.intOf]; omega
  · go_wp2_with fail
    go_returns
    exact ⟨k, rfl, .inr ⟨k, by have := HL.out; omega, rfl, by rw [HPK.out]; exact HU.out, ALL.out⟩, hB1⟩
end Go.Proofs.YtdmegkkifiahdaaGreat
