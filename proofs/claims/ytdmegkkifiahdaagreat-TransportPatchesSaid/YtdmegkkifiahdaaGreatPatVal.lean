/- The walks of patch.Valid, patch.valid, slices.IndexFunc and ContainsFunc of operations, and of patch.Commute's closure. -/
import Derived.Test.YtdmegkkifiahdaaGreatPatOp
import Derived.Test.YtdmegkkifiahdaaGreatPCh
import Derived.Deep.MidRow
import Derived.Test.YtdmegkkifiahdaaGreatPatActs
import Derived.Deep.Cut
namespace Go.Proofs.YtdmegkkifiahdaaGreat
open Go.RowKit
attribute [local go_sem] bqOp bqAll bqUpon sqOp sqAll sqUpon
attribute [local irreducible] wpQuiet wpBQ wpPlan
set_option linter.unusedVariables false
/-- An operation's cells, as a range. -/
theorem OpCells.range {w : World} {g o : Nat} {p : Opn} {va vs : Value} (h : OpCells w g o p va vs) : w.rangeAt g o (opCells (p, va, vs)) := fun j v hj => by
  have hlt := (List.getElem?_eq_some_iff.1 hj).1
  rw [h.at j hlt, hj]
theorem op_row {p : Opn} {va vs : Value} : opCells (p, va, vs) = [.int .i64 p.kind, .int .i64 p.id, .int .i64 p.feat.id, .int .i64 p.feat.kind, .int .i64 p.feat.x, .int .i64 p.feat.y, .int .i64 p.feat.rad, va, .int .i64 p.feat.dep, .int .i64 p.feat.sym, vs, .int .i64 p.x, .int .i64 p.y, .int .i64 p.rad, .int .i64 p.dep, .int .i64 p.sym] := rfl
set_option maxHeartbeats 2000000 in
theorem paValid_any (o : Opn) (va vs : Value) (w : World) (hp : PartsAt w o.feat va vs) {v : Bool} (hv : decide (OpOk o) = v) : Calls Tryz.prog 12 #[opV o va vs] w fun e w' => e = .returned (.bool v) ∧ Below w.heap.size w w' := by
  obtain ⟨aa, ca, ab, cb, rfl, rfl⟩ := hp.form
  have HP := Lib.hid hp
  have HV := Lib.hid hv
  clear hp hv
  go_enter Tryz.func12, Tryz.ntmps12
  go_wp2_with fail
  refine calls_named fun W hW => ?_
  obtain ⟨p1, hB⟩ := box1 hW
  clear hW p1
  (with_reducible refine (ntOp_any o _ _ _ (HP.out.later hB) HV.out).mono ?_)
  rintro e w1 ⟨rfl, hb1⟩
  go_wp2_with fail
  go_returns
  exact ⟨rfl, below_step hB hb1⟩
set_option maxHeartbeats 2000000 in
theorem pavalid1_any (o : Opn) (va vs : Value) (w : World) (hp : PartsAt w o.feat va vs) {v : Bool} (hv : (!decide (OpOk o)) = v) : Calls Tryz.prog 200 #[opV o va vs] w fun e w' => e = .returned (.bool v) ∧ Below w.heap.size w w' := by
  obtain ⟨aa, ca, ab, cb, rfl, rfl⟩ := hp.form
  have HP := Lib.hid hp
  obtain ⟨u, hu⟩ : ∃ u, decide (OpOk o) = u := ⟨_, rfl⟩
  rw [hu] at hv
  have HU := Lib.hid hu
  clear hp hu
  subst hv
  go_enter Tryz.func200, Tryz.ntmps200
  go_wp2_with fail
  refine calls_named fun W hW => ?_
  obtain ⟨p1, hB⟩ := box1 hW
  clear hW p1
  (with_reducible refine (paValid_any o _ _ _ (HP.out.later hB) HU.out).mono ?_)
  rintro e w1 ⟨rfl, hb1⟩
  go_wp2_with fail
  go_returns
  exact ⟨rfl, below_step hB hb1⟩
/-- What IndexFunc answers. -/
def FirstR (B : Opn → Bool) (l : List Opn) (r : Int) : Prop := (r = -1 ∧ ∀ o ∈ l, B o = false) ∨ ∃ k, k < l.length ∧ r = k ∧ B (l.getD k noOpn) = true ∧ ∀ i, i < k → B (l.getD i noOpn) = false
set_option maxHeartbeats 4000000 in
theorem ifValid_any (l : List Opn) (v0 : Value) (w : World) (h : OpsAt w v0 l) : Calls Tryz.prog 87 #[v0, .func (.func 200) #[] #[]] w fun e w' => ∃ r : Int, e = .returned (.int .i64 r) ∧ FirstR (fun o => !decide (OpOk o)) l r ∧ Below w.heap.size w w' := by
  obtain ⟨ad, c, rfl, h1, hn, hc⟩ := h.form
  have H := Lib.hid h1
  obtain ⟨n, hln⟩ : ∃ n, l.length = n := ⟨_, rfl⟩
  rw [hln] at H hn hc
  rw [hln]
  have HL := Lib.hid hln
  clear h h1 hln
  go_enter Tryz.func87, Tryz.ntmps87
  go_wp2_with fail
  go_loopw [8] (fun i wr => ∃ k : Nat, k ≤ n ∧ i = .int .i64 k ∧ Below w.heap.size w wr ∧ ∀ i, i < k → (fun o => !decide (OpOk o)) (l.getD i noOpn) = false) (fun i _ => n - (Go.RowKit.intOf i).toNat)
  case atStart => exact ⟨0, by omega, rfl, Below.refl _ _, fun m hm => by omega⟩
  case round =>
    obtain ⟨k, hk, rfl, hb, hall⟩ := hrel
    have ALL := Lib.hid hall
    clear hall
    rcases Nat.lt_or_ge k n with hlt | hge
    rotate_left
    · obtain rfl : k = n := by omega
      go_wp2_with fail
      go_returns
      exact ⟨-1, rfl, .inl ⟨rfl, fun o ho => by
        obtain ⟨i, hi, rfl⟩ := List.getElem_of_mem ho
        have e := ALL.out i (by have := HL.out; omega)
        rw [List.getD_eq_getElem?_getD, List.getElem?_eq_getElem hi] at e
        first | exact e | simpa using e⟩, hb⟩
    obtain ⟨g, o, va, vs, rfl, fc⟩ := (H.out.later hb).row hlt
    obtain ⟨p, hp⟩ : ∃ p, l.getD k noOpn = p := ⟨_, rfl⟩
    rw [hp] at fc
    have HPK := Lib.hid hp
    clear hp
    have HPA := Lib.hid fc.parts
    obtain ⟨aa, ca, ab, cb, rfl, rfl⟩ := fc.parts.form
    have RG := Lib.hid fc.range
    obtain ⟨u, hu⟩ : ∃ u, (fun o => !decide (OpOk o)) p = u := ⟨_, rfl⟩
    have HU := Lib.hid hu
    clear fc hu
    go_wp2_with (first | (refine wpList_load_mid rfl _ _ rfl g (o + k * 16) rfl [.int .i64 p.kind, .int .i64 p.id, .int .i64 p.feat.id, .int .i64 p.feat.kind, .int .i64 p.feat.x, .int .i64 p.feat.y, .int .i64 p.feat.rad, .slice aa p.feat.area.length ca, .int .i64 p.feat.dep, .int .i64 p.feat.sym, .slice ab p.feat.secs.length cb, .int .i64 p.x, .int .i64 p.y, .int .i64 p.rad, .int .i64 p.dep, .int .i64 p.sym] _ RG.out Tryz.underlying34 rfl (by kernel_rfl) ?_))
    (with_reducible refine (pavalid1_any p _ _ _ HPA.out HU.out).mono ?_)
    rintro e w1 ⟨rfl, hb1⟩
    have hB1 := below_step hb hb1
    cases u
    · go_wp2_with fail
      go_roundw
      case rel => exact ⟨k + 1, by omega, by go_num, hB1, fun i hi => by
        rcases Nat.lt_or_ge i k with h | h
        · exact ALL.out i h
        · obtain rfl : i = k := by omega
          rw [HPK.out]
          exact HU.out⟩
      case measure => simp [Go.RowKit.intOf]; omega
    · go_wp2_with fail
      go_returns
      exact ⟨k, rfl, .inr ⟨k, by have := HL.out; omega, rfl, by rw [HPK.out]; exact HU.out, ALL.out⟩, hB1⟩
set_option maxHeartbeats 2000000 in
theorem cfValid_any (l : List Opn) (v0 : Value) (w : World) (h : OpsAt w v0 l) {v : Bool} (hv : (!decide (∀ o ∈ l, OpOk o)) = v) : Calls Tryz.prog 199 #[v0, .func (.func 200) #[] #[]] w fun e w' => e = .returned (.bool v) ∧ Below w.heap.size w w' := by
  obtain ⟨ad, c, rfl, h1, hn, hc⟩ := h.form
  have H := Lib.hid h1
  have HV := Lib.hid hv
  clear h h1 hv
  generalize l.length = n at *
  go_enter Tryz.func199, Tryz.ntmps199
  go_wp2_with fail
  (with_reducible refine (ifValid_any l _ _ H.out).mono ?_)
  rintro e w1 ⟨r, rfl, hr, hb1⟩
  have HR : Hid (decide (0 ≤ r) = v) := Lib.hid (by
    rw [← HV.out]
    rcases hr with ⟨rfl, hall⟩ | ⟨k, hk, rfl, hB, _⟩
    · rw [decide_eq_true (fun o ho => by simpa using hall o ho)]
      rfl
    · have hno : ¬ ∀ o ∈ l, OpOk o := fun h => by
        have := h _ (getD_memD hk noOpn)
        have hB2 : (!decide (OpOk (l.getD k noOpn))) = true := hB
        rw [decide_eq_true this] at hB2
        cases hB2
      rw [decide_eq_false hno, decide_eq_true (by omega : (0 : Int) ≤ (k : Int))]
      rfl)
  clear hr
  go_wp2_with fail
  go_returns
  exact ⟨ret_bool HR.out, hb1⟩
set_option maxHeartbeats 2000000 in
theorem pavalid_any (l : List Opn) (v0 : Value) (w : World) (h : OpsAt w v0 l) {v : Bool} (hv : decide (l.length ≤ 100 ∧ ∀ o ∈ l, OpOk o) = v) : Calls Tryz.prog 86 #[v0] w fun e w' => e = .returned (.bool v) ∧ Below w.heap.size w w' := by
  obtain ⟨ad, c, rfl, h1, hn, hc⟩ := h.form
  have H := Lib.hid h1
  obtain ⟨n, hln⟩ : ∃ n, l.length = n := ⟨_, rfl⟩
  rw [hln] at H hn hc hv
  rw [hln]
  have HV := Lib.hid hv
  clear h h1 hln hv
  rcases Nat.lt_or_ge 100 n with hlt | hge
  · have d : decide ((n : Int) ≤ 100) = false := decide_eq_false (by omega)
    have HF := Lib.hid (show false = v by rw [← HV.out]; exact (decide_eq_false (fun h => by omega)).symm)
    go_enter Tryz.func86, Tryz.ntmps86
    go_wp2_with fail
    go_returns
    exact ⟨ret_bool HF.out, Below.refl _ _⟩
  obtain ⟨u, hu⟩ : ∃ u, decide (∀ o ∈ l, OpOk o) = u := ⟨_, rfl⟩
  have HU := Lib.hid hu
  have HF : Hid (u = v) := Lib.hid (by rw [← hu, ← HV.out, decide_eq_decide]; exact ⟨fun h => ⟨hge, h⟩, fun h => h.2⟩)
  clear hu HV
  have d : decide ((n : Int) ≤ 100) = true := decide_eq_true (by omega)
  go_enter Tryz.func86, Tryz.ntmps86
  go_wp2_with fail
  (with_reducible refine (cfValid_any l _ _ H.out (v := !u) (by rw [HU.out])).mono ?_)
  rintro e w1 ⟨rfl, hb1⟩
  go_wp2_with fail
  go_returns
  exact ⟨ret_bool HF.out, hb1⟩
end Go.Proofs.YtdmegkkifiahdaaGreat
