/- What the laws of chapter 17 call: the reference's Few and Ops, find, and the literals of the examples. -/
import Derived.Test.YtpidmgkjnomigaaGreatPatLawA
import Derived.Test.YtpidmgkjnomigaaGreatPatOp
import Derived.Test.YtpidmgkjnomigaaGreatPC
import Derived.Test.YtpidmgkjnomigaaGreatPatVal
import Derived.Test.YtpidmgkjnomigaaGreatPatSh
namespace Go.Proofs.YtpidmgkjnomigaaGreat
open Go.RowKit Go.Sort Go.Shelf
attribute [local go_sem] bqOp bqAll bqUpon sqOp sqAll sqUpon ssOp ssAll
attribute [local irreducible] wpQuiet wpBQ wpPlan wsPlan
set_option linter.unusedVariables false
def FewO (l : List Feat) (ops : List Opn) : Prop := l.length ≤ 20 ∧ ops.length ≤ 12
instance (l : List Feat) (ops : List Opn) : Decidable (FewO l ops) := by unfold FewO; exact inferInstance
theorem q17Few_any (l : List Feat) (ops : List Opn) (v1 v2 : Value) (w : World) (h1 : FeatsAt w v1 l) (h2 : OpsAt w v2 ops) {v : Bool} (hv : decide (FewO l ops) = v) :
    Calls Tryz.prog 13 #[v1, v2] w fun e w' => e = .returned (.bool v) ∧ Below w.heap.size w w' := by
  obtain ⟨ad, c, rfl, _, hn, _⟩ := h1.form
  obtain ⟨ad', c', rfl, _, hm, _⟩ := h2.form
  obtain ⟨n, hln⟩ : ∃ n, l.length = n := ⟨_, rfl⟩
  obtain ⟨m, hlm⟩ : ∃ m, ops.length = m := ⟨_, rfl⟩
  have HV : Hid (decide (n ≤ 20 ∧ m ≤ 12) = v) := Lib.hid (by rw [← hv, ← hln, ← hlm]; exact decide_eq_decide.2 Iff.rfl)
  rw [hln] at hn
  rw [hlm] at hm
  rw [hln, hlm]
  clear hv h1 h2 hln hlm
  rcases Nat.lt_or_ge 20 n with h | h
  · have e1 : ¬ (n : Int) ≤ 20 := by omega
    go_enter Tryz.func13, Tryz.ntmps13
    go_wp2_with fail
    go_returns
    exact ⟨ret_bool (by rw [← HV.out]; exact (decide_eq_false (by omega)).symm), Below.refl _ _⟩
  · rcases Nat.lt_or_ge 12 m with k | k
    · have e1 : (n : Int) ≤ 20 := by omega
      have e2 : ¬ (m : Int) ≤ 12 := by omega
      go_enter Tryz.func13, Tryz.ntmps13
      go_wp2_with fail
      go_returns
      exact ⟨ret_bool (by rw [← HV.out]; exact (decide_eq_false (by omega)).symm), Below.refl _ _⟩
    · have e1 : (n : Int) ≤ 20 := by omega
      have e2 : (m : Int) ≤ 12 := by omega
      go_enter Tryz.func13, Tryz.ntmps13
      go_wp2_with fail
      go_returns
      exact ⟨ret_bool (by rw [← HV.out]; exact (decide_eq_true (by omega)).symm), Below.refl _ _⟩
set_option maxHeartbeats 4000000 in
theorem l17find_any (l : List Feat) (v0 : Value) (id : Int) (w : World) (h : FeatsAt w v0 l) {ff : Feat} {u : Bool} (hf : (look l id).getD noFeat = ff) (hu : (look l id).isSome = u) : Calls Tryz.prog 21 #[v0, .int .i64 id] w fun e w' =>
    Below w.heap.size w w' ∧ ∃ va vs : Value, e = .returned (.tuple #[featV ff va vs, .bool u]) ∧ PartsAt w ff va vs := by
  have LF : Hid ((look l id).getD noFeat = ff ∧ (look l id).isSome = u) := Lib.hid ⟨hf, hu⟩
  clear hf hu
  obtain ⟨ad, c, rfl, k1, hn, hnc⟩ := h.form
  have H1 := Lib.hid k1
  clear h k1
  obtain ⟨n, hln⟩ : ∃ n, l.length = n := ⟨_, rfl⟩
  rw [hln] at H1 hn hnc
  rw [hln]
  have HL := Lib.hid hln
  clear hln
  go_enter Tryz.func21, Tryz.ntmps21
  go_wp2_with fail
  go_loopw [6] (fun i wr => ∃ k : Nat, k ≤ n ∧ i = .int .i64 k ∧ wr = w.alloc (.cells #[.int .i64 0, .int .i64 0, .int .i64 0, .int .i64 0, .int .i64 0, .slice none 0 0, .int .i64 0, .int .i64 0, .slice none 0 0] 46) ∧ ∀ i, i < k → (l.getD i noFeat).id ≠ id) (fun i _ => n - cntV i)
  case atStart => exact ⟨0, by omega, rfl, rfl, fun m hm => by omega⟩
  case round =>
    obtain ⟨k, hk, rfl, rfl, hall⟩ := hrel
    have ALL := Lib.hid hall
    clear hall
    have hb : Below w.heap.size w (w.alloc (.cells #[.int .i64 0, .int .i64 0, .int .i64 0, .int .i64 0, .int .i64 0, .slice none 0 0, .int .i64 0, .int .i64 0, .slice none 0 0] 46)) := (Below.refl _ _).alloc (Nat.le_refl _) _
    rcases Nat.lt_or_ge k n with hlt | hge
    rotate_left
    · obtain rfl : k = n := by omega
      have LN : Hid (look l id = none) := Lib.hid (look_off (fun f hf => by
        obtain ⟨i, hi, e⟩ := List.getElem_of_mem hf
        have := ALL.out i (by have := HL.out; omega)
        rw [List.getD_eq_getElem?_getD, List.getElem?_eq_getElem hi] at this
        rw [← e]
        exact this))
      go_wp2_with fail
      go_returns
      have e1 := LF.out.1
      have e2 := LF.out.2
      rw [LN.out] at e1 e2
      simp only [Option.getD_none, Option.isSome_none] at e1 e2
      subst e1 e2
      exact ⟨by go_grown, _, _, rfl, PartsAt.zero _⟩
    obtain ⟨g, o, va, vs, rfl, fc0⟩ := H1.out.row hlt
    obtain ⟨f, hf⟩ : ∃ f, l.getD k noFeat = f := ⟨_, rfl⟩
    rw [hf] at fc0
    have F1 := Lib.hid hf
    have PA : Hid (PartsAt w f va vs) := Lib.hid ⟨fc0.area, fc0.secs⟩
    obtain ⟨aa, ca, ab, cb, rfl, rfl⟩ := PA.out.form
    have fc := fc0.later hb
    have c0 := fc.1
    have RA := Lib.hid fc.range
    clear hf fc fc0
    by_cases hid : f.id = id
    · have d : (f.id == id) = true := by simpa using hid
      have LS : Hid (look l id = some f) := Lib.hid (by
        have e : l = l.take k ++ f :: l.drop (k + 1) := by
          conv => lhs; rw [← List.take_append_drop k l]
          rw [List.drop_eq_getElem_cons (by have := HL.out; omega)]
          have : l[k]'(by have := HL.out; omega) = f := by
            rw [← F1.out, List.getD_eq_getElem?_getD, List.getElem?_eq_getElem (by have := HL.out; omega)]
            rfl
          rw [this]
        rw [e]
        unfold look
        rw [List.find?_append, List.find?_eq_none.2 (fun x hx => by
          obtain ⟨i, hi, ex⟩ := List.getElem_of_mem hx
          rw [List.length_take] at hi
          have := ALL.out i (by omega)
          rw [List.getD_eq_getElem?_getD, List.getElem?_eq_getElem (by omega)] at this
          rw [List.getElem_take] at ex
          rw [← ex]
          simpa using this)]
        simp [hid])
      clear hid
      go_wp2_with (first
        | (refine wpList_load_mid rfl 46 _ rfl g (o + k * 9) rfl [.int .i64 f.id, .int .i64 f.kind, .int .i64 f.x, .int .i64 f.y, .int .i64 f.rad, .slice aa f.area.length ca, .int .i64 f.dep, .int .i64 f.sym, .slice ab f.secs.length cb] _ RA.out Tryz.underlying46 rfl (by kernel_rfl) ?_))
      go_returns
      have e1 := LF.out.1
      have e2 := LF.out.2
      rw [LS.out] at e1 e2
      simp only [Option.getD_some, Option.isSome_some] at e1 e2
      subst e1 e2
      exact ⟨by go_grown, _, _, rfl, PA.out⟩
    · have d : (f.id == id) = false := by simpa using hid
      have NE := Lib.hid hid
      clear hid
      go_wp2_with fail
      go_roundw
      case rel => exact ⟨k + 1, by omega, by go_num, by first | trivial | rfl, fun i hi => by
        rcases Nat.lt_or_ge i k with h | h
        · exact ALL.out i h
        · obtain rfl : i = k := by omega
          rw [F1.out]
          exact NE.out⟩
      case measure => simp [cntV]; omega
theorem l17depth_any (id n : Int) (w : World) : Calls Tryz.prog 37 #[.int .i64 id, .int .i64 n] w fun e w' => e = .returned (opV (depO id n) (.slice none 0 0) (.slice none 0 0)) ∧ Below w.heap.size w w' := by
  go_enter Tryz.func37, Tryz.ntmps37
  go_wp2_with fail
  go_returns
  exact ⟨rfl, by go_grown⟩
theorem l17symbol_any (id n : Int) (w : World) : Calls Tryz.prog 39 #[.int .i64 id, .int .i64 n] w fun e w' => e = .returned (opV (symO id n) (.slice none 0 0) (.slice none 0 0)) ∧ Below w.heap.size w w' := by
  go_enter Tryz.func39, Tryz.ntmps39
  go_wp2_with fail
  go_returns
  exact ⟨rfl, by go_grown⟩
theorem l17remove_any (id : Int) (w : World) : Calls Tryz.prog 38 #[.int .i64 id] w fun e w' => e = .returned (opV (delO id) (.slice none 0 0) (.slice none 0 0)) ∧ Below w.heap.size w w' := by
  go_enter Tryz.func38, Tryz.ntmps38
  go_wp2_with fail
  go_returns
  exact ⟨rfl, by go_grown⟩
def wreckF (id dep : Int) : Feat := ⟨id, 2, 0, 0, 5, [], dep, 0, []⟩
def lightF (id : Int) : Feat := ⟨id, 4, 9, 9, 0, [], 0, 0, []⟩
theorem l17wreck_any (id n : Int) (w : World) : Calls Tryz.prog 35 #[.int .i64 id, .int .i64 n] w fun e w' => e = .returned (featV (wreckF id n) (.slice none 0 0) (.slice none 0 0)) ∧ Below w.heap.size w w' := by
  go_enter Tryz.func35, Tryz.ntmps35
  go_wp2_with fail
  go_returns
  exact ⟨rfl, by go_grown⟩
theorem l17light_any (id : Int) (w : World) : Calls Tryz.prog 36 #[.int .i64 id] w fun e w' => e = .returned (featV (lightF id) (.slice none 0 0) (.slice none 0 0)) ∧ Below w.heap.size w w' := by
  go_enter Tryz.func36, Tryz.ntmps36
  go_wp2_with fail
  go_returns
  exact ⟨rfl, by go_grown⟩
theorem l17insert_any (f : Feat) (va vs : Value) (w : World) (h : ∃ a n c b m d, va = .slice a n c ∧ vs = .slice b m d) : Calls Tryz.prog 40 #[featV f va vs] w fun e w' => e = .returned (opV (insO f) va vs) ∧ Below w.heap.size w w' := by
  obtain ⟨a, n, c, b, m, d, rfl, rfl⟩ := h
  go_enter Tryz.func40, Tryz.ntmps40
  go_wp2_with fail
  go_returns
  exact ⟨rfl, by go_grown⟩
/-- A block of operations, or of features, read as a list. -/
theorem ops_block {w : World} {b n : Nat} {items : List OItem} {l : List Opn} {T : TypeId} {m : Nat × Nat} {cs : Array Value} (h : w.heap[b]? = some (.cells cs T m)) (hc : cs.toList = items.flatMap opCells) (hr : OReads w items) (hl : items.map Prod.fst = l) (hn : items.length = n) (hs : n ≤ 1000) : OpsAt w (.slice (some ⟨b, 0, none⟩) n n) l := by
  subst hl hn
  refine ⟨_, _, by rw [List.length_map], ⟨by rw [List.length_map]; omega, by simp⟩, fun i hi => ?_⟩
  rw [List.length_map] at hi
  refine ⟨b, 0, (items.getD i noOItem).2.1, (items.getD i noOItem).2.2, rfl, ?_⟩
  rw [fst_getD hi noOItem]
  refine opCells_at (x := items.getD i noOItem) (hr _ (getD_memD hi _)) fun j hj => ?_
  rw [cell_block h]
  have := flat_get opCells 16 opCells_len noOItem items i j hi hj
  rw [← this, ← hc, Array.getElem?_toList]
  congr 1
  omega
theorem feats_block {w : World} {b n : Nat} {items : List FItem} {l : List Feat} {T : TypeId} {m : Nat × Nat} {cs : Array Value} (h : w.heap[b]? = some (.cells cs T m)) (hc : cs.toList = items.flatMap featCells) (hr : Reads w items) (hl : items.map Prod.fst = l) (hn : items.length = n) (hs : n ≤ 1000) : FeatsAt w (.slice (some ⟨b, 0, none⟩) n n) l := by
  subst hl hn
  refine ⟨_, _, by rw [List.length_map], ⟨by rw [List.length_map]; omega, by simp⟩, fun i hi => ?_⟩
  rw [List.length_map] at hi
  refine ⟨b, 0, (items.getD i noItem).2.1, (items.getD i noItem).2.2, rfl, ?_⟩
  rw [fst_getD hi noItem]
  refine featCells_at (x := items.getD i noItem) (hr _ (getD_memD hi _)) fun j hj => ?_
  rw [cell_block h]
  have := flat_get featCells 9 featCells_len noItem items i j hi hj
  rw [← this, ← hc, Array.getElem?_toList]
  congr 1
  omega
end Go.Proofs.YtpidmgkjnomigaaGreat
