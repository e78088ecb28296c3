import Derived.Test.YtdmegkkifiahdaaGreatRpA
import Derived.Test.YtdmegkkifiahdaaGreatKN
import Derived.Test.YtdmegkkifiahdaaGreatSame7
namespace Go.Proofs.YtdmegkkifiahdaaGreat
open Go.RowKit
attribute [local go_sem] bqOp bqAll bqUpon sqOp sqAll sqUpon
attribute [local irreducible] wpQuiet wpBQ wpPlan
set_option linter.unusedVariables false
theorem PartsAt.p {w : World} {f : Feat} {va vs : Value} (h : PartsAt w f va vs) : PtsAt w va f.area := And.left h
theorem PartsAt.s {w : World} {f : Feat} {va vs : Value} (h : PartsAt w f va vs) : SecsAt w vs f.secs := And.right h
theorem q07Same_zero (f : Feat) (va vs : Value) (w : World) (h : PartsAt w f va vs) {v : Bool} (hv : decide (f = noFeat) = v) :
  Calls Tryz.prog 43 #[featV f va vs, .agg #[.int .i64 0, .int .i64 0, .int .i64 0, .int .i64 0, .int .i64 0, .slice none 0 0, .int .i64 0, .int .i64 0, .slice none 0 0]] w fun e w' => e = .returned (.bool v) ∧ Below w.heap.size w w' :=
 q07Same_any f noFeat va vs (.slice none 0 0) (.slice none 0 0) w h.p h.s (PartsAt.zero w).p (PartsAt.zero w).s hv
def OpRef (o : Opn) : Prop := ((1 ≤ o.id ∧ o.id ≤ 100000) ∧ 1 ≤ o.kind ∧ o.kind ≤ 5) ∧ (if o.kind = 1 then FeatOk o.feat ∧ o.feat.id = o.id else o.feat = noFeat) ∧ (if o.kind = 3 then Vld o.x o.y ∧ (0 ≤ o.rad ∧ o.rad ≤ 100000) ∧ RoomOk o.x o.y o.rad else (o.x = 0 ∧ o.y = 0) ∧ o.rad = 0) ∧ ((0 ≤ o.dep ∧ o.dep ≤ 100000) ∧ (o.kind = 4 ∨ o.dep = 0)) ∧ (0 ≤ o.sym ∧ o.sym ≤ 999) ∧ (o.kind = 5 ∨ o.sym = 0)
theorem op_ref (o : Opn) : OpOk o ↔ OpRef o := by
 obtain ⟨kind, id, feat, x, y, rad, dep, sym⟩ := o
 constructor
 · intro h
   have hF := opForm h
   unfold OpRef
   cases hF
   · next hf => exact ⟨⟨featOk_id hf, by simp, by simp⟩, by simp; exact hf, by simp, by simp, by simp⟩
   · next hi => exact ⟨⟨hi, by simp, by simp⟩, by simp, by simp, by simp, by simp⟩
   · next hi hr hv ho => exact ⟨⟨hi, by simp, by simp⟩, by simp, by simp; exact ⟨hr, hv, ho⟩, by simp, by simp⟩
   · next hi hd => exact ⟨⟨hi, by simp, by simp⟩, by simp, by simp, by simp; exact hd, by simp⟩
   · next hi hn => exact ⟨⟨hi, by simp, by simp⟩, by simp, by simp, by simp, by simp; exact hn⟩
 · rintro ⟨⟨h1, h2, h3⟩, hf, hm, ⟨hd1, hd2⟩, hs1, hs2⟩
   simp only at h1 h2 h3 hf hm hd1 hd2 hs1 hs2
   have hk : kind = 1 ∨ kind = 2 ∨ kind = 3 ∨ kind = 4 ∨ kind = 5 := by omega
   rcases hk with rfl | rfl | rfl | rfl | rfl
   · rw [if_pos rfl] at hf
     rw [if_neg (by decide)] at hm
     obtain ⟨⟨rfl, rfl⟩, rfl⟩ := hm
     obtain rfl : dep = 0 := hd2.resolve_left (by decide)
     obtain rfl : sym = 0 := hs2.resolve_left (by decide)
     obtain ⟨hf, rfl⟩ := hf
     exact opOk_form (.ins feat hf)
   · rw [if_neg (by decide)] at hf hm
     obtain ⟨⟨rfl, rfl⟩, rfl⟩ := hm
     obtain rfl : dep = 0 := hd2.resolve_left (by decide)
     obtain rfl : sym = 0 := hs2.resolve_left (by decide)
     subst hf
     exact opOk_form (.del id h1)
   · rw [if_neg (by decide)] at hf
     rw [if_pos rfl] at hm
     obtain rfl : dep = 0 := hd2.resolve_left (by decide)
     obtain rfl : sym = 0 := hs2.resolve_left (by decide)
     subst hf
     exact opOk_form (.mov id x y rad h1 hm.2.1 hm.1 hm.2.2)
   · rw [if_neg (by decide)] at hf hm
     obtain ⟨⟨rfl, rfl⟩, rfl⟩ := hm
     obtain rfl : sym = 0 := hs2.resolve_left (by decide)
     subst hf
     exact opOk_form (.dep id dep h1 hd1)
   · rw [if_neg (by decide)] at hf hm
     obtain ⟨⟨rfl, rfl⟩, rfl⟩ := hm
     obtain rfl : dep = 0 := hd2.resolve_left (by decide)
     subst hf
     exact opOk_form (.sym id sym h1 hs1)
theorem op_ref1 (id : Int) (feat : Feat) (x y rad dep sym : Int) : OpOk ⟨1, id, feat, x, y, rad, dep, sym⟩ ↔ (1 ≤ id ∧ id ≤ 100000) ∧ (FeatOk feat ∧ feat.id = id) ∧ ((x = 0 ∧ y = 0) ∧ rad = 0) ∧ (dep = 0) ∧ (sym = 0) :=
 (op_ref _).trans ⟨fun ⟨⟨a, _⟩, hf, hm, ⟨hd1, hd2⟩, hs1, hs2⟩ => ⟨a, by simpa using hf, by simpa using hm, by simp only at hd1 hd2; omega, by simp only at hs1 hs2; omega⟩, fun ⟨a, hf, hm, hd, hs⟩ => ⟨⟨a, by simp, by simp⟩, by simpa using hf, by simpa using hm, ⟨by first | (simp; done) | (simp; omega) | (simp only; omega), by first | (simp; done) | (simp; omega) | (simp only; omega)⟩, by first | (simp; done) | (simp; omega) | (simp only; omega), by first | (simp; done) | (simp; omega) | (simp only; omega)⟩⟩
theorem op_ref2 (id : Int) (feat : Feat) (x y rad dep sym : Int) : OpOk ⟨2, id, feat, x, y, rad, dep, sym⟩ ↔ (1 ≤ id ∧ id ≤ 100000) ∧ (feat = noFeat) ∧ ((x = 0 ∧ y = 0) ∧ rad = 0) ∧ (dep = 0) ∧ (sym = 0) :=
 (op_ref _).trans ⟨fun ⟨⟨a, _⟩, hf, hm, ⟨hd1, hd2⟩, hs1, hs2⟩ => ⟨a, by simpa using hf, by simpa using hm, by simp only at hd1 hd2; omega, by simp only at hs1 hs2; omega⟩, fun ⟨a, hf, hm, hd, hs⟩ => ⟨⟨a, by simp, by simp⟩, by simpa using hf, by simpa using hm, ⟨by first | (simp; done) | (simp; omega) | (simp only; omega), by first | (simp; done) | (simp; omega) | (simp only; omega)⟩, by first | (simp; done) | (simp; omega) | (simp only; omega), by first | (simp; done) | (simp; omega) | (simp only; omega)⟩⟩
theorem op_ref3 (id : Int) (feat : Feat) (x y rad dep sym : Int) : OpOk ⟨3, id, feat, x, y, rad, dep, sym⟩ ↔ (1 ≤ id ∧ id ≤ 100000) ∧ (feat = noFeat) ∧ (Vld x y ∧ (0 ≤ rad ∧ rad ≤ 100000) ∧ RoomOk x y rad) ∧ (dep = 0) ∧ (sym = 0) :=
 (op_ref _).trans ⟨fun ⟨⟨a, _⟩, hf, hm, ⟨hd1, hd2⟩, hs1, hs2⟩ => ⟨a, by simpa using hf, by simpa using hm, by simp only at hd1 hd2; omega, by simp only at hs1 hs2; omega⟩, fun ⟨a, hf, hm, hd, hs⟩ => ⟨⟨a, by simp, by simp⟩, by simpa using hf, by simpa using hm, ⟨by first | (simp; done) | (simp; omega) | (simp only; omega), by first | (simp; done) | (simp; omega) | (simp only; omega)⟩, by first | (simp; done) | (simp; omega) | (simp only; omega), by first | (simp; done) | (simp; omega) | (simp only; omega)⟩⟩
theorem op_ref4 (id : Int) (feat : Feat) (x y rad dep sym : Int) : OpOk ⟨4, id, feat, x, y, rad, dep, sym⟩ ↔ (1 ≤ id ∧ id ≤ 100000) ∧ (feat = noFeat) ∧ ((x = 0 ∧ y = 0) ∧ rad = 0) ∧ (0 ≤ dep ∧ dep ≤ 100000) ∧ (sym = 0) :=
 (op_ref _).trans ⟨fun ⟨⟨a, _⟩, hf, hm, ⟨hd1, hd2⟩, hs1, hs2⟩ => ⟨a, by simpa using hf, by simpa using hm, by simp only at hd1 hd2; omega, by simp only at hs1 hs2; omega⟩, fun ⟨a, hf, hm, hd, hs⟩ => ⟨⟨a, by simp, by simp⟩, by simpa using hf, by simpa using hm, ⟨by first | (simp; done) | (simp; omega) | (simp only; omega), by first | (simp; done) | (simp; omega) | (simp only; omega)⟩, by first | (simp; done) | (simp; omega) | (simp only; omega), by first | (simp; done) | (simp; omega) | (simp only; omega)⟩⟩
theorem op_ref5 (id : Int) (feat : Feat) (x y rad dep sym : Int) : OpOk ⟨5, id, feat, x, y, rad, dep, sym⟩ ↔ (1 ≤ id ∧ id ≤ 100000) ∧ (feat = noFeat) ∧ ((x = 0 ∧ y = 0) ∧ rad = 0) ∧ (dep = 0) ∧ (0 ≤ sym ∧ sym ≤ 999) :=
 (op_ref _).trans ⟨fun ⟨⟨a, _⟩, hf, hm, ⟨hd1, hd2⟩, hs1, hs2⟩ => ⟨a, by simpa using hf, by simpa using hm, by simp only at hd1 hd2; omega, by simp only at hs1 hs2; omega⟩, fun ⟨a, hf, hm, hd, hs⟩ => ⟨⟨a, by simp, by simp⟩, by simpa using hf, by simpa using hm, ⟨by first | (simp; done) | (simp; omega) | (simp only; omega), by first | (simp; done) | (simp; omega) | (simp only; omega)⟩, by first | (simp; done) | (simp; omega) | (simp only; omega), by first | (simp; done) | (simp; omega) | (simp only; omega)⟩⟩
set_option maxHeartbeats 2000000 in
set_option maxRecDepth 20000 in
theorem q16Op_1 (id : Int) (feat : Feat) (x y rad dep sym : Int) (va vs : Value) (w : World) (hp : PartsAt w feat va vs) {v : Bool} (hv : decide (OpOk ⟨1, id, feat, x, y, rad, dep, sym⟩) = v) : Calls Tryz.prog 13 #[opV ⟨1, id, feat, x, y, rad, dep, sym⟩ va vs] w fun e w' => e = .returned (.bool v) ∧ Below w.heap.size w w' := by
 have HV : Hid (v = decide ((1 ≤ id ∧ id ≤ 100000) ∧ (FeatOk feat ∧ feat.id = id) ∧ ((x = 0 ∧ y = 0) ∧ rad = 0) ∧ (dep = 0) ∧ (sym = 0))) := Lib.hid (by rw [← hv]; exact decide_eq_decide.2 (op_ref1 id feat x y rad dep sym))
 have HP := Lib.hid hp
 obtain ⟨aa, ca, ab, cb, rfl, rfl⟩ := hp.form
 clear hp hv
 obtain ⟨uf, huf⟩ : ∃ z, decide (FeatOk feat) = z := ⟨_, rfl⟩
 have UF := Lib.hid huf
 clear huf
 by_cases g1 : id < 1
 · have d1 : decide (id < 1) = true := decide_eq_true g1
   go_enter Tryz.func13, Tryz.ntmps13
   go_wp2_with fail
   go_returns
   exact ⟨ret_bool (by rw [HV.out]; exact (decide_eq_false (fun h => by have := h.1.1; omega)).symm), (Below.refl _ _).alloc (Nat.le_refl _) _⟩
 have d1 : decide (id < 1) = false := decide_eq_false g1
 by_cases g2 : 100000 < id
 · have d2 : decide (100000 < id) = true := decide_eq_true g2
   go_enter Tryz.func13, Tryz.ntmps13
   go_wp2_with fail
   go_returns
   exact ⟨ret_bool (by rw [HV.out]; exact (decide_eq_false (fun h => by have := h.1.2; omega)).symm), (Below.refl _ _).alloc (Nat.le_refl _) _⟩
 have d2 : decide (100000 < id) = false := decide_eq_false g2
 have IDO : Hid (1 ≤ id ∧ id ≤ 100000) := Lib.hid ⟨by omega, by omega⟩
 clear g1 g2
 go_enter Tryz.func13, Tryz.ntmps13
 go_wp2_with fail
 clear d1 d2
 refine calls_named fun W hW => ?_
 obtain ⟨p1, hB⟩ := box1 hW
 clear hW
 have P1 := Lib.hid p1
 clear p1
 have q1 := cellsL P1.out
 (with_reducible refine (q07Valid_any feat _ _ _ (HP.out.later hB).p (HP.out.later hB).s UF.out).mono ?_)
 rintro e w1 ⟨rfl, hb1⟩
 have hB1 := below_step hB hb1
 cases uf
 · skip
   go_wp2_with fail
   go_returns
   exact ⟨ret_bool (by rw [HV.out]; exact (decide_eq_false (fun h => absurd h.2.1.1 (of_decide_eq_false UF.out))).symm), hB1⟩
 by_cases g3 : feat.id = id
 rotate_left
 · have d3 : (feat.id != id) = true := by simpa using g3
   go_wp2_with fail
   go_returns
   exact ⟨ret_bool (by rw [HV.out]; exact (decide_eq_false (fun h => g3 h.2.1.2)).symm), hB1⟩
 have d3 : (feat.id != id) = false := by simpa using g3
 have FO : Hid (FeatOk feat ∧ feat.id = id) := Lib.hid ⟨of_decide_eq_true UF.out, g3⟩
 clear g3
 by_cases g6 : x = 0
 rotate_left
 · have d6 : (x == 0) = false := by simpa using g6
   have d6' : (x != 0) = true := by simpa using g6
   go_wp2_with fail
   go_returns
   exact ⟨ret_bool (by rw [HV.out]; exact (decide_eq_false (fun h => g6 h.2.2.1.1.1)).symm), hB1⟩
 subst g6
 by_cases g6 : y = 0
 rotate_left
 · have d6 : (y == 0) = false := by simpa using g6
   have d6' : (y != 0) = true := by simpa using g6
   go_wp2_with fail
   go_returns
   exact ⟨ret_bool (by rw [HV.out]; exact (decide_eq_false (fun h => g6 h.2.2.1.1.2)).symm), hB1⟩
 subst g6
 by_cases g7 : rad = 0
 rotate_left
 · have d7 : (rad != 0) = true := by simpa using g7
   go_wp2_with fail
   go_returns
   exact ⟨ret_bool (by rw [HV.out]; exact (decide_eq_false (fun h => g7 h.2.2.1.2)).symm), hB1⟩
 subst g7
 by_cases g8 : dep < 0
 · have d8 : decide (dep < 0) = true := decide_eq_true g8
   go_wp2_with fail
   go_returns
   exact ⟨ret_bool (by rw [HV.out]; exact (decide_eq_false (fun h => by have := h.2.2.2.1; omega)).symm), hB1⟩
 have d8 : decide (dep < 0) = false := decide_eq_false g8
 by_cases g9 : 100000 < dep
 · have d9 : decide (100000 < dep) = true := decide_eq_true g9
   go_wp2_with fail
   go_returns
   exact ⟨ret_bool (by rw [HV.out]; exact (decide_eq_false (fun h => by have := h.2.2.2.1; omega)).symm), hB1⟩
 have d9 : decide (100000 < dep) = false := decide_eq_false g9
 by_cases g10 : dep = 0
 rotate_left
 · have d10 : (dep != 0) = true := by simpa using g10
   go_wp2_with fail
   go_returns
   exact ⟨ret_bool (by rw [HV.out]; exact (decide_eq_false (fun h => by have := h.2.2.2.1; omega)).symm), hB1⟩
 subst g10
 by_cases g11 : 0 ≤ sym
 rotate_left
 · have d11 : decide (0 ≤ sym) = false := decide_eq_false g11
   go_wp2_with fail
   go_returns
   exact ⟨ret_bool (by rw [HV.out]; exact (decide_eq_false (fun h => by have := h.2.2.2.2; omega)).symm), hB1⟩
 have d11 : decide (0 ≤ sym) = true := decide_eq_true g11
 by_cases g12 : sym ≤ 999
 rotate_left
 · have d12 : decide (sym ≤ 999) = false := decide_eq_false g12
   go_wp2_with fail
   go_returns
   exact ⟨ret_bool (by rw [HV.out]; exact (decide_eq_false (fun h => by have := h.2.2.2.2; omega)).symm), hB1⟩
 have d12 : decide (sym ≤ 999) = true := decide_eq_true g12
 by_cases g13 : sym = 0
 rotate_left
 · have d13 : (sym == 0) = false := by simpa using g13
   go_wp2_with fail
   go_returns
   exact ⟨ret_bool (by rw [HV.out]; exact (decide_eq_false (fun h => by have := h.2.2.2.2; omega)).symm), hB1⟩
 subst g13
 go_wp2_with fail
 go_returns
 exact ⟨ret_bool (by rw [HV.out]; exact (decide_eq_true (⟨IDO.out, FO.out, by simp, by simp, by simp⟩)).symm), hB1⟩
set_option maxHeartbeats 2000000 in
set_option maxRecDepth 20000 in
theorem q16Op_2 (id : Int) (feat : Feat) (x y rad dep sym : Int) (va vs : Value) (w : World) (hp : PartsAt w feat va vs) {v : Bool} (hv : decide (OpOk ⟨2, id, feat, x, y, rad, dep, sym⟩) = v) : Calls Tryz.prog 13 #[opV ⟨2, id, feat, x, y, rad, dep, sym⟩ va vs] w fun e w' => e = .returned (.bool v) ∧ Below w.heap.size w w' := by
 have HV : Hid (v = decide ((1 ≤ id ∧ id ≤ 100000) ∧ (feat = noFeat) ∧ ((x = 0 ∧ y = 0) ∧ rad = 0) ∧ (dep = 0) ∧ (sym = 0))) := Lib.hid (by rw [← hv]; exact decide_eq_decide.2 (op_ref2 id feat x y rad dep sym))
 have HP := Lib.hid hp
 obtain ⟨aa, ca, ab, cb, rfl, rfl⟩ := hp.form
 clear hp hv
 obtain ⟨us, hus⟩ : ∃ z, decide (feat = noFeat) = z := ⟨_, rfl⟩
 have US := Lib.hid hus
 clear hus
 by_cases g1 : id < 1
 · have d1 : decide (id < 1) = true := decide_eq_true g1
   go_enter Tryz.func13, Tryz.ntmps13
   go_wp2_with fail
   go_returns
   exact ⟨ret_bool (by rw [HV.out]; exact (decide_eq_false (fun h => by have := h.1.1; omega)).symm), (Below.refl _ _).alloc (Nat.le_refl _) _⟩
 have d1 : decide (id < 1) = false := decide_eq_false g1
 by_cases g2 : 100000 < id
 · have d2 : decide (100000 < id) = true := decide_eq_true g2
   go_enter Tryz.func13, Tryz.ntmps13
   go_wp2_with fail
   go_returns
   exact ⟨ret_bool (by rw [HV.out]; exact (decide_eq_false (fun h => by have := h.1.2; omega)).symm), (Below.refl _ _).alloc (Nat.le_refl _) _⟩
 have d2 : decide (100000 < id) = false := decide_eq_false g2
 have IDO : Hid (1 ≤ id ∧ id ≤ 100000) := Lib.hid ⟨by omega, by omega⟩
 clear g1 g2
 go_enter Tryz.func13, Tryz.ntmps13
 go_wp2_with fail
 clear d1 d2
 refine calls_named fun W hW => ?_
 obtain ⟨p1, hB⟩ := box1 hW
 clear hW
 have P1 := Lib.hid p1
 clear p1
 have q1 := cellsL P1.out
 (with_reducible refine (q07Same_zero feat _ _ _ (HP.out.later hB) US.out).mono ?_)
 rintro e w1 ⟨rfl, hb1⟩
 have hB1 := below_step hB hb1
 cases us
 · skip
   go_wp2_with fail
   go_returns
   exact ⟨ret_bool (by rw [HV.out]; exact (decide_eq_false (fun h => absurd h.2.1 (of_decide_eq_false US.out))).symm), hB1⟩
 have FO : Hid (feat = noFeat) := Lib.hid (of_decide_eq_true US.out)
 by_cases g6 : x = 0
 rotate_left
 · have d6 : (x == 0) = false := by simpa using g6
   have d6' : (x != 0) = true := by simpa using g6
   go_wp2_with fail
   go_returns
   exact ⟨ret_bool (by rw [HV.out]; exact (decide_eq_false (fun h => g6 h.2.2.1.1.1)).symm), hB1⟩
 subst g6
 by_cases g6 : y = 0
 rotate_left
 · have d6 : (y == 0) = false := by simpa using g6
   have d6' : (y != 0) = true := by simpa using g6
   go_wp2_with fail
   go_returns
   exact ⟨ret_bool (by rw [HV.out]; exact (decide_eq_false (fun h => g6 h.2.2.1.1.2)).symm), hB1⟩
 subst g6
 by_cases g7 : rad = 0
 rotate_left
 · have d7 : (rad != 0) = true := by simpa using g7
   go_wp2_with fail
   go_returns
   exact ⟨ret_bool (by rw [HV.out]; exact (decide_eq_false (fun h => g7 h.2.2.1.2)).symm), hB1⟩
 subst g7
 by_cases g8 : dep < 0
 · have d8 : decide (dep < 0) = true := decide_eq_true g8
   go_wp2_with fail
   go_returns
   exact ⟨ret_bool (by rw [HV.out]; exact (decide_eq_false (fun h => by have := h.2.2.2.1; omega)).symm), hB1⟩
 have d8 : decide (dep < 0) = false := decide_eq_false g8
 by_cases g9 : 100000 < dep
 · have d9 : decide (100000 < dep) = true := decide_eq_true g9
   go_wp2_with fail
   go_returns
   exact ⟨ret_bool (by rw [HV.out]; exact (decide_eq_false (fun h => by have := h.2.2.2.1; omega)).symm), hB1⟩
 have d9 : decide (100000 < dep) = false := decide_eq_false g9
 by_cases g10 : dep = 0
 rotate_left
 · have d10 : (dep != 0) = true := by simpa using g10
   go_wp2_with fail
   go_returns
   exact ⟨ret_bool (by rw [HV.out]; exact (decide_eq_false (fun h => by have := h.2.2.2.1; omega)).symm), hB1⟩
 subst g10
 by_cases g11 : 0 ≤ sym
 rotate_left
 · have d11 : decide (0 ≤ sym) = false := decide_eq_false g11
   go_wp2_with fail
   go_returns
   exact ⟨ret_bool (by rw [HV.out]; exact (decide_eq_false (fun h => by have := h.2.2.2.2; omega)).symm), hB1⟩
 have d11 : decide (0 ≤ sym) = true := decide_eq_true g11
 by_cases g12 : sym ≤ 999
 rotate_left
 · have d12 : decide (sym ≤ 999) = false := decide_eq_false g12
   go_wp2_with fail
   go_returns
   exact ⟨ret_bool (by rw [HV.out]; exact (decide_eq_false (fun h => by have := h.2.2.2.2; omega)).symm), hB1⟩
 have d12 : decide (sym ≤ 999) = true := decide_eq_true g12
 by_cases g13 : sym = 0
 rotate_left
 · have d13 : (sym == 0) = false := by simpa using g13
   go_wp2_with fail
   go_returns
   exact ⟨ret_bool (by rw [HV.out]; exact (decide_eq_false (fun h => by have := h.2.2.2.2; omega)).symm), hB1⟩
 subst g13
 go_wp2_with fail
 go_returns
 exact ⟨ret_bool (by rw [HV.out]; exact (decide_eq_true (⟨IDO.out, FO.out, by simp, by simp, by simp⟩)).symm), hB1⟩
set_option maxHeartbeats 2000000 in
set_option maxRecDepth 20000 in
theorem q16Op_3 (id : Int) (feat : Feat) (x y rad dep sym : Int) (va vs : Value) (w : World) (hp : PartsAt w feat va vs) {v : Bool} (hv : decide (OpOk ⟨3, id, feat, x, y, rad, dep, sym⟩) = v) : Calls Tryz.prog 13 #[opV ⟨3, id, feat, x, y, rad, dep, sym⟩ va vs] w fun e w' => e = .returned (.bool v) ∧ Below w.heap.size w w' := by
 have HV : Hid (v = decide ((1 ≤ id ∧ id ≤ 100000) ∧ (feat = noFeat) ∧ (Vld x y ∧ (0 ≤ rad ∧ rad ≤ 100000) ∧ RoomOk x y rad) ∧ (dep = 0) ∧ (sym = 0))) := Lib.hid (by rw [← hv]; exact decide_eq_decide.2 (op_ref3 id feat x y rad dep sym))
 have HP := Lib.hid hp
 obtain ⟨aa, ca, ab, cb, rfl, rfl⟩ := hp.form
 clear hp hv
 obtain ⟨us, hus⟩ : ∃ z, decide (feat = noFeat) = z := ⟨_, rfl⟩
 have US := Lib.hid hus
 clear hus
 obtain ⟨ux, hux⟩ : ∃ z, decide (Vld x y) = z := ⟨_, rfl⟩
 have UX := Lib.hid hux
 clear hux
 obtain ⟨r1, hr1⟩ : ∃ z, decide (-1000000 ≤ x - rad ∧ x + rad ≤ 1000000) = z := ⟨_, rfl⟩
 have R1 := Lib.hid hr1
 clear hr1
 obtain ⟨r2, hr2⟩ : ∃ z, decide (-1000000 ≤ y - rad ∧ y + rad ≤ 1000000) = z := ⟨_, rfl⟩
 have R2 := Lib.hid hr2
 clear hr2
 by_cases g1 : id < 1
 · have d1 : decide (id < 1) = true := decide_eq_true g1
   go_enter Tryz.func13, Tryz.ntmps13
   go_wp2_with fail
   go_returns
   exact ⟨ret_bool (by rw [HV.out]; exact (decide_eq_false (fun h => by have := h.1.1; omega)).symm), (Below.refl _ _).alloc (Nat.le_refl _) _⟩
 have d1 : decide (id < 1) = false := decide_eq_false g1
 by_cases g2 : 100000 < id
 · have d2 : decide (100000 < id) = true := decide_eq_true g2
   go_enter Tryz.func13, Tryz.ntmps13
   go_wp2_with fail
   go_returns
   exact ⟨ret_bool (by rw [HV.out]; exact (decide_eq_false (fun h => by have := h.1.2; omega)).symm), (Below.refl _ _).alloc (Nat.le_refl _) _⟩
 have d2 : decide (100000 < id) = false := decide_eq_false g2
 have IDO : Hid (1 ≤ id ∧ id ≤ 100000) := Lib.hid ⟨by omega, by omega⟩
 clear g1 g2
 go_enter Tryz.func13, Tryz.ntmps13
 go_wp2_with fail
 clear d1 d2
 refine calls_named fun W hW => ?_
 obtain ⟨p1, hB⟩ := box1 hW
 clear hW
 have P1 := Lib.hid p1
 clear p1
 have q1 := cellsL P1.out
 (with_reducible refine (q07Same_zero feat _ _ _ (HP.out.later hB) US.out).mono ?_)
 rintro e w1 ⟨rfl, hb1⟩
 have hB1 := below_step hB hb1
 cases us
 · skip
   go_wp2_with fail
   go_returns
   exact ⟨ret_bool (by rw [HV.out]; exact (decide_eq_false (fun h => absurd h.2.1 (of_decide_eq_false US.out))).symm), hB1⟩
 have FO : Hid (feat = noFeat) := Lib.hid (of_decide_eq_true US.out)
 go_wp2_with fail
 (with_reducible refine (q01Valid_any x y _ UX.out).mono ?_)
 rintro e w2 ⟨rfl, hb2⟩
 have hB2 := below_step hB1 hb2
 have hW2 := below_step hb1 hb2
 cases ux
 · skip
   go_wp2_with fail
   go_returns
   exact ⟨ret_bool (by rw [HV.out]; exact (decide_eq_false (fun h => absurd h.2.2.1.1 (of_decide_eq_false UX.out))).symm), hB2⟩
 have VX := Lib.hid (of_decide_eq_true UX.out)
 by_cases g4 : rad < 0
 · have d4 : decide (rad < 0) = true := decide_eq_true g4
   go_wp2_with fail
   go_returns
   exact ⟨ret_bool (by rw [HV.out]; exact (decide_eq_false (fun h => by have := h.2.2.1.2.1; omega)).symm), hB2⟩
 have d4 : decide (rad < 0) = false := decide_eq_false g4
 by_cases g5 : 100000 < rad
 · have d5 : decide (100000 < rad) = true := decide_eq_true g5
   go_wp2_with fail
   go_returns
   exact ⟨ret_bool (by rw [HV.out]; exact (decide_eq_false (fun h => by have := h.2.2.1.2.1; omega)).symm), hB2⟩
 have d5 : decide (100000 < rad) = false := decide_eq_false g5
 go_wp2_with fail
 (with_reducible refine (q07Room_any _ _ _ VX.out.x1 VX.out.x2 (by omega) (by omega) R1.out).mono ?_)
 rintro e w3 ⟨rfl, hb3⟩
 have hB3 := below_step hB2 hb3
 have hW3 := below_step hW2 hb3
 cases r1
 · skip
   go_wp2_with fail
   go_returns
   exact ⟨ret_bool (by rw [HV.out]; exact (decide_eq_false (fun h => absurd ⟨h.2.2.1.2.2.1.x1, h.2.2.1.2.2.2.x2⟩ (of_decide_eq_false R1.out))).symm), hB3⟩
 go_wp2_with fail
 (with_reducible refine (q07Room_any _ _ _ VX.out.y1 VX.out.y2 (by omega) (by omega) R2.out).mono ?_)
 rintro e w4 ⟨rfl, hb4⟩
 have hB4 := below_step hB3 hb4
 have hW4 := below_step hW3 hb4
 cases r2
 · skip
   go_wp2_with fail
   go_returns
   exact ⟨ret_bool (by rw [HV.out]; exact (decide_eq_false (fun h => absurd ⟨h.2.2.1.2.2.1.y1, h.2.2.1.2.2.2.y2⟩ (of_decide_eq_false R2.out))).symm), hB4⟩
 have MO : Hid (Vld x y ∧ (0 ≤ rad ∧ rad ≤ 100000) ∧ RoomOk x y rad) := Lib.hid (by
  have a1 := of_decide_eq_true R1.out
  have a2 := of_decide_eq_true R2.out
  have v1 := VX.out.x1
  have v2 := VX.out.x2
  have v3 := VX.out.y1
  have v4 := VX.out.y2
  exact ⟨VX.out, ⟨by omega, by omega⟩, ⟨by omega, by omega, by omega, by omega⟩, ⟨by omega, by omega, by omega, by omega⟩⟩)
 clear d4 d5 g4 g5
 by_cases g8 : dep < 0
 · have d8 : decide (dep < 0) = true := decide_eq_true g8
   go_wp2_with fail
   go_returns
   exact ⟨ret_bool (by rw [HV.out]; exact (decide_eq_false (fun h => by have := h.2.2.2.1; omega)).symm), hB4⟩
 have d8 : decide (dep < 0) = false := decide_eq_false g8
 by_cases g9 : 100000 < dep
 · have d9 : decide (100000 < dep) = true := decide_eq_true g9
   go_wp2_with fail
   go_returns
   exact ⟨ret_bool (by rw [HV.out]; exact (decide_eq_false (fun h => by have := h.2.2.2.1; omega)).symm), hB4⟩
 have d9 : decide (100000 < dep) = false := decide_eq_false g9
 by_cases g10 : dep = 0
 rotate_left
 · have d10 : (dep != 0) = true := by simpa using g10
   go_wp2_with fail
   go_returns
   exact ⟨ret_bool (by rw [HV.out]; exact (decide_eq_false (fun h => by have := h.2.2.2.1; omega)).symm), hB4⟩
 subst g10
 by_cases g11 : 0 ≤ sym
 rotate_left
 · have d11 : decide (0 ≤ sym) = false := decide_eq_false g11
   go_wp2_with fail
   go_returns
   exact ⟨ret_bool (by rw [HV.out]; exact (decide_eq_false (fun h => by have := h.2.2.2.2; omega)).symm), hB4⟩
 have d11 : decide (0 ≤ sym) = true := decide_eq_true g11
 by_cases g12 : sym ≤ 999
 rotate_left
 · have d12 : decide (sym ≤ 999) = false := decide_eq_false g12
   go_wp2_with fail
   go_returns
   exact ⟨ret_bool (by rw [HV.out]; exact (decide_eq_false (fun h => by have := h.2.2.2.2; omega)).symm), hB4⟩
 have d12 : decide (sym ≤ 999) = true := decide_eq_true g12
 by_cases g13 : sym = 0
 rotate_left
 · have d13 : (sym == 0) = false := by simpa using g13
   go_wp2_with fail
   go_returns
   exact ⟨ret_bool (by rw [HV.out]; exact (decide_eq_false (fun h => by have := h.2.2.2.2; omega)).symm), hB4⟩
 subst g13
 go_wp2_with fail
 go_returns
 exact ⟨ret_bool (by rw [HV.out]; exact (decide_eq_true (⟨IDO.out, FO.out, MO.out, by simp, by simp⟩)).symm), hB4⟩
set_option maxHeartbeats 2000000 in
set_option maxRecDepth 20000 in
theorem q16Op_4 (id : Int) (feat : Feat) (x y rad dep sym : Int) (va vs : Value) (w : World) (hp : PartsAt w feat va vs) {v : Bool} (hv : decide (OpOk ⟨4, id, feat, x, y, rad, dep, sym⟩) = v) : Calls Tryz.prog 13 #[opV ⟨4, id, feat, x, y, rad, dep, sym⟩ va vs] w fun e w' => e = .returned (.bool v) ∧ Below w.heap.size w w' := by
 have HV : Hid (v = decide ((1 ≤ id ∧ id ≤ 100000) ∧ (feat = noFeat) ∧ ((x = 0 ∧ y = 0) ∧ rad = 0) ∧ (0 ≤ dep ∧ dep ≤ 100000) ∧ (sym = 0))) := Lib.hid (by rw [← hv]; exact decide_eq_decide.2 (op_ref4 id feat x y rad dep sym))
 have HP := Lib.hid hp
 obtain ⟨aa, ca, ab, cb, rfl, rfl⟩ := hp.form
 clear hp hv
 obtain ⟨us, hus⟩ : ∃ z, decide (feat = noFeat) = z := ⟨_, rfl⟩
 have US := Lib.hid hus
 clear hus
 by_cases g1 : id < 1
 · have d1 : decide (id < 1) = true := decide_eq_true g1
   go_enter Tryz.func13, Tryz.ntmps13
   go_wp2_with fail
   go_returns
   exact ⟨ret_bool (by rw [HV.out]; exact (decide_eq_false (fun h => by have := h.1.1; omega)).symm), (Below.refl _ _).alloc (Nat.le_refl _) _⟩
 have d1 : decide (id < 1) = false := decide_eq_false g1
 by_cases g2 : 100000 < id
 · have d2 : decide (100000 < id) = true := decide_eq_true g2
   go_enter Tryz.func13, Tryz.ntmps13
   go_wp2_with fail
   go_returns
   exact ⟨ret_bool (by rw [HV.out]; exact (decide_eq_false (fun h => by have := h.1.2; omega)).symm), (Below.refl _ _).alloc (Nat.le_refl _) _⟩
 have d2 : decide (100000 < id) = false := decide_eq_false g2
 have IDO : Hid (1 ≤ id ∧ id ≤ 100000) := Lib.hid ⟨by omega, by omega⟩
 clear g1 g2
 go_enter Tryz.func13, Tryz.ntmps13
 go_wp2_with fail
 clear d1 d2
 refine calls_named fun W hW => ?_
 obtain ⟨p1, hB⟩ := box1 hW
 clear hW
 have P1 := Lib.hid p1
 clear p1
 have q1 := cellsL P1.out
 (with_reducible refine (q07Same_zero feat _ _ _ (HP.out.later hB) US.out).mono ?_)
 rintro e w1 ⟨rfl, hb1⟩
 have hB1 := below_step hB hb1
 cases us
 · skip
   go_wp2_with fail
   go_returns
   exact ⟨ret_bool (by rw [HV.out]; exact (decide_eq_false (fun h => absurd h.2.1 (of_decide_eq_false US.out))).symm), hB1⟩
 have FO : Hid (feat = noFeat) := Lib.hid (of_decide_eq_true US.out)
 by_cases g6 : x = 0
 rotate_left
 · have d6 : (x == 0) = false := by simpa using g6
   have d6' : (x != 0) = true := by simpa using g6
   go_wp2_with fail
   go_returns
   exact ⟨ret_bool (by rw [HV.out]; exact (decide_eq_false (fun h => g6 h.2.2.1.1.1)).symm), hB1⟩
 subst g6
 by_cases g6 : y = 0
 rotate_left
 · have d6 : (y == 0) = false := by simpa using g6
   have d6' : (y != 0) = true := by simpa using g6
   go_wp2_with fail
   go_returns
   exact ⟨ret_bool (by rw [HV.out]; exact (decide_eq_false (fun h => g6 h.2.2.1.1.2)).symm), hB1⟩
 subst g6
 by_cases g7 : rad = 0
 rotate_left
 · have d7 : (rad != 0) = true := by simpa using g7
   go_wp2_with fail
   go_returns
   exact ⟨ret_bool (by rw [HV.out]; exact (decide_eq_false (fun h => g7 h.2.2.1.2)).symm), hB1⟩
 subst g7
 by_cases g8 : dep < 0
 · have d8 : decide (dep < 0) = true := decide_eq_true g8
   go_wp2_with fail
   go_returns
   exact ⟨ret_bool (by rw [HV.out]; exact (decide_eq_false (fun h => by have := h.2.2.2.1; omega)).symm), hB1⟩
 have d8 : decide (dep < 0) = false := decide_eq_false g8
 by_cases g9 : 100000 < dep
 · have d9 : decide (100000 < dep) = true := decide_eq_true g9
   go_wp2_with fail
   go_returns
   exact ⟨ret_bool (by rw [HV.out]; exact (decide_eq_false (fun h => by have := h.2.2.2.1; omega)).symm), hB1⟩
 have d9 : decide (100000 < dep) = false := decide_eq_false g9
 by_cases g11 : 0 ≤ sym
 rotate_left
 · have d11 : decide (0 ≤ sym) = false := decide_eq_false g11
   go_wp2_with fail
   go_returns
   exact ⟨ret_bool (by rw [HV.out]; exact (decide_eq_false (fun h => by have := h.2.2.2.2; omega)).symm), hB1⟩
 have d11 : decide (0 ≤ sym) = true := decide_eq_true g11
 by_cases g12 : sym ≤ 999
 rotate_left
 · have d12 : decide (sym ≤ 999) = false := decide_eq_false g12
   go_wp2_with fail
   go_returns
   exact ⟨ret_bool (by rw [HV.out]; exact (decide_eq_false (fun h => by have := h.2.2.2.2; omega)).symm), hB1⟩
 have d12 : decide (sym ≤ 999) = true := decide_eq_true g12
 by_cases g13 : sym = 0
 rotate_left
 · have d13 : (sym == 0) = false := by simpa using g13
   go_wp2_with fail
   go_returns
   exact ⟨ret_bool (by rw [HV.out]; exact (decide_eq_false (fun h => by have := h.2.2.2.2; omega)).symm), hB1⟩
 subst g13
 go_wp2_with fail
 go_returns
 exact ⟨ret_bool (by rw [HV.out]; exact (decide_eq_true (⟨IDO.out, FO.out, by simp, ⟨by omega, by omega⟩, by simp⟩)).symm), hB1⟩
set_option maxHeartbeats 2000000 in
set_option maxRecDepth 20000 in
theorem q16Op_5 (id : Int) (feat : Feat) (x y rad dep sym : Int) (va vs : Value) (w : World) (hp : PartsAt w feat va vs) {v : Bool} (hv : decide (OpOk ⟨5, id, feat, x, y, rad, dep, sym⟩) = v) : Calls Tryz.prog 13 #[opV ⟨5, id, feat, x, y, rad, dep, sym⟩ va vs] w fun e w' => e = .returned (.bool v) ∧ Below w.heap.size w w' := by
 have HV : Hid (v = decide ((1 ≤ id ∧ id ≤ 100000) ∧ (feat = noFeat) ∧ ((x = 0 ∧ y = 0) ∧ rad = 0) ∧ (dep = 0) ∧ (0 ≤ sym ∧ sym ≤ 999))) := Lib.hid (by rw [← hv]; exact decide_eq_decide.2 (op_ref5 id feat x y rad dep sym))
 have HP := Lib.hid hp
 obtain ⟨aa, ca, ab, cb, rfl, rfl⟩ := hp.form
 clear hp hv
 obtain ⟨us, hus⟩ : ∃ z, decide (feat = noFeat) = z := ⟨_, rfl⟩
 have US := Lib.hid hus
 clear hus
 by_cases g1 : id < 1
 · have d1 : decide (id < 1) = true := decide_eq_true g1
   go_enter Tryz.func13, Tryz.ntmps13
   go_wp2_with fail
   go_returns
   exact ⟨ret_bool (by rw [HV.out]; exact (decide_eq_false (fun h => by have := h.1.1; omega)).symm), (Below.refl _ _).alloc (Nat.le_refl _) _⟩
 have d1 : decide (id < 1) = false := decide_eq_false g1
 by_cases g2 : 100000 < id
 · have d2 : decide (100000 < id) = true := decide_eq_true g2
   go_enter Tryz.func13, Tryz.ntmps13
   go_wp2_with fail
   go_returns
   exact ⟨ret_bool (by rw [HV.out]; exact (decide_eq_false (fun h => by have := h.1.2; omega)).symm), (Below.refl _ _).alloc (Nat.le_refl _) _⟩
 have d2 : decide (100000 < id) = false := decide_eq_false g2
 have IDO : Hid (1 ≤ id ∧ id ≤ 100000) := Lib.hid ⟨by omega, by omega⟩
 clear g1 g2
 go_enter Tryz.func13, Tryz.ntmps13
 go_wp2_with fail
 clear d1 d2
 refine calls_named fun W hW => ?_
 obtain ⟨p1, hB⟩ := box1 hW
 clear hW
 have P1 := Lib.hid p1
 clear p1
 have q1 := cellsL P1.out
 (with_reducible refine (q07Same_zero feat _ _ _ (HP.out.later hB) US.out).mono ?_)
 rintro e w1 ⟨rfl, hb1⟩
 have hB1 := below_step hB hb1
 cases us
 · skip
   go_wp2_with fail
   go_returns
   exact ⟨ret_bool (by rw [HV.out]; exact (decide_eq_false (fun h => absurd h.2.1 (of_decide_eq_false US.out))).symm), hB1⟩
 have FO : Hid (feat = noFeat) := Lib.hid (of_decide_eq_true US.out)
 by_cases g6 : x = 0
 rotate_left
 · have d6 : (x == 0) = false := by simpa using g6
   have d6' : (x != 0) = true := by simpa using g6
   go_wp2_with fail
   go_returns
   exact ⟨ret_bool (by rw [HV.out]; exact (decide_eq_false (fun h => g6 h.2.2.1.1.1)).symm), hB1⟩
 subst g6
 by_cases g6 : y = 0
 rotate_left
 · have d6 : (y == 0) = false := by simpa using g6
   have d6' : (y != 0) = true := by simpa using g6
   go_wp2_with fail
   go_returns
   exact ⟨ret_bool (by rw [HV.out]; exact (decide_eq_false (fun h => g6 h.2.2.1.1.2)).symm), hB1⟩
 subst g6
 by_cases g7 : rad = 0
 rotate_left
 · have d7 : (rad != 0) = true := by simpa using g7
   go_wp2_with fail
   go_returns
   exact ⟨ret_bool (by rw [HV.out]; exact (decide_eq_false (fun h => g7 h.2.2.1.2)).symm), hB1⟩
 subst g7
 by_cases g8 : dep < 0
 · have d8 : decide (dep < 0) = true := decide_eq_true g8
   go_wp2_with fail
   go_returns
   exact ⟨ret_bool (by rw [HV.out]; exact (decide_eq_false (fun h => by have := h.2.2.2.1; omega)).symm), hB1⟩
 have d8 : decide (dep < 0) = false := decide_eq_false g8
 by_cases g9 : 100000 < dep
 · have d9 : decide (100000 < dep) = true := decide_eq_true g9
   go_wp2_with fail
   go_returns
   exact ⟨ret_bool (by rw [HV.out]; exact (decide_eq_false (fun h => by have := h.2.2.2.1; omega)).symm), hB1⟩
 have d9 : decide (100000 < dep) = false := decide_eq_false g9
 by_cases g10 : dep = 0
 rotate_left
 · have d10 : (dep != 0) = true := by simpa using g10
   go_wp2_with fail
   go_returns
   exact ⟨ret_bool (by rw [HV.out]; exact (decide_eq_false (fun h => by have := h.2.2.2.1; omega)).symm), hB1⟩
 subst g10
 by_cases g11 : 0 ≤ sym
 rotate_left
 · have d11 : decide (0 ≤ sym) = false := decide_eq_false g11
   go_wp2_with fail
   go_returns
   exact ⟨ret_bool (by rw [HV.out]; exact (decide_eq_false (fun h => by have := h.2.2.2.2; omega)).symm), hB1⟩
 have d11 : decide (0 ≤ sym) = true := decide_eq_true g11
 by_cases g12 : sym ≤ 999
 rotate_left
 · have d12 : decide (sym ≤ 999) = false := decide_eq_false g12
   go_wp2_with fail
   go_returns
   exact ⟨ret_bool (by rw [HV.out]; exact (decide_eq_false (fun h => by have := h.2.2.2.2; omega)).symm), hB1⟩
 have d12 : decide (sym ≤ 999) = true := decide_eq_true g12
 go_wp2_with fail
 go_returns
 exact ⟨ret_bool (by rw [HV.out]; exact (decide_eq_true (⟨IDO.out, FO.out, by simp, by simp, ⟨by omega, by omega⟩⟩)).symm), hB1⟩
set_option maxHeartbeats 2000000 in
theorem q16Op_any (o : Opn) (va vs : Value) (w : World) (hp : PartsAt w o.feat va vs) {v : Bool} (hv : decide (OpOk o) = v) : Calls Tryz.prog 13 #[opV o va vs] w fun e w' => e = .returned (.bool v) ∧ Below w.heap.size w w' := by
 obtain ⟨kind, id, feat, x, y, rad, dep, sym⟩ := o
 by_cases k1 : kind = 1
 · subst k1; exact q16Op_1 id feat x y rad dep sym va vs w hp hv
 by_cases k2 : kind = 2
 · subst k2; exact q16Op_2 id feat x y rad dep sym va vs w hp hv
 by_cases k3 : kind = 3
 · subst k3; exact q16Op_3 id feat x y rad dep sym va vs w hp hv
 by_cases k4 : kind = 4
 · subst k4; exact q16Op_4 id feat x y rad dep sym va vs w hp hv
 by_cases k5 : kind = 5
 · subst k5; exact q16Op_5 id feat x y rad dep sym va vs w hp hv
 have hn : ¬ OpOk ⟨kind, id, feat, x, y, rad, dep, sym⟩ := fun h => by
  have := ((op_ref _).1 h).1.2
  simp only at this
  omega
 have HV : Hid (v = false) := Lib.hid (by rw [← hv]; exact decide_eq_false hn)
 obtain ⟨aa, ca, ab, cb, e1, e2⟩ := hp.form
 simp only at e1 e2
 subst e1 e2
 clear hp hv hn
 have A0 : ∀ o : Obj, Below w.heap.size w (w.alloc o) := fun o => (Below.refl _ _).alloc (Nat.le_refl _) o
 have VF := HV.out
 subst VF
 clear HV
 by_cases g1 : id < 1
 · have d1 : decide (id < 1) = true := decide_eq_true g1
   go_enter Tryz.func13, Tryz.ntmps13
   go_wp2_with fail
   go_returns
   exact ⟨rfl, A0 _⟩
 have d1 : decide (id < 1) = false := decide_eq_false g1
 by_cases g2 : 100000 < id
 · have d2 : decide (100000 < id) = true := decide_eq_true g2
   go_enter Tryz.func13, Tryz.ntmps13
   go_wp2_with fail
   go_returns
   exact ⟨rfl, A0 _⟩
 have d2 : decide (100000 < id) = false := decide_eq_false g2
 by_cases g3 : kind < 1
 · have d3 : decide (kind < 1) = true := decide_eq_true g3
   go_enter Tryz.func13, Tryz.ntmps13
   go_wp2_with fail
   go_returns
   exact ⟨rfl, A0 _⟩
 have d3 : decide (kind < 1) = false := decide_eq_false g3
 have d4 : decide (5 < kind) = true := decide_eq_true (by omega)
 go_enter Tryz.func13, Tryz.ntmps13
 go_wp2_with fail
 go_returns
 exact ⟨rfl, A0 _⟩
set_option maxHeartbeats 4000000 in
theorem q17Patch_any (l : List Opn) (v0 : Value) (w : World) (h : OpsAt w v0 l) {v : Bool} (hv : decide (OpsOk l) = v) : Calls Tryz.prog 81 #[v0] w fun e w' => e = .returned (.bool v) ∧ Below w.heap.size w w' := by
 obtain ⟨ad, c, rfl, h1, hn, hc⟩ := h.form
 have H := Lib.hid h1
 have HV := Lib.hid hv
 obtain ⟨n, hln⟩ : ∃ n, l.length = n := ⟨_, rfl⟩
 rw [hln] at H hn hc
 rw [hln]
 have HL := Lib.hid hln
 clear h h1 hln hv
 by_cases h100 : 100 < n
 · have d3 : decide (100 < (n : Int)) = true := decide_eq_true (by omega)
   go_enter Tryz.func81, Tryz.ntmps81
   go_wp2_with fail
   go_returns
   exact ⟨ret_bool (by rw [← HV.out]; exact (decide_eq_false (fun h => by have := h.1; rw [HL.out] at this; omega)).symm), Below.refl _ _⟩
 have d3 : decide (100 < (n : Int)) = false := decide_eq_false (by omega)
 have hn1 : n ≤ 100 := by omega
 clear h100
 go_enter Tryz.func81, Tryz.ntmps81
 go_wp2_with fail
 clear d3
 go_loopw [3] (fun i wr => ∃ k : Nat, k ≤ n ∧ i = .int .i64 k ∧ Below w.heap.size w wr ∧ ∀ i, i < k → OpOk (l.getD i noOpn)) (fun i _ => n - (Go.RowKit.intOf i).toNat)
 case atStart => exact ⟨0, by omega, rfl, Below.refl _ _, fun m hm => by omega⟩
 case round =>
  obtain ⟨k, hk, rfl, hb, hall⟩ := hrel
  have ALL := Lib.hid hall
  clear hall
  rcases Nat.lt_or_ge k n with hlt | hge
  rotate_left
  · obtain rfl : k = n := by omega
    go_wp2_with fail
    go_returns
    exact ⟨ret_bool (by
     rw [← HV.out]
     refine (decide_eq_true ⟨by rw [HL.out]; exact hn1, fun o ho => ?_⟩).symm
     obtain ⟨i, hi, rfl⟩ := List.getElem_of_mem ho
     have e := ALL.out i (by have := HL.out; omega)
     rw [List.getD_eq_getElem?_getD, List.getElem?_eq_getElem hi] at e
     exact e), hb⟩
  obtain ⟨g, o, va, vs, rfl, fc⟩ := (H.out.later hb).row hlt
  obtain ⟨p, hp⟩ : ∃ p, l.getD k noOpn = p := ⟨_, rfl⟩
  rw [hp] at fc
  have HPK := Lib.hid hp
  clear hp
  have HPA := Lib.hid fc.parts
  obtain ⟨aa, ca, ab, cb, rfl, rfl⟩ := fc.parts.form
  have RG := Lib.hid fc.range
  obtain ⟨u, hu⟩ : ∃ u, decide (OpOk p) = u := ⟨_, rfl⟩
  have HU := Lib.hid hu
  clear fc hu
  go_wp2_with (first | (refine wpList_load_mid rfl _ _ rfl g (o + k * 16) rfl [.int .i64 p.kind, .int .i64 p.id, .int .i64 p.feat.id, .int .i64 p.feat.kind, .int .i64 p.feat.x, .int .i64 p.feat.y, .int .i64 p.feat.rad, .slice aa p.feat.area.length ca, .int .i64 p.feat.dep, .int .i64 p.feat.sym, .slice ab p.feat.secs.length cb, .int .i64 p.x, .int .i64 p.y, .int .i64 p.rad, .int .i64 p.dep, .int .i64 p.sym] _ RG.out Tryz.underlying34 rfl (by kernel_rfl) ?_))
  (with_reducible refine (q16Op_any p _ _ _ HPA.out HU.out).mono ?_)
  rintro e w1 ⟨rfl, hb1⟩
  have hB1 := below_step hb hb1
  cases u
  · go_wp2_with fail
    go_returns
    exact ⟨ret_bool (by
     rw [← HV.out]
     refine (decide_eq_false fun h => ?_).symm
     have := h.2 _ (getD_memD (by rw [HL.out]; exact hlt) noOpn)
     rw [HPK.out] at this
     exact absurd this (of_decide_eq_false HU.out)), hB1⟩
  · go_wp2_with fail
    go_roundw
    case rel => exact ⟨k + 1, by omega, by go_num, hB1, fun i hi => by
     rcases Nat.lt_or_ge i k with h | h
     · exact ALL.out i h
     · obtain rfl : i = k := by omega
       rw [HPK.out]
       exact of_decide_eq_true HU.out⟩
    case measure => simp [Go.RowKit.intOf]; omega
set_option maxHeartbeats 4000000 in
theorem q17Index_any (l : List Feat) (v0 : Value) (id : Int) (w : World) (h : FeatsAt w v0 l) : Calls Tryz.prog 99 #[v0, .int .i64 id] w fun e w' => ∃ r : Int, e = .returned (.int .i64 r) ∧ IdxR l id r ∧ Below w.heap.size w w' := by
 obtain ⟨ad, c, rfl, h1, hn, hc⟩ := h.form
 have H := Lib.hid h1
 obtain ⟨n, hln⟩ : ∃ n, l.length = n := ⟨_, rfl⟩
 rw [hln] at H hn hc
 rw [hln]
 have HL := Lib.hid hln
 clear h h1 hln
 go_enter Tryz.func99, Tryz.ntmps99
 go_wp2_with fail
 go_loopw [5] (fun i wr => ∃ k : Nat, k ≤ n ∧ i = .int .i64 k ∧ Below w.heap.size w wr ∧ ∀ i, i < k → (l.getD i noFeat).id ≠ id) (fun i _ => n - (Go.RowKit.intOf i).toNat)
 case atStart => exact ⟨0, by omega, rfl, Below.refl _ _, fun m hm => by omega⟩
 case round =>
  obtain ⟨k, hk, rfl, hb, hall⟩ := hrel
  have ALL := Lib.hid hall
  clear hall
  rcases Nat.lt_or_ge k n with hlt | hge
  rotate_left
  · obtain rfl : k = n := by omega
    go_wp2_with fail
    go_returns
    exact ⟨-1, rfl, .inl ⟨rfl, look_end (fun i hi => ALL.out i (by rw [← HL.out]; exact hi))⟩, hb⟩
  obtain ⟨g, o, va, vs, rfl, fc⟩ := (H.out.later hb).row hlt
  obtain ⟨f, hf⟩ : ∃ f, l.getD k noFeat = f := ⟨_, rfl⟩
  rw [hf] at fc
  have HF := Lib.hid hf
  clear hf
  have c0 := fc.c0
  clear fc
  by_cases he : f.id = id
  · have d1 : (f.id == id) = true := by simpa using he
    go_wp2_with fail
    go_returns
    exact ⟨k, rfl, .inr ⟨k, by rw [HL.out]; exact hlt, rfl, look_first (by rw [HL.out]; exact hlt) ALL.out (by rw [HF.out]; exact he)⟩, hb⟩
  · have d1 : (f.id == id) = false := by simpa using he
    have HE := Lib.hid he
    clear he
    go_wp2_with fail
    go_roundw
    case rel => exact ⟨k + 1, by omega, by go_num, hb, fun i hi => by
     rcases Nat.lt_or_ge i k with h | h
     · exact ALL.out i h
     · obtain rfl : i = k := by omega
       rw [HF.out]
       exact HE.out⟩
    case measure => simp [Go.RowKit.intOf]; omega
end Go.Proofs.YtdmegkkifiahdaaGreat
