import Derived.Test.YtdmegkkifiahdaaGreatPHr
import Derived.Test.YtdmegkkifiahdaaGreatPLw
import Derived.Test.YtdmegkkifiahdaaGreatPNP
import Derived.Test.YtdmegkkifiahdaaGreatPB
import Derived.Test.YtdmegkkifiahdaaGreatPatVal
namespace Go.Proofs.YtdmegkkifiahdaaGreat
open Go.RowKit Go.Shelf
attribute [local go_sem] bqOp bqAll bqUpon sqOp sqAll sqUpon ssAll
attribute [local irreducible] wpQuiet wpBQ wpPlan wsPlan
set_option linter.unusedVariables false
def fldPre (f g : Feat) (k : Nat) : List Opn := (if 1 ≤ k ∧ (f.x ≠ g.x ∨ f.y ≠ g.y ∨ f.rad ≠ g.rad) then [movO g.id g.x g.y g.rad] else []) ++ (if 2 ≤ k ∧ f.dep ≠ g.dep then [depO g.id g.dep] else []) ++ (if 3 ≤ k ∧ f.sym ≠ g.sym then [symO g.id g.sym] else [])
theorem fldPre_all (f g : Feat) : fldPre f g 3 = fieldOps f g := by simp [fldPre, fieldOps]
theorem fldPre_len (f g : Feat) (k : Nat) : (fldPre f g k).length ≤ 3 := by
 unfold fldPre
 repeat' split
 all_goals simp
theorem fldPre_zero (f g : Feat) : fldPre f g 0 = [] := by simp [fldPre]
theorem acts_chg {a : List Opn} {f h g : Feat} {o : Opn} (h1 : o.kind ≠ 1) (h2 : o.kind ≠ 2) (ha : acts a (some f) = .ok (some h)) (hc : chgF h o = some g) : acts (a ++ [o]) (some f) = .ok (some g) := by
 rw [acts_append, ha]
 simp only [acts]
 rw [chg_act h1 h2 hc]
theorem acts_chg_no {a b : List Opn} {f h : Feat} {o : Opn} (h1 : o.kind ≠ 1) (h2 : o.kind ≠ 2) (ha : acts a (some f) = .ok (some h)) (hc : chgF h o = none) : ∃ e, acts (a ++ o :: b) (some f) = .error e := by
 rw [acts_append, ha]
 simp only [acts, act]
 rw [if_neg h1]
 rw [if_neg h2, hc]
 exact ⟨_, rfl⟩
theorem idx3_0 (a b c : Value) (w : World) : Sem.run Tryz.prog (Instr.index 262 (.agg #[a, b, c]) (.int .i64 0)) w = .ok a w := by kernel_rfl
theorem idx3_1 (a b c : Value) (w : World) : Sem.run Tryz.prog (Instr.index 262 (.agg #[a, b, c]) (.int .i64 1)) w = .ok b w := by kernel_rfl
theorem idx3_2 (a b c : Value) (w : World) : Sem.run Tryz.prog (Instr.index 262 (.agg #[a, b, c]) (.int .i64 2)) w = .ok c w := by kernel_rfl
attribute [local go_sem] idx3_0 idx3_1 idx3_2
def FieldsP (f g : Feat) (w : World) (e : Ending) (w' : World) : Prop := ∃ (ad : Option Addr) (n c : Nat), Below w.heap.size w w' ∧
 ((∃ os, diffF f g = some os ∧ os.length = n ∧ e = .returned (.tuple #[.slice ad n c, .bool true]) ∧ OpsAt w' (.slice ad n c) os) ∨ (diffF f g = none ∧ e = .returned (.tuple #[.slice ad n c, .bool false])))
theorem diff_err {f g : Feat} {e : Int} (h : acts (fieldOps f g) (some f) = .error e) : diffF f g = none := by
 unfold diffF
 rw [h]
theorem diff_end {f g h : Feat} (ha : acts (fieldOps f g) (some f) = .ok (some h)) : (h = g → diffF f g = some (fieldOps f g)) ∧ (¬ h = g → diffF f g = none) := by
 unfold diffF
 rw [ha]
 exact ⟨fun e => if_pos e, fun e => if_neg e⟩
theorem fldPre_yes0 {f g : Feat} (h : f.x ≠ g.x ∨ f.y ≠ g.y ∨ f.rad ≠ g.rad) : fldPre f g 1 = fldPre f g 0 ++ [movO g.id g.x g.y g.rad] ∧ ∃ b, fieldOps f g = fldPre f g 0 ++ movO g.id g.x g.y g.rad :: b := by
 unfold fldPre fieldOps
 constructor
 · simp [h]
 · exact ⟨(if f.dep ≠ g.dep then [depO g.id g.dep] else []) ++ (if f.sym ≠ g.sym then [symO g.id g.sym] else []), by simp [h]⟩
theorem fldPre_no0 {f g : Feat} (h : ¬ (f.x ≠ g.x ∨ f.y ≠ g.y ∨ f.rad ≠ g.rad)) : fldPre f g 1 = fldPre f g 0 := by
 unfold fldPre
 simp [h]
theorem fldPre_yes1 {f g : Feat} (h : f.dep ≠ g.dep) : fldPre f g 2 = fldPre f g 1 ++ [depO g.id g.dep] ∧ ∃ b, fieldOps f g = fldPre f g 1 ++ depO g.id g.dep :: b := by
 unfold fldPre fieldOps
 constructor
 · simp [h]
 · exact ⟨if f.sym ≠ g.sym then [symO g.id g.sym] else [], by simp [h]⟩
theorem fldPre_no1 {f g : Feat} (h : ¬ (f.dep ≠ g.dep)) : fldPre f g 2 = fldPre f g 1 := by
 unfold fldPre
 simp [h]
theorem fldPre_yes2 {f g : Feat} (h : f.sym ≠ g.sym) : fldPre f g 3 = fldPre f g 2 ++ [symO g.id g.sym] ∧ ∃ b, fieldOps f g = fldPre f g 2 ++ symO g.id g.sym :: b := by
 unfold fldPre fieldOps
 constructor
 · simp [h]
 · exact ⟨[], by simp [h]⟩
theorem fldPre_no2 {f g : Feat} (h : ¬ (f.sym ≠ g.sym)) : fldPre f g 3 = fldPre f g 2 := by
 unfold fldPre
 simp [h]
theorem chg_call0 (h g : Feat) (va vs : Value) (w : World) (hp : PartsAt w h va vs) {h1 : Feat} {b : Opn} {er : Int} (hv : chgR h (movO g.id g.x g.y g.rad) = (h1, b, er)) :
  Calls Tryz.prog 203 #[.agg #[.int .i64 h.id, .int .i64 h.kind, .int .i64 h.x, .int .i64 h.y, .int .i64 h.rad, va, .int .i64 h.dep, .int .i64 h.sym, vs], .agg #[.int .i64 3, .int .i64 g.id, .int .i64 0, .int .i64 0, .int .i64 0, .int .i64 0, .int .i64 0, .slice none 0 0, .int .i64 0, .int .i64 0, .slice none 0 0, .int .i64 g.x, .int .i64 g.y, .int .i64 g.rad, .int .i64 0, .int .i64 0]] w fun e w' => e = .returned (.tuple #[featV h1 va vs, opV b nilV nilV, .int .i64 er]) ∧ Below w.heap.size w w' :=
 pachanged_any h (movO g.id g.x g.y g.rad) va vs (.slice none 0 0) (.slice none 0 0) w hp (PartsAt.zero w) hv
theorem chg_call1 (h g : Feat) (va vs : Value) (w : World) (hp : PartsAt w h va vs) {h1 : Feat} {b : Opn} {er : Int} (hv : chgR h (depO g.id g.dep) = (h1, b, er)) :
  Calls Tryz.prog 203 #[.agg #[.int .i64 h.id, .int .i64 h.kind, .int .i64 h.x, .int .i64 h.y, .int .i64 h.rad, va, .int .i64 h.dep, .int .i64 h.sym, vs], .agg #[.int .i64 4, .int .i64 g.id, .int .i64 0, .int .i64 0, .int .i64 0, .int .i64 0, .int .i64 0, .slice none 0 0, .int .i64 0, .int .i64 0, .slice none 0 0, .int .i64 0, .int .i64 0, .int .i64 0, .int .i64 g.dep, .int .i64 0]] w fun e w' => e = .returned (.tuple #[featV h1 va vs, opV b nilV nilV, .int .i64 er]) ∧ Below w.heap.size w w' :=
 pachanged_any h (depO g.id g.dep) va vs (.slice none 0 0) (.slice none 0 0) w hp (PartsAt.zero w) hv
theorem chg_call2 (h g : Feat) (va vs : Value) (w : World) (hp : PartsAt w h va vs) {h1 : Feat} {b : Opn} {er : Int} (hv : chgR h (symO g.id g.sym) = (h1, b, er)) :
  Calls Tryz.prog 203 #[.agg #[.int .i64 h.id, .int .i64 h.kind, .int .i64 h.x, .int .i64 h.y, .int .i64 h.rad, va, .int .i64 h.dep, .int .i64 h.sym, vs], .agg #[.int .i64 5, .int .i64 g.id, .int .i64 0, .int .i64 0, .int .i64 0, .int .i64 0, .int .i64 0, .slice none 0 0, .int .i64 0, .int .i64 0, .slice none 0 0, .int .i64 0, .int .i64 0, .int .i64 0, .int .i64 0, .int .i64 g.sym]] w fun e w' => e = .returned (.tuple #[featV h1 va vs, opV b nilV nilV, .int .i64 er]) ∧ Below w.heap.size w w' :=
 pachanged_any h (symO g.id g.sym) va vs (.slice none 0 0) (.slice none 0 0) w hp (PartsAt.zero w) hv
theorem srcAt_range {w : World} {g o : Nat} {x : OItem} (h : w.rangeAt g o (opCells x)) : SrcAt opCells w (some ⟨g, o, none⟩) [x] := fun i u hu => ⟨g, o, rfl, h i u (by simpa using hu)⟩
theorem OwnOs.row {base g : Nat} {w0 w : World} {v : Value} {l : List Opn} (h : OwnOs base w0 w v l) (hg : g < base) (cs : Array Value) : OwnOs base w0 (w.setRow g cs) v l := h.same fun j hj => setRow_other _ _ _ _ (by have := (h.lt j hj).1; omega)
set_option maxHeartbeats 8000000 in
set_option maxRecDepth 100000 in
theorem pafields_any (f g : Feat) (va vs ua us : Value) (w : World) (hp : PartsAt w f va vs) (hq : PartsAt w g ua us) : Calls Tryz.prog 98 #[featV f va vs, featV g ua us] w (FieldsP f g w) := by
 obtain ⟨fa, fc, fb, fd, rfl, rfl⟩ := hp.form
 obtain ⟨ga, gc, gb, gd, rfl, rfl⟩ := hq.form
 have HP := Lib.hid hp
 have HQ := Lib.hid hq
 clear hp hq
 obtain ⟨d0, hd0⟩ : ∃ d, decide (f.x ≠ g.x ∨ f.y ≠ g.y ∨ f.rad ≠ g.rad) = d := ⟨_, rfl⟩
 obtain ⟨d1, hd1⟩ : ∃ d, (f.dep != g.dep) = d := ⟨_, rfl⟩
 obtain ⟨d2, hd2⟩ : ∃ d, (f.sym != g.sym) = d := ⟨_, rfl⟩
 have D0 := Lib.hid hd0
 have D1 := Lib.hid hd1
 have D2 := Lib.hid hd2
 clear hd0 hd1 hd2
 go_enter Tryz.func98, Tryz.ntmps98
 go_upto_region 3 with (first
  | (with_reducible refine wpList_store_row rfl _ _ _ rfl _ (#[.int .i64 3, .int .i64 g.id, .int .i64 0, .int .i64 0, .int .i64 0, .int .i64 0, .int .i64 0, .slice none 0 0, .int .i64 0, .int .i64 0, .slice none 0 0, .int .i64 g.x, .int .i64 g.y, .int .i64 g.rad, .int .i64 0, .int .i64 0, .int .i64 4, .int .i64 g.id, .int .i64 0, .int .i64 0, .int .i64 0, .int .i64 0, .int .i64 0, .slice none 0 0, .int .i64 0, .int .i64 0, .slice none 0 0, .int .i64 0, .int .i64 0, .int .i64 0, .int .i64 g.dep, .int .i64 0, .int .i64 5, .int .i64 g.id, .int .i64 0, .int .i64 0, .int .i64 0, .int .i64 0, .int .i64 0, .slice none 0 0, .int .i64 0, .int .i64 0, .slice none 0 0, .int .i64 0, .int .i64 0, .int .i64 0, .int .i64 0, .int .i64 g.sym]) rfl rfl _ _ (block_new_at _ (by simp only [World.size_alloc])) (by kernel_rfl) (by kernel_rfl) (by kernel_rfl) ?_))
 refine wp_named fun W hW => ?_
 have hB : Below w.heap.size w W := by rw [hW]; exact below_setRow ((((Below.refl _ _).alloc (Nat.le_refl _) _).alloc (by simp) _).alloc (by first | omega | (simp only [World.size_alloc]; omega)) _) (by first | omega | (simp only [World.size_alloc]; omega)) _
 have r1 : W.heap[w.heap.size]? = some (.cells #[.int .i64 f.id, .int .i64 f.kind, .int .i64 f.x, .int .i64 f.y, .int .i64 f.rad, .slice fa f.area.length fc, .int .i64 f.dep, .int .i64 f.sym, .slice fb f.secs.length fd] 32 (0, 0)) := by rw [hW]; exact (setRow_other _ _ _ _ (by first | omega | (simp only [World.size_alloc]; omega))).trans (block_alloc (block_alloc (block_new w _)))
 have r2 : W.heap[w.heap.size + 1]? = some (.cells #[.int .i64 g.id, .int .i64 g.kind, .int .i64 g.x, .int .i64 g.y, .int .i64 g.rad, .slice ga g.area.length gc, .int .i64 g.dep, .int .i64 g.sym, .slice gb g.secs.length gd] 32 (0, 0)) := by rw [hW]; exact (setRow_other _ _ _ _ (by first | omega | (simp only [World.size_alloc]; omega))).trans (block_alloc (block_new_at _ (by simp only [World.size_alloc])))
 have r3 : W.heap[w.heap.size + 2]? = some (.cells #[.int .i64 3, .int .i64 g.id, .int .i64 0, .int .i64 0, .int .i64 0, .int .i64 0, .int .i64 0, .slice none 0 0, .int .i64 0, .int .i64 0, .slice none 0 0, .int .i64 g.x, .int .i64 g.y, .int .i64 g.rad, .int .i64 0, .int .i64 0, .int .i64 4, .int .i64 g.id, .int .i64 0, .int .i64 0, .int .i64 0, .int .i64 0, .int .i64 0, .slice none 0 0, .int .i64 0, .int .i64 0, .slice none 0 0, .int .i64 0, .int .i64 0, .int .i64 0, .int .i64 g.dep, .int .i64 0, .int .i64 5, .int .i64 g.id, .int .i64 0, .int .i64 0, .int .i64 0, .int .i64 0, .int .i64 0, .slice none 0 0, .int .i64 0, .int .i64 0, .slice none 0 0, .int .i64 0, .int .i64 0, .int .i64 0, .int .i64 0, .int .i64 g.sym] 261 (0, 0)) := by rw [hW]; exact setRow_heap _ _ _ _ _ _ (block_new_at _ (by simp only [World.size_alloc]))
 clear hW
 have k1 := cellsR r1
 have k2 := cellsR r2
 go_cut [53, 54] from 31 to 54 (fun s53 s54 wx => s53 = .agg #[.bool d0, .bool d1, .bool d2] ∧ s54 = .int .i64 0 ∧ Below W.heap.size W wx)
 case first =>
  by_cases ex : f.x = g.x
  · by_cases ey : f.y = g.y
    · have q : (f.x == g.x && f.y == g.y) = true := by simp [ex, ey]
      have dd : (f.rad != g.rad) = d0 := by rw [← D0.out]; simp [ex, ey, bne]; rfl
      have ex' : (f.x == g.x) = true := by simpa using ex
      have ey' : (f.y == g.y) = true := by simpa using ey
      clear ex ey
      refine wp_region_plan (.take 0 (.take 0 (.take 0 (.take 0 (.take 0 (.take 0 (.take 0 (.take 0 (.take 0 (.take 0 (.take 0 (.take 0 (.take 0 (.take 0 (.take 0 (.take 0 (.take 0 (.take 0 (.take 0 (.take 0 (.take 0 (.take 0 (.take 0 (.take 0 .done)))))))))))))))))))))))) (by kernel_rfl) (by kernel_rfl) (fun hP => ?_)
      repeat' (first
       | (refine wpPlan_two ?_ ?_)
       | (refine wpPlan_three ?_ ?_ ?_)
       | (refine wpPlan_take rfl (fun K hK => ?_); replace hK := Lib.hid hK; go_simp; first | (refine hK.out _ ?_; clear hK K) | (apply Exists.intro; refine ⟨fun _ => ?_, hK.out _ ?_⟩; (first | with_reducible exact rfl | skip); clear hK K))
       | (refine wpPlan_only rfl (fun K hK => ?_); replace hK := Lib.hid hK; (first | (go_simp; first | skip)); refine hK.out _ _ (by first | assumption | exact below_step hP hbx | exact hP.drew | exact hP.alloc hP.size _) (fun hP => ?_); clear hK K))
      all_goals refine wpPlan_done ?_
      go_wp2_with fail
      go_meet
      exact ⟨by first | rw [D1.out, D2.out, dd] | rw [D1.out, D2.out] | rfl, rfl, hP⟩
    · have ex' : (f.x == g.x) = true := by simpa using ex
      have ey' : (f.y == g.y) = false := by simpa using ey
      have dd : d0 = true := by rw [← D0.out]; simp [ey]
      clear ex ey
      refine wp_region_plan (.take 0 (.take 0 (.take 0 (.take 0 (.take 0 (.take 0 (.take 0 (.take 0 (.take 0 (.take 0 (.take 0 (.take 0 (.take 0 (.take 0 (.take 0 (.take 0 (.take 0 (.take 0 (.take 0 (.take 0 (.take 0 (.take 0 (.take 0 (.take 0 .done)))))))))))))))))))))))) (by kernel_rfl) (by kernel_rfl) (fun hP => ?_)
      repeat' (first
       | (refine wpPlan_two ?_ ?_)
       | (refine wpPlan_three ?_ ?_ ?_)
       | (refine wpPlan_take rfl (fun K hK => ?_); replace hK := Lib.hid hK; go_simp; first | (refine hK.out _ ?_; clear hK K) | (apply Exists.intro; refine ⟨fun _ => ?_, hK.out _ ?_⟩; (first | with_reducible exact rfl | skip); clear hK K))
       | (refine wpPlan_only rfl (fun K hK => ?_); replace hK := Lib.hid hK; (first | (go_simp; first | skip)); refine hK.out _ _ (by first | assumption | exact below_step hP hbx | exact hP.drew | exact hP.alloc hP.size _) (fun hP => ?_); clear hK K))
      all_goals refine wpPlan_done ?_
      go_wp2_with fail
      go_meet
      exact ⟨by first | rw [D1.out, D2.out, dd] | rw [D1.out, D2.out] | rfl, rfl, hP⟩
  · have ex' : (f.x == g.x) = false := by simpa using ex
    have dd : d0 = true := by rw [← D0.out]; simp [ex]
    clear ex
    refine wp_region_plan (.take 0 (.take 0 (.take 0 (.take 0 (.take 0 (.take 0 (.take 0 (.take 0 (.take 0 (.take 0 (.take 0 (.take 0 (.take 0 (.take 0 (.take 0 (.take 0 (.take 0 (.take 0 (.take 0 (.take 0 (.take 0 (.take 0 (.take 0 (.take 0 .done)))))))))))))))))))))))) (by kernel_rfl) (by kernel_rfl) (fun hP => ?_)
    repeat' (first
     | (refine wpPlan_two ?_ ?_)
     | (refine wpPlan_three ?_ ?_ ?_)
     | (refine wpPlan_take rfl (fun K hK => ?_); replace hK := Lib.hid hK; go_simp; first | (refine hK.out _ ?_; clear hK K) | (apply Exists.intro; refine ⟨fun _ => ?_, hK.out _ ?_⟩; (first | with_reducible exact rfl | skip); clear hK K))
     | (refine wpPlan_only rfl (fun K hK => ?_); replace hK := Lib.hid hK; (first | (go_simp; first | skip)); refine hK.out _ _ (by first | assumption | exact below_step hP hbx | exact hP.drew | exact hP.alloc hP.size _) (fun hP => ?_); clear hK K))
    all_goals refine wpPlan_done ?_
    go_wp2_with fail
    go_meet
    exact ⟨by first | rw [D1.out, D2.out, dd] | rw [D1.out, D2.out] | rfl, rfl, hP⟩
 case rest =>
  obtain ⟨rfl, rfl, hbx⟩ := hcut
  have hBx := below_step hB hbx
  have q1 := block_later hbx r1
  have q2 := block_later hbx r2
  have q3 := block_later hbx r3
  have hszx := hbx.size
  have hszW := hB.size
  have hl3 : w.heap.size + 3 ≤ W.heap.size := by have := lt_block r3; omega
  clear k1 k2 r1 r2 r3
  go_wp2_with fail
  go_loopw [7, 54] (fun out i wr => ∃ (k : Nat) (h : Feat) (ad : Option Addr) (m c : Nat), k ≤ 3 ∧ i = .int .i64 k ∧ out = .slice ad m c ∧ (fldPre f g k).length = m ∧ OwnOs (w.heap.size + 3) w wr (.slice ad m c) (fldPre f g k) ∧ acts (fldPre f g k) (some f) = .ok (some h) ∧ (h.area = f.area ∧ h.secs = f.secs) ∧ wr.heap[w.heap.size]? = some (.cells #[.int .i64 h.id, .int .i64 h.kind, .int .i64 h.x, .int .i64 h.y, .int .i64 h.rad, .slice fa f.area.length fc, .int .i64 h.dep, .int .i64 h.sym, .slice fb f.secs.length fd] 32 (0, 0)) ∧ wr.heap[w.heap.size + 1]? = some (.cells #[.int .i64 g.id, .int .i64 g.kind, .int .i64 g.x, .int .i64 g.y, .int .i64 g.rad, .slice ga g.area.length gc, .int .i64 g.dep, .int .i64 g.sym, .slice gb g.secs.length gd] 32 (0, 0)) ∧ wr.heap[w.heap.size + 2]? = some (.cells #[.int .i64 3, .int .i64 g.id, .int .i64 0, .int .i64 0, .int .i64 0, .int .i64 0, .int .i64 0, .slice none 0 0, .int .i64 0, .int .i64 0, .slice none 0 0, .int .i64 g.x, .int .i64 g.y, .int .i64 g.rad, .int .i64 0, .int .i64 0, .int .i64 4, .int .i64 g.id, .int .i64 0, .int .i64 0, .int .i64 0, .int .i64 0, .int .i64 0, .slice none 0 0, .int .i64 0, .int .i64 0, .slice none 0 0, .int .i64 0, .int .i64 0, .int .i64 0, .int .i64 g.dep, .int .i64 0, .int .i64 5, .int .i64 g.id, .int .i64 0, .int .i64 0, .int .i64 0, .int .i64 0, .int .i64 0, .slice none 0 0, .int .i64 0, .int .i64 0, .slice none 0 0, .int .i64 0, .int .i64 0, .int .i64 0, .int .i64 0, .int .i64 g.sym] 261 (0, 0)) ∧ Below w.heap.size w wr) (fun _ i _ => 3 - cntV i)
  case atStart => exact ⟨0, f, none, 0, 0, by omega, rfl, rfl, by simp [fldPre], by rw [fldPre_zero]; exact OwnOs.nil _ _ _, by rw [fldPre_zero]; rfl, ⟨rfl, rfl⟩, q1, q2, q3, hBx⟩
  case round =>
   obtain ⟨k, h, ad, m, c, hk, rfl, rfl, hlen, how, hact, har, q1, q2, q3, hb⟩ := hrel
   have OW := Lib.hid how
   have LE := Lib.hid hlen
   have AC := Lib.hid hact
   have AR := Lib.hid har
   have F2 := Lib.hid q1
   have G2 := Lib.hid q2
   have A2 := Lib.hid q3
   have hml : m ≤ 3 := by rw [← hlen]; exact fldPre_len f g k
   have PH : Hid (PartsAt w h (.slice fa f.area.length fc) (.slice fb f.secs.length fd)) := Lib.hid (by have hh := HP.out; unfold PartsAt at hh ⊢; rw [har.1, har.2]; exact hh)
   clear how hlen hact har q1 q2 q3 hbx
   have hk4 : k = 3 ∨ k = 0 ∨ k = 1 ∨ k = 2 := by omega
   rcases hk4 with rfl | rfl | rfl | rfl
   · have FE := Lib.hid (diff_end (by have h := AC.out; rwa [fldPre_all] at h))
     obtain ⟨u, hu⟩ : ∃ u, decide (h = g) = u := ⟨_, rfl⟩
     have U := Lib.hid hu
     clear hu
     go_wp2_with (first
      | (with_reducible refine wpList_load_row rfl 32 (.tmp 2) rfl w.heap.size rfl _ (#[.int .i64 h.id, .int .i64 h.kind, .int .i64 h.x, .int .i64 h.y, .int .i64 h.rad, .slice fa f.area.length fc, .int .i64 h.dep, .int .i64 h.sym, .slice fb f.secs.length fd]) _ _ F2.out Tryz.underlying32 rfl (by kernel_rfl) ?_)
      | (with_reducible refine wpList_load_row rfl 32 (.tmp 3) rfl (w.heap.size + 1) rfl _ (#[.int .i64 g.id, .int .i64 g.kind, .int .i64 g.x, .int .i64 g.y, .int .i64 g.rad, .slice ga g.area.length gc, .int .i64 g.dep, .int .i64 g.sym, .slice gb g.secs.length gd]) _ _ G2.out Tryz.underlying32 rfl (by kernel_rfl) ?_))
     have PH2 := PH.out.later hb
     have PG2 := HQ.out.later hb
     rw [show (Value.slice fa f.area.length fc) = Value.slice fa h.area.length fc by rw [AR.out.1], show (Value.slice fb f.secs.length fd) = Value.slice fb h.secs.length fd by rw [AR.out.2]] at *
     (with_reducible refine (ftSame_any h g _ _ _ _ _ (parts_pts PH2) (parts_secs PH2) (parts_pts PG2) (parts_secs PG2) U.out).mono ?_)
     rintro e w5 ⟨rfl, hb5⟩
     go_wp2_with fail
     go_returns
     refine ⟨ad, m, c, below_step hb hb5, ?_⟩
     have O5 := OW.out.keep hb5
     have L5 := LE.out
     rw [fldPre_all] at O5 L5
     cases u
     · exact .inr ⟨FE.out.2 (of_decide_eq_false U.out), rfl⟩
     · exact .inl ⟨_, FE.out.1 (of_decide_eq_true U.out), L5, rfl, O5.ops (below_step hb hb5) (by omega)⟩
   · cases d0
     · have NX : Hid (fldPre f g 1 = fldPre f g 0) := Lib.hid (fldPre_no0 (of_decide_eq_false D0.out))
       go_wp2_with fail
       go_roundw
       case rel => exact ⟨1, h, ad, m, c, by omega, rfl, rfl, by rw [NX.out]; exact LE.out, by rw [NX.out]; exact OW.out, by rw [NX.out]; exact AC.out, AR.out, F2.out, G2.out, A2.out, hb⟩
       case measure => simp [cntV]
     · have NX := Lib.hid (fldPre_yes0 (f := f) (g := g) (of_decide_eq_true D0.out))
       obtain ⟨⟨h1, bk, er⟩, hc⟩ : ∃ r, chgR h (movO g.id g.x g.y g.rad) = r := ⟨_, rfl⟩
       have HC := Lib.hid hc
       have R0 : Hid (wr.rangeAt (w.heap.size + 2) 0 [.int .i64 3, .int .i64 g.id, .int .i64 0, .int .i64 0, .int .i64 0, .int .i64 0, .int .i64 0, .slice none 0 0, .int .i64 0, .int .i64 0, .slice none 0 0, .int .i64 g.x, .int .i64 g.y, .int .i64 g.rad, .int .i64 0, .int .i64 0]) := Lib.hid (World.rangeAt_of_block A2.out 0 16)
       have BW0 := hb
       clear hc
       go_upto_region 7 with (fail)
       obtain ⟨W, rfl⟩ : ∃ z : World, z = wr := ⟨_, rfl⟩
       go_cut [10, 11, 12] from 60 to 68 (fun s10 s11 s12 wx => ∃ b10 : Nat, s10 = .pointer (some ⟨b10, 0, none⟩) ∧ s12 = .int .i64 er ∧ wx.heap[b10]? = some (.cells #[.int .i64 h1.id, .int .i64 h1.kind, .int .i64 h1.x, .int .i64 h1.y, .int .i64 h1.rad, .slice fa f.area.length fc, .int .i64 h1.dep, .int .i64 h1.sym, .slice fb f.secs.length fd] 32 (0, 0)) ∧ Below W.heap.size W wx)
       case first =>
        refine wp_region_plan (.take 0 (.take 0 (.take 0 (.take 0 (.three 0 (.take 0 (.take 0 (.take 0 (.take 0 (.two 0 (.only 0 (.only 0 (.only 0 (.take 0 .done)))) 1 (.only 0 (.only 0 (.only 0 (.take 0 .done))))))))) 5 (.two 0 (.take 0 (.take 0 (.take 0 (.take 0 (.only 0 (.only 0 (.only 0 (.take 0 .done)))))))) 5 (.only 0 (.take 0 (.take 0 (.take 0 (.take 0 (.only 0 (.only 0 (.take 0 .done))))))))) 6 (.two 0 (.take 0 (.take 0 (.take 0 (.take 0 (.only 0 (.only 0 (.only 0 (.take 0 .done)))))))) 5 (.only 0 (.take 0 (.take 0 (.take 0 (.take 0 (.only 0 (.only 0 (.take 0 .done)))))))))))))) (by kernel_rfl) (by kernel_rfl) (fun hP => ?_)
        refine wp_loadP rfl (by kernel_rfl) 32 _ rfl _ rfl _ _ _ _ F2.out Tryz.underlying32 rfl (by kernel_rfl) ?_
        iterate 2 (refine wpPlan_take rfl (fun K hK => ?_); replace hK := Lib.hid hK; go_simp; first | (refine hK.out _ ?_; clear hK K) | (apply Exists.intro; refine ⟨fun _ => ?_, hK.out _ ?_⟩; (first | with_reducible exact rfl | skip); clear hK K))
        refine wp_loadMidP rfl (by kernel_rfl) 34 (.tmp 63) rfl (w.heap.size + 2) 0 rfl [.int .i64 3, .int .i64 g.id, .int .i64 0, .int .i64 0, .int .i64 0, .int .i64 0, .int .i64 0, .slice none 0 0, .int .i64 0, .int .i64 0, .slice none 0 0, .int .i64 g.x, .int .i64 g.y, .int .i64 g.rad, .int .i64 0, .int .i64 0] _ R0.out Tryz.underlying34 rfl (by kernel_rfl) ?_
        refine wpPlan_three ?_ ?_ ?_
        · (refine wpPlan_only rfl (fun K hK => ?_); replace hK := Lib.hid hK; go_simp; go_at_call 203; (with_reducible refine (chg_call0 h g (.slice fa f.area.length fc) (.slice fb f.secs.length fd) _ (PH.out.later (BW0.trans (hP.mono BW0.size))) HC.out).mono ?_); rintro e w1 ⟨rfl, hb1⟩; refine hK.out _ _ (below_step hP hb1) (fun hP2 => ?_); clear hK K)
          have hs1 : W.heap.size + 0 ≤ w1.heap.size := Nat.le_trans (Nat.le_of_eq (by first | rfl | (simp only [World.size_alloc]; rfl) | simp)) hb1.size
          clear hP
          have hP := hP2
          clear hP2
          iterate 4 (refine wpPlan_take rfl (fun K hK => ?_); replace hK := Lib.hid hK; go_simp; first | (refine hK.out _ ?_; clear hK K) | (apply Exists.intro; refine ⟨fun _ => ?_, hK.out _ ?_⟩; (first | with_reducible exact rfl | skip); clear hK K))
          refine wpPlan_two ?_ ?_
          · (refine wpPlan_only rfl (fun K hK => ?_); replace hK := Lib.hid hK; go_simp; refine hK.out _ _ (hP.alloc hP.size _) (fun hP2 => ?_); clear hK K)
            have rA : ((w1).alloc (.cells #[.int .i64 0, .int .i64 0, .int .i64 0, .int .i64 0, .int .i64 0, .slice none 0 0, .int .i64 0, .int .i64 0, .slice none 0 0] 32 (0, 0))).heap[w1.heap.size]? = some (.cells #[.int .i64 0, .int .i64 0, .int .i64 0, .int .i64 0, .int .i64 0, .slice none 0 0, .int .i64 0, .int .i64 0, .slice none 0 0] 32 (0, 0)) := block_new_at _ (by first | rfl | (simp only [World.size_alloc] <;> rfl))
            clear hP
            have hP := hP2
            clear hP2
            (refine wpPlan_only rfl (fun K hK => ?_); replace hK := Lib.hid hK; go_simp; refine hK.out _ _ (hP.alloc hP.size _) (fun hP2 => ?_); clear hK K)
            replace rA := block_alloc (o' := .cells #[.int .i64 0, .int .i64 0, .int .i64 0, .int .i64 0, .int .i64 0, .int .i64 0, .int .i64 0, .slice none 0 0, .int .i64 0, .int .i64 0, .slice none 0 0, .int .i64 0, .int .i64 0, .int .i64 0, .int .i64 0, .int .i64 0] 34 (0, 0)) rA
            have rD : (((w1).alloc (.cells #[.int .i64 0, .int .i64 0, .int .i64 0, .int .i64 0, .int .i64 0, .slice none 0 0, .int .i64 0, .int .i64 0, .slice none 0 0] 32 (0, 0))).alloc (.cells #[.int .i64 0, .int .i64 0, .int .i64 0, .int .i64 0, .int .i64 0, .int .i64 0, .int .i64 0, .slice none 0 0, .int .i64 0, .int .i64 0, .slice none 0 0, .int .i64 0, .int .i64 0, .int .i64 0, .int .i64 0, .int .i64 0] 34 (0, 0))).heap[w1.heap.size + 1]? = some (.cells #[.int .i64 0, .int .i64 0, .int .i64 0, .int .i64 0, .int .i64 0, .int .i64 0, .int .i64 0, .slice none 0 0, .int .i64 0, .int .i64 0, .slice none 0 0, .int .i64 0, .int .i64 0, .int .i64 0, .int .i64 0, .int .i64 0] 34 (0, 0)) := block_new_at _ (by first | rfl | (simp only [World.size_alloc] <;> rfl))
            clear hP
            have hP := hP2
            clear hP2
            have hne2 : w1.heap.size ≠ w1.heap.size + 1 := by omega
            have hlA : W.heap.size ≤ w1.heap.size := by omega
            have hlD : W.heap.size ≤ w1.heap.size + 1 := by omega
            refine wp_storeP rfl rfl 32 _ _ rfl _ (#[.int .i64 h1.id, .int .i64 h1.kind, .int .i64 h1.x, .int .i64 h1.y, .int .i64 h1.rad, .slice fa f.area.length fc, .int .i64 h1.dep, .int .i64 h1.sym, .slice fb f.secs.length fd]) rfl rfl _ _ rA (by kernel_rfl) (by kernel_rfl) (by kernel_rfl) (below_setRow hP hlA _) (fun hP => ?_)
            refine wp_storeP rfl rfl 34 _ _ rfl _ (#[.int .i64 bk.kind, .int .i64 bk.id, .int .i64 bk.feat.id, .int .i64 bk.feat.kind, .int .i64 bk.feat.x, .int .i64 bk.feat.y, .int .i64 bk.feat.rad, .slice none 0 0, .int .i64 bk.feat.dep, .int .i64 bk.feat.sym, .slice none 0 0, .int .i64 bk.x, .int .i64 bk.y, .int .i64 bk.rad, .int .i64 bk.dep, .int .i64 bk.sym]) rfl rfl _ _ ((setRow_other _ _ _ _ hne2.symm).trans rD) (by kernel_rfl) (by kernel_rfl) (by kernel_rfl) (below_setRow hP hlD _) (fun hP => ?_)
            (refine wpPlan_take rfl (fun K hK => ?_); replace hK := Lib.hid hK; go_simp; first | (refine hK.out _ ?_; clear hK K) | (apply Exists.intro; refine ⟨fun _ => ?_, hK.out _ ?_⟩; (first | with_reducible exact rfl | skip); clear hK K))
            refine wpPlan_done ?_
            go_wp2_with fail
            go_meet
            exact ⟨_, rfl, rfl, (setRow_other _ _ _ _ hne2).trans (setRow_heap _ _ _ _ _ _ rA), hP⟩
          · (refine wpPlan_only rfl (fun K hK => ?_); replace hK := Lib.hid hK; go_simp; refine hK.out _ _ (hP.alloc hP.size _) (fun hP2 => ?_); clear hK K)
            have rD : ((w1).alloc (.cells #[.int .i64 0, .int .i64 0, .int .i64 0, .int .i64 0, .int .i64 0, .int .i64 0, .int .i64 0, .slice none 0 0, .int .i64 0, .int .i64 0, .slice none 0 0, .int .i64 0, .int .i64 0, .int .i64 0, .int .i64 0, .int .i64 0] 34 (0, 0))).heap[w1.heap.size]? = some (.cells #[.int .i64 0, .int .i64 0, .int .i64 0, .int .i64 0, .int .i64 0, .int .i64 0, .int .i64 0, .slice none 0 0, .int .i64 0, .int .i64 0, .slice none 0 0, .int .i64 0, .int .i64 0, .int .i64 0, .int .i64 0, .int .i64 0] 34 (0, 0)) := block_new_at _ (by first | rfl | (simp only [World.size_alloc] <;> rfl))
            clear hP
            have hP := hP2
            clear hP2
            (refine wpPlan_only rfl (fun K hK => ?_); replace hK := Lib.hid hK; go_simp; refine hK.out _ _ (hP.alloc hP.size _) (fun hP2 => ?_); clear hK K)
            replace rD := block_alloc (o' := .cells #[.int .i64 0, .int .i64 0, .int .i64 0, .int .i64 0, .int .i64 0, .slice none 0 0, .int .i64 0, .int .i64 0, .slice none 0 0] 32 (0, 0)) rD
            have rA : (((w1).alloc (.cells #[.int .i64 0, .int .i64 0, .int .i64 0, .int .i64 0, .int .i64 0, .int .i64 0, .int .i64 0, .slice none 0 0, .int .i64 0, .int .i64 0, .slice none 0 0, .int .i64 0, .int .i64 0, .int .i64 0, .int .i64 0, .int .i64 0] 34 (0, 0))).alloc (.cells #[.int .i64 0, .int .i64 0, .int .i64 0, .int .i64 0, .int .i64 0, .slice none 0 0, .int .i64 0, .int .i64 0, .slice none 0 0] 32 (0, 0))).heap[w1.heap.size + 1]? = some (.cells #[.int .i64 0, .int .i64 0, .int .i64 0, .int .i64 0, .int .i64 0, .slice none 0 0, .int .i64 0, .int .i64 0, .slice none 0 0] 32 (0, 0)) := block_new_at _ (by first | rfl | (simp only [World.size_alloc] <;> rfl))
            clear hP
            have hP := hP2
            clear hP2
            have hne2 : w1.heap.size + 1 ≠ w1.heap.size := by omega
            have hlA : W.heap.size ≤ w1.heap.size + 1 := by omega
            have hlD : W.heap.size ≤ w1.heap.size := by omega
            refine wp_storeP rfl rfl 32 _ _ rfl _ (#[.int .i64 h1.id, .int .i64 h1.kind, .int .i64 h1.x, .int .i64 h1.y, .int .i64 h1.rad, .slice fa f.area.length fc, .int .i64 h1.dep, .int .i64 h1.sym, .slice fb f.secs.length fd]) rfl rfl _ _ rA (by kernel_rfl) (by kernel_rfl) (by kernel_rfl) (below_setRow hP hlA _) (fun hP => ?_)
            refine wp_storeP rfl rfl 34 _ _ rfl _ (#[.int .i64 bk.kind, .int .i64 bk.id, .int .i64 bk.feat.id, .int .i64 bk.feat.kind, .int .i64 bk.feat.x, .int .i64 bk.feat.y, .int .i64 bk.feat.rad, .slice none 0 0, .int .i64 bk.feat.dep, .int .i64 bk.feat.sym, .slice none 0 0, .int .i64 bk.x, .int .i64 bk.y, .int .i64 bk.rad, .int .i64 bk.dep, .int .i64 bk.sym]) rfl rfl _ _ ((setRow_other _ _ _ _ hne2.symm).trans rD) (by kernel_rfl) (by kernel_rfl) (by kernel_rfl) (below_setRow hP hlD _) (fun hP => ?_)
            (refine wpPlan_take rfl (fun K hK => ?_); replace hK := Lib.hid hK; go_simp; first | (refine hK.out _ ?_; clear hK K) | (apply Exists.intro; refine ⟨fun _ => ?_, hK.out _ ?_⟩; (first | with_reducible exact rfl | skip); clear hK K))
            refine wpPlan_done ?_
            go_wp2_with fail
            go_meet
            exact ⟨_, rfl, rfl, (setRow_other _ _ _ _ hne2).trans (setRow_heap _ _ _ _ _ _ rA), hP⟩
        · (refine wpPlan_only rfl (fun K hK => ?_); replace hK := Lib.hid hK; go_simp; refine hK.out _ _ (hP.alloc hP.size _) (fun hP2 => ?_); clear hK K)
          have rA : ((W.drew).alloc (.cells #[.int .i64 0, .int .i64 0, .int .i64 0, .int .i64 0, .int .i64 0, .slice none 0 0, .int .i64 0, .int .i64 0, .slice none 0 0] 32 (0, 0))).heap[W.heap.size]? = some (.cells #[.int .i64 0, .int .i64 0, .int .i64 0, .int .i64 0, .int .i64 0, .slice none 0 0, .int .i64 0, .int .i64 0, .slice none 0 0] 32 (0, 0)) := block_new_at _ (by first | rfl | (simp only [World.size_alloc] <;> rfl))
          clear hP
          have hP := hP2
          clear hP2
          refine wpPlan_two ?_ ?_
          · (refine wpPlan_only rfl (fun K hK => ?_); replace hK := Lib.hid hK; go_simp; go_at_call 203; (with_reducible refine (chg_call0 h g (.slice fa f.area.length fc) (.slice fb f.secs.length fd) _ (PH.out.later (BW0.trans (hP.mono BW0.size))) HC.out).mono ?_); rintro e w1 ⟨rfl, hb1⟩; refine hK.out _ _ (below_step hP hb1) (fun hP2 => ?_); clear hK K)
            replace rA := block_later hb1 rA
            have hs1 : W.heap.size + 1 ≤ w1.heap.size := Nat.le_trans (Nat.le_of_eq (by first | rfl | (simp only [World.size_alloc]; rfl) | simp)) hb1.size
            clear hP
            have hP := hP2
            clear hP2
            iterate 4 (refine wpPlan_take rfl (fun K hK => ?_); replace hK := Lib.hid hK; go_simp; first | (refine hK.out _ ?_; clear hK K) | (apply Exists.intro; refine ⟨fun _ => ?_, hK.out _ ?_⟩; (first | with_reducible exact rfl | skip); clear hK K))
            (refine wpPlan_only rfl (fun K hK => ?_); replace hK := Lib.hid hK; go_simp; refine hK.out _ _ (hP.alloc hP.size _) (fun hP2 => ?_); clear hK K)
            replace rA := block_alloc (o' := .cells #[.int .i64 0, .int .i64 0, .int .i64 0, .int .i64 0, .int .i64 0, .int .i64 0, .int .i64 0, .slice none 0 0, .int .i64 0, .int .i64 0, .slice none 0 0, .int .i64 0, .int .i64 0, .int .i64 0, .int .i64 0, .int .i64 0] 34 (0, 0)) rA
            have rD : ((w1).alloc (.cells #[.int .i64 0, .int .i64 0, .int .i64 0, .int .i64 0, .int .i64 0, .int .i64 0, .int .i64 0, .slice none 0 0, .int .i64 0, .int .i64 0, .slice none 0 0, .int .i64 0, .int .i64 0, .int .i64 0, .int .i64 0, .int .i64 0] 34 (0, 0))).heap[w1.heap.size]? = some (.cells #[.int .i64 0, .int .i64 0, .int .i64 0, .int .i64 0, .int .i64 0, .int .i64 0, .int .i64 0, .slice none 0 0, .int .i64 0, .int .i64 0, .slice none 0 0, .int .i64 0, .int .i64 0, .int .i64 0, .int .i64 0, .int .i64 0] 34 (0, 0)) := block_new_at _ (by first | rfl | (simp only [World.size_alloc] <;> rfl))
            clear hP
            have hP := hP2
            clear hP2
            have hne2 : W.heap.size ≠ w1.heap.size := by omega
            have hlA : W.heap.size ≤ W.heap.size := by omega
            have hlD : W.heap.size ≤ w1.heap.size := by omega
            refine wp_storeP rfl rfl 32 _ _ rfl _ (#[.int .i64 h1.id, .int .i64 h1.kind, .int .i64 h1.x, .int .i64 h1.y, .int .i64 h1.rad, .slice fa f.area.length fc, .int .i64 h1.dep, .int .i64 h1.sym, .slice fb f.secs.length fd]) rfl rfl _ _ rA (by kernel_rfl) (by kernel_rfl) (by kernel_rfl) (below_setRow hP hlA _) (fun hP => ?_)
            refine wp_storeP rfl rfl 34 _ _ rfl _ (#[.int .i64 bk.kind, .int .i64 bk.id, .int .i64 bk.feat.id, .int .i64 bk.feat.kind, .int .i64 bk.feat.x, .int .i64 bk.feat.y, .int .i64 bk.feat.rad, .slice none 0 0, .int .i64 bk.feat.dep, .int .i64 bk.feat.sym, .slice none 0 0, .int .i64 bk.x, .int .i64 bk.y, .int .i64 bk.rad, .int .i64 bk.dep, .int .i64 bk.sym]) rfl rfl _ _ ((setRow_other _ _ _ _ hne2.symm).trans rD) (by kernel_rfl) (by kernel_rfl) (by kernel_rfl) (below_setRow hP hlD _) (fun hP => ?_)
            (refine wpPlan_take rfl (fun K hK => ?_); replace hK := Lib.hid hK; go_simp; first | (refine hK.out _ ?_; clear hK K) | (apply Exists.intro; refine ⟨fun _ => ?_, hK.out _ ?_⟩; (first | with_reducible exact rfl | skip); clear hK K))
            refine wpPlan_done ?_
            go_wp2_with fail
            go_meet
            exact ⟨_, rfl, rfl, (setRow_other _ _ _ _ hne2).trans (setRow_heap _ _ _ _ _ _ rA), hP⟩
          · (refine wpPlan_only rfl (fun K hK => ?_); replace hK := Lib.hid hK; go_simp; refine hK.out _ _ (hP.alloc hP.size _) (fun hP2 => ?_); clear hK K)
            replace rA := block_alloc (o' := .cells #[.int .i64 0, .int .i64 0, .int .i64 0, .int .i64 0, .int .i64 0, .int .i64 0, .int .i64 0, .slice none 0 0, .int .i64 0, .int .i64 0, .slice none 0 0, .int .i64 0, .int .i64 0, .int .i64 0, .int .i64 0, .int .i64 0] 34 (0, 0)) rA
            have rD : (((W.drew).alloc (.cells #[.int .i64 0, .int .i64 0, .int .i64 0, .int .i64 0, .int .i64 0, .slice none 0 0, .int .i64 0, .int .i64 0, .slice none 0 0] 32 (0, 0))).alloc (.cells #[.int .i64 0, .int .i64 0, .int .i64 0, .int .i64 0, .int .i64 0, .int .i64 0, .int .i64 0, .slice none 0 0, .int .i64 0, .int .i64 0, .slice none 0 0, .int .i64 0, .int .i64 0, .int .i64 0, .int .i64 0, .int .i64 0] 34 (0, 0))).heap[W.heap.size + 1]? = some (.cells #[.int .i64 0, .int .i64 0, .int .i64 0, .int .i64 0, .int .i64 0, .int .i64 0, .int .i64 0, .slice none 0 0, .int .i64 0, .int .i64 0, .slice none 0 0, .int .i64 0, .int .i64 0, .int .i64 0, .int .i64 0, .int .i64 0] 34 (0, 0)) := block_new_at _ (by first | rfl | (simp only [World.size_alloc] <;> rfl))
            clear hP
            have hP := hP2
            clear hP2
            (refine wpPlan_only rfl (fun K hK => ?_); replace hK := Lib.hid hK; go_simp; go_at_call 203; (with_reducible refine (chg_call0 h g (.slice fa f.area.length fc) (.slice fb f.secs.length fd) _ (PH.out.later (BW0.trans (hP.mono BW0.size))) HC.out).mono ?_); rintro e w1 ⟨rfl, hb1⟩; refine hK.out _ _ (below_step hP hb1) (fun hP2 => ?_); clear hK K)
            replace rA := block_later hb1 rA
            replace rD := block_later hb1 rD
            have hs1 : W.heap.size + 2 ≤ w1.heap.size := Nat.le_trans (Nat.le_of_eq (by first | rfl | (simp only [World.size_alloc]; rfl) | simp)) hb1.size
            clear hP
            have hP := hP2
            clear hP2
            iterate 4 (refine wpPlan_take rfl (fun K hK => ?_); replace hK := Lib.hid hK; go_simp; first | (refine hK.out _ ?_; clear hK K) | (apply Exists.intro; refine ⟨fun _ => ?_, hK.out _ ?_⟩; (first | with_reducible exact rfl | skip); clear hK K))
            have hne2 : W.heap.size ≠ W.heap.size + 1 := by omega
            have hlA : W.heap.size ≤ W.heap.size := by omega
            have hlD : W.heap.size ≤ W.heap.size + 1 := by omega
            refine wp_storeP rfl rfl 32 _ _ rfl _ (#[.int .i64 h1.id, .int .i64 h1.kind, .int .i64 h1.x, .int .i64 h1.y, .int .i64 h1.rad, .slice fa f.area.length fc, .int .i64 h1.dep, .int .i64 h1.sym, .slice fb f.secs.length fd]) rfl rfl _ _ rA (by kernel_rfl) (by kernel_rfl) (by kernel_rfl) (below_setRow hP hlA _) (fun hP => ?_)
            refine wp_storeP rfl rfl 34 _ _ rfl _ (#[.int .i64 bk.kind, .int .i64 bk.id, .int .i64 bk.feat.id, .int .i64 bk.feat.kind, .int .i64 bk.feat.x, .int .i64 bk.feat.y, .int .i64 bk.feat.rad, .slice none 0 0, .int .i64 bk.feat.dep, .int .i64 bk.feat.sym, .slice none 0 0, .int .i64 bk.x, .int .i64 bk.y, .int .i64 bk.rad, .int .i64 bk.dep, .int .i64 bk.sym]) rfl rfl _ _ ((setRow_other _ _ _ _ hne2.symm).trans rD) (by kernel_rfl) (by kernel_rfl) (by kernel_rfl) (below_setRow hP hlD _) (fun hP => ?_)
            (refine wpPlan_take rfl (fun K hK => ?_); replace hK := Lib.hid hK; go_simp; first | (refine hK.out _ ?_; clear hK K) | (apply Exists.intro; refine ⟨fun _ => ?_, hK.out _ ?_⟩; (first | with_reducible exact rfl | skip); clear hK K))
            refine wpPlan_done ?_
            go_wp2_with fail
            go_meet
            exact ⟨_, rfl, rfl, (setRow_other _ _ _ _ hne2).trans (setRow_heap _ _ _ _ _ _ rA), hP⟩
        · (refine wpPlan_only rfl (fun K hK => ?_); replace hK := Lib.hid hK; go_simp; refine hK.out _ _ (hP.alloc hP.size _) (fun hP2 => ?_); clear hK K)
          have rD : ((W.drew).alloc (.cells #[.int .i64 0, .int .i64 0, .int .i64 0, .int .i64 0, .int .i64 0, .int .i64 0, .int .i64 0, .slice none 0 0, .int .i64 0, .int .i64 0, .slice none 0 0, .int .i64 0, .int .i64 0, .int .i64 0, .int .i64 0, .int .i64 0] 34 (0, 0))).heap[W.heap.size]? = some (.cells #[.int .i64 0, .int .i64 0, .int .i64 0, .int .i64 0, .int .i64 0, .int .i64 0, .int .i64 0, .slice none 0 0, .int .i64 0, .int .i64 0, .slice none 0 0, .int .i64 0, .int .i64 0, .int .i64 0, .int .i64 0, .int .i64 0] 34 (0, 0)) := block_new_at _ (by first | rfl | (simp only [World.size_alloc] <;> rfl))
          clear hP
          have hP := hP2
          clear hP2
          refine wpPlan_two ?_ ?_
          · (refine wpPlan_only rfl (fun K hK => ?_); replace hK := Lib.hid hK; go_simp; go_at_call 203; (with_reducible refine (chg_call0 h g (.slice fa f.area.length fc) (.slice fb f.secs.length fd) _ (PH.out.later (BW0.trans (hP.mono BW0.size))) HC.out).mono ?_); rintro e w1 ⟨rfl, hb1⟩; refine hK.out _ _ (below_step hP hb1) (fun hP2 => ?_); clear hK K)
            replace rD := block_later hb1 rD
            have hs1 : W.heap.size + 1 ≤ w1.heap.size := Nat.le_trans (Nat.le_of_eq (by first | rfl | (simp only [World.size_alloc]; rfl) | simp)) hb1.size
            clear hP
            have hP := hP2
            clear hP2
            iterate 4 (refine wpPlan_take rfl (fun K hK => ?_); replace hK := Lib.hid hK; go_simp; first | (refine hK.out _ ?_; clear hK K) | (apply Exists.intro; refine ⟨fun _ => ?_, hK.out _ ?_⟩; (first | with_reducible exact rfl | skip); clear hK K))
            (refine wpPlan_only rfl (fun K hK => ?_); replace hK := Lib.hid hK; go_simp; refine hK.out _ _ (hP.alloc hP.size _) (fun hP2 => ?_); clear hK K)
            replace rD := block_alloc (o' := .cells #[.int .i64 0, .int .i64 0, .int .i64 0, .int .i64 0, .int .i64 0, .slice none 0 0, .int .i64 0, .int .i64 0, .slice none 0 0] 32 (0, 0)) rD
            have rA : ((w1).alloc (.cells #[.int .i64 0, .int .i64 0, .int .i64 0, .int .i64 0, .int .i64 0, .slice none 0 0, .int .i64 0, .int .i64 0, .slice none 0 0] 32 (0, 0))).heap[w1.heap.size]? = some (.cells #[.int .i64 0, .int .i64 0, .int .i64 0, .int .i64 0, .int .i64 0, .slice none 0 0, .int .i64 0, .int .i64 0, .slice none 0 0] 32 (0, 0)) := block_new_at _ (by first | rfl | (simp only [World.size_alloc] <;> rfl))
            clear hP
            have hP := hP2
            clear hP2
            have hne2 : w1.heap.size ≠ W.heap.size := by omega
            have hlA : W.heap.size ≤ w1.heap.size := by omega
            have hlD : W.heap.size ≤ W.heap.size := by omega
            refine wp_storeP rfl rfl 32 _ _ rfl _ (#[.int .i64 h1.id, .int .i64 h1.kind, .int .i64 h1.x, .int .i64 h1.y, .int .i64 h1.rad, .slice fa f.area.length fc, .int .i64 h1.dep, .int .i64 h1.sym, .slice fb f.secs.length fd]) rfl rfl _ _ rA (by kernel_rfl) (by kernel_rfl) (by kernel_rfl) (below_setRow hP hlA _) (fun hP => ?_)
            refine wp_storeP rfl rfl 34 _ _ rfl _ (#[.int .i64 bk.kind, .int .i64 bk.id, .int .i64 bk.feat.id, .int .i64 bk.feat.kind, .int .i64 bk.feat.x, .int .i64 bk.feat.y, .int .i64 bk.feat.rad, .slice none 0 0, .int .i64 bk.feat.dep, .int .i64 bk.feat.sym, .slice none 0 0, .int .i64 bk.x, .int .i64 bk.y, .int .i64 bk.rad, .int .i64 bk.dep, .int .i64 bk.sym]) rfl rfl _ _ ((setRow_other _ _ _ _ hne2.symm).trans rD) (by kernel_rfl) (by kernel_rfl) (by kernel_rfl) (below_setRow hP hlD _) (fun hP => ?_)
            (refine wpPlan_take rfl (fun K hK => ?_); replace hK := Lib.hid hK; go_simp; first | (refine hK.out _ ?_; clear hK K) | (apply Exists.intro; refine ⟨fun _ => ?_, hK.out _ ?_⟩; (first | with_reducible exact rfl | skip); clear hK K))
            refine wpPlan_done ?_
            go_wp2_with fail
            go_meet
            exact ⟨_, rfl, rfl, (setRow_other _ _ _ _ hne2).trans (setRow_heap _ _ _ _ _ _ rA), hP⟩
          · (refine wpPlan_only rfl (fun K hK => ?_); replace hK := Lib.hid hK; go_simp; refine hK.out _ _ (hP.alloc hP.size _) (fun hP2 => ?_); clear hK K)
            replace rD := block_alloc (o' := .cells #[.int .i64 0, .int .i64 0, .int .i64 0, .int .i64 0, .int .i64 0, .slice none 0 0, .int .i64 0, .int .i64 0, .slice none 0 0] 32 (0, 0)) rD
            have rA : (((W.drew).alloc (.cells #[.int .i64 0, .int .i64 0, .int .i64 0, .int .i64 0, .int .i64 0, .int .i64 0, .int .i64 0, .slice none 0 0, .int .i64 0, .int .i64 0, .slice none 0 0, .int .i64 0, .int .i64 0, .int .i64 0, .int .i64 0, .int .i64 0] 34 (0, 0))).alloc (.cells #[.int .i64 0, .int .i64 0, .int .i64 0, .int .i64 0, .int .i64 0, .slice none 0 0, .int .i64 0, .int .i64 0, .slice none 0 0] 32 (0, 0))).heap[W.heap.size + 1]? = some (.cells #[.int .i64 0, .int .i64 0, .int .i64 0, .int .i64 0, .int .i64 0, .slice none 0 0, .int .i64 0, .int .i64 0, .slice none 0 0] 32 (0, 0)) := block_new_at _ (by first | rfl | (simp only [World.size_alloc] <;> rfl))
            clear hP
            have hP := hP2
            clear hP2
            (refine wpPlan_only rfl (fun K hK => ?_); replace hK := Lib.hid hK; go_simp; go_at_call 203; (with_reducible refine (chg_call0 h g (.slice fa f.area.length fc) (.slice fb f.secs.length fd) _ (PH.out.later (BW0.trans (hP.mono BW0.size))) HC.out).mono ?_); rintro e w1 ⟨rfl, hb1⟩; refine hK.out _ _ (below_step hP hb1) (fun hP2 => ?_); clear hK K)
            replace rD := block_later hb1 rD
            replace rA := block_later hb1 rA
            have hs1 : W.heap.size + 2 ≤ w1.heap.size := Nat.le_trans (Nat.le_of_eq (by first | rfl | (simp only [World.size_alloc]; rfl) | simp)) hb1.size
            clear hP
            have hP := hP2
            clear hP2
            iterate 4 (refine wpPlan_take rfl (fun K hK => ?_); replace hK := Lib.hid hK; go_simp; first | (refine hK.out _ ?_; clear hK K) | (apply Exists.intro; refine ⟨fun _ => ?_, hK.out _ ?_⟩; (first | with_reducible exact rfl | skip); clear hK K))
            have hne2 : W.heap.size + 1 ≠ W.heap.size := by omega
            have hlA : W.heap.size ≤ W.heap.size + 1 := by omega
            have hlD : W.heap.size ≤ W.heap.size := by omega
            refine wp_storeP rfl rfl 32 _ _ rfl _ (#[.int .i64 h1.id, .int .i64 h1.kind, .int .i64 h1.x, .int .i64 h1.y, .int .i64 h1.rad, .slice fa f.area.length fc, .int .i64 h1.dep, .int .i64 h1.sym, .slice fb f.secs.length fd]) rfl rfl _ _ rA (by kernel_rfl) (by kernel_rfl) (by kernel_rfl) (below_setRow hP hlA _) (fun hP => ?_)
            refine wp_storeP rfl rfl 34 _ _ rfl _ (#[.int .i64 bk.kind, .int .i64 bk.id, .int .i64 bk.feat.id, .int .i64 bk.feat.kind, .int .i64 bk.feat.x, .int .i64 bk.feat.y, .int .i64 bk.feat.rad, .slice none 0 0, .int .i64 bk.feat.dep, .int .i64 bk.feat.sym, .slice none 0 0, .int .i64 bk.x, .int .i64 bk.y, .int .i64 bk.rad, .int .i64 bk.dep, .int .i64 bk.sym]) rfl rfl _ _ ((setRow_other _ _ _ _ hne2.symm).trans rD) (by kernel_rfl) (by kernel_rfl) (by kernel_rfl) (below_setRow hP hlD _) (fun hP => ?_)
            (refine wpPlan_take rfl (fun K hK => ?_); replace hK := Lib.hid hK; go_simp; first | (refine hK.out _ ?_; clear hK K) | (apply Exists.intro; refine ⟨fun _ => ?_, hK.out _ ?_⟩; (first | with_reducible exact rfl | skip); clear hK K))
            refine wpPlan_done ?_
            go_wp2_with fail
            go_meet
            exact ⟨_, rfl, rfl, (setRow_other _ _ _ _ hne2).trans (setRow_heap _ _ _ _ _ _ rA), hP⟩
       case rest =>
        obtain ⟨b10, rfl, rfl, r10, hbx⟩ := hcut
        have hBx := below_step hb hbx
        have F3 := Lib.hid (block_later hbx F2.out)
        have G3 := Lib.hid (block_later hbx G2.out)
        have A3 := Lib.hid (block_later hbx A2.out)
        have O3 := Lib.hid (OW.out.keep hbx)
        have hszW := hb.size
        have hszc := hbx.size
        have hl2 := lt_block A2.out
        cases hch : chgF h (movO g.id g.x g.y g.rad) with
        | none =>
          have DN : Hid (diffF f g = none) := Lib.hid (by
           obtain ⟨b, hb⟩ := NX.out.2
           obtain ⟨e, he⟩ := acts_chg_no (b := b) (o := movO g.id g.x g.y g.rad) (by rw [kd3]; decide) (by rw [kd3]; decide) AC.out hch
           rw [← hb] at he
           exact diff_err he)
          obtain rfl : er = 12 := by have h := HC.out; unfold chgR at h; rw [hch] at h; simp only [Prod.mk.injEq] at h; exact h.2.2.symm
          clear hch
          go_wp2_with fail
          go_returns
          exact ⟨none, 0, 0, hBx, .inr ⟨DN.out, rfl⟩⟩
        | some h2 =>
          obtain ⟨rfl, _, rfl⟩ : h2 = h1 ∧ bakF h (movO g.id g.x g.y g.rad) = bk ∧ er = 0 := by have h := HC.out; unfold chgR at h; rw [hch] at h; simp only [Prod.mk.injEq] at h; exact ⟨h.1, h.2.1, h.2.2.symm⟩
          have AC2 : Hid (acts (fldPre f g 1) (some f) = .ok (some h2)) := Lib.hid (by rw [NX.out.1]; exact acts_chg (by rw [kd3]; decide) (by rw [kd3]; decide) AC.out hch)
          have AR2 : Hid (h2.area = f.area ∧ h2.secs = f.secs) := Lib.hid ⟨(chgF_id hch).2.2.1.trans AR.out.1, (chgF_id hch).2.2.2.trans AR.out.2⟩
          clear hch
          go_upto_region 11 with (first
           | (with_reducible refine wpList_load_row rfl 32 (.tmp 10) rfl b10 rfl _ (#[.int .i64 h2.id, .int .i64 h2.kind, .int .i64 h2.x, .int .i64 h2.y, .int .i64 h2.rad, .slice fa f.area.length fc, .int .i64 h2.dep, .int .i64 h2.sym, .slice fb f.secs.length fd]) _ _ r10 Tryz.underlying32 rfl (by kernel_rfl) ?_)
           | (with_reducible refine wpList_store_row rfl 32 (.tmp 2) _ rfl w.heap.size (#[.int .i64 h2.id, .int .i64 h2.kind, .int .i64 h2.x, .int .i64 h2.y, .int .i64 h2.rad, .slice fa f.area.length fc, .int .i64 h2.dep, .int .i64 h2.sym, .slice fb f.secs.length fd]) rfl rfl _ _ F3.out (by kernel_rfl) (by kernel_rfl) (by kernel_rfl) ?_))
          refine wp_named fun W5 hW => ?_
          have s1 : W5.heap[w.heap.size]? = some (.cells (#[.int .i64 h2.id, .int .i64 h2.kind, .int .i64 h2.x, .int .i64 h2.y, .int .i64 h2.rad, .slice fa f.area.length fc, .int .i64 h2.dep, .int .i64 h2.sym, .slice fb f.secs.length fd]) 32 (0, 0)) := by rw [hW]; exact setRow_heap _ _ _ _ _ _ F3.out
          have s2 := (congrArg (fun X : World => X.heap[w.heap.size + 1]?) hW).trans ((setRow_other _ _ _ _ (by omega)).trans G3.out)
          replace s2 : W5.heap[w.heap.size + 1]? = _ := s2
          have s3 := (congrArg (fun X : World => X.heap[w.heap.size + 2]?) hW).trans ((setRow_other _ _ _ _ (by omega)).trans A3.out)
          replace s3 : W5.heap[w.heap.size + 2]? = _ := s3
          have O5 : Hid (OwnOs (w.heap.size + 3) w W5 (.slice ad m c) (fldPre f g 0)) := Lib.hid (by rw [hW]; exact O3.out.row (by omega) _)
          have hB5 : Below w.heap.size w W5 := by rw [hW]; exact below_setRow hBx (Nat.le_refl _) _
          have S1 := Lib.hid s1
          have S2 := Lib.hid s2
          have S3 := Lib.hid s3
          have R5 : Hid (W5.rangeAt (w.heap.size + 2) 0 (opCells (movO g.id g.x g.y g.rad, .slice none 0 0, .slice none 0 0))) := Lib.hid (World.rangeAt_of_block S3.out 0 16)
          have hs5 : w.heap.size + 3 ≤ W5.heap.size := by have := lt_block s3; omega
          clear hW s1 s2 s3
          go_wp2_with (first
           | (refine wpList_appO_at rfl _ _ rfl (w.heap.size + 3) w _ (fldPre f g 0) [movO g.id g.x g.y g.rad] rfl O5.out _ _ _ rfl [(movO g.id g.x g.y g.rad, .slice none 0 0, .slice none 0 0)] rfl rfl (fun x hx => by obtain rfl := List.mem_singleton.1 hx; exact PartsAt.zero _) (srcAt_range R5.out) (N := m + 1) (by rw [LE.out]) (by omega) hs5 ?_; intro ad7 c7 w7 how7 hgr7 hbl7 hat7))
          have B7 := hB5.trans (hbl7.mono (by omega))
          go_roundw
          case rel => exact ⟨1, h2, ad7, m + 1, c7, by omega, rfl, rfl, by rw [NX.out.1, List.length_append, LE.out]; rfl, by rw [NX.out.1]; exact how7, AC2.out, AR2.out, (hbl7.block _ (by omega)).trans S1.out, (hbl7.block _ (by omega)).trans S2.out, (hbl7.block _ (by omega)).trans S3.out, B7⟩
          case measure => simp [cntV]
   · cases d1
     · have NX : Hid (fldPre f g 2 = fldPre f g 1) := Lib.hid (fldPre_no1 (by have := D1.out; simpa using this))
       go_wp2_with fail
       go_roundw
       case rel => exact ⟨2, h, ad, m, c, by omega, rfl, rfl, by rw [NX.out]; exact LE.out, by rw [NX.out]; exact OW.out, by rw [NX.out]; exact AC.out, AR.out, F2.out, G2.out, A2.out, hb⟩
       case measure => simp [cntV]
     · have NX := Lib.hid (fldPre_yes1 (f := f) (g := g) (by have := D1.out; simpa using this))
       obtain ⟨⟨h1, bk, er⟩, hc⟩ : ∃ r, chgR h (depO g.id g.dep) = r := ⟨_, rfl⟩
       have HC := Lib.hid hc
       have R1 : Hid (wr.rangeAt (w.heap.size + 2) 16 [.int .i64 4, .int .i64 g.id, .int .i64 0, .int .i64 0, .int .i64 0, .int .i64 0, .int .i64 0, .slice none 0 0, .int .i64 0, .int .i64 0, .slice none 0 0, .int .i64 0, .int .i64 0, .int .i64 0, .int .i64 g.dep, .int .i64 0]) := Lib.hid (World.rangeAt_of_block A2.out 16 16)
       have BW0 := hb
       clear hc
       go_upto_region 7 with (fail)
       obtain ⟨W, rfl⟩ : ∃ z : World, z = wr := ⟨_, rfl⟩
       go_cut [10, 11, 12] from 60 to 68 (fun s10 s11 s12 wx => ∃ b10 : Nat, s10 = .pointer (some ⟨b10, 0, none⟩) ∧ s12 = .int .i64 er ∧ wx.heap[b10]? = some (.cells #[.int .i64 h1.id, .int .i64 h1.kind, .int .i64 h1.x, .int .i64 h1.y, .int .i64 h1.rad, .slice fa f.area.length fc, .int .i64 h1.dep, .int .i64 h1.sym, .slice fb f.secs.length fd] 32 (0, 0)) ∧ Below W.heap.size W wx)
       case first =>
        refine wp_region_plan (.take 0 (.take 0 (.take 0 (.take 0 (.three 0 (.take 0 (.take 0 (.take 0 (.take 0 (.two 0 (.only 0 (.only 0 (.only 0 (.take 0 .done)))) 1 (.only 0 (.only 0 (.only 0 (.take 0 .done))))))))) 5 (.two 0 (.take 0 (.take 0 (.take 0 (.take 0 (.only 0 (.only 0 (.only 0 (.take 0 .done)))))))) 5 (.only 0 (.take 0 (.take 0 (.take 0 (.take 0 (.only 0 (.only 0 (.take 0 .done))))))))) 6 (.two 0 (.take 0 (.take 0 (.take 0 (.take 0 (.only 0 (.only 0 (.only 0 (.take 0 .done)))))))) 5 (.only 0 (.take 0 (.take 0 (.take 0 (.take 0 (.only 0 (.only 0 (.take 0 .done)))))))))))))) (by kernel_rfl) (by kernel_rfl) (fun hP => ?_)
        refine wp_loadP rfl (by kernel_rfl) 32 _ rfl _ rfl _ _ _ _ F2.out Tryz.underlying32 rfl (by kernel_rfl) ?_
        iterate 2 (refine wpPlan_take rfl (fun K hK => ?_); replace hK := Lib.hid hK; go_simp; first | (refine hK.out _ ?_; clear hK K) | (apply Exists.intro; refine ⟨fun _ => ?_, hK.out _ ?_⟩; (first | with_reducible exact rfl | skip); clear hK K))
        refine wp_loadMidP rfl (by kernel_rfl) 34 (.tmp 63) rfl (w.heap.size + 2) 16 rfl [.int .i64 4, .int .i64 g.id, .int .i64 0, .int .i64 0, .int .i64 0, .int .i64 0, .int .i64 0, .slice none 0 0, .int .i64 0, .int .i64 0, .slice none 0 0, .int .i64 0, .int .i64 0, .int .i64 0, .int .i64 g.dep, .int .i64 0] _ R1.out Tryz.underlying34 rfl (by kernel_rfl) ?_
        refine wpPlan_three ?_ ?_ ?_
        · (refine wpPlan_only rfl (fun K hK => ?_); replace hK := Lib.hid hK; go_simp; go_at_call 203; (with_reducible refine (chg_call1 h g (.slice fa f.area.length fc) (.slice fb f.secs.length fd) _ (PH.out.later (BW0.trans (hP.mono BW0.size))) HC.out).mono ?_); rintro e w1 ⟨rfl, hb1⟩; refine hK.out _ _ (below_step hP hb1) (fun hP2 => ?_); clear hK K)
          have hs1 : W.heap.size + 0 ≤ w1.heap.size := Nat.le_trans (Nat.le_of_eq (by first | rfl | (simp only [World.size_alloc]; rfl) | simp)) hb1.size
          clear hP
          have hP := hP2
          clear hP2
          iterate 4 (refine wpPlan_take rfl (fun K hK => ?_); replace hK := Lib.hid hK; go_simp; first | (refine hK.out _ ?_; clear hK K) | (apply Exists.intro; refine ⟨fun _ => ?_, hK.out _ ?_⟩; (first | with_reducible exact rfl | skip); clear hK K))
          refine wpPlan_two ?_ ?_
          · (refine wpPlan_only rfl (fun K hK => ?_); replace hK := Lib.hid hK; go_simp; refine hK.out _ _ (hP.alloc hP.size _) (fun hP2 => ?_); clear hK K)
            have rA : ((w1).alloc (.cells #[.int .i64 0, .int .i64 0, .int .i64 0, .int .i64 0, .int .i64 0, .slice none 0 0, .int .i64 0, .int .i64 0, .slice none 0 0] 32 (0, 0))).heap[w1.heap.size]? = some (.cells #[.int .i64 0, .int .i64 0, .int .i64 0, .int .i64 0, .int .i64 0, .slice none 0 0, .int .i64 0, .int .i64 0, .slice none 0 0] 32 (0, 0)) := block_new_at _ (by first | rfl | (simp only [World.size_alloc] <;> rfl))
            clear hP
            have hP := hP2
            clear hP2
            (refine wpPlan_only rfl (fun K hK => ?_); replace hK := Lib.hid hK; go_simp; refine hK.out _ _ (hP.alloc hP.size _) (fun hP2 => ?_); clear hK K)
            replace rA := block_alloc (o' := .cells #[.int .i64 0, .int .i64 0, .int .i64 0, .int .i64 0, .int .i64 0, .int .i64 0, .int .i64 0, .slice none 0 0, .int .i64 0, .int .i64 0, .slice none 0 0, .int .i64 0, .int .i64 0, .int .i64 0, .int .i64 0, .int .i64 0] 34 (0, 0)) rA
            have rD : (((w1).alloc (.cells #[.int .i64 0, .int .i64 0, .int .i64 0, .int .i64 0, .int .i64 0, .slice none 0 0, .int .i64 0, .int .i64 0, .slice none 0 0] 32 (0, 0))).alloc (.cells #[.int .i64 0, .int .i64 0, .int .i64 0, .int .i64 0, .int .i64 0, .int .i64 0, .int .i64 0, .slice none 0 0, .int .i64 0, .int .i64 0, .slice none 0 0, .int .i64 0, .int .i64 0, .int .i64 0, .int .i64 0, .int .i64 0] 34 (0, 0))).heap[w1.heap.size + 1]? = some (.cells #[.int .i64 0, .int .i64 0, .int .i64 0, .int .i64 0, .int .i64 0, .int .i64 0, .int .i64 0, .slice none 0 0, .int .i64 0, .int .i64 0, .slice none 0 0, .int .i64 0, .int .i64 0, .int .i64 0, .int .i64 0, .int .i64 0] 34 (0, 0)) := block_new_at _ (by first | rfl | (simp only [World.size_alloc] <;> rfl))
            clear hP
            have hP := hP2
            clear hP2
            have hne2 : w1.heap.size ≠ w1.heap.size + 1 := by omega
            have hlA : W.heap.size ≤ w1.heap.size := by omega
            have hlD : W.heap.size ≤ w1.heap.size + 1 := by omega
            refine wp_storeP rfl rfl 32 _ _ rfl _ (#[.int .i64 h1.id, .int .i64 h1.kind, .int .i64 h1.x, .int .i64 h1.y, .int .i64 h1.rad, .slice fa f.area.length fc, .int .i64 h1.dep, .int .i64 h1.sym, .slice fb f.secs.length fd]) rfl rfl _ _ rA (by kernel_rfl) (by kernel_rfl) (by kernel_rfl) (below_setRow hP hlA _) (fun hP => ?_)
            refine wp_storeP rfl rfl 34 _ _ rfl _ (#[.int .i64 bk.kind, .int .i64 bk.id, .int .i64 bk.feat.id, .int .i64 bk.feat.kind, .int .i64 bk.feat.x, .int .i64 bk.feat.y, .int .i64 bk.feat.rad, .slice none 0 0, .int .i64 bk.feat.dep, .int .i64 bk.feat.sym, .slice none 0 0, .int .i64 bk.x, .int .i64 bk.y, .int .i64 bk.rad, .int .i64 bk.dep, .int .i64 bk.sym]) rfl rfl _ _ ((setRow_other _ _ _ _ hne2.symm).trans rD) (by kernel_rfl) (by kernel_rfl) (by kernel_rfl) (below_setRow hP hlD _) (fun hP => ?_)
            (refine wpPlan_take rfl (fun K hK => ?_); replace hK := Lib.hid hK; go_simp; first | (refine hK.out _ ?_; clear hK K) | (apply Exists.intro; refine ⟨fun _ => ?_, hK.out _ ?_⟩; (first | with_reducible exact rfl | skip); clear hK K))
            refine wpPlan_done ?_
            go_wp2_with fail
            go_meet
            exact ⟨_, rfl, rfl, (setRow_other _ _ _ _ hne2).trans (setRow_heap _ _ _ _ _ _ rA), hP⟩
          · (refine wpPlan_only rfl (fun K hK => ?_); replace hK := Lib.hid hK; go_simp; refine hK.out _ _ (hP.alloc hP.size _) (fun hP2 => ?_); clear hK K)
            have rD : ((w1).alloc (.cells #[.int .i64 0, .int .i64 0, .int .i64 0, .int .i64 0, .int .i64 0, .int .i64 0, .int .i64 0, .slice none 0 0, .int .i64 0, .int .i64 0, .slice none 0 0, .int .i64 0, .int .i64 0, .int .i64 0, .int .i64 0, .int .i64 0] 34 (0, 0))).heap[w1.heap.size]? = some (.cells #[.int .i64 0, .int .i64 0, .int .i64 0, .int .i64 0, .int .i64 0, .int .i64 0, .int .i64 0, .slice none 0 0, .int .i64 0, .int .i64 0, .slice none 0 0, .int .i64 0, .int .i64 0, .int .i64 0, .int .i64 0, .int .i64 0] 34 (0, 0)) := block_new_at _ (by first | rfl | (simp only [World.size_alloc] <;> rfl))
            clear hP
            have hP := hP2
            clear hP2
            (refine wpPlan_only rfl (fun K hK => ?_); replace hK := Lib.hid hK; go_simp; refine hK.out _ _ (hP.alloc hP.size _) (fun hP2 => ?_); clear hK K)
            replace rD := block_alloc (o' := .cells #[.int .i64 0, .int .i64 0, .int .i64 0, .int .i64 0, .int .i64 0, .slice none 0 0, .int .i64 0, .int .i64 0, .slice none 0 0] 32 (0, 0)) rD
            have rA : (((w1).alloc (.cells #[.int .i64 0, .int .i64 0, .int .i64 0, .int .i64 0, .int .i64 0, .int .i64 0, .int .i64 0, .slice none 0 0, .int .i64 0, .int .i64 0, .slice none 0 0, .int .i64 0, .int .i64 0, .int .i64 0, .int .i64 0, .int .i64 0] 34 (0, 0))).alloc (.cells #[.int .i64 0, .int .i64 0, .int .i64 0, .int .i64 0, .int .i64 0, .slice none 0 0, .int .i64 0, .int .i64 0, .slice none 0 0] 32 (0, 0))).heap[w1.heap.size + 1]? = some (.cells #[.int .i64 0, .int .i64 0, .int .i64 0, .int .i64 0, .int .i64 0, .slice none 0 0, .int .i64 0, .int .i64 0, .slice none 0 0] 32 (0, 0)) := block_new_at _ (by first | rfl | (simp only [World.size_alloc] <;> rfl))
            clear hP
            have hP := hP2
            clear hP2
            have hne2 : w1.heap.size + 1 ≠ w1.heap.size := by omega
            have hlA : W.heap.size ≤ w1.heap.size + 1 := by omega
            have hlD : W.heap.size ≤ w1.heap.size := by omega
            refine wp_storeP rfl rfl 32 _ _ rfl _ (#[.int .i64 h1.id, .int .i64 h1.kind, .int .i64 h1.x, .int .i64 h1.y, .int .i64 h1.rad, .slice fa f.area.length fc, .int .i64 h1.dep, .int .i64 h1.sym, .slice fb f.secs.length fd]) rfl rfl _ _ rA (by kernel_rfl) (by kernel_rfl) (by kernel_rfl) (below_setRow hP hlA _) (fun hP => ?_)
            refine wp_storeP rfl rfl 34 _ _ rfl _ (#[.int .i64 bk.kind, .int .i64 bk.id, .int .i64 bk.feat.id, .int .i64 bk.feat.kind, .int .i64 bk.feat.x, .int .i64 bk.feat.y, .int .i64 bk.feat.rad, .slice none 0 0, .int .i64 bk.feat.dep, .int .i64 bk.feat.sym, .slice none 0 0, .int .i64 bk.x, .int .i64 bk.y, .int .i64 bk.rad, .int .i64 bk.dep, .int .i64 bk.sym]) rfl rfl _ _ ((setRow_other _ _ _ _ hne2.symm).trans rD) (by kernel_rfl) (by kernel_rfl) (by kernel_rfl) (below_setRow hP hlD _) (fun hP => ?_)
            (refine wpPlan_take rfl (fun K hK => ?_); replace hK := Lib.hid hK; go_simp; first | (refine hK.out _ ?_; clear hK K) | (apply Exists.intro; refine ⟨fun _ => ?_, hK.out _ ?_⟩; (first | with_reducible exact rfl | skip); clear hK K))
            refine wpPlan_done ?_
            go_wp2_with fail
            go_meet
            exact ⟨_, rfl, rfl, (setRow_other _ _ _ _ hne2).trans (setRow_heap _ _ _ _ _ _ rA), hP⟩
        · (refine wpPlan_only rfl (fun K hK => ?_); replace hK := Lib.hid hK; go_simp; refine hK.out _ _ (hP.alloc hP.size _) (fun hP2 => ?_); clear hK K)
          have rA : ((W.drew).alloc (.cells #[.int .i64 0, .int .i64 0, .int .i64 0, .int .i64 0, .int .i64 0, .slice none 0 0, .int .i64 0, .int .i64 0, .slice none 0 0] 32 (0, 0))).heap[W.heap.size]? = some (.cells #[.int .i64 0, .int .i64 0, .int .i64 0, .int .i64 0, .int .i64 0, .slice none 0 0, .int .i64 0, .int .i64 0, .slice none 0 0] 32 (0, 0)) := block_new_at _ (by first | rfl | (simp only [World.size_alloc] <;> rfl))
          clear hP
          have hP := hP2
          clear hP2
          refine wpPlan_two ?_ ?_
          · (refine wpPlan_only rfl (fun K hK => ?_); replace hK := Lib.hid hK; go_simp; go_at_call 203; (with_reducible refine (chg_call1 h g (.slice fa f.area.length fc) (.slice fb f.secs.length fd) _ (PH.out.later (BW0.trans (hP.mono BW0.size))) HC.out).mono ?_); rintro e w1 ⟨rfl, hb1⟩; refine hK.out _ _ (below_step hP hb1) (fun hP2 => ?_); clear hK K)
            replace rA := block_later hb1 rA
            have hs1 : W.heap.size + 1 ≤ w1.heap.size := Nat.le_trans (Nat.le_of_eq (by first | rfl | (simp only [World.size_alloc]; rfl) | simp)) hb1.size
            clear hP
            have hP := hP2
            clear hP2
            iterate 4 (refine wpPlan_take rfl (fun K hK => ?_); replace hK := Lib.hid hK; go_simp; first | (refine hK.out _ ?_; clear hK K) | (apply Exists.intro; refine ⟨fun _ => ?_, hK.out _ ?_⟩; (first | with_reducible exact rfl | skip); clear hK K))
            (refine wpPlan_only rfl (fun K hK => ?_); replace hK := Lib.hid hK; go_simp; refine hK.out _ _ (hP.alloc hP.size _) (fun hP2 => ?_); clear hK K)
            replace rA := block_alloc (o' := .cells #[.int .i64 0, .int .i64 0, .int .i64 0, .int .i64 0, .int .i64 0, .int .i64 0, .int .i64 0, .slice none 0 0, .int .i64 0, .int .i64 0, .slice none 0 0, .int .i64 0, .int .i64 0, .int .i64 0, .int .i64 0, .int .i64 0] 34 (0, 0)) rA
            have rD : ((w1).alloc (.cells #[.int .i64 0, .int .i64 0, .int .i64 0, .int .i64 0, .int .i64 0, .int .i64 0, .int .i64 0, .slice none 0 0, .int .i64 0, .int .i64 0, .slice none 0 0, .int .i64 0, .int .i64 0, .int .i64 0, .int .i64 0, .int .i64 0] 34 (0, 0))).heap[w1.heap.size]? = some (.cells #[.int .i64 0, .int .i64 0, .int .i64 0, .int .i64 0, .int .i64 0, .int .i64 0, .int .i64 0, .slice none 0 0, .int .i64 0, .int .i64 0, .slice none 0 0, .int .i64 0, .int .i64 0, .int .i64 0, .int .i64 0, .int .i64 0] 34 (0, 0)) := block_new_at _ (by first | rfl | (simp only [World.size_alloc] <;> rfl))
            clear hP
            have hP := hP2
            clear hP2
            have hne2 : W.heap.size ≠ w1.heap.size := by omega
            have hlA : W.heap.size ≤ W.heap.size := by omega
            have hlD : W.heap.size ≤ w1.heap.size := by omega
            refine wp_storeP rfl rfl 32 _ _ rfl _ (#[.int .i64 h1.id, .int .i64 h1.kind, .int .i64 h1.x, .int .i64 h1.y, .int .i64 h1.rad, .slice fa f.area.length fc, .int .i64 h1.dep, .int .i64 h1.sym, .slice fb f.secs.length fd]) rfl rfl _ _ rA (by kernel_rfl) (by kernel_rfl) (by kernel_rfl) (below_setRow hP hlA _) (fun hP => ?_)
            refine wp_storeP rfl rfl 34 _ _ rfl _ (#[.int .i64 bk.kind, .int .i64 bk.id, .int .i64 bk.feat.id, .int .i64 bk.feat.kind, .int .i64 bk.feat.x, .int .i64 bk.feat.y, .int .i64 bk.feat.rad, .slice none 0 0, .int .i64 bk.feat.dep, .int .i64 bk.feat.sym, .slice none 0 0, .int .i64 bk.x, .int .i64 bk.y, .int .i64 bk.rad, .int .i64 bk.dep, .int .i64 bk.sym]) rfl rfl _ _ ((setRow_other _ _ _ _ hne2.symm).trans rD) (by kernel_rfl) (by kernel_rfl) (by kernel_rfl) (below_setRow hP hlD _) (fun hP => ?_)
            (refine wpPlan_take rfl (fun K hK => ?_); replace hK := Lib.hid hK; go_simp; first | (refine hK.out _ ?_; clear hK K) | (apply Exists.intro; refine ⟨fun _ => ?_, hK.out _ ?_⟩; (first | with_reducible exact rfl | skip); clear hK K))
            refine wpPlan_done ?_
            go_wp2_with fail
            go_meet
            exact ⟨_, rfl, rfl, (setRow_other _ _ _ _ hne2).trans (setRow_heap _ _ _ _ _ _ rA), hP⟩
          · (refine wpPlan_only rfl (fun K hK => ?_); replace hK := Lib.hid hK; go_simp; refine hK.out _ _ (hP.alloc hP.size _) (fun hP2 => ?_); clear hK K)
            replace rA := block_alloc (o' := .cells #[.int .i64 0, .int .i64 0, .int .i64 0, .int .i64 0, .int .i64 0, .int .i64 0, .int .i64 0, .slice none 0 0, .int .i64 0, .int .i64 0, .slice none 0 0, .int .i64 0, .int .i64 0, .int .i64 0, .int .i64 0, .int .i64 0] 34 (0, 0)) rA
            have rD : (((W.drew).alloc (.cells #[.int .i64 0, .int .i64 0, .int .i64 0, .int .i64 0, .int .i64 0, .slice none 0 0, .int .i64 0, .int .i64 0, .slice none 0 0] 32 (0, 0))).alloc (.cells #[.int .i64 0, .int .i64 0, .int .i64 0, .int .i64 0, .int .i64 0, .int .i64 0, .int .i64 0, .slice none 0 0, .int .i64 0, .int .i64 0, .slice none 0 0, .int .i64 0, .int .i64 0, .int .i64 0, .int .i64 0, .int .i64 0] 34 (0, 0))).heap[W.heap.size + 1]? = some (.cells #[.int .i64 0, .int .i64 0, .int .i64 0, .int .i64 0, .int .i64 0, .int .i64 0, .int .i64 0, .slice none 0 0, .int .i64 0, .int .i64 0, .slice none 0 0, .int .i64 0, .int .i64 0, .int .i64 0, .int .i64 0, .int .i64 0] 34 (0, 0)) := block_new_at _ (by first | rfl | (simp only [World.size_alloc] <;> rfl))
            clear hP
            have hP := hP2
            clear hP2
            (refine wpPlan_only rfl (fun K hK => ?_); replace hK := Lib.hid hK; go_simp; go_at_call 203; (with_reducible refine (chg_call1 h g (.slice fa f.area.length fc) (.slice fb f.secs.length fd) _ (PH.out.later (BW0.trans (hP.mono BW0.size))) HC.out).mono ?_); rintro e w1 ⟨rfl, hb1⟩; refine hK.out _ _ (below_step hP hb1) (fun hP2 => ?_); clear hK K)
            replace rA := block_later hb1 rA
            replace rD := block_later hb1 rD
            have hs1 : W.heap.size + 2 ≤ w1.heap.size := Nat.le_trans (Nat.le_of_eq (by first | rfl | (simp only [World.size_alloc]; rfl) | simp)) hb1.size
            clear hP
            have hP := hP2
            clear hP2
            iterate 4 (refine wpPlan_take rfl (fun K hK => ?_); replace hK := Lib.hid hK; go_simp; first | (refine hK.out _ ?_; clear hK K) | (apply Exists.intro; refine ⟨fun _ => ?_, hK.out _ ?_⟩; (first | with_reducible exact rfl | skip); clear hK K))
            have hne2 : W.heap.size ≠ W.heap.size + 1 := by omega
            have hlA : W.heap.size ≤ W.heap.size := by omega
            have hlD : W.heap.size ≤ W.heap.size + 1 := by omega
            refine wp_storeP rfl rfl 32 _ _ rfl _ (#[.int .i64 h1.id, .int .i64 h1.kind, .int .i64 h1.x, .int .i64 h1.y, .int .i64 h1.rad, .slice fa f.area.length fc, .int .i64 h1.dep, .int .i64 h1.sym, .slice fb f.secs.length fd]) rfl rfl _ _ rA (by kernel_rfl) (by kernel_rfl) (by kernel_rfl) (below_setRow hP hlA _) (fun hP => ?_)
            refine wp_storeP rfl rfl 34 _ _ rfl _ (#[.int .i64 bk.kind, .int .i64 bk.id, .int .i64 bk.feat.id, .int .i64 bk.feat.kind, .int .i64 bk.feat.x, .int .i64 bk.feat.y, .int .i64 bk.feat.rad, .slice none 0 0, .int .i64 bk.feat.dep, .int .i64 bk.feat.sym, .slice none 0 0, .int .i64 bk.x, .int .i64 bk.y, .int .i64 bk.rad, .int .i64 bk.dep, .int .i64 bk.sym]) rfl rfl _ _ ((setRow_other _ _ _ _ hne2.symm).trans rD) (by kernel_rfl) (by kernel_rfl) (by kernel_rfl) (below_setRow hP hlD _) (fun hP => ?_)
            (refine wpPlan_take rfl (fun K hK => ?_); replace hK := Lib.hid hK; go_simp; first | (refine hK.out _ ?_; clear hK K) | (apply Exists.intro; refine ⟨fun _ => ?_, hK.out _ ?_⟩; (first | with_reducible exact rfl | skip); clear hK K))
            refine wpPlan_done ?_
            go_wp2_with fail
            go_meet
            exact ⟨_, rfl, rfl, (setRow_other _ _ _ _ hne2).trans (setRow_heap _ _ _ _ _ _ rA), hP⟩
        · (refine wpPlan_only rfl (fun K hK => ?_); replace hK := Lib.hid hK; go_simp; refine hK.out _ _ (hP.alloc hP.size _) (fun hP2 => ?_); clear hK K)
          have rD : ((W.drew).alloc (.cells #[.int .i64 0, .int .i64 0, .int .i64 0, .int .i64 0, .int .i64 0, .int .i64 0, .int .i64 0, .slice none 0 0, .int .i64 0, .int .i64 0, .slice none 0 0, .int .i64 0, .int .i64 0, .int .i64 0, .int .i64 0, .int .i64 0] 34 (0, 0))).heap[W.heap.size]? = some (.cells #[.int .i64 0, .int .i64 0, .int .i64 0, .int .i64 0, .int .i64 0, .int .i64 0, .int .i64 0, .slice none 0 0, .int .i64 0, .int .i64 0, .slice none 0 0, .int .i64 0, .int .i64 0, .int .i64 0, .int .i64 0, .int .i64 0] 34 (0, 0)) := block_new_at _ (by first | rfl | (simp only [World.size_alloc] <;> rfl))
          clear hP
          have hP := hP2
          clear hP2
          refine wpPlan_two ?_ ?_
          · (refine wpPlan_only rfl (fun K hK => ?_); replace hK := Lib.hid hK; go_simp; go_at_call 203; (with_reducible refine (chg_call1 h g (.slice fa f.area.length fc) (.slice fb f.secs.length fd) _ (PH.out.later (BW0.trans (hP.mono BW0.size))) HC.out).mono ?_); rintro e w1 ⟨rfl, hb1⟩; refine hK.out _ _ (below_step hP hb1) (fun hP2 => ?_); clear hK K)
            replace rD := block_later hb1 rD
            have hs1 : W.heap.size + 1 ≤ w1.heap.size := Nat.le_trans (Nat.le_of_eq (by first | rfl | (simp only [World.size_alloc]; rfl) | simp)) hb1.size
            clear hP
            have hP := hP2
            clear hP2
            iterate 4 (refine wpPlan_take rfl (fun K hK => ?_); replace hK := Lib.hid hK; go_simp; first | (refine hK.out _ ?_; clear hK K) | (apply Exists.intro; refine ⟨fun _ => ?_, hK.out _ ?_⟩; (first | with_reducible exact rfl | skip); clear hK K))
            (refine wpPlan_only rfl (fun K hK => ?_); replace hK := Lib.hid hK; go_simp; refine hK.out _ _ (hP.alloc hP.size _) (fun hP2 => ?_); clear hK K)
            replace rD := block_alloc (o' := .cells #[.int .i64 0, .int .i64 0, .int .i64 0, .int .i64 0, .int .i64 0, .slice none 0 0, .int .i64 0, .int .i64 0, .slice none 0 0] 32 (0, 0)) rD
            have rA : ((w1).alloc (.cells #[.int .i64 0, .int .i64 0, .int .i64 0, .int .i64 0, .int .i64 0, .slice none 0 0, .int .i64 0, .int .i64 0, .slice none 0 0] 32 (0, 0))).heap[w1.heap.size]? = some (.cells #[.int .i64 0, .int .i64 0, .int .i64 0, .int .i64 0, .int .i64 0, .slice none 0 0, .int .i64 0, .int .i64 0, .slice none 0 0] 32 (0, 0)) := block_new_at _ (by first | rfl | (simp only [World.size_alloc] <;> rfl))
            clear hP
            have hP := hP2
            clear hP2
            have hne2 : w1.heap.size ≠ W.heap.size := by omega
            have hlA : W.heap.size ≤ w1.heap.size := by omega
            have hlD : W.heap.size ≤ W.heap.size := by omega
            refine wp_storeP rfl rfl 32 _ _ rfl _ (#[.int .i64 h1.id, .int .i64 h1.kind, .int .i64 h1.x, .int .i64 h1.y, .int .i64 h1.rad, .slice fa f.area.length fc, .int .i64 h1.dep, .int .i64 h1.sym, .slice fb f.secs.length fd]) rfl rfl _ _ rA (by kernel_rfl) (by kernel_rfl) (by kernel_rfl) (below_setRow hP hlA _) (fun hP => ?_)
            refine wp_storeP rfl rfl 34 _ _ rfl _ (#[.int .i64 bk.kind, .int .i64 bk.id, .int .i64 bk.feat.id, .int .i64 bk.feat.kind, .int .i64 bk.feat.x, .int .i64 bk.feat.y, .int .i64 bk.feat.rad, .slice none 0 0, .int .i64 bk.feat.dep, .int .i64 bk.feat.sym, .slice none 0 0, .int .i64 bk.x, .int .i64 bk.y, .int .i64 bk.rad, .int .i64 bk.dep, .int .i64 bk.sym]) rfl rfl _ _ ((setRow_other _ _ _ _ hne2.symm).trans rD) (by kernel_rfl) (by kernel_rfl) (by kernel_rfl) (below_setRow hP hlD _) (fun hP => ?_)
            (refine wpPlan_take rfl (fun K hK => ?_); replace hK := Lib.hid hK; go_simp; first | (refine hK.out _ ?_; clear hK K) | (apply Exists.intro; refine ⟨fun _ => ?_, hK.out _ ?_⟩; (first | with_reducible exact rfl | skip); clear hK K))
            refine wpPlan_done ?_
            go_wp2_with fail
            go_meet
            exact ⟨_, rfl, rfl, (setRow_other _ _ _ _ hne2).trans (setRow_heap _ _ _ _ _ _ rA), hP⟩
          · (refine wpPlan_only rfl (fun K hK => ?_); replace hK := Lib.hid hK; go_simp; refine hK.out _ _ (hP.alloc hP.size _) (fun hP2 => ?_); clear hK K)
            replace rD := block_alloc (o' := .cells #[.int .i64 0, .int .i64 0, .int .i64 0, .int .i64 0, .int .i64 0, .slice none 0 0, .int .i64 0, .int .i64 0, .slice none 0 0] 32 (0, 0)) rD
            have rA : (((W.drew).alloc (.cells #[.int .i64 0, .int .i64 0, .int .i64 0, .int .i64 0, .int .i64 0, .int .i64 0, .int .i64 0, .slice none 0 0, .int .i64 0, .int .i64 0, .slice none 0 0, .int .i64 0, .int .i64 0, .int .i64 0, .int .i64 0, .int .i64 0] 34 (0, 0))).alloc (.cells #[.int .i64 0, .int .i64 0, .int .i64 0, .int .i64 0, .int .i64 0, .slice none 0 0, .int .i64 0, .int .i64 0, .slice none 0 0] 32 (0, 0))).heap[W.heap.size + 1]? = some (.cells #[.int .i64 0, .int .i64 0, .int .i64 0, .int .i64 0, .int .i64 0, .slice none 0 0, .int .i64 0, .int .i64 0, .slice none 0 0] 32 (0, 0)) := block_new_at _ (by first | rfl | (simp only [World.size_alloc] <;> rfl))
            clear hP
            have hP := hP2
            clear hP2
            (refine wpPlan_only rfl (fun K hK => ?_); replace hK := Lib.hid hK; go_simp; go_at_call 203; (with_reducible refine (chg_call1 h g (.slice fa f.area.length fc) (.slice fb f.secs.length fd) _ (PH.out.later (BW0.trans (hP.mono BW0.size))) HC.out).mono ?_); rintro e w1 ⟨rfl, hb1⟩; refine hK.out _ _ (below_step hP hb1) (fun hP2 => ?_); clear hK K)
            replace rD := block_later hb1 rD
            replace rA := block_later hb1 rA
            have hs1 : W.heap.size + 2 ≤ w1.heap.size := Nat.le_trans (Nat.le_of_eq (by first | rfl | (simp only [World.size_alloc]; rfl) | simp)) hb1.size
            clear hP
            have hP := hP2
            clear hP2
            iterate 4 (refine wpPlan_take rfl (fun K hK => ?_); replace hK := Lib.hid hK; go_simp; first | (refine hK.out _ ?_; clear hK K) | (apply Exists.intro; refine ⟨fun _ => ?_, hK.out _ ?_⟩; (first | with_reducible exact rfl | skip); clear hK K))
            have hne2 : W.heap.size + 1 ≠ W.heap.size := by omega
            have hlA : W.heap.size ≤ W.heap.size + 1 := by omega
            have hlD : W.heap.size ≤ W.heap.size := by omega
            refine wp_storeP rfl rfl 32 _ _ rfl _ (#[.int .i64 h1.id, .int .i64 h1.kind, .int .i64 h1.x, .int .i64 h1.y, .int .i64 h1.rad, .slice fa f.area.length fc, .int .i64 h1.dep, .int .i64 h1.sym, .slice fb f.secs.length fd]) rfl rfl _ _ rA (by kernel_rfl) (by kernel_rfl) (by kernel_rfl) (below_setRow hP hlA _) (fun hP => ?_)
            refine wp_storeP rfl rfl 34 _ _ rfl _ (#[.int .i64 bk.kind, .int .i64 bk.id, .int .i64 bk.feat.id, .int .i64 bk.feat.kind, .int .i64 bk.feat.x, .int .i64 bk.feat.y, .int .i64 bk.feat.rad, .slice none 0 0, .int .i64 bk.feat.dep, .int .i64 bk.feat.sym, .slice none 0 0, .int .i64 bk.x, .int .i64 bk.y, .int .i64 bk.rad, .int .i64 bk.dep, .int .i64 bk.sym]) rfl rfl _ _ ((setRow_other _ _ _ _ hne2.symm).trans rD) (by kernel_rfl) (by kernel_rfl) (by kernel_rfl) (below_setRow hP hlD _) (fun hP => ?_)
            (refine wpPlan_take rfl (fun K hK => ?_); replace hK := Lib.hid hK; go_simp; first | (refine hK.out _ ?_; clear hK K) | (apply Exists.intro; refine ⟨fun _ => ?_, hK.out _ ?_⟩; (first | with_reducible exact rfl | skip); clear hK K))
            refine wpPlan_done ?_
            go_wp2_with fail
            go_meet
            exact ⟨_, rfl, rfl, (setRow_other _ _ _ _ hne2).trans (setRow_heap _ _ _ _ _ _ rA), hP⟩
       case rest =>
        obtain ⟨b10, rfl, rfl, r10, hbx⟩ := hcut
        have hBx := below_step hb hbx
        have F3 := Lib.hid (block_later hbx F2.out)
        have G3 := Lib.hid (block_later hbx G2.out)
        have A3 := Lib.hid (block_later hbx A2.out)
        have O3 := Lib.hid (OW.out.keep hbx)
        have hszW := hb.size
        have hszc := hbx.size
        have hl2 := lt_block A2.out
        cases hch : chgF h (depO g.id g.dep) with
        | none =>
          have DN : Hid (diffF f g = none) := Lib.hid (by
           obtain ⟨b, hb⟩ := NX.out.2
           obtain ⟨e, he⟩ := acts_chg_no (b := b) (o := depO g.id g.dep) (by rw [kd4]; decide) (by rw [kd4]; decide) AC.out hch
           rw [← hb] at he
           exact diff_err he)
          obtain rfl : er = 12 := by have h := HC.out; unfold chgR at h; rw [hch] at h; simp only [Prod.mk.injEq] at h; exact h.2.2.symm
          clear hch
          go_wp2_with fail
          go_returns
          exact ⟨none, 0, 0, hBx, .inr ⟨DN.out, rfl⟩⟩
        | some h2 =>
          obtain ⟨rfl, _, rfl⟩ : h2 = h1 ∧ bakF h (depO g.id g.dep) = bk ∧ er = 0 := by have h := HC.out; unfold chgR at h; rw [hch] at h; simp only [Prod.mk.injEq] at h; exact ⟨h.1, h.2.1, h.2.2.symm⟩
          have AC2 : Hid (acts (fldPre f g 2) (some f) = .ok (some h2)) := Lib.hid (by rw [NX.out.1]; exact acts_chg (by rw [kd4]; decide) (by rw [kd4]; decide) AC.out hch)
          have AR2 : Hid (h2.area = f.area ∧ h2.secs = f.secs) := Lib.hid ⟨(chgF_id hch).2.2.1.trans AR.out.1, (chgF_id hch).2.2.2.trans AR.out.2⟩
          clear hch
          go_upto_region 11 with (first
           | (with_reducible refine wpList_load_row rfl 32 (.tmp 10) rfl b10 rfl _ (#[.int .i64 h2.id, .int .i64 h2.kind, .int .i64 h2.x, .int .i64 h2.y, .int .i64 h2.rad, .slice fa f.area.length fc, .int .i64 h2.dep, .int .i64 h2.sym, .slice fb f.secs.length fd]) _ _ r10 Tryz.underlying32 rfl (by kernel_rfl) ?_)
           | (with_reducible refine wpList_store_row rfl 32 (.tmp 2) _ rfl w.heap.size (#[.int .i64 h2.id, .int .i64 h2.kind, .int .i64 h2.x, .int .i64 h2.y, .int .i64 h2.rad, .slice fa f.area.length fc, .int .i64 h2.dep, .int .i64 h2.sym, .slice fb f.secs.length fd]) rfl rfl _ _ F3.out (by kernel_rfl) (by kernel_rfl) (by kernel_rfl) ?_))
          refine wp_named fun W5 hW => ?_
          have s1 : W5.heap[w.heap.size]? = some (.cells (#[.int .i64 h2.id, .int .i64 h2.kind, .int .i64 h2.x, .int .i64 h2.y, .int .i64 h2.rad, .slice fa f.area.length fc, .int .i64 h2.dep, .int .i64 h2.sym, .slice fb f.secs.length fd]) 32 (0, 0)) := by rw [hW]; exact setRow_heap _ _ _ _ _ _ F3.out
          have s2 := (congrArg (fun X : World => X.heap[w.heap.size + 1]?) hW).trans ((setRow_other _ _ _ _ (by omega)).trans G3.out)
          replace s2 : W5.heap[w.heap.size + 1]? = _ := s2
          have s3 := (congrArg (fun X : World => X.heap[w.heap.size + 2]?) hW).trans ((setRow_other _ _ _ _ (by omega)).trans A3.out)
          replace s3 : W5.heap[w.heap.size + 2]? = _ := s3
          have O5 : Hid (OwnOs (w.heap.size + 3) w W5 (.slice ad m c) (fldPre f g 1)) := Lib.hid (by rw [hW]; exact O3.out.row (by omega) _)
          have hB5 : Below w.heap.size w W5 := by rw [hW]; exact below_setRow hBx (Nat.le_refl _) _
          have S1 := Lib.hid s1
          have S2 := Lib.hid s2
          have S3 := Lib.hid s3
          have R5 : Hid (W5.rangeAt (w.heap.size + 2) 16 (opCells (depO g.id g.dep, .slice none 0 0, .slice none 0 0))) := Lib.hid (World.rangeAt_of_block S3.out 16 16)
          have hs5 : w.heap.size + 3 ≤ W5.heap.size := by have := lt_block s3; omega
          clear hW s1 s2 s3
          go_wp2_with (first
           | (refine wpList_appO_at rfl _ _ rfl (w.heap.size + 3) w _ (fldPre f g 1) [depO g.id g.dep] rfl O5.out _ _ _ rfl [(depO g.id g.dep, .slice none 0 0, .slice none 0 0)] rfl rfl (fun x hx => by obtain rfl := List.mem_singleton.1 hx; exact PartsAt.zero _) (srcAt_range R5.out) (N := m + 1) (by rw [LE.out]) (by omega) hs5 ?_; intro ad7 c7 w7 how7 hgr7 hbl7 hat7))
          have B7 := hB5.trans (hbl7.mono (by omega))
          go_roundw
          case rel => exact ⟨2, h2, ad7, m + 1, c7, by omega, rfl, rfl, by rw [NX.out.1, List.length_append, LE.out]; rfl, by rw [NX.out.1]; exact how7, AC2.out, AR2.out, (hbl7.block _ (by omega)).trans S1.out, (hbl7.block _ (by omega)).trans S2.out, (hbl7.block _ (by omega)).trans S3.out, B7⟩
          case measure => simp [cntV]
   · cases d2
     · have NX : Hid (fldPre f g 3 = fldPre f g 2) := Lib.hid (fldPre_no2 (by have := D2.out; simpa using this))
       go_wp2_with fail
       go_roundw
       case rel => exact ⟨3, h, ad, m, c, by omega, rfl, rfl, by rw [NX.out]; exact LE.out, by rw [NX.out]; exact OW.out, by rw [NX.out]; exact AC.out, AR.out, F2.out, G2.out, A2.out, hb⟩
       case measure => simp [cntV]
     · have NX := Lib.hid (fldPre_yes2 (f := f) (g := g) (by have := D2.out; simpa using this))
       obtain ⟨⟨h1, bk, er⟩, hc⟩ : ∃ r, chgR h (symO g.id g.sym) = r := ⟨_, rfl⟩
       have HC := Lib.hid hc
       have R2 : Hid (wr.rangeAt (w.heap.size + 2) 32 [.int .i64 5, .int .i64 g.id, .int .i64 0, .int .i64 0, .int .i64 0, .int .i64 0, .int .i64 0, .slice none 0 0, .int .i64 0, .int .i64 0, .slice none 0 0, .int .i64 0, .int .i64 0, .int .i64 0, .int .i64 0, .int .i64 g.sym]) := Lib.hid (World.rangeAt_of_block A2.out 32 16)
       have BW0 := hb
       clear hc
       go_upto_region 7 with (fail)
       obtain ⟨W, rfl⟩ : ∃ z : World, z = wr := ⟨_, rfl⟩
       go_cut [10, 11, 12] from 60 to 68 (fun s10 s11 s12 wx => ∃ b10 : Nat, s10 = .pointer (some ⟨b10, 0, none⟩) ∧ s12 = .int .i64 er ∧ wx.heap[b10]? = some (.cells #[.int .i64 h1.id, .int .i64 h1.kind, .int .i64 h1.x, .int .i64 h1.y, .int .i64 h1.rad, .slice fa f.area.length fc, .int .i64 h1.dep, .int .i64 h1.sym, .slice fb f.secs.length fd] 32 (0, 0)) ∧ Below W.heap.size W wx)
       case first =>
        refine wp_region_plan (.take 0 (.take 0 (.take 0 (.take 0 (.three 0 (.take 0 (.take 0 (.take 0 (.take 0 (.two 0 (.only 0 (.only 0 (.only 0 (.take 0 .done)))) 1 (.only 0 (.only 0 (.only 0 (.take 0 .done))))))))) 5 (.two 0 (.take 0 (.take 0 (.take 0 (.take 0 (.only 0 (.only 0 (.only 0 (.take 0 .done)))))))) 5 (.only 0 (.take 0 (.take 0 (.take 0 (.take 0 (.only 0 (.only 0 (.take 0 .done))))))))) 6 (.two 0 (.take 0 (.take 0 (.take 0 (.take 0 (.only 0 (.only 0 (.only 0 (.take 0 .done)))))))) 5 (.only 0 (.take 0 (.take 0 (.take 0 (.take 0 (.only 0 (.only 0 (.take 0 .done)))))))))))))) (by kernel_rfl) (by kernel_rfl) (fun hP => ?_)
        refine wp_loadP rfl (by kernel_rfl) 32 _ rfl _ rfl _ _ _ _ F2.out Tryz.underlying32 rfl (by kernel_rfl) ?_
        iterate 2 (refine wpPlan_take rfl (fun K hK => ?_); replace hK := Lib.hid hK; go_simp; first | (refine hK.out _ ?_; clear hK K) | (apply Exists.intro; refine ⟨fun _ => ?_, hK.out _ ?_⟩; (first | with_reducible exact rfl | skip); clear hK K))
        refine wp_loadMidP rfl (by kernel_rfl) 34 (.tmp 63) rfl (w.heap.size + 2) 32 rfl [.int .i64 5, .int .i64 g.id, .int .i64 0, .int .i64 0, .int .i64 0, .int .i64 0, .int .i64 0, .slice none 0 0, .int .i64 0, .int .i64 0, .slice none 0 0, .int .i64 0, .int .i64 0, .int .i64 0, .int .i64 0, .int .i64 g.sym] _ R2.out Tryz.underlying34 rfl (by kernel_rfl) ?_
        refine wpPlan_three ?_ ?_ ?_
        · (refine wpPlan_only rfl (fun K hK => ?_); replace hK := Lib.hid hK; go_simp; go_at_call 203; (with_reducible refine (chg_call2 h g (.slice fa f.area.length fc) (.slice fb f.secs.length fd) _ (PH.out.later (BW0.trans (hP.mono BW0.size))) HC.out).mono ?_); rintro e w1 ⟨rfl, hb1⟩; refine hK.out _ _ (below_step hP hb1) (fun hP2 => ?_); clear hK K)
          have hs1 : W.heap.size + 0 ≤ w1.heap.size := Nat.le_trans (Nat.le_of_eq (by first | rfl | (simp only [World.size_alloc]; rfl) | simp)) hb1.size
          clear hP
          have hP := hP2
          clear hP2
          iterate 4 (refine wpPlan_take rfl (fun K hK => ?_); replace hK := Lib.hid hK; go_simp; first | (refine hK.out _ ?_; clear hK K) | (apply Exists.intro; refine ⟨fun _ => ?_, hK.out _ ?_⟩; (first | with_reducible exact rfl | skip); clear hK K))
          refine wpPlan_two ?_ ?_
          · (refine wpPlan_only rfl (fun K hK => ?_); replace hK := Lib.hid hK; go_simp; refine hK.out _ _ (hP.alloc hP.size _) (fun hP2 => ?_); clear hK K)
            have rA : ((w1).alloc (.cells #[.int .i64 0, .int .i64 0, .int .i64 0, .int .i64 0, .int .i64 0, .slice none 0 0, .int .i64 0, .int .i64 0, .slice none 0 0] 32 (0, 0))).heap[w1.heap.size]? = some (.cells #[.int .i64 0, .int .i64 0, .int .i64 0, .int .i64 0, .int .i64 0, .slice none 0 0, .int .i64 0, .int .i64 0, .slice none 0 0] 32 (0, 0)) := block_new_at _ (by first | rfl | (simp only [World.size_alloc] <;> rfl))
            clear hP
            have hP := hP2
            clear hP2
            (refine wpPlan_only rfl (fun K hK => ?_); replace hK := Lib.hid hK; go_simp; refine hK.out _ _ (hP.alloc hP.size _) (fun hP2 => ?_); clear hK K)
            replace rA := block_alloc (o' := .cells #[.int .i64 0, .int .i64 0, .int .i64 0, .int .i64 0, .int .i64 0, .int .i64 0, .int .i64 0, .slice none 0 0, .int .i64 0, .int .i64 0, .slice none 0 0, .int .i64 0, .int .i64 0, .int .i64 0, .int .i64 0, .int .i64 0] 34 (0, 0)) rA
            have rD : (((w1).alloc (.cells #[.int .i64 0, .int .i64 0, .int .i64 0, .int .i64 0, .int .i64 0, .slice none 0 0, .int .i64 0, .int .i64 0, .slice none 0 0] 32 (0, 0))).alloc (.cells #[.int .i64 0, .int .i64 0, .int .i64 0, .int .i64 0, .int .i64 0, .int .i64 0, .int .i64 0, .slice none 0 0, .int .i64 0, .int .i64 0, .slice none 0 0, .int .i64 0, .int .i64 0, .int .i64 0, .int .i64 0, .int .i64 0] 34 (0, 0))).heap[w1.heap.size + 1]? = some (.cells #[.int .i64 0, .int .i64 0, .int .i64 0, .int .i64 0, .int .i64 0, .int .i64 0, .int .i64 0, .slice none 0 0, .int .i64 0, .int .i64 0, .slice none 0 0, .int .i64 0, .int .i64 0, .int .i64 0, .int .i64 0, .int .i64 0] 34 (0, 0)) := block_new_at _ (by first | rfl | (simp only [World.size_alloc] <;> rfl))
            clear hP
            have hP := hP2
            clear hP2
            have hne2 : w1.heap.size ≠ w1.heap.size + 1 := by omega
            have hlA : W.heap.size ≤ w1.heap.size := by omega
            have hlD : W.heap.size ≤ w1.heap.size + 1 := by omega
            refine wp_storeP rfl rfl 32 _ _ rfl _ (#[.int .i64 h1.id, .int .i64 h1.kind, .int .i64 h1.x, .int .i64 h1.y, .int .i64 h1.rad, .slice fa f.area.length fc, .int .i64 h1.dep, .int .i64 h1.sym, .slice fb f.secs.length fd]) rfl rfl _ _ rA (by kernel_rfl) (by kernel_rfl) (by kernel_rfl) (below_setRow hP hlA _) (fun hP => ?_)
            refine wp_storeP rfl rfl 34 _ _ rfl _ (#[.int .i64 bk.kind, .int .i64 bk.id, .int .i64 bk.feat.id, .int .i64 bk.feat.kind, .int .i64 bk.feat.x, .int .i64 bk.feat.y, .int .i64 bk.feat.rad, .slice none 0 0, .int .i64 bk.feat.dep, .int .i64 bk.feat.sym, .slice none 0 0, .int .i64 bk.x, .int .i64 bk.y, .int .i64 bk.rad, .int .i64 bk.dep, .int .i64 bk.sym]) rfl rfl _ _ ((setRow_other _ _ _ _ hne2.symm).trans rD) (by kernel_rfl) (by kernel_rfl) (by kernel_rfl) (below_setRow hP hlD _) (fun hP => ?_)
            (refine wpPlan_take rfl (fun K hK => ?_); replace hK := Lib.hid hK; go_simp; first | (refine hK.out _ ?_; clear hK K) | (apply Exists.intro; refine ⟨fun _ => ?_, hK.out _ ?_⟩; (first | with_reducible exact rfl | skip); clear hK K))
            refine wpPlan_done ?_
            go_wp2_with fail
            go_meet
            exact ⟨_, rfl, rfl, (setRow_other _ _ _ _ hne2).trans (setRow_heap _ _ _ _ _ _ rA), hP⟩
          · (refine wpPlan_only rfl (fun K hK => ?_); replace hK := Lib.hid hK; go_simp; refine hK.out _ _ (hP.alloc hP.size _) (fun hP2 => ?_); clear hK K)
            have rD : ((w1).alloc (.cells #[.int .i64 0, .int .i64 0, .int .i64 0, .int .i64 0, .int .i64 0, .int .i64 0, .int .i64 0, .slice none 0 0, .int .i64 0, .int .i64 0, .slice none 0 0, .int .i64 0, .int .i64 0, .int .i64 0, .int .i64 0, .int .i64 0] 34 (0, 0))).heap[w1.heap.size]? = some (.cells #[.int .i64 0, .int .i64 0, .int .i64 0, .int .i64 0, .int .i64 0, .int .i64 0, .int .i64 0, .slice none 0 0, .int .i64 0, .int .i64 0, .slice none 0 0, .int .i64 0, .int .i64 0, .int .i64 0, .int .i64 0, .int .i64 0] 34 (0, 0)) := block_new_at _ (by first | rfl | (simp only [World.size_alloc] <;> rfl))
            clear hP
            have hP := hP2
            clear hP2
            (refine wpPlan_only rfl (fun K hK => ?_); replace hK := Lib.hid hK; go_simp; refine hK.out _ _ (hP.alloc hP.size _) (fun hP2 => ?_); clear hK K)
            replace rD := block_alloc (o' := .cells #[.int .i64 0, .int .i64 0, .int .i64 0, .int .i64 0, .int .i64 0, .slice none 0 0, .int .i64 0, .int .i64 0, .slice none 0 0] 32 (0, 0)) rD
            have rA : (((w1).alloc (.cells #[.int .i64 0, .int .i64 0, .int .i64 0, .int .i64 0, .int .i64 0, .int .i64 0, .int .i64 0, .slice none 0 0, .int .i64 0, .int .i64 0, .slice none 0 0, .int .i64 0, .int .i64 0, .int .i64 0, .int .i64 0, .int .i64 0] 34 (0, 0))).alloc (.cells #[.int .i64 0, .int .i64 0, .int .i64 0, .int .i64 0, .int .i64 0, .slice none 0 0, .int .i64 0, .int .i64 0, .slice none 0 0] 32 (0, 0))).heap[w1.heap.size + 1]? = some (.cells #[.int .i64 0, .int .i64 0, .int .i64 0, .int .i64 0, .int .i64 0, .slice none 0 0, .int .i64 0, .int .i64 0, .slice none 0 0] 32 (0, 0)) := block_new_at _ (by first | rfl | (simp only [World.size_alloc] <;> rfl))
            clear hP
            have hP := hP2
            clear hP2
            have hne2 : w1.heap.size + 1 ≠ w1.heap.size := by omega
            have hlA : W.heap.size ≤ w1.heap.size + 1 := by omega
            have hlD : W.heap.size ≤ w1.heap.size := by omega
            refine wp_storeP rfl rfl 32 _ _ rfl _ (#[.int .i64 h1.id, .int .i64 h1.kind, .int .i64 h1.x, .int .i64 h1.y, .int .i64 h1.rad, .slice fa f.area.length fc, .int .i64 h1.dep, .int .i64 h1.sym, .slice fb f.secs.length fd]) rfl rfl _ _ rA (by kernel_rfl) (by kernel_rfl) (by kernel_rfl) (below_setRow hP hlA _) (fun hP => ?_)
            refine wp_storeP rfl rfl 34 _ _ rfl _ (#[.int .i64 bk.kind, .int .i64 bk.id, .int .i64 bk.feat.id, .int .i64 bk.feat.kind, .int .i64 bk.feat.x, .int .i64 bk.feat.y, .int .i64 bk.feat.rad, .slice none 0 0, .int .i64 bk.feat.dep, .int .i64 bk.feat.sym, .slice none 0 0, .int .i64 bk.x, .int .i64 bk.y, .int .i64 bk.rad, .int .i64 bk.dep, .int .i64 bk.sym]) rfl rfl _ _ ((setRow_other _ _ _ _ hne2.symm).trans rD) (by kernel_rfl) (by kernel_rfl) (by kernel_rfl) (below_setRow hP hlD _) (fun hP => ?_)
            (refine wpPlan_take rfl (fun K hK => ?_); replace hK := Lib.hid hK; go_simp; first | (refine hK.out _ ?_; clear hK K) | (apply Exists.intro; refine ⟨fun _ => ?_, hK.out _ ?_⟩; (first | with_reducible exact rfl | skip); clear hK K))
            refine wpPlan_done ?_
            go_wp2_with fail
            go_meet
            exact ⟨_, rfl, rfl, (setRow_other _ _ _ _ hne2).trans (setRow_heap _ _ _ _ _ _ rA), hP⟩
        · (refine wpPlan_only rfl (fun K hK => ?_); replace hK := Lib.hid hK; go_simp; refine hK.out _ _ (hP.alloc hP.size _) (fun hP2 => ?_); clear hK K)
          have rA : ((W.drew).alloc (.cells #[.int .i64 0, .int .i64 0, .int .i64 0, .int .i64 0, .int .i64 0, .slice none 0 0, .int .i64 0, .int .i64 0, .slice none 0 0] 32 (0, 0))).heap[W.heap.size]? = some (.cells #[.int .i64 0, .int .i64 0, .int .i64 0, .int .i64 0, .int .i64 0, .slice none 0 0, .int .i64 0, .int .i64 0, .slice none 0 0] 32 (0, 0)) := block_new_at _ (by first | rfl | (simp only [World.size_alloc] <;> rfl))
          clear hP
          have hP := hP2
          clear hP2
          refine wpPlan_two ?_ ?_
          · (refine wpPlan_only rfl (fun K hK => ?_); replace hK := Lib.hid hK; go_simp; go_at_call 203; (with_reducible refine (chg_call2 h g (.slice fa f.area.length fc) (.slice fb f.secs.length fd) _ (PH.out.later (BW0.trans (hP.mono BW0.size))) HC.out).mono ?_); rintro e w1 ⟨rfl, hb1⟩; refine hK.out _ _ (below_step hP hb1) (fun hP2 => ?_); clear hK K)
            replace rA := block_later hb1 rA
            have hs1 : W.heap.size + 1 ≤ w1.heap.size := Nat.le_trans (Nat.le_of_eq (by first | rfl | (simp only [World.size_alloc]; rfl) | simp)) hb1.size
            clear hP
            have hP := hP2
            clear hP2
            iterate 4 (refine wpPlan_take rfl (fun K hK => ?_); replace hK := Lib.hid hK; go_simp; first | (refine hK.out _ ?_; clear hK K) | (apply Exists.intro; refine ⟨fun _ => ?_, hK.out _ ?_⟩; (first | with_reducible exact rfl | skip); clear hK K))
            (refine wpPlan_only rfl (fun K hK => ?_); replace hK := Lib.hid hK; go_simp; refine hK.out _ _ (hP.alloc hP.size _) (fun hP2 => ?_); clear hK K)
            replace rA := block_alloc (o' := .cells #[.int .i64 0, .int .i64 0, .int .i64 0, .int .i64 0, .int .i64 0, .int .i64 0, .int .i64 0, .slice none 0 0, .int .i64 0, .int .i64 0, .slice none 0 0, .int .i64 0, .int .i64 0, .int .i64 0, .int .i64 0, .int .i64 0] 34 (0, 0)) rA
            have rD : ((w1).alloc (.cells #[.int .i64 0, .int .i64 0, .int .i64 0, .int .i64 0, .int .i64 0, .int .i64 0, .int .i64 0, .slice none 0 0, .int .i64 0, .int .i64 0, .slice none 0 0, .int .i64 0, .int .i64 0, .int .i64 0, .int .i64 0, .int .i64 0] 34 (0, 0))).heap[w1.heap.size]? = some (.cells #[.int .i64 0, .int .i64 0, .int .i64 0, .int .i64 0, .int .i64 0, .int .i64 0, .int .i64 0, .slice none 0 0, .int .i64 0, .int .i64 0, .slice none 0 0, .int .i64 0, .int .i64 0, .int .i64 0, .int .i64 0, .int .i64 0] 34 (0, 0)) := block_new_at _ (by first | rfl | (simp only [World.size_alloc] <;> rfl))
            clear hP
            have hP := hP2
            clear hP2
            have hne2 : W.heap.size ≠ w1.heap.size := by omega
            have hlA : W.heap.size ≤ W.heap.size := by omega
            have hlD : W.heap.size ≤ w1.heap.size := by omega
            refine wp_storeP rfl rfl 32 _ _ rfl _ (#[.int .i64 h1.id, .int .i64 h1.kind, .int .i64 h1.x, .int .i64 h1.y, .int .i64 h1.rad, .slice fa f.area.length fc, .int .i64 h1.dep, .int .i64 h1.sym, .slice fb f.secs.length fd]) rfl rfl _ _ rA (by kernel_rfl) (by kernel_rfl) (by kernel_rfl) (below_setRow hP hlA _) (fun hP => ?_)
            refine wp_storeP rfl rfl 34 _ _ rfl _ (#[.int .i64 bk.kind, .int .i64 bk.id, .int .i64 bk.feat.id, .int .i64 bk.feat.kind, .int .i64 bk.feat.x, .int .i64 bk.feat.y, .int .i64 bk.feat.rad, .slice none 0 0, .int .i64 bk.feat.dep, .int .i64 bk.feat.sym, .slice none 0 0, .int .i64 bk.x, .int .i64 bk.y, .int .i64 bk.rad, .int .i64 bk.dep, .int .i64 bk.sym]) rfl rfl _ _ ((setRow_other _ _ _ _ hne2.symm).trans rD) (by kernel_rfl) (by kernel_rfl) (by kernel_rfl) (below_setRow hP hlD _) (fun hP => ?_)
            (refine wpPlan_take rfl (fun K hK => ?_); replace hK := Lib.hid hK; go_simp; first | (refine hK.out _ ?_; clear hK K) | (apply Exists.intro; refine ⟨fun _ => ?_, hK.out _ ?_⟩; (first | with_reducible exact rfl | skip); clear hK K))
            refine wpPlan_done ?_
            go_wp2_with fail
            go_meet
            exact ⟨_, rfl, rfl, (setRow_other _ _ _ _ hne2).trans (setRow_heap _ _ _ _ _ _ rA), hP⟩
          · (refine wpPlan_only rfl (fun K hK => ?_); replace hK := Lib.hid hK; go_simp; refine hK.out _ _ (hP.alloc hP.size _) (fun hP2 => ?_); clear hK K)
            replace rA := block_alloc (o' := .cells #[.int .i64 0, .int .i64 0, .int .i64 0, .int .i64 0, .int .i64 0, .int .i64 0, .int .i64 0, .slice none 0 0, .int .i64 0, .int .i64 0, .slice none 0 0, .int .i64 0, .int .i64 0, .int .i64 0, .int .i64 0, .int .i64 0] 34 (0, 0)) rA
            have rD : (((W.drew).alloc (.cells #[.int .i64 0, .int .i64 0, .int .i64 0, .int .i64 0, .int .i64 0, .slice none 0 0, .int .i64 0, .int .i64 0, .slice none 0 0] 32 (0, 0))).alloc (.cells #[.int .i64 0, .int .i64 0, .int .i64 0, .int .i64 0, .int .i64 0, .int .i64 0, .int .i64 0, .slice none 0 0, .int .i64 0, .int .i64 0, .slice none 0 0, .int .i64 0, .int .i64 0, .int .i64 0, .int .i64 0, .int .i64 0] 34 (0, 0))).heap[W.heap.size + 1]? = some (.cells #[.int .i64 0, .int .i64 0, .int .i64 0, .int .i64 0, .int .i64 0, .int .i64 0, .int .i64 0, .slice none 0 0, .int .i64 0, .int .i64 0, .slice none 0 0, .int .i64 0, .int .i64 0, .int .i64 0, .int .i64 0, .int .i64 0] 34 (0, 0)) := block_new_at _ (by first | rfl | (simp only [World.size_alloc] <;> rfl))
            clear hP
            have hP := hP2
            clear hP2
            (refine wpPlan_only rfl (fun K hK => ?_); replace hK := Lib.hid hK; go_simp; go_at_call 203; (with_reducible refine (chg_call2 h g (.slice fa f.area.length fc) (.slice fb f.secs.length fd) _ (PH.out.later (BW0.trans (hP.mono BW0.size))) HC.out).mono ?_); rintro e w1 ⟨rfl, hb1⟩; refine hK.out _ _ (below_step hP hb1) (fun hP2 => ?_); clear hK K)
            replace rA := block_later hb1 rA
            replace rD := block_later hb1 rD
            have hs1 : W.heap.size + 2 ≤ w1.heap.size := Nat.le_trans (Nat.le_of_eq (by first | rfl | (simp only [World.size_alloc]; rfl) | simp)) hb1.size
            clear hP
            have hP := hP2
            clear hP2
            iterate 4 (refine wpPlan_take rfl (fun K hK => ?_); replace hK := Lib.hid hK; go_simp; first | (refine hK.out _ ?_; clear hK K) | (apply Exists.intro; refine ⟨fun _ => ?_, hK.out _ ?_⟩; (first | with_reducible exact rfl | skip); clear hK K))
            have hne2 : W.heap.size ≠ W.heap.size + 1 := by omega
            have hlA : W.heap.size ≤ W.heap.size := by omega
            have hlD : W.heap.size ≤ W.heap.size + 1 := by omega
            refine wp_storeP rfl rfl 32 _ _ rfl _ (#[.int .i64 h1.id, .int .i64 h1.kind, .int .i64 h1.x, .int .i64 h1.y, .int .i64 h1.rad, .slice fa f.area.length fc, .int .i64 h1.dep, .int .i64 h1.sym, .slice fb f.secs.length fd]) rfl rfl _ _ rA (by kernel_rfl) (by kernel_rfl) (by kernel_rfl) (below_setRow hP hlA _) (fun hP => ?_)
            refine wp_storeP rfl rfl 34 _ _ rfl _ (#[.int .i64 bk.kind, .int .i64 bk.id, .int .i64 bk.feat.id, .int .i64 bk.feat.kind, .int .i64 bk.feat.x, .int .i64 bk.feat.y, .int .i64 bk.feat.rad, .slice none 0 0, .int .i64 bk.feat.dep, .int .i64 bk.feat.sym, .slice none 0 0, .int .i64 bk.x, .int .i64 bk.y, .int .i64 bk.rad, .int .i64 bk.dep, .int .i64 bk.sym]) rfl rfl _ _ ((setRow_other _ _ _ _ hne2.symm).trans rD) (by kernel_rfl) (by kernel_rfl) (by kernel_rfl) (below_setRow hP hlD _) (fun hP => ?_)
            (refine wpPlan_take rfl (fun K hK => ?_); replace hK := Lib.hid hK; go_simp; first | (refine hK.out _ ?_; clear hK K) | (apply Exists.intro; refine ⟨fun _ => ?_, hK.out _ ?_⟩; (first | with_reducible exact rfl | skip); clear hK K))
            refine wpPlan_done ?_
            go_wp2_with fail
            go_meet
            exact ⟨_, rfl, rfl, (setRow_other _ _ _ _ hne2).trans (setRow_heap _ _ _ _ _ _ rA), hP⟩
        · (refine wpPlan_only rfl (fun K hK => ?_); replace hK := Lib.hid hK; go_simp; refine hK.out _ _ (hP.alloc hP.size _) (fun hP2 => ?_); clear hK K)
          have rD : ((W.drew).alloc (.cells #[.int .i64 0, .int .i64 0, .int .i64 0, .int .i64 0, .int .i64 0, .int .i64 0, .int .i64 0, .slice none 0 0, .int .i64 0, .int .i64 0, .slice none 0 0, .int .i64 0, .int .i64 0, .int .i64 0, .int .i64 0, .int .i64 0] 34 (0, 0))).heap[W.heap.size]? = some (.cells #[.int .i64 0, .int .i64 0, .int .i64 0, .int .i64 0, .int .i64 0, .int .i64 0, .int .i64 0, .slice none 0 0, .int .i64 0, .int .i64 0, .slice none 0 0, .int .i64 0, .int .i64 0, .int .i64 0, .int .i64 0, .int .i64 0] 34 (0, 0)) := block_new_at _ (by first | rfl | (simp only [World.size_alloc] <;> rfl))
          clear hP
          have hP := hP2
          clear hP2
          refine wpPlan_two ?_ ?_
          · (refine wpPlan_only rfl (fun K hK => ?_); replace hK := Lib.hid hK; go_simp; go_at_call 203; (with_reducible refine (chg_call2 h g (.slice fa f.area.length fc) (.slice fb f.secs.length fd) _ (PH.out.later (BW0.trans (hP.mono BW0.size))) HC.out).mono ?_); rintro e w1 ⟨rfl, hb1⟩; refine hK.out _ _ (below_step hP hb1) (fun hP2 => ?_); clear hK K)
            replace rD := block_later hb1 rD
            have hs1 : W.heap.size + 1 ≤ w1.heap.size := Nat.le_trans (Nat.le_of_eq (by first | rfl | (simp only [World.size_alloc]; rfl) | simp)) hb1.size
            clear hP
            have hP := hP2
            clear hP2
            iterate 4 (refine wpPlan_take rfl (fun K hK => ?_); replace hK := Lib.hid hK; go_simp; first | (refine hK.out _ ?_; clear hK K) | (apply Exists.intro; refine ⟨fun _ => ?_, hK.out _ ?_⟩; (first | with_reducible exact rfl | skip); clear hK K))
            (refine wpPlan_only rfl (fun K hK => ?_); replace hK := Lib.hid hK; go_simp; refine hK.out _ _ (hP.alloc hP.size _) (fun hP2 => ?_); clear hK K)
            replace rD := block_alloc (o' := .cells #[.int .i64 0, .int .i64 0, .int .i64 0, .int .i64 0, .int .i64 0, .slice none 0 0, .int .i64 0, .int .i64 0, .slice none 0 0] 32 (0, 0)) rD
            have rA : ((w1).alloc (.cells #[.int .i64 0, .int .i64 0, .int .i64 0, .int .i64 0, .int .i64 0, .slice none 0 0, .int .i64 0, .int .i64 0, .slice none 0 0] 32 (0, 0))).heap[w1.heap.size]? = some (.cells #[.int .i64 0, .int .i64 0, .int .i64 0, .int .i64 0, .int .i64 0, .slice none 0 0, .int .i64 0, .int .i64 0, .slice none 0 0] 32 (0, 0)) := block_new_at _ (by first | rfl | (simp only [World.size_alloc] <;> rfl))
            clear hP
            have hP := hP2
            clear hP2
            have hne2 : w1.heap.size ≠ W.heap.size := by omega
            have hlA : W.heap.size ≤ w1.heap.size := by omega
            have hlD : W.heap.size ≤ W.heap.size := by omega
            refine wp_storeP rfl rfl 32 _ _ rfl _ (#[.int .i64 h1.id, .int .i64 h1.kind, .int .i64 h1.x, .int .i64 h1.y, .int .i64 h1.rad, .slice fa f.area.length fc, .int .i64 h1.dep, .int .i64 h1.sym, .slice fb f.secs.length fd]) rfl rfl _ _ rA (by kernel_rfl) (by kernel_rfl) (by kernel_rfl) (below_setRow hP hlA _) (fun hP => ?_)
            refine wp_storeP rfl rfl 34 _ _ rfl _ (#[.int .i64 bk.kind, .int .i64 bk.id, .int .i64 bk.feat.id, .int .i64 bk.feat.kind, .int .i64 bk.feat.x, .int .i64 bk.feat.y, .int .i64 bk.feat.rad, .slice none 0 0, .int .i64 bk.feat.dep, .int .i64 bk.feat.sym, .slice none 0 0, .int .i64 bk.x, .int .i64 bk.y, .int .i64 bk.rad, .int .i64 bk.dep, .int .i64 bk.sym]) rfl rfl _ _ ((setRow_other _ _ _ _ hne2.symm).trans rD) (by kernel_rfl) (by kernel_rfl) (by kernel_rfl) (below_setRow hP hlD _) (fun hP => ?_)
            (refine wpPlan_take rfl (fun K hK => ?_); replace hK := Lib.hid hK; go_simp; first | (refine hK.out _ ?_; clear hK K) | (apply Exists.intro; refine ⟨fun _ => ?_, hK.out _ ?_⟩; (first | with_reducible exact rfl | skip); clear hK K))
            refine wpPlan_done ?_
            go_wp2_with fail
            go_meet
            exact ⟨_, rfl, rfl, (setRow_other _ _ _ _ hne2).trans (setRow_heap _ _ _ _ _ _ rA), hP⟩
          · (refine wpPlan_only rfl (fun K hK => ?_); replace hK := Lib.hid hK; go_simp; refine hK.out _ _ (hP.alloc hP.size _) (fun hP2 => ?_); clear hK K)
            replace rD := block_alloc (o' := .cells #[.int .i64 0, .int .i64 0, .int .i64 0, .int .i64 0, .int .i64 0, .slice none 0 0, .int .i64 0, .int .i64 0, .slice none 0 0] 32 (0, 0)) rD
            have rA : (((W.drew).alloc (.cells #[.int .i64 0, .int .i64 0, .int .i64 0, .int .i64 0, .int .i64 0, .int .i64 0, .int .i64 0, .slice none 0 0, .int .i64 0, .int .i64 0, .slice none 0 0, .int .i64 0, .int .i64 0, .int .i64 0, .int .i64 0, .int .i64 0] 34 (0, 0))).alloc (.cells #[.int .i64 0, .int .i64 0, .int .i64 0, .int .i64 0, .int .i64 0, .slice none 0 0, .int .i64 0, .int .i64 0, .slice none 0 0] 32 (0, 0))).heap[W.heap.size + 1]? = some (.cells #[.int .i64 0, .int .i64 0, .int .i64 0, .int .i64 0, .int .i64 0, .slice none 0 0, .int .i64 0, .int .i64 0, .slice none 0 0] 32 (0, 0)) := block_new_at _ (by first | rfl | (simp only [World.size_alloc] <;> rfl))
            clear hP
            have hP := hP2
            clear hP2
            (refine wpPlan_only rfl (fun K hK => ?_); replace hK := Lib.hid hK; go_simp; go_at_call 203; (with_reducible refine (chg_call2 h g (.slice fa f.area.length fc) (.slice fb f.secs.length fd) _ (PH.out.later (BW0.trans (hP.mono BW0.size))) HC.out).mono ?_); rintro e w1 ⟨rfl, hb1⟩; refine hK.out _ _ (below_step hP hb1) (fun hP2 => ?_); clear hK K)
            replace rD := block_later hb1 rD
            replace rA := block_later hb1 rA
            have hs1 : W.heap.size + 2 ≤ w1.heap.size := Nat.le_trans (Nat.le_of_eq (by first | rfl | (simp only [World.size_alloc]; rfl) | simp)) hb1.size
            clear hP
            have hP := hP2
            clear hP2
            iterate 4 (refine wpPlan_take rfl (fun K hK => ?_); replace hK := Lib.hid hK; go_simp; first | (refine hK.out _ ?_; clear hK K) | (apply Exists.intro; refine ⟨fun _ => ?_, hK.out _ ?_⟩; (first | with_reducible exact rfl | skip); clear hK K))
            have hne2 : W.heap.size + 1 ≠ W.heap.size := by omega
            have hlA : W.heap.size ≤ W.heap.size + 1 := by omega
            have hlD : W.heap.size ≤ W.heap.size := by omega
            refine wp_storeP rfl rfl 32 _ _ rfl _ (#[.int .i64 h1.id, .int .i64 h1.kind, .int .i64 h1.x, .int .i64 h1.y, .int .i64 h1.rad, .slice fa f.area.length fc, .int .i64 h1.dep, .int .i64 h1.sym, .slice fb f.secs.length fd]) rfl rfl _ _ rA (by kernel_rfl) (by kernel_rfl) (by kernel_rfl) (below_setRow hP hlA _) (fun hP => ?_)
            refine wp_storeP rfl rfl 34 _ _ rfl _ (#[.int .i64 bk.kind, .int .i64 bk.id, .int .i64 bk.feat.id, .int .i64 bk.feat.kind, .int .i64 bk.feat.x, .int .i64 bk.feat.y, .int .i64 bk.feat.rad, .slice none 0 0, .int .i64 bk.feat.dep, .int .i64 bk.feat.sym, .slice none 0 0, .int .i64 bk.x, .int .i64 bk.y, .int .i64 bk.rad, .int .i64 bk.dep, .int .i64 bk.sym]) rfl rfl _ _ ((setRow_other _ _ _ _ hne2.symm).trans rD) (by kernel_rfl) (by kernel_rfl) (by kernel_rfl) (below_setRow hP hlD _) (fun hP => ?_)
            (refine wpPlan_take rfl (fun K hK => ?_); replace hK := Lib.hid hK; go_simp; first | (refine hK.out _ ?_; clear hK K) | (apply Exists.intro; refine ⟨fun _ => ?_, hK.out _ ?_⟩; (first | with_reducible exact rfl | skip); clear hK K))
            refine wpPlan_done ?_
            go_wp2_with fail
            go_meet
            exact ⟨_, rfl, rfl, (setRow_other _ _ _ _ hne2).trans (setRow_heap _ _ _ _ _ _ rA), hP⟩
       case rest =>
        obtain ⟨b10, rfl, rfl, r10, hbx⟩ := hcut
        have hBx := below_step hb hbx
        have F3 := Lib.hid (block_later hbx F2.out)
        have G3 := Lib.hid (block_later hbx G2.out)
        have A3 := Lib.hid (block_later hbx A2.out)
        have O3 := Lib.hid (OW.out.keep hbx)
        have hszW := hb.size
        have hszc := hbx.size
        have hl2 := lt_block A2.out
        cases hch : chgF h (symO g.id g.sym) with
        | none =>
          have DN : Hid (diffF f g = none) := Lib.hid (by
           obtain ⟨b, hb⟩ := NX.out.2
           obtain ⟨e, he⟩ := acts_chg_no (b := b) (o := symO g.id g.sym) (by rw [kd5]; decide) (by rw [kd5]; decide) AC.out hch
           rw [← hb] at he
           exact diff_err he)
          obtain rfl : er = 12 := by have h := HC.out; unfold chgR at h; rw [hch] at h; simp only [Prod.mk.injEq] at h; exact h.2.2.symm
          clear hch
          go_wp2_with fail
          go_returns
          exact ⟨none, 0, 0, hBx, .inr ⟨DN.out, rfl⟩⟩
        | some h2 =>
          obtain ⟨rfl, _, rfl⟩ : h2 = h1 ∧ bakF h (symO g.id g.sym) = bk ∧ er = 0 := by have h := HC.out; unfold chgR at h; rw [hch] at h; simp only [Prod.mk.injEq] at h; exact ⟨h.1, h.2.1, h.2.2.symm⟩
          have AC2 : Hid (acts (fldPre f g 3) (some f) = .ok (some h2)) := Lib.hid (by rw [NX.out.1]; exact acts_chg (by rw [kd5]; decide) (by rw [kd5]; decide) AC.out hch)
          have AR2 : Hid (h2.area = f.area ∧ h2.secs = f.secs) := Lib.hid ⟨(chgF_id hch).2.2.1.trans AR.out.1, (chgF_id hch).2.2.2.trans AR.out.2⟩
          clear hch
          go_upto_region 11 with (first
           | (with_reducible refine wpList_load_row rfl 32 (.tmp 10) rfl b10 rfl _ (#[.int .i64 h2.id, .int .i64 h2.kind, .int .i64 h2.x, .int .i64 h2.y, .int .i64 h2.rad, .slice fa f.area.length fc, .int .i64 h2.dep, .int .i64 h2.sym, .slice fb f.secs.length fd]) _ _ r10 Tryz.underlying32 rfl (by kernel_rfl) ?_)
           | (with_reducible refine wpList_store_row rfl 32 (.tmp 2) _ rfl w.heap.size (#[.int .i64 h2.id, .int .i64 h2.kind, .int .i64 h2.x, .int .i64 h2.y, .int .i64 h2.rad, .slice fa f.area.length fc, .int .i64 h2.dep, .int .i64 h2.sym, .slice fb f.secs.length fd]) rfl rfl _ _ F3.out (by kernel_rfl) (by kernel_rfl) (by kernel_rfl) ?_))
          refine wp_named fun W5 hW => ?_
          have s1 : W5.heap[w.heap.size]? = some (.cells (#[.int .i64 h2.id, .int .i64 h2.kind, .int .i64 h2.x, .int .i64 h2.y, .int .i64 h2.rad, .slice fa f.area.length fc, .int .i64 h2.dep, .int .i64 h2.sym, .slice fb f.secs.length fd]) 32 (0, 0)) := by rw [hW]; exact setRow_heap _ _ _ _ _ _ F3.out
          have s2 := (congrArg (fun X : World => X.heap[w.heap.size + 1]?) hW).trans ((setRow_other _ _ _ _ (by omega)).trans G3.out)
          replace s2 : W5.heap[w.heap.size + 1]? = _ := s2
          have s3 := (congrArg (fun X : World => X.heap[w.heap.size + 2]?) hW).trans ((setRow_other _ _ _ _ (by omega)).trans A3.out)
          replace s3 : W5.heap[w.heap.size + 2]? = _ := s3
          have O5 : Hid (OwnOs (w.heap.size + 3) w W5 (.slice ad m c) (fldPre f g 2)) := Lib.hid (by rw [hW]; exact O3.out.row (by omega) _)
          have hB5 : Below w.heap.size w W5 := by rw [hW]; exact below_setRow hBx (Nat.le_refl _) _
          have S1 := Lib.hid s1
          have S2 := Lib.hid s2
          have S3 := Lib.hid s3
          have R5 : Hid (W5.rangeAt (w.heap.size + 2) 32 (opCells (symO g.id g.sym, .slice none 0 0, .slice none 0 0))) := Lib.hid (World.rangeAt_of_block S3.out 32 16)
          have hs5 : w.heap.size + 3 ≤ W5.heap.size := by have := lt_block s3; omega
          clear hW s1 s2 s3
          go_wp2_with (first
           | (refine wpList_appO_at rfl _ _ rfl (w.heap.size + 3) w _ (fldPre f g 2) [symO g.id g.sym] rfl O5.out _ _ _ rfl [(symO g.id g.sym, .slice none 0 0, .slice none 0 0)] rfl rfl (fun x hx => by obtain rfl := List.mem_singleton.1 hx; exact PartsAt.zero _) (srcAt_range R5.out) (N := m + 1) (by rw [LE.out]) (by omega) hs5 ?_; intro ad7 c7 w7 how7 hgr7 hbl7 hat7))
          have B7 := hB5.trans (hbl7.mono (by omega))
          go_roundw
          case rel => exact ⟨3, h2, ad7, m + 1, c7, by omega, rfl, rfl, by rw [NX.out.1, List.length_append, LE.out]; rfl, by rw [NX.out.1]; exact how7, AC2.out, AR2.out, (hbl7.block _ (by omega)).trans S1.out, (hbl7.block _ (by omega)).trans S2.out, (hbl7.block _ (by omega)).trans S3.out, B7⟩
          case measure => simp [cntV]
end Go.Proofs.YtdmegkkifiahdaaGreat
