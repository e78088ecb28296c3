/- For any datum, books, features and operations: the statement TransportPatches of chapter 20 (to carry a list and then the patch on it leads to what the patched list is carried to, exactly): the law's function returns true and leaves its arguments as they were. No condition. -/
import Derived.Test.YtdmegkkifiahdaaGreatTrS
import Derived.Test.YtdmegkkifiahdaaGreatFrameT
import Derived.Test.YtdmegkkifiahdaaGreatFrameO
import Derived.Test.YtdmegkkifiahdaaGreatTrZ
namespace Go.Proofs.YtdmegkkifiahdaaGreat
open Go.ChangeShapes Go.WideShapes Go.ChangeAt Go.RowKit
attribute [local go_sem] bqOp bqAll bqUpon sqOp sqAll sqUpon ssOp ssAll
attribute [local irreducible] wpQuiet wpBQ wpPlan wsPlan
set_option linter.unusedVariables false
set_option maxRecDepth 100000 in
set_option maxHeartbeats 8000000 in
theorem transportPatches_walk (m : Dat) {a : Bk} {ada : Option Addr} {cda : Nat} {b : Bk} {adb : Option Addr} {cdb : Nat} {l : List Feat} {adl : Option Addr} {cdl : Nat} {o : List Opn} {ado : Option Addr} {cdo : Nat} {w : World} (ha : MksAt w (.slice ada a.marks.length cda) a.marks) (hb : MksAt w (.slice adb b.marks.length cdb) b.marks) (hl : FeatsAt w (.slice adl l.length cdl) l) (ho : OpsAt w (.slice ado o.length cdo) o) :
    Calls Tryz.prog 8 #[.agg #[.int .i64 m.a, .int .i64 m.b, .int .i64 m.c, .int .i64 m.d, .int .i64 m.e, .int .i64 m.f, .int .i64 m.r], .agg #[.int .i64 a.office, .slice ada a.marks.length cda], .agg #[.int .i64 b.office, .slice adb b.marks.length cdb], .slice adl l.length cdl, .slice ado o.length cdo] w fun e w' => e = .returned (.bool true) ∧ Below w.heap.size w w' := by
  have Ha := Lib.hid ha
  clear ha
  have Hb := Lib.hid hb
  clear hb
  have Hl := Lib.hid hl
  clear hl
  have Ho := Lib.hid ho
  clear ho
  obtain ⟨wi, rfl⟩ : ∃ wi : World, wi = w := ⟨_, rfl⟩
  go_enter Tryz.func8, Tryz.ntmps8
  go_wp2_with fail
  refine calls_named fun w0 hw0 => ?_
  obtain ⟨p0, p1, p2, hB⟩ := box3 hw0
  clear hw0
  simp only [Nat.add_assoc, Nat.reduceAdd] at p0 p1 p2 ⊢
  have HBW := Lib.hid hB
  have hC0 := Below.refl w0.heap.size w0
  have Qm : Hid (w0.heap[wi.heap.size]? = some (.cells #[.int .i64 m.a, .int .i64 m.b, .int .i64 m.c, .int .i64 m.d, .int .i64 m.e, .int .i64 m.f, .int .i64 m.r] 52 (0, 0))) := Lib.hid p0
  have Qa : Hid (w0.heap[wi.heap.size + 1]? = some (.cells #[.int .i64 a.office, .slice ada a.marks.length cda] 72 (0, 0))) := Lib.hid p1
  have Qb : Hid (w0.heap[wi.heap.size + 2]? = some (.cells #[.int .i64 b.office, .slice adb b.marks.length cdb] 72 (0, 0))) := Lib.hid p2
  clear hB p0 p1 p2
  replace Ha := Lib.hid (Ha.out.later HBW.out)
  replace Hb := Lib.hid (Hb.out.later HBW.out)
  replace Hl := Lib.hid (Hl.out.later HBW.out)
  replace Ho := Lib.hid (Ho.out.later HBW.out)
  (with_reducible refine (head20_true _).mono ?_)
  rintro e w1 ⟨rfl, hb1⟩
  have hC1 := below_step hC0 hb1
  obtain ⟨v, hv⟩ : ∃ v, decide (FewT l o) = v := ⟨_, rfl⟩
  have HV := Lib.hid hv
  clear hv
  go_wp2_with fail
  (with_reducible refine (q20Few_any l o _ _ _ (Hl.out.later hC1) (Ho.out.later hC1) HV.out).mono ?_)
  rintro e w2 ⟨rfl, hb2⟩
  have hC2 := below_step hC1 hb2
  cases v
  · go_wp2_with fail
    go_returns
    exact ⟨rfl, HBW.out.trans (hC2.mono HBW.out.size)⟩
  obtain ⟨x, i, k, hx⟩ : ∃ (x : List Feat) (i k : Int), applyO l o = (x, i, k) := ⟨_, _, _, rfl⟩
  obtain ⟨l2, k2, hl2⟩ : ∃ (r : List Feat) (k : Int), listR m a b l = (r, k) := ⟨_, _, rfl⟩
  obtain ⟨o2, k3, ho2⟩ : ∃ (r : List Opn) (k : Int), opsR m a b l o = (r, k) := ⟨_, _, rfl⟩
  have AX := Lib.hid hx
  have LR := Lib.hid hl2
  have OR := Lib.hid ho2
  clear hx hl2 ho2
  go_wp2_with fail
  (with_reducible refine (paApply_any l o _ _ _ (Hl.out.later hC2) (Ho.out.later hC2) AX.out).mono ?_)
  rintro e w3 ⟨ax, nx, cx, hnx, rfl, hfx, hb3⟩
  have hC3 := below_step hC2 hb3
  have FX := Lib.hid hfx
  have NX := Lib.hid hnx
  clear hfx hnx
  have cm := cell_block (block_later hC3 Qm.out)
  have ca := cell_block (block_later hC3 Qa.out)
  have cb := cell_block (block_later hC3 Qb.out)
  go_wp2_with fail
  (with_reducible refine (trList_any m a b l _ w0 _ hC3 (Ha.out.later hC3) (Hb.out.later hC3) Hl.out LR.out).mono ?_)
  rintro e w4 ⟨al, cl, rfl, hown, hb4⟩
  have hC4 := below_step hC3 hb4
  clear cm ca cb
  have FL := Lib.hid (hown.feats (by have := listR_len LR.out; omega))
  clear hown
  have cm := cell_block (block_later hC4 Qm.out)
  have ca := cell_block (block_later hC4 Qa.out)
  have cb := cell_block (block_later hC4 Qb.out)
  go_wp2_with fail
  (with_reducible refine (trOps_any m a b l o _ _ _ (Ha.out.later hC4) (Hb.out.later hC4) (Hl.out.later hC4) (Ho.out.later hC4) OR.out).mono ?_)
  rintro e w5 ⟨ao, co, rfl, hof, hb5⟩
  have hC5 := below_step hC4 hb5
  clear cm ca cb
  have FO := Lib.hid hof
  clear hof
  by_cases hk : k = 0
  rotate_left
  · have d1 : (k != 0) = true := by simpa using hk
    have d2 : (k == 0) = false := by simpa using hk
    have d3 : (k3 != 0) = true := by simpa using bad_patch AX.out hk OR.out
    clear hk
    go_wp2_with fail
    go_returns
    exact ⟨rfl, HBW.out.trans (hC5.mono HBW.out.size)⟩
  subst hk
  by_cases hk : k2 = 0
  rotate_left
  · have d1 : (k2 != 0) = true := by simpa using hk
    clear hk
    go_wp2_with fail
    go_returns
    exact ⟨rfl, HBW.out.trans (hC5.mono HBW.out.size)⟩
  subst hk
  by_cases hk : k3 = 0
  rotate_left
  · have d1 : (k3 != 0) = true := by simpa using hk
    clear hk
    go_wp2_with fail
    go_returns
    exact ⟨rfl, HBW.out.trans (hC5.mono HBW.out.size)⟩
  subst hk
  obtain ⟨y, hy1, hy2⟩ := carried_patch AX.out LR.out OR.out
  have AY := Lib.hid hy1
  obtain ⟨z, hz⟩ : ∃ z, z = y := ⟨_, rfl⟩
  have LY : Hid (listR m a b x = (z, 0)) := Lib.hid (by rw [hz]; exact hy2)
  have DY : Hid (decide (y = z) = true) := Lib.hid (decide_eq_true hz.symm)
  clear hy1 hy2 AX LR OR hz
  go_wp2_with fail
  (with_reducible refine (paApply_any l2 o2 _ _ _ (FL.out.later hb5) (FO.out.later (Below.refl _ w5)) AY.out).mono ?_)
  rintro e w6 ⟨ay, ny, cy, hny, rfl, hfy, hb6⟩
  have hC6 := below_step hC5 hb6
  have FY := Lib.hid hfy
  clear hfy hny
  have cm := cell_block (block_later hC6 Qm.out)
  have ca := cell_block (block_later hC6 Qa.out)
  have cb := cell_block (block_later hC6 Qb.out)
  go_wp2_with fail
  (with_reducible refine (trList_any m a b x _ w6 _ (Below.refl _ _) (Ha.out.later hC6) (Hb.out.later hC6) (FX.out.later (below_step (below_step hb4 hb5) hb6)) LY.out).mono ?_)
  rintro e w7 ⟨az, cz, rfl, hown, hb7⟩
  have hC7 := below_step hC6 hb7
  clear cm ca cb
  have FZ := Lib.hid (hown.feats (by have := listR_len LY.out; omega))
  clear hown
  go_wp2_with fail
  (with_reducible refine (q07SameList_any y z _ _ _ (FY.out.later hb7) (FZ.out.later (Below.refl _ w7)) DY.out).mono ?_)
  rintro e w8 ⟨rfl, hb8⟩
  have hC8 := below_step hC7 hb8
  go_wp2_with fail
  go_returns
  exact ⟨rfl, HBW.out.trans (hC8.mono HBW.out.size)⟩
end Go.Proofs.YtdmegkkifiahdaaGreat
