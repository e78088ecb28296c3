/- For any datum, books, feature and places: the statement TransportCovered of chapter 20 (if a feature covers a place, the carried feature covers all places that this one may be by the datum): the law's function returns true and leaves its arguments as they were. No condition. -/
import Derived.Test.YtmhgcmcifdclmaaGreatTrS
import Derived.Test.YtmhgcmcifdclmaaGreatFrameT
namespace Go.Proofs.YtmhgcmcifdclmaaGreat
open Go.ChangeShapes Go.WideShapes Go.ChangeAt Go.RowKit
attribute [local go_sem] bqOp bqAll bqUpon sqOp sqAll sqUpon ssOp ssAll
attribute [local irreducible] wpQuiet wpBQ wpPlan wsPlan
set_option linter.unusedVariables false
set_option maxRecDepth 100000 in
set_option maxHeartbeats 8000000 in
theorem transportCovered_walk (m : Dat) {a : Bk} {ada : Option Addr} {cda : Nat} {b : Bk} {adb : Option Addr} {cdb : Nat} {f : Feat} {adf : Option Addr} {cdf : Nat} {aff : Option Addr} {cff : Nat} (px py : Int) (qx qy : Int) {w : World} (ha : MksAt w (.slice ada a.marks.length cda) a.marks) (hb : MksAt w (.slice adb b.marks.length cdb) b.marks) (hf : PartsAt w f (.slice adf f.area.length cdf) (.slice aff f.secs.length cff)) :
    Calls Tryz.prog 5 #[.agg #[.int .i64 m.a, .int .i64 m.b, .int .i64 m.c, .int .i64 m.d, .int .i64 m.e, .int .i64 m.f, .int .i64 m.r], .agg #[.int .i64 a.office, .slice ada a.marks.length cda], .agg #[.int .i64 b.office, .slice adb b.marks.length cdb], featV f (.slice adf f.area.length cdf) (.slice aff f.secs.length cff), .agg #[.int .i64 px, .int .i64 py], .agg #[.int .i64 qx, .int .i64 qy]] w fun e w' => e = .returned (.bool true) ∧ Below w.heap.size w w' := by
  have Ha := Lib.hid ha
  clear ha
  have Hb := Lib.hid hb
  clear hb
  have Hf := Lib.hid hf
  clear hf
  obtain ⟨wi, rfl⟩ : ∃ wi : World, wi = w := ⟨_, rfl⟩
  go_enter Tryz.func5, Tryz.ntmps5
  go_wp2_with fail
  refine calls_named fun w0 hw0 => ?_
  obtain ⟨p0, p1, p2, p3, p4, p5, hB⟩ := box6 hw0
  clear hw0
  simp only [Nat.add_assoc, Nat.reduceAdd] at p0 p1 p2 p3 p4 p5 ⊢
  have HBW := Lib.hid hB
  have hC0 := Below.refl w0.heap.size w0
  have Qm : Hid (w0.heap[wi.heap.size]? = some (.cells #[.int .i64 m.a, .int .i64 m.b, .int .i64 m.c, .int .i64 m.d, .int .i64 m.e, .int .i64 m.f, .int .i64 m.r] 23 (0, 0))) := Lib.hid p0
  have Qa : Hid (w0.heap[wi.heap.size + 1]? = some (.cells #[.int .i64 a.office, .slice ada a.marks.length cda] 26 (0, 0))) := Lib.hid p1
  have Qb : Hid (w0.heap[wi.heap.size + 2]? = some (.cells #[.int .i64 b.office, .slice adb b.marks.length cdb] 26 (0, 0))) := Lib.hid p2
  have Qf : Hid (w0.heap[wi.heap.size + 3]? = some (.cells #[.int .i64 f.id, .int .i64 f.kind, .int .i64 f.x, .int .i64 f.y, .int .i64 f.rad, .slice adf f.area.length cdf, .int .i64 f.dep, .int .i64 f.sym, .slice aff f.secs.length cff] 32 (0, 0))) := Lib.hid p3
  have Qp : Hid (w0.heap[wi.heap.size + 4]? = some (.cells #[.int .i64 px, .int .i64 py] 28 (0, 0))) := Lib.hid p4
  have Qq : Hid (w0.heap[wi.heap.size + 5]? = some (.cells #[.int .i64 qx, .int .i64 qy] 28 (0, 0))) := Lib.hid p5
  clear hB p0 p1 p2 p3 p4 p5
  replace Ha := Lib.hid (Ha.out.later HBW.out)
  replace Hb := Lib.hid (Hb.out.later HBW.out)
  replace Hf := Lib.hid (Hf.out.later HBW.out)
  (with_reducible refine (head20_true _).mono ?_)
  rintro e w1 ⟨rfl, hb1⟩
  have hC1 := below_step hC0 hb1
  have cf := cell_block (block_later hC1 Qf.out)
  go_wp2_with fail
  refine calls_named fun w2 hw2 => ?_
  obtain ⟨p2, hb2⟩ := box1 hw2
  clear hw2
  have hC2 := below_step hC1 hb2
  clear cf
  obtain ⟨v, hv⟩ : ∃ v, decide (FewT [f] []) = v := ⟨_, rfl⟩
  have HV := Lib.hid hv
  clear hv
  (with_reducible refine (q20Few_any [f] [] _ _ _ (feats_one p2 (Hf.out.later hC2)) (ops_nil _) HV.out).mono ?_)
  rintro e w3 ⟨rfl, hb3⟩
  have hC3 := below_step hC2 hb3
  clear p2
  cases v
  · go_wp2_with fail
    go_returns
    exact ⟨rfl, HBW.out.trans (hC3.mono HBW.out.size)⟩
  obtain ⟨g, k, hr⟩ : ∃ (g : Feat) (k : Int), featR m a b f = (g, k) := ⟨_, _, rfl⟩
  have HR := Lib.hid hr
  clear hr
  have cm := cell_block (block_later hC3 Qm.out)
  have ca := cell_block (block_later hC3 Qa.out)
  have cb := cell_block (block_later hC3 Qb.out)
  have cf := cell_block (block_later hC3 Qf.out)
  go_wp2_with fail
  (with_reducible refine (trFeature_raw m a b f _ (Ha.out.later hC3) (Hb.out.later hC3) (Hf.out.later hC3) HR.out).mono ?_)
  rintro e w4 ⟨aR, nR, cR, bR, mR, dR, rfl, hsep, hb4⟩
  have hC4 := below_step hC3 hb4
  clear ca cb cf cm
  have cf : ∀ ob i, (w4.alloc ob).cell? ⟨_, i, none⟩ = _ := fun ob => cell_block (block_alloc (block_later hC4 Qf.out))
  have cp : ∀ ob i, (w4.alloc ob).cell? ⟨_, i, none⟩ = _ := fun ob => cell_block (block_alloc (block_later hC4 Qp.out))
  go_wp2_with fail
  clear cf cp
  refine calls_named fun w5 hw5 => ?_
  obtain ⟨p5, hb5⟩ := box1 hw5
  clear hw5
  have hC5 := below_step hC4 hb5
  have QG : Hid (w5.heap[w4.heap.size]? = some (.cells #[.int .i64 g.id, .int .i64 g.kind, .int .i64 g.x, .int .i64 g.y, .int .i64 g.rad, .slice aR nR cR, .int .i64 g.dep, .int .i64 g.sym, .slice bR mR dR] 32 (0, 0))) := Lib.hid p5
  have PG := Lib.hid (hsep _ (KeepPS.of_below hb5))
  clear p5 hsep
  obtain ⟨v1, e1, h1⟩ : ∃ (v : Bool) (e : Int), covF f px py = (v, e) := ⟨_, _, rfl⟩
  obtain ⟨v2, e2, h2⟩ : ∃ (v : Bool) (e : Int), fitsR m (px, py) (qx, qy) = (v, e) := ⟨_, _, rfl⟩
  obtain ⟨v3, e3, h3⟩ : ∃ (v : Bool) (e : Int), covF g qx qy = (v, e) := ⟨_, _, rfl⟩
  have F1 := Lib.hid h1
  have F2 := Lib.hid h2
  have F3 := Lib.hid h3
  clear h1 h2 h3
  (with_reducible refine (ftCovers_any f _ _ _ _ _ _ px py _ (Hf.out.later hC5) F1.out).mono ?_)
  rintro e w6 ⟨rfl, hb6⟩
  have hC6 := below_step hC5 hb6
  have cm := cell_block (block_later hC6 Qm.out)
  have cp := cell_block (block_later hC6 Qp.out)
  have cq := cell_block (block_later hC6 Qq.out)
  go_wp2_with fail
  (with_reducible refine (dtFits_any m px py qx qy _ F2.out).mono ?_)
  rintro e w7 ⟨rfl, hb7⟩
  have hC7 := below_step hC6 hb7
  clear cm cp cq
  by_cases hk : k = 0
  rotate_left
  · have d : (k != 0) = true := by simpa using hk
    clear hk
    go_wp2_with fail
    go_returns
    exact ⟨rfl, HBW.out.trans (hC7.mono HBW.out.size)⟩
  subst hk
  by_cases he1 : e1 = 0
  rotate_left
  · have d : (e1 != 0) = true := by simpa using he1
    clear he1
    go_wp2_with fail
    go_returns
    exact ⟨rfl, HBW.out.trans (hC7.mono HBW.out.size)⟩
  subst he1
  by_cases he2 : e2 = 0
  rotate_left
  · have d : (e2 != 0) = true := by simpa using he2
    clear he2
    go_wp2_with fail
    go_returns
    exact ⟨rfl, HBW.out.trans (hC7.mono HBW.out.size)⟩
  subst he2
  have FX := Lib.hid (cov_facts HR.out F1.out F2.out F3.out)
  clear F1 F2 HR
  have cg := cell_block (block_later (below_step hb6 hb7) QG.out)
  have cq := cell_block (block_later hC7 Qq.out)
  go_wp2_with fail
  clear cq cg
  (with_reducible refine (ftCovers_any g _ _ _ _ _ _ qx qy _ (PG.out.later (below_step hb6 hb7)) F3.out).mono ?_)
  rintro e w8 ⟨rfl, hb8⟩
  have hC8 := below_step hC7 hb8
  obtain ⟨rfl, x1, x2, x3, x4⟩ := FX.out
  have d1 : (g.id == f.id) = true := by simpa using x1
  have d2 : (g.kind == f.kind) = true := by simpa using x2
  have d3 : (g.dep == f.dep) = true := by simpa using x3
  have X4 := Lib.hid x4
  clear FX F3 x1 x2 x3 x4
  have cg := cell_block (block_later (below_step (below_step hb6 hb7) hb8) QG.out)
  have cf := cell_block (block_later hC8 Qf.out)
  cases v1
  · go_wp2_with fail
    go_returns
    exact ⟨rfl, HBW.out.trans (hC8.mono HBW.out.size)⟩
  cases v2
  · go_wp2_with fail
    go_returns
    exact ⟨rfl, HBW.out.trans (hC8.mono HBW.out.size)⟩
  obtain rfl : v3 = true := X4.out rfl rfl
  go_wp2_with fail
  go_returns
  exact ⟨rfl, HBW.out.trans (hC8.mono HBW.out.size)⟩
end Go.Proofs.YtmhgcmcifdclmaaGreat
