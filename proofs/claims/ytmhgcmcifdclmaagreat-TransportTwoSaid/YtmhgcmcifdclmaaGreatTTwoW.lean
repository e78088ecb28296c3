/- For any two datums, three books, feature and places: the statement TransportTwo of chapter 20 (what is carried from one office to the next one, and from there to a third one, covers all places that a place may be by both datums, one after the other): the law's function returns true and leaves its arguments as they were. No condition. -/
import Derived.Test.YtmhgcmcifdclmaaGreatTrS
import Derived.Test.YtmhgcmcifdclmaaGreatFrameT
namespace Go.Proofs.YtmhgcmcifdclmaaGreat
open Go.ChangeShapes Go.WideShapes Go.ChangeAt Go.RowKit
attribute [local go_sem] bqOp bqAll bqUpon sqOp sqAll sqUpon ssOp ssAll
attribute [local irreducible] wpQuiet wpBQ wpPlan wsPlan
set_option linter.unusedVariables false
set_option maxRecDepth 100000 in
set_option maxHeartbeats 8000000 in
theorem transportTwo_walk (m : Dat) (n : Dat) {a : Bk} {ada : Option Addr} {cda : Nat} {b : Bk} {adb : Option Addr} {cdb : Nat} {c : Bk} {adc : Option Addr} {cdc : Nat} {f : Feat} {adf : Option Addr} {cdf : Nat} {aff : Option Addr} {cff : Nat} (px py : Int) (qx qy : Int) (rx ry : Int) {w : World} (ha : MksAt w (.slice ada a.marks.length cda) a.marks) (hb : MksAt w (.slice adb b.marks.length cdb) b.marks) (hc : MksAt w (.slice adc c.marks.length cdc) c.marks) (hf : PartsAt w f (.slice adf f.area.length cdf) (.slice aff f.secs.length cff)) :
    Calls Tryz.prog 7 #[.agg #[.int .i64 m.a, .int .i64 m.b, .int .i64 m.c, .int .i64 m.d, .int .i64 m.e, .int .i64 m.f, .int .i64 m.r], .agg #[.int .i64 n.a, .int .i64 n.b, .int .i64 n.c, .int .i64 n.d, .int .i64 n.e, .int .i64 n.f, .int .i64 n.r], .agg #[.int .i64 a.office, .slice ada a.marks.length cda], .agg #[.int .i64 b.office, .slice adb b.marks.length cdb], .agg #[.int .i64 c.office, .slice adc c.marks.length cdc], featV f (.slice adf f.area.length cdf) (.slice aff f.secs.length cff), .agg #[.int .i64 px, .int .i64 py], .agg #[.int .i64 qx, .int .i64 qy], .agg #[.int .i64 rx, .int .i64 ry]] w fun e w' => e = .returned (.bool true) ∧ Below w.heap.size w w' := by
  have Ha := Lib.hid ha
  clear ha
  have Hb := Lib.hid hb
  clear hb
  have Hc := Lib.hid hc
  clear hc
  have Hf := Lib.hid hf
  clear hf
  obtain ⟨wi, rfl⟩ : ∃ wi : World, wi = w := ⟨_, rfl⟩
  go_enter Tryz.func7, Tryz.ntmps7
  go_wp2_with fail
  refine calls_named fun w0 hw0 => ?_
  obtain ⟨p0, p1, p2, p3, p4, p5, p6, p7, p8, hB⟩ := box9 hw0
  clear hw0
  simp only [Nat.add_assoc, Nat.reduceAdd] at p0 p1 p2 p3 p4 p5 p6 p7 p8 ⊢
  have HBW := Lib.hid hB
  have hC0 := Below.refl w0.heap.size w0
  have Qm : Hid (w0.heap[wi.heap.size]? = some (.cells #[.int .i64 m.a, .int .i64 m.b, .int .i64 m.c, .int .i64 m.d, .int .i64 m.e, .int .i64 m.f, .int .i64 m.r] 23 (0, 0))) := Lib.hid p0
  have Qn : Hid (w0.heap[wi.heap.size + 1]? = some (.cells #[.int .i64 n.a, .int .i64 n.b, .int .i64 n.c, .int .i64 n.d, .int .i64 n.e, .int .i64 n.f, .int .i64 n.r] 23 (0, 0))) := Lib.hid p1
  have Qa : Hid (w0.heap[wi.heap.size + 2]? = some (.cells #[.int .i64 a.office, .slice ada a.marks.length cda] 26 (0, 0))) := Lib.hid p2
  have Qb : Hid (w0.heap[wi.heap.size + 3]? = some (.cells #[.int .i64 b.office, .slice adb b.marks.length cdb] 26 (0, 0))) := Lib.hid p3
  have Qc : Hid (w0.heap[wi.heap.size + 4]? = some (.cells #[.int .i64 c.office, .slice adc c.marks.length cdc] 26 (0, 0))) := Lib.hid p4
  have Qf : Hid (w0.heap[wi.heap.size + 5]? = some (.cells #[.int .i64 f.id, .int .i64 f.kind, .int .i64 f.x, .int .i64 f.y, .int .i64 f.rad, .slice adf f.area.length cdf, .int .i64 f.dep, .int .i64 f.sym, .slice aff f.secs.length cff] 32 (0, 0))) := Lib.hid p5
  have Qp : Hid (w0.heap[wi.heap.size + 6]? = some (.cells #[.int .i64 px, .int .i64 py] 28 (0, 0))) := Lib.hid p6
  have Qq : Hid (w0.heap[wi.heap.size + 7]? = some (.cells #[.int .i64 qx, .int .i64 qy] 28 (0, 0))) := Lib.hid p7
  have Qr : Hid (w0.heap[wi.heap.size + 8]? = some (.cells #[.int .i64 rx, .int .i64 ry] 28 (0, 0))) := Lib.hid p8
  clear hB p0 p1 p2 p3 p4 p5 p6 p7 p8
  replace Ha := Lib.hid (Ha.out.later HBW.out)
  replace Hb := Lib.hid (Hb.out.later HBW.out)
  replace Hc := Lib.hid (Hc.out.later HBW.out)
  replace Hf := Lib.hid (Hf.out.later HBW.out)
  (with_reducible refine (head20_true _).mono ?_)
  rintro e w1 ⟨rfl, hb1⟩
  have hC1 := below_step hC0 hb1
  have cf := cell_block (block_later hC1 Qf.out)
  by_cases h6 : (6 : Int) < f.area.length
  · go_wp2_with fail
    go_returns
    exact ⟨rfl, HBW.out.trans (hC1.mono HBW.out.size)⟩
  obtain ⟨g, k, hr⟩ : ∃ (g : Feat) (k : Int), featR m a b f = (g, k) := ⟨_, _, rfl⟩
  have HR := Lib.hid hr
  clear hr
  have cm := cell_block (block_later hC1 Qm.out)
  have ca := cell_block (block_later hC1 Qa.out)
  have cb := cell_block (block_later hC1 Qb.out)
  go_wp2_with fail
  (with_reducible refine (trFeature_raw m a b f _ (Ha.out.later hC1) (Hb.out.later hC1) (Hf.out.later hC1) HR.out).mono ?_)
  rintro e w2 ⟨aR, nR, cR, bR, mR, dR, rfl, hsep, hb2⟩
  have hC2 := below_step hC1 hb2
  clear cm ca cb cf
  clear h6
  by_cases hk : k = 0
  rotate_left
  · have d : (k != 0) = true := by simpa using hk
    clear hk
    go_wp2_with fail
    go_returns
    exact ⟨rfl, HBW.out.trans ((hC2.alloc (by have := hC2.size; omega) _).mono HBW.out.size)⟩
  subst hk
  have cn : ∀ ob i, (w2.alloc ob).cell? ⟨_, i, none⟩ = _ := fun ob => cell_block (block_alloc (block_later hC2 Qn.out))
  have cb : ∀ ob i, (w2.alloc ob).cell? ⟨_, i, none⟩ = _ := fun ob => cell_block (block_alloc (block_later hC2 Qb.out))
  have cc : ∀ ob i, (w2.alloc ob).cell? ⟨_, i, none⟩ = _ := fun ob => cell_block (block_alloc (block_later hC2 Qc.out))
  go_wp2_with fail
  clear cn cb cc
  refine calls_named fun w3 hw3 => ?_
  obtain ⟨p3, hb3⟩ := box1 hw3
  clear hw3
  have hC3 := below_step hC2 hb3
  have PG := Lib.hid (hsep _ (KeepPS.of_below hb3))
  clear p3 hsep
  obtain ⟨g2, k2, hr⟩ : ∃ (x : Feat) (y : Int), featR n b c g = (x, y) := ⟨_, _, rfl⟩
  have HR2 := Lib.hid hr
  clear hr
  (with_reducible refine (trFeature_raw n b c g _ (Hb.out.later hC3) (Hc.out.later hC3) (PG.out.later (Below.refl _ w3)) HR2.out).mono ?_)
  rintro e w4 ⟨aS, nS, cS, bS, mS, dS, rfl, hsep, hb4⟩
  have hC4 := below_step hC3 hb4
  have cf : ∀ ob i, (w4.alloc ob).cell? ⟨_, i, none⟩ = _ := fun ob => cell_block (block_alloc (block_later hC4 Qf.out))
  have cp : ∀ ob i, (w4.alloc ob).cell? ⟨_, i, none⟩ = _ := fun ob => cell_block (block_alloc (block_later hC4 Qp.out))
  go_wp2_with fail
  clear cf cp
  refine calls_named fun w5 hw5 => ?_
  obtain ⟨p5, hb5⟩ := box1 hw5
  clear hw5
  have hC5 := below_step hC4 hb5
  have QG : Hid (w5.heap[w4.heap.size]? = some (.cells #[.int .i64 g2.id, .int .i64 g2.kind, .int .i64 g2.x, .int .i64 g2.y, .int .i64 g2.rad, .slice aS nS cS, .int .i64 g2.dep, .int .i64 g2.sym, .slice bS mS dS] 32 (0, 0))) := Lib.hid p5
  have PG2 := Lib.hid (hsep _ (KeepPS.of_below hb5))
  clear p5 hsep
  obtain ⟨v1, e1, h1⟩ : ∃ (v : Bool) (e : Int), covF f px py = (v, e) := ⟨_, _, rfl⟩
  obtain ⟨v2, e2, h2⟩ : ∃ (v : Bool) (e : Int), fitsR m (px, py) (qx, qy) = (v, e) := ⟨_, _, rfl⟩
  obtain ⟨v3, e3, h3⟩ : ∃ (v : Bool) (e : Int), fitsR n (qx, qy) (rx, ry) = (v, e) := ⟨_, _, rfl⟩
  obtain ⟨v4, e4, h4⟩ : ∃ (v : Bool) (e : Int), covF g2 rx ry = (v, e) := ⟨_, _, rfl⟩
  have F1 := Lib.hid h1
  have F2 := Lib.hid h2
  have F3 := Lib.hid h3
  have F4 := Lib.hid h4
  clear h1 h2 h3 h4
  (with_reducible refine (ftCovers_any f _ _ _ _ _ _ px py _ (Hf.out.later hC5) F1.out).mono ?_)
  rintro e w6 ⟨rfl, hb6⟩
  have hC6 := below_step hC5 hb6
  have cm := cell_block (block_later hC6 Qm.out)
  have cp := cell_block (block_later hC6 Qp.out)
  have cq := cell_block (block_later hC6 Qq.out)
  go_wp2_with fail
  (with_reducible refine (dtFits_any m px py qx qy _ F2.out).mono ?_)
  rintro e w7 ⟨rfl, hb7⟩
  have hC7 := below_step hC6 hb7
  clear cm cp cq
  have cn := cell_block (block_later hC7 Qn.out)
  have cq := cell_block (block_later hC7 Qq.out)
  have cr := cell_block (block_later hC7 Qr.out)
  go_wp2_with fail
  (with_reducible refine (dtFits_any n qx qy rx ry _ F3.out).mono ?_)
  rintro e w8 ⟨rfl, hb8⟩
  have hC8 := below_step hC7 hb8
  clear cn cq cr
  by_cases hk : k2 = 0
  rotate_left
  · have d : (k2 != 0) = true := by simpa using hk
    clear hk
    go_wp2_with fail
    go_returns
    exact ⟨rfl, HBW.out.trans (hC8.mono HBW.out.size)⟩
  subst hk
  by_cases he1 : e1 = 0
  rotate_left
  · have d : (e1 != 0) = true := by simpa using he1
    clear he1
    go_wp2_with fail
    go_returns
    exact ⟨rfl, HBW.out.trans (hC8.mono HBW.out.size)⟩
  subst he1
  by_cases he2 : e2 = 0
  rotate_left
  · have d : (e2 != 0) = true := by simpa using he2
    clear he2
    go_wp2_with fail
    go_returns
    exact ⟨rfl, HBW.out.trans (hC8.mono HBW.out.size)⟩
  subst he2
  by_cases he3 : e3 = 0
  rotate_left
  · have d : (e3 != 0) = true := by simpa using he3
    clear he3
    go_wp2_with fail
    go_returns
    exact ⟨rfl, HBW.out.trans (hC8.mono HBW.out.size)⟩
  subst he3
  have FX := Lib.hid (two_facts HR.out HR2.out F1.out F2.out F3.out F4.out)
  clear F1 F2 F3 HR HR2
  have cg := cell_block (block_later (below_step (below_step hb6 hb7) hb8) QG.out)
  have cr := cell_block (block_later hC8 Qr.out)
  go_wp2_with fail
  clear cr cg
  (with_reducible refine (ftCovers_any g2 _ _ _ _ _ _ rx ry _ (PG2.out.later (below_step (below_step hb6 hb7) hb8)) F4.out).mono ?_)
  rintro e w9 ⟨rfl, hb9⟩
  have hC9 := below_step hC8 hb9
  obtain ⟨rfl, x4⟩ := FX.out
  have X4 := Lib.hid x4
  clear FX F4 x4
  cases v1
  · go_wp2_with fail
    go_returns
    exact ⟨rfl, HBW.out.trans (hC9.mono HBW.out.size)⟩
  cases v2
  · go_wp2_with fail
    go_returns
    exact ⟨rfl, HBW.out.trans (hC9.mono HBW.out.size)⟩
  cases v3
  · go_wp2_with fail
    go_returns
    exact ⟨rfl, HBW.out.trans (hC9.mono HBW.out.size)⟩
  obtain rfl : v4 = true := X4.out rfl rfl rfl
  go_wp2_with fail
  go_returns
  exact ⟨rfl, HBW.out.trans (hC9.mono HBW.out.size)⟩
end Go.Proofs.YtmhgcmcifdclmaaGreat
