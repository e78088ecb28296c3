/- For any datum, books, sheet, numbers and places: the statement TransportShown of chapter 20 (the carried list shows, at all places that a place may be, no more than the list shows there; so does the carried sheet): the law's function returns true and leaves its arguments as they were. No condition. -/
import Derived.Test.YtmhgcmcifdclmaaGreatTrS
import Derived.Test.YtmhgcmcifdclmaaGreatFrameT
import Derived.Test.YtmhgcmcifdclmaaGreatTrY
namespace Go.Proofs.YtmhgcmcifdclmaaGreat
open Go.ChangeShapes Go.WideShapes Go.ChangeAt Go.RowKit
attribute [local go_sem] bqOp bqAll bqUpon sqOp sqAll sqUpon ssOp ssAll
attribute [local irreducible] wpQuiet wpBQ wpPlan wsPlan
set_option linter.unusedVariables false
set_option maxRecDepth 100000 in
set_option maxHeartbeats 8000000 in
theorem transportShown_walk (m : Dat) {a : Bk} {ada : Option Addr} {cda : Nat} {b : Bk} {adb : Option Addr} {cdb : Nat} {s : Sht} {ads afs : Option Addr} {cds cfs : Nat} (chart : Int) (scale : Int) (px py : Int) (qx qy : Int) {w : World} (ha : MksAt w (.slice ada a.marks.length cda) a.marks) (hb : MksAt w (.slice adb b.marks.length cdb) b.marks) (hds : IntsAt w (.slice ads s.don.length cds) s.don) (hfs : FeatsAt w (.slice afs s.feats.length cfs) s.feats) (ws : I64 s.edition ∧ I64 s.cap) (wchart : (Lit.int .i64 chart).wf = true) (wscale : (Lit.int .i64 scale).wf = true) :
    Calls Tryz.prog 8 #[.agg #[.int .i64 m.a, .int .i64 m.b, .int .i64 m.c, .int .i64 m.d, .int .i64 m.e, .int .i64 m.f, .int .i64 m.r], .agg #[.int .i64 a.office, .slice ada a.marks.length cda], .agg #[.int .i64 b.office, .slice adb b.marks.length cdb], shtV s (.slice ads s.don.length cds) (.slice afs s.feats.length cfs), .int .i64 chart, .int .i64 scale, .agg #[.int .i64 px, .int .i64 py], .agg #[.int .i64 qx, .int .i64 qy]] w fun e w' => e = .returned (.bool true) ∧ Below w.heap.size w w' := by
  have Ha := Lib.hid ha
  clear ha
  have Hb := Lib.hid hb
  clear hb
  have HDs := Lib.hid hds
  have HFs := Lib.hid hfs
  have WSs := Lib.hid ws
  clear hds hfs ws
  obtain ⟨wi, rfl⟩ : ∃ wi : World, wi = w := ⟨_, rfl⟩
  go_enter Tryz.func8, Tryz.ntmps8
  go_wp2_with fail
  refine calls_named fun w0 hw0 => ?_
  obtain ⟨p0, p1, p2, p3, p4, p5, hB⟩ := box6 hw0
  clear hw0
  simp only [Nat.add_assoc, Nat.reduceAdd] at p0 p1 p2 p3 p4 p5 ⊢
  have HBW := Lib.hid hB
  have hC0 := Below.refl w0.heap.size w0
  have Qm : Hid (w0.heap[wi.heap.size]? = some (.cells #[.int .i64 m.a, .int .i64 m.b, .int .i64 m.c, .int .i64 m.d, .int .i64 m.e, .int .i64 m.f, .int .i64 m.r] 23 (0, 0))) := Lib.hid p0
  have Qa : Hid (w0.heap[wi.heap.size + 1]? = some (.cells #[.int .i64 a.office, .slice ada a.marks.length cda] 26 (0, 0))) := Lib.hid p1
  have Qb : Hid (w0.heap[wi.heap.size + 2]? = some (.cells #[.int .i64 b.office, .slice adb b.marks.length cdb] 26 (0, 0))) := Lib.hid p2
  have Qs : Hid (w0.heap[wi.heap.size + 3]? = some (.cells #[.int .i64 s.chart, .int .i64 s.scale, .int .i64 s.edition, .int .i64 s.dat.a, .int .i64 s.dat.b, .int .i64 s.dat.c, .int .i64 s.dat.d, .int .i64 s.dat.e, .int .i64 s.dat.f, .int .i64 s.dat.r, .int .i64 s.cap, .slice ads s.don.length cds, .slice afs s.feats.length cfs] 64 (0, 0))) := Lib.hid p3
  have Qp : Hid (w0.heap[wi.heap.size + 4]? = some (.cells #[.int .i64 px, .int .i64 py] 28 (0, 0))) := Lib.hid p4
  have Qq : Hid (w0.heap[wi.heap.size + 5]? = some (.cells #[.int .i64 qx, .int .i64 qy] 28 (0, 0))) := Lib.hid p5
  clear hB p0 p1 p2 p3 p4 p5
  replace Ha := Lib.hid (Ha.out.later HBW.out)
  replace Hb := Lib.hid (Hb.out.later HBW.out)
  (with_reducible refine (head20_true _).mono ?_)
  rintro e w1 ⟨rfl, hb1⟩
  have hC1 := below_step hC0 hb1
  have cs := cell_block (block_later hC1 Qs.out)
  go_wp2_with fail
  clear cs
  obtain ⟨v, hv⟩ : ∃ v, decide (FewT s.feats []) = v := ⟨_, rfl⟩
  have HV := Lib.hid hv
  clear hv
  (with_reducible refine (q20Few_any s.feats [] _ _ _ (HFs.out.later (below_step HBW.out hC1)) (ops_nil _) HV.out).mono ?_)
  rintro e w2 ⟨rfl, hb2⟩
  have hC2 := below_step hC1 hb2
  cases v
  · go_wp2_with fail
    go_returns
    exact ⟨rfl, HBW.out.trans (hC2.mono HBW.out.size)⟩
  obtain ⟨r, k, hr⟩ : ∃ (r : List Feat) (k : Int), listR m a b s.feats = (r, k) := ⟨_, _, rfl⟩
  have LR := Lib.hid hr
  have LL := Lib.hid (listR_len hr)
  clear hr
  have cm := cell_block (block_later hC2 Qm.out)
  have ca := cell_block (block_later hC2 Qa.out)
  have cb := cell_block (block_later hC2 Qb.out)
  have cs := cell_block (block_later hC2 Qs.out)
  go_wp2_with fail
  (with_reducible refine (trList_any m a b s.feats _ wi _ (below_step HBW.out hC2) (Ha.out.later hC2) (Hb.out.later hC2) HFs.out LR.out).mono ?_)
  rintro e w3 ⟨al, cl, rfl, hown, hb3⟩
  have hC3 := below_step hC2 hb3
  clear cm ca cb cs
  have FL := Lib.hid (hown.feats (by have := LL.out; omega))
  clear hown
  obtain ⟨c, e1, h1⟩ : ∃ (v e : Int), shownF s.feats px py = (v, e) := ⟨_, _, rfl⟩
  obtain ⟨fits, e2, h2⟩ : ∃ (v : Bool) (e : Int), fitsR m (px, py) (qx, qy) = (v, e) := ⟨_, _, rfl⟩
  obtain ⟨d, e3, h3⟩ : ∃ (v e : Int), shownF r qx qy = (v, e) := ⟨_, _, rfl⟩
  have F1 := Lib.hid h1
  have F2 := Lib.hid h2
  have F3 := Lib.hid h3
  clear h1 h2 h3
  have cs := cell_block (block_later hC3 Qs.out)
  have cp := cell_block (block_later hC3 Qp.out)
  go_wp2_with fail
  (with_reducible refine (ftShown_any s.feats _ px py _ (HFs.out.later (below_step HBW.out hC3)) F1.out).mono ?_)
  rintro e w4 ⟨rfl, hb4⟩
  have hC4 := below_step hC3 hb4
  clear cs cp
  have cm := cell_block (block_later hC4 Qm.out)
  have cp := cell_block (block_later hC4 Qp.out)
  have cq := cell_block (block_later hC4 Qq.out)
  go_wp2_with fail
  (with_reducible refine (dtFits_any m px py qx qy _ F2.out).mono ?_)
  rintro e w5 ⟨rfl, hb5⟩
  have hC5 := below_step hC4 hb5
  clear cm cp cq
  by_cases hk : k = 0
  rotate_left
  · have d1 : (k != 0) = true := by simpa using hk
    clear hk
    go_wp2_with fail
    go_returns
    exact ⟨rfl, HBW.out.trans (hC5.mono HBW.out.size)⟩
  subst hk
  by_cases he1 : e1 = 0
  rotate_left
  · have d1 : (e1 != 0) = true := by simpa using he1
    clear he1
    go_wp2_with fail
    go_returns
    exact ⟨rfl, HBW.out.trans (hC5.mono HBW.out.size)⟩
  subst he1
  by_cases he2 : e2 = 0
  rotate_left
  · have d1 : (e2 != 0) = true := by simpa using he2
    clear he2
    go_wp2_with fail
    go_returns
    exact ⟨rfl, HBW.out.trans (hC5.mono HBW.out.size)⟩
  subst he2
  cases fits
  · go_wp2_with fail
    go_returns
    exact ⟨rfl, HBW.out.trans (hC5.mono HBW.out.size)⟩
  have cq := cell_block (block_later hC5 Qq.out)
  go_wp2_with fail
  clear cq
  (with_reducible refine (ftShown_any r _ qx qy _ (FL.out.later (below_step hb4 hb5)) F3.out).mono ?_)
  rintro e w6 ⟨rfl, hb6⟩
  have hC6 := below_step hC5 hb6
  obtain ⟨rfl, hdc⟩ := shown_list LR.out F1.out F2.out F3.out
  have DC := decide_eq_true hdc
  obtain ⟨t, k2, ht⟩ : ∃ (t : Sht) (k : Int), tshtR m a b s chart scale = (t, k) := ⟨_, _, rfl⟩
  have TS := Lib.hid ht
  clear ht hdc
  have cm := cell_block (block_later hC6 Qm.out)
  have ca := cell_block (block_later hC6 Qa.out)
  have cb := cell_block (block_later hC6 Qb.out)
  have cs := cell_block (block_later hC6 Qs.out)
  go_wp2_with fail
  clear cm ca cb cs
  (with_reducible refine (trSheet_any m a b s _ _ chart scale _ (Ha.out.later hC6) (Hb.out.later hC6) (ints_laterV HDs.out (below_step HBW.out hC6)) (HFs.out.later (below_step HBW.out hC6)) TS.out).mono ?_)
  rintro e w7 ⟨at_, ct, rfl, hdon, hown, hb7⟩
  have hC7 := below_step hC6 hb7
  by_cases hk : k2 = 0
  rotate_left
  · have hk2 := tsht_err TS.out hk LR.out
    have d1 : (k2 != 0) = true := by simpa using hk
    clear hk F1 F2 F3 TS FL hown
    rcases hk2 with rfl | rfl
    · go_wp2_with fail
      go_returns
      exact ⟨rfl, HBW.out.trans ((hC7.alloc (by have := hC7.size; omega) _).mono HBW.out.size)⟩
    · go_wp2_with fail
      go_returns
      exact ⟨rfl, HBW.out.trans ((hC7.alloc (by have := hC7.size; omega) _).mono HBW.out.size)⟩
  subst hk
  have cs : ∀ ob i, (w7.alloc ob).cell? ⟨_, i, none⟩ = _ := fun ob => cell_block (block_alloc (block_later hC7 Qs.out))
  have cp : ∀ ob i, (w7.alloc ob).cell? ⟨_, i, none⟩ = _ := fun ob => cell_block (block_alloc (block_later hC7 Qp.out))
  go_wp2_with fail
  clear cs cp
  refine calls_named fun w8 hw8 => ?_
  obtain ⟨p8, hb8⟩ := box1 hw8
  clear hw8
  have hC8 := below_step hC7 hb8
  have QT : Hid (w8.heap[w7.heap.size]? = some (.cells #[.int .i64 t.chart, .int .i64 t.scale, .int .i64 t.edition, .int .i64 t.dat.a, .int .i64 t.dat.b, .int .i64 t.dat.c, .int .i64 t.dat.d, .int .i64 t.dat.e, .int .i64 t.dat.f, .int .i64 t.dat.r, .int .i64 t.cap, .slice none 0 0, .slice at_ t.feats.length ct] 64 (0, 0))) := Lib.hid p8
  have FT : Hid (FeatsAt w8 (.slice at_ t.feats.length ct) t.feats) := Lib.hid ((hown.feats (by have := (tsht_zero TS.out).2.1.2.2.2.2.2.2.2.1; omega)).later hb8)
  clear p8 hown
  obtain ⟨u, e4, h4⟩ : ∃ (v e : Int), shownT s px py = (v, e) := ⟨_, _, rfl⟩
  obtain ⟨x, e5, h5⟩ : ∃ (v e : Int), shownT t qx qy = (v, e) := ⟨_, _, rfl⟩
  have F4 := Lib.hid h4
  have F5 := Lib.hid h5
  clear h4 h5
  (with_reducible refine (shShown_all s _ _ px py _ (ints_laterV HDs.out (below_step HBW.out hC8)) (HFs.out.later (below_step HBW.out hC8)) F4.out).mono ?_)
  rintro e w9 ⟨rfl, hb9⟩
  have hC9 := below_step hC8 hb9
  have ct_ := cell_block (block_later hb9 QT.out)
  have cq := cell_block (block_later hC9 Qq.out)
  go_wp2_with fail
  clear cq
  (with_reducible refine (shShown_all t _ _ qx qy _ (by rw [hdon]; exact ints_none _) (FT.out.later hb9) F5.out).mono ?_)
  rintro e w10 ⟨rfl, hb10⟩
  have hC10 := below_step hC9 hb10
  obtain ⟨rfl, rfl, hle⟩ := shown_sheet TS.out F2.out F4.out F5.out
  have DV := decide_eq_true hle
  go_wp2_with fail
  go_returns
  exact ⟨rfl, HBW.out.trans (hC10.mono HBW.out.size)⟩
end Go.Proofs.YtmhgcmcifdclmaaGreat
