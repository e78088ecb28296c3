/- For any datum, books, sheet and numbers: the statement TransportSheets of chapter 20 (a carried sheet is valid, with the same IDs; and what two sheets of the same features are carried to differs in no feature): the law's function returns true and leaves its arguments as they were. No condition. -/
import Derived.Test.YtdmegkkifiahdaaGreatTrS
import Derived.Test.YtdmegkkifiahdaaGreatFrameT
import Derived.Test.YtdmegkkifiahdaaGreatTrZs
namespace Go.Proofs.YtdmegkkifiahdaaGreat
open Go.ChangeShapes Go.WideShapes Go.ChangeAt Go.RowKit
attribute [local go_sem] bqOp bqAll bqUpon sqOp sqAll sqUpon ssOp ssAll
attribute [local irreducible] wpQuiet wpBQ wpPlan wsPlan
set_option linter.unusedVariables false
set_option maxRecDepth 100000 in
set_option maxHeartbeats 8000000 in
theorem transportSheets_walk (m : Dat) {a : Bk} {ada : Option Addr} {cda : Nat} {b : Bk} {adb : Option Addr} {cdb : Nat} {s : Sht} {ads afs : Option Addr} {cds cfs : Nat} (chart : Int) (scale : Int) (edition : Int) {w : World} (ha : MksAt w (.slice ada a.marks.length cda) a.marks) (hb : MksAt w (.slice adb b.marks.length cdb) b.marks) (hds : IntsAt w (.slice ads s.don.length cds) s.don) (hfs : FeatsAt w (.slice afs s.feats.length cfs) s.feats) (ws : I64 s.edition ∧ I64 s.cap) (wchart : (Lit.int .i64 chart).wf = true) (wscale : (Lit.int .i64 scale).wf = true) (wedition : (Lit.int .i64 edition).wf = true) :
    Calls Tryz.prog 7 #[.agg #[.int .i64 m.a, .int .i64 m.b, .int .i64 m.c, .int .i64 m.d, .int .i64 m.e, .int .i64 m.f, .int .i64 m.r], .agg #[.int .i64 a.office, .slice ada a.marks.length cda], .agg #[.int .i64 b.office, .slice adb b.marks.length cdb], shtV s (.slice ads s.don.length cds) (.slice afs s.feats.length cfs), .int .i64 chart, .int .i64 scale, .int .i64 edition] w fun e w' => e = .returned (.bool true) ∧ Below w.heap.size w w' := by
  have Ha := Lib.hid ha
  clear ha
  have Hb := Lib.hid hb
  clear hb
  have HDs := Lib.hid hds
  have HFs := Lib.hid hfs
  have WSs := Lib.hid ws
  clear hds hfs ws
  obtain ⟨wi, rfl⟩ : ∃ wi : World, wi = w := ⟨_, rfl⟩
  go_enter Tryz.func7, Tryz.ntmps7
  go_wp2_with fail
  refine calls_named fun w0 hw0 => ?_
  obtain ⟨p0, p1, p2, p3, hB⟩ := box4 hw0
  clear hw0
  simp only [Nat.add_assoc, Nat.reduceAdd] at p0 p1 p2 p3 ⊢
  have HBW := Lib.hid hB
  have hC0 := Below.refl w0.heap.size w0
  have Qm : Hid (w0.heap[wi.heap.size]? = some (.cells #[.int .i64 m.a, .int .i64 m.b, .int .i64 m.c, .int .i64 m.d, .int .i64 m.e, .int .i64 m.f, .int .i64 m.r] 52 (0, 0))) := Lib.hid p0
  have Qa : Hid (w0.heap[wi.heap.size + 1]? = some (.cells #[.int .i64 a.office, .slice ada a.marks.length cda] 72 (0, 0))) := Lib.hid p1
  have Qb : Hid (w0.heap[wi.heap.size + 2]? = some (.cells #[.int .i64 b.office, .slice adb b.marks.length cdb] 72 (0, 0))) := Lib.hid p2
  have Qs : Hid (w0.heap[wi.heap.size + 3]? = some (.cells #[.int .i64 s.chart, .int .i64 s.scale, .int .i64 s.edition, .int .i64 s.dat.a, .int .i64 s.dat.b, .int .i64 s.dat.c, .int .i64 s.dat.d, .int .i64 s.dat.e, .int .i64 s.dat.f, .int .i64 s.dat.r, .int .i64 s.cap, .slice ads s.don.length cds, .slice afs s.feats.length cfs] 54 (0, 0))) := Lib.hid p3
  clear hB p0 p1 p2 p3
  replace Ha := Lib.hid (Ha.out.later HBW.out)
  replace Hb := Lib.hid (Hb.out.later HBW.out)
  (with_reducible refine (head20_true _).mono ?_)
  rintro e w1 ⟨rfl, hb1⟩
  have hC1 := below_step hC0 hb1
  have cs := cell_block (block_later hC1 Qs.out)
  go_wp2_with fail
  clear cs
  obtain ⟨v, hv⟩ : ∃ v, decide (FewT s.feats []) = v := ⟨_, rfl⟩
  have HV := Lib.hid hv
  clear hv
  (with_reducible refine (q20Few_any s.feats [] _ _ _ (HFs.out.later (below_step HBW.out hC1)) (ops_nil _) HV.out).mono ?_)
  rintro e w2 ⟨rfl, hb2⟩
  have hC2 := below_step hC1 hb2
  cases v
  · go_wp2_with fail
    go_returns
    exact ⟨rfl, HBW.out.trans (hC2.mono HBW.out.size)⟩
  obtain ⟨t, k, ht⟩ : ∃ (t : Sht) (k : Int), tshtR m a b s chart scale = (t, k) := ⟨_, _, rfl⟩
  have TS := Lib.hid ht
  clear ht
  have cm := cell_block (block_later hC2 Qm.out)
  have ca := cell_block (block_later hC2 Qa.out)
  have cb := cell_block (block_later hC2 Qb.out)
  have cs := cell_block (block_later hC2 Qs.out)
  go_wp2_with fail
  clear cm ca cb cs
  (with_reducible refine (trSheet_any m a b s _ _ chart scale _ (Ha.out.later hC2) (Hb.out.later hC2) (ints_laterV HDs.out (below_step HBW.out hC2)) (HFs.out.later (below_step HBW.out hC2)) TS.out).mono ?_)
  rintro e w3 ⟨at_, ct, rfl, hdon, hown, hb3⟩
  have hC3 := below_step hC2 hb3
  by_cases hk : k = 0
  rotate_left
  · have d1 : (k != 0) = true := by simpa using hk
    obtain ⟨b1, b2⟩ := tsht_bad TS.out hk
    have d2 : ((t.feats.length : Int) == 0) = true := by rw [b1]; rfl
    have d3 : (t.chart == 0) = true := by rw [b2]; rfl
    clear hk b1 b2 TS hown
    go_wp2_with fail
    go_returns
    exact ⟨rfl, HBW.out.trans ((hC3.alloc (by have := hC3.size; omega) _).mono HBW.out.size)⟩
  subst hk
  obtain ⟨harg, hok, e1, e2, e3, e4, e5, hcar⟩ := tsht_zero TS.out
  have hlen := carL_len hcar
  have HOK := Lib.hid hok
  have CAR := Lib.hid hcar
  have FT0 := Lib.hid (hown.feats (by have := hok.2.2.2.2.2.2.2.1; omega))
  have TS0 := Lib.hid TS.out
  obtain ⟨tch, tsc, ted, ⟨da, db, dc, dd, de, df, dr⟩, tcap, tdon, tf⟩ := t
  dsimp only at e1 e2 e3 e4 e5 hlen HOK CAR FT0 TS0 hdon
  subst e1 e2 e3 e4 e5
  rw [hlen] at FT0
  clear hown hdon harg hok hcar TS
  dsimp only
  rw [hlen]
  go_wp2_with fail
  refine calls_named fun w4 hw4 => ?_
  obtain ⟨p4, hb4⟩ := box1 hw4
  clear hw4
  have hC4 := below_step hC3 hb4
  have QT : Hid (w4.heap[w3.heap.size]? = some (.cells #[.int .i64 tch, .int .i64 tsc, .int .i64 1, .int .i64 da, .int .i64 db, .int .i64 dc, .int .i64 dd, .int .i64 de, .int .i64 df, .int .i64 dr, .int .i64 s.cap, .slice none 0 0, .slice at_ s.feats.length ct] 54 (0, 0))) := Lib.hid p4
  have FT := Lib.hid (FT0.out.later hb4)
  clear p4 FT0
  (with_reducible refine (shValid_any (⟨tch, tsc, 1, ⟨da, db, dc, dd, de, df, dr⟩, s.cap, [], tf⟩ : Sht) _ _ _ (ints_none _) FT.out (decide_eq_true HOK.out)).mono ?_)
  rintro e w5 ⟨rfl, hb5⟩
  have hC5 := below_step hC4 hb5
  have ct_ := cell_block (block_later hb5 QT.out)
  have cs := cell_block (block_later hC5 Qs.out)
  go_wp2_with fail
  clear cs ct_
  obtain ⟨WL, rfl⟩ : ∃ x, x = w5 := ⟨_, rfl⟩
  have XL := Lib.hid hC5
  have XT := Lib.hid hb5
  obtain ⟨n, hn⟩ : ∃ n, s.feats.length = n := ⟨_, rfl⟩
  have HNN := Lib.hid hn
  have hn300 : n ≤ 300 := by rw [← hn]; exact harg_len TS0.out
  clear hn
  go_loopw [15, 18] (fun u i wr => ∃ k : Nat, k ≤ n ∧ u = .bool true ∧ i = .int .i64 k ∧ Below WL.heap.size WL wr) (fun _ i _ => n - (Go.RowKit.intOf i).toNat)
  case atStart => exact ⟨0, Nat.zero_le _, rfl, rfl, Below.refl _ _⟩
  case round =>
    obtain ⟨k, hk, rfl, rfl, hbr⟩ := hrel
    have BR := Lib.hid hbr
    have cs_ := cell_block (block_later (below_step XL.out hbr) Qs.out)
    have ct_ := cell_block (block_later (below_step XT.out hbr) QT.out)
    rw [HNN.out] at cs_ ct_
    clear hbr
    rcases Nat.lt_or_ge k n with hlt | hge
    rotate_left
    · obtain rfl : k = n := by omega
      have HFk : Hid (FeatsAt w0 (.slice afs k cfs) s.feats) := Lib.hid (by rw [← HNN.out]; exact HFs.out.later HBW.out)
      have FTk : Hid (FeatsAt w4 (.slice at_ k ct) tf) := Lib.hid (by rw [← HNN.out]; exact FT.out)
      have BW := Lib.hid (below_step XL.out BR.out)
      have cm_ := fun ob => cell_block (block_alloc (o' := ob) (block_later BW.out Qm.out))
      have ca_ := fun ob => cell_block (block_alloc (o' := ob) (block_later BW.out Qa.out))
      have cb_ := fun ob => cell_block (block_alloc (o' := ob) (block_later BW.out Qb.out))
      have lm := lt_block (block_later BW.out Qm.out)
      have la := lt_block (block_later BW.out Qa.out)
      have lb := lt_block (block_later BW.out Qb.out)
      have nm : ¬ wi.heap.size = wr.heap.size := by omega
      have na : ¬ wi.heap.size + 1 = wr.heap.size := by omega
      have nb : ¬ wi.heap.size + 2 = wr.heap.size := by omega
      clear lm la lb
      go_wp2_with fail
      refine calls_named fun W hW => ?_
      obtain ⟨pO, hbO⟩ := box1 hW
      clear hW cm_ ca_ cb_ nm na nb cs_ ct_
      have BO := Lib.hid (below_step BW.out hbO)
      have PO := Lib.hid pO
      have QTO := Lib.hid (block_later hbO (block_later (below_step XT.out BR.out) QT.out))
      have FTO := Lib.hid ((FT.out.later (below_step XT.out BR.out)).later hbO)
      clear pO hbO
      obtain ⟨t2, k2, ht2⟩ : ∃ (t : Sht) (k : Int), tshtR m a b ⟨s.chart, s.scale, edition, s.dat, s.cap, [], s.feats⟩ tch tsc = (t, k) := ⟨_, _, rfl⟩
      have TS2 := Lib.hid ht2
      clear ht2
      (with_reducible refine (trSheet_any m a b ⟨s.chart, s.scale, edition, s.dat, s.cap, [], s.feats⟩ _ _ tch tsc _ (Ha.out.later BO.out) (Hb.out.later BO.out) (ints_none _) (HFk.out.later BO.out) TS2.out).mono ?_)
      rintro e w9 ⟨at2, ct2, rfl, hdon2, hown2, hb9⟩
      have B9 := Lib.hid (below_step BO.out hb9)
      have PO9 := Lib.hid (block_later hb9 PO.out)
      have QT9 := Lib.hid (block_later hb9 QTO.out)
      have FT9 := Lib.hid (FTO.out.later hb9)
      have HF9 := Lib.hid (HFk.out.later B9.out)
      clear hb9 PO QTO FTO BO
      by_cases hk2 : k2 = 0
      rotate_left
      · obtain ⟨hk1, hno⟩ := (tsht_other (s := s) (s' := ⟨s.chart, s.scale, edition, s.dat, s.cap, [], s.feats⟩) rfl rfl rfl TS0.out TS2.out).1 hk2
        subst hk1
        have NO := Lib.hid hno
        clear hk2 hno TS2 hown2 hdon2
        have co_ := fun ob => cell_block (block_alloc (o' := ob) PO9.out)
        go_wp2_with fail
        refine calls_named fun W2 hW => ?_
        obtain ⟨_, hb10⟩ := box1 hW
        clear hW co_
        have B10 := Lib.hid (below_step B9.out hb10)
        (with_reducible refine (shValid_any ⟨s.chart, s.scale, edition, s.dat, s.cap, [], s.feats⟩ _ _ _ (ints_none _) (HF9.out.later hb10) (decide_eq_false NO.out)).mono ?_)
        rintro e w11 ⟨rfl, hb11⟩
        have B11 := Lib.hid (below_step B10.out hb11)
        go_wp2_with fail
        go_returns
        exact ⟨rfl, HBW.out.trans (B11.out.mono HBW.out.size)⟩
      subst hk2
      obtain ⟨huok, huf, hud⟩ := (tsht_other (s := s) (s' := ⟨s.chart, s.scale, edition, s.dat, s.cap, [], s.feats⟩) rfl rfl rfl TS0.out TS2.out).2 rfl
      have UOK := Lib.hid huok
      have UF := Lib.hid huf
      have UD := Lib.hid hud
      have FU := Lib.hid (hown2.feats (by have := huok.2.2.2.2.2.2.2.1; omega))
      clear huok huf hud TS2 hown2
      have co_ := fun ob => cell_block (block_alloc (o' := ob) QT9.out)
      go_wp2_with fail
      refine calls_named fun W2 hW => ?_
      obtain ⟨_, hb10⟩ := box1 hW
      clear hW co_
      have B10 := Lib.hid (below_step B9.out hb10)
      (with_reducible refine (shDiffer_yes (⟨tch, tsc, 1, ⟨da, db, dc, dd, de, df, dr⟩, s.cap, [], tf⟩ : Sht) t2 _ _ _ _ _ (ints_none _) (FT9.out.later hb10) (by rw [UD.out]; exact ints_none _) (FU.out.later hb10) HOK.out UOK.out).mono ?_)
      rintro e w11 ⟨adl, cl, dl, hdl, _, rfl, _, hb11⟩
      have B11 := Lib.hid (below_step B10.out hb11)
      obtain rfl := diff_same (by rw [UF.out] at hdl; exact hdl)
      go_wp2_with fail
      go_returns
      exact ⟨rfl, HBW.out.trans (B11.out.mono HBW.out.size)⟩
    have FTn : Hid (FeatsAt w4 (.slice at_ n ct) tf) := Lib.hid (by rw [← HNN.out]; exact FT.out)
    have HFn : Hid (FeatsAt w0 (.slice afs n cfs) s.feats) := Lib.hid (by rw [← HNN.out]; exact HFs.out.later HBW.out)
    have EI := ids_same (car_all.1 CAR.out) k (by rw [HNN.out]; exact hlt)
    obtain ⟨g, o, va, vs, e9, fc⟩ := (FTn.out.later (below_step XT.out BR.out)).row hlt
    obtain ⟨g', o', va', vs', e8, fc'⟩ := (HFn.out.later (below_step XL.out BR.out)).row hlt
    subst e9
    subst e8
    have r0 := fun d os => cell_later (below_regrown wr d os) fc.c0
    have z0 := fun d os => cell_later (below_regrown wr d os) fc'.c0
    simp only [EI] at r0
    have zs := cellsR (block_later (below_step XL.out BR.out) Qs.out)
    have zt := cellsR (block_later (below_step XT.out BR.out) QT.out)
    rw [HNN.out] at zs zt
    clear fc fc' EI FTn HFn
    go_wp2_with fail
    refine wp_region_plan (.take 0 (.take 0 (.take 0 (.take 0 (.take 0 (.take 0 (.take 0 (.take 0 (.take 0 (.take 0 (.take 0 (.take 0 (.take 0 (.take 0 (.take 0 (.take 0 (.take 0 (.done)))))))))))))))))) (by kernel_rfl) (by kernel_rfl) (fun hP => ?_)
    repeat' (first
      | (refine wpPlan_two ?_ ?_)
      | (refine wpPlan_three ?_ ?_ ?_)
      | (refine wpPlan_take rfl (fun K hK => ?_); replace hK := Lib.hid hK; go_simp; first | (refine hK.out _ ?_; clear hK K) | (apply Exists.intro; refine ⟨fun _ => ?_, hK.out _ ?_⟩; (first | with_reducible exact rfl | skip); clear hK K))
      | (refine wpPlan_only rfl (fun K hK => ?_); replace hK := Lib.hid hK; (first | (go_simp; first | skip)); refine hK.out _ _ (by first | assumption | exact below_step hP hbx | exact hP.drew | exact hP.alloc hP.size _) (fun hP => ?_); clear hK K))
    all_goals refine wpPlan_done ?_
    have B2 := Lib.hid (below_step BR.out hP)
    go_wp2_with fail
    go_roundw
    case rel => exact ⟨k + 1, by omega, rfl, by go_num, B2.out⟩
    case measure => simp [Go.RowKit.intOf]; omega
end Go.Proofs.YtdmegkkifiahdaaGreat
