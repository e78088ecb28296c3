/- The walks of sheet.put of features, sheet.all, sheet.Ints. -/
import Derived.Test.YtdmegkkifiahdaaGreatShtC
import Derived.Test.YtdmegkkifiahdaaGreatShtA
namespace Go.Proofs.YtdmegkkifiahdaaGreat
open Go.RowKit
attribute [local go_sem] bqOp bqAll bqUpon sqOp sqAll sqUpon ssOp ssAll
attribute [local irreducible] wpQuiet wpBQ wpPlan wsPlan
set_option linter.unusedVariables false
def FewEls (xs : List Feat) : Prop := ∀ f ∈ xs, f.area.length ≤ 24 ∧ f.secs.length ≤ 12
theorem fewEls_of {l : List Feat} (h : FeatsOk l) : FewEls l := fun f hf => by
  have hk := (featsOk_mem h f hf).2
  unfold FormR at hk
  split at hk
  · omega
  · split at hk
    · have := hk.1.2.1; omega
    · have := hk.2.2.1.1; omega
theorem encFeat_len {f : Feat} (h : f.area.length ≤ 24 ∧ f.secs.length ≤ 12) : (encFeat f).length ≤ 80 := by
  have h1 := flat_lenS encSec 6 f.secs (fun x _ => by simp [encSec])
  have h2 := flat_lenS encPt 2 f.area (fun x _ => by simp [encPt])
  unfold encFeat putL
  repeat' split
  all_goals (simp only [List.length_append, List.length_cons, List.length_nil]; omega)
set_option maxHeartbeats 2000000 in
theorem shputF_any (base : Nat) (v0 : Value) (l : List Int) (xs : List Feat) (v1 : Value) (w0 w : World) (hown : OwnI base w v0 l) (hx : FeatsAt w0 v1 xs) (h0 : w0.heap.size ≤ base) (hb0 : Below w0.heap.size w0 w) (hbase : base ≤ w.heap.size) (hsz : l.length + 1 + xs.length * 80 ≤ 1000000) (hfew : FewEls xs) :
    Calls Tryz.prog 214 #[v0, v1, .func (.func 217) #[] #[]] w (PutsL base (l ++ putL encFeat xs) w) := by
  obtain ⟨ad0, c0, rfl⟩ := hown.form
  obtain ⟨ad, c, rfl, hl, hn, hnc⟩ := hx.form
  obtain ⟨n, hxn⟩ : ∃ n, xs.length = n := ⟨_, rfl⟩
  have HX := Lib.hid hl
  have HO := Lib.hid hown
  have HN := Lib.hid hxn
  have HB := Lib.hid hb0
  have FEW := Lib.hid hfew
  rw [hxn] at HX hn hsz
  rw [hxn]
  clear hown hx hl hxn hb0 hfew
  go_enter Tryz.func214, Tryz.ntmps214
  have HO1 := Lib.hid (HO.out.keep ((Below.refl w.heap.size w).alloc (Nat.le_refl _) (.cells #[.int .i64 (n : Int)] 3)))
  go_wp2_with (at_builtin; refine wpList_app rfl _ _ rfl base _ l [(n : Int)] rfl HO1.out _ 1 _ rfl rfl (lit_ints [(n : Int)] rfl rfl rfl (by unfold maxLen; simp)) (by omega) (by simp; omega) ?_; intro ad1 c1 w1 hown1 hb1)
  have O1 := Lib.hid hown1
  have hB1 : Below base w w1 := ((Below.refl base w).alloc hbase _).trans hb1
  clear HO HO1 hown1 hb1
  go_wp2_with fail
  go_loopw [0, 16] (fun t i wr => ∃ (k : Nat) (ad' : Option Addr) (c' : Nat) (m : List Int), k ≤ n ∧ i = .int .i64 k ∧ t = .slice ad' m.length c' ∧ m = l ++ [(n : Int)] ++ (xs.take k).flatMap encFeat ∧ OwnI base wr (.slice ad' m.length c') m ∧ Below base w wr) (fun _ i _ => n - (intOf i).toNat)
  case atStart => exact ⟨0, ad1, c1, l ++ [(n : Int)], by omega, rfl, by simp, by simp, by simpa using O1.out, hB1⟩
  case round =>
    clear hB1 O1
    obtain ⟨k, ad', c', m, hk, rfl, rfl, hm, how, hb⟩ := hrel
    have OW := Lib.hid how
    have M := Lib.hid hm
    clear hm how
    have hszk := hb.size
    rcases Nat.lt_or_ge k n with hlt | hge
    rotate_left
    · obtain rfl : k = n := by omega
      have E := Lib.hid (show m = l ++ putL encFeat xs by rw [M.out, ← HN.out]; exact put_done encFeat l xs)
      go_wp2_with fail
      go_returns
      exact ⟨ad', c', by rw [← E.out]; rfl, by rw [← E.out]; exact OW.out, hb⟩
    have hkl : k < xs.length := by have := HN.out; omega
    have hfk := FEW.out _ (getD_mem (d := noFeat) hkl)
    have STEP := Lib.hid (show m ++ encFeat (xs.getD k noFeat) = l ++ [(n : Int)] ++ (xs.take (k + 1)).flatMap encFeat by
      have h1 := M.out
      have h2 := HN.out
      subst h1 h2
      exact put_step encFeat l xs noFeat hkl)
    have hml : m.length ≤ l.length + 1 + k * 80 := by
      rw [M.out]
      have := flat_lenS encFeat 80 (xs.take k) (fun x hx => encFeat_len (FEW.out x (List.mem_of_mem_take hx)))
      simp only [List.length_append, List.length_cons, List.length_nil]
      rw [List.length_take, Nat.min_eq_left (by omega)] at this
      omega
    have hml2 : m.length + 80 ≤ 1000000 := by
      have h1 : (k + 1) * 80 ≤ n * 80 := Nat.mul_le_mul_right _ (by omega)
      omega
    obtain ⟨g, o, va, vs, rfl, fc⟩ := (HX.out.later (HB.out.trans (hb.mono h0))).row hlt
    obtain ⟨x, hxk⟩ : ∃ x, xs.getD k noFeat = x := ⟨_, rfl⟩
    rw [hxk] at STEP fc hfk
    obtain ⟨e0, e1, e2, e3, e4, e5, e6, e7, e8, PA, SA⟩ := fc
    obtain ⟨aa, ca, rfl, _, _, _⟩ := Lists.form PA
    obtain ⟨ab, cb, rfl, _, _, _⟩ := Lists.form SA
    have PA' := Lib.hid PA
    have SA' := Lib.hid SA
    clear hxk M PA SA
    go_wp2_with fail
    refine calls_named fun W hW => ?_
    obtain ⟨p1, hBW⟩ := box1 hW
    clear p1 hW e0 e1 e2 e3 e4 e5 e6 e7 e8
    (with_reducible refine (shone_any x aa ab ca cb _ (ptsL PA'.out hBW) (secsL SA'.out hBW) hfk.1 hfk.2).mono ?_)
    rintro e w2 ⟨ad2, c2, rfl, hi2, hb2⟩
    have hB2 := below_step hBW hb2
    have I2 := Lib.hid hi2
    have O2 := Lib.hid (OW.out.keep hB2)
    have hB3 : Below base w w2 := hb.trans (hB2.mono (by omega))
    have hs3 := hB2.size
    have hel := encFeat_len hfk
    clear hi2 hb2 hBW hB2 OW
    obtain ⟨q, hq⟩ : ∃ q, (encFeat x).length = q := ⟨_, rfl⟩
    have HQ := Lib.hid hq
    rw [hq] at hel I2
    rw [hq]
    clear hq
    go_wp2_with (at_builtin; refine wpList_app rfl _ _ rfl base _ m (encFeat x) rfl O2.out _ q _ rfl HQ.out I2.out (by omega) (by omega) ?_; intro ad4 c4 w4 hown4 hb4)
    have O4 := Lib.hid hown4
    have hB4 : Below base w w4 := hB3.trans hb4
    have LN := Lib.hid (show (m ++ encFeat x).length = m.length + q by rw [List.length_append, HQ.out])
    clear hown4 hb4 hB3
    go_wp2_with fail
    go_roundw
    case rel => exact ⟨k + 1, ad4, c4, m ++ encFeat x, by omega, by go_num, by rw [LN.out], STEP.out, by rw [LN.out]; exact O4.out, hB4⟩
    case measure => simp [intOf]; omega
theorem encS_split (s : Sht) : encS s = (encHead s ++ putL encInt s.don) ++ putL encFeat s.feats := rfl
theorem encS_len {s : Sht} (h : s.don.length ≤ 200) (hf : s.feats.length ≤ 300) (hw : FewEls s.feats) : (encS s).length ≤ 30000 := by
  have h1 := flat_lenS encInt 1 s.don (fun x _ => by simp [encInt])
  have h2 := flat_lenS encFeat 80 s.feats (fun x hx => encFeat_len (hw x hx))
  unfold encS encHead putL
  simp only [List.length_append, List.length_cons, List.length_nil]
  omega
set_option maxHeartbeats 2000000 in
theorem shall_any (s : Sht) (ad af : Option Addr) (cd cf : Nat) (w : World) (hd : IntsAt w (.slice ad s.don.length cd) s.don) (hf : FeatsAt w (.slice af s.feats.length cf) s.feats) (h200 : s.don.length ≤ 200) (h300 : s.feats.length ≤ 300) (hw : FewEls s.feats) :
    Calls Tryz.prog 111 #[shtV s (.slice ad s.don.length cd) (.slice af s.feats.length cf)] w (GivesL (encS s) w) := by
  have HD := Lib.hid hd
  have HF := Lib.hid hf
  have FEW := Lib.hid hw
  have HL := Lib.hid (encS_len h200 h300 hw)
  obtain ⟨m1, hm1⟩ : ∃ L, (encHead s ++ putL encInt s.don).length = L := ⟨_, rfl⟩
  obtain ⟨m2, hm2⟩ : ∃ L, (encS s).length = L := ⟨_, rfl⟩
  have L1 := Lib.hid hm1
  have L2 := Lib.hid (show (encHead s ++ putL encInt s.don ++ putL encFeat s.feats).length = m2 from hm2)
  have L3 := Lib.hid hm2
  clear hd hf hw hm1 hm2
  go_enter Tryz.func111, Tryz.ntmps111
  go_wp2_with fail
  refine wp_named fun W hW => ?_
  have O0 := Lib.hid (OwnI.lit (base := w.heap.size + 2) (encHead s) hW (b := w.heap.size + 2) (by simp) rfl (Nat.le_refl _) (by unfold maxLen; simp [encHead]))
  obtain ⟨p1, p2, p3, hB⟩ := box3 hW
  have hsW : W.heap.size = w.heap.size + 3 := by rw [hW]; simp
  clear hW p2 p3
  have BX := Lib.hid (fun w' (h : Below (w.heap.size + 2) W w') => (h.block w.heap.size (by omega)).trans p1)
  have FC : ∀ w', Below (w.heap.size + 2) W w' → w'.cell? ⟨w.heap.size, 11, none⟩ = some (.slice ad s.don.length cd) ∧ w'.cell? ⟨w.heap.size, 12, none⟩ = some (.slice af s.feats.length cf) := fun w' h => ⟨cell_block (BX.out w' h) 11, cell_block (BX.out w' h) 12⟩
  replace FC := Lib.hid FC
  clear p1
  refine wp_region_planS (Below (w.heap.size + 2) W) (.take 0 (.take 0 (.take 0 (.take 1 (.take 1 (.only 0 (.only 0 (.take 0 .done)))))))) (by kernel_rfl) (by kernel_rfl) ((Below.refl _ _).drew) (fun hP => ?_)
  repeat' (first
    | (refine wsPlan_two ?_ ?_)
    | (refine wsPlan_three ?_ ?_ ?_)
    | (refine wsPlan_take rfl (fun K hK => ?_); replace hK := Lib.hid hK; go_simp; first | (refine hK.out _ ?_; clear hK K) | (apply Exists.intro; refine ⟨fun w' hw => ?_, hK.out _ ?_⟩; (first | with_reducible exact rfl | (obtain ⟨fc11, fc12⟩ := FC.out w' hw; go_simp; exact rfl)); clear hK K))
    | (refine wsPlan_only rfl (fun K hK => ?_); replace hK := Lib.hid hK; (first | (go_simp; first | (go_at_call 215; refine (shputI_any (w.heap.size + 2) _ (encHead s) s.don _ w _ (O0.out.keep ((Below.refl W.heap.size W).drew)) HD.out (by omega) (hB.trans (hP.mono (by omega))) (by have := hP.size; omega) (by unfold encHead; simp only [List.length_cons, List.length_nil]; omega)).mono ?_; rintro e w4 ⟨ad5, c5, he5, hown5, hb5⟩; rw [L1.out] at he5 hown5; subst he5) | (go_at_call 214; refine (shputF_any (w.heap.size + 2) _ (encHead s ++ putL encInt s.don) s.feats _ w _ hown5 HF.out (by omega) (hB.trans (hP.mono (by omega))) (by have := hP.size; omega) (by have h1 := flat_lenS encInt 1 s.don (fun x _ => by simp [encInt]); unfold encHead putL; simp only [List.length_append, List.length_cons, List.length_nil]; omega) FEW.out).mono ?_; rintro e w6 ⟨ad7, c7, he7, hown7, hb7⟩; rw [L2.out] at he7 hown7; subst he7) | skip)); refine hK.out _ _ (by first | assumption | exact hP.trans hb7 | exact hP.trans hb5 | exact hP) (fun hP => ?_); clear hK K))
  all_goals refine wsPlan_done ?_
  have O7 := Lib.hid hown7
  have hB7 : Below w.heap.size w w6 := hB.trans (hP.mono (by omega))
  clear hown5 hown7 hb5 hb7
  go_wp2_with fail
  go_returns
  refine ⟨ad7, c7, by rw [L3.out]; rfl, ?_, hB7⟩
  rw [L3.out]
  exact O7.out.ints (by have := HL.out; rw [encS_split] at this; omega)
/-- What Ints gives. -/
def IntsP (s : Sht) (w : World) (e : Ending) (w' : World) : Prop := ∃ ad c, e = .returned (.tuple #[.slice ad (encS s).length c, .int .i64 0]) ∧ IntsAt w' (.slice ad (encS s).length c) (encS s) ∧ Below w.heap.size w w'
theorem shInts_no (s : Sht) (vd vf : Value) (w : World) (hd : IntsAt w vd s.don) (hf : FeatsAt w vf s.feats) (hn : ¬ ShtOk s) :
    Calls Tryz.prog 35 #[shtV s vd vf] w fun z w' => z = .returned (.tuple #[.slice none 0 0, .int .i64 1]) ∧ Below w.heap.size w w' := by
  obtain ⟨ad, cd, rfl, h1, _, _⟩ := Lists.form hd
  obtain ⟨af, cf, rfl, g1, _, _⟩ := hf.form
  have HD := Lib.hid hd
  have HF := Lib.hid hf
  have HN := Lib.hid hn
  clear hd hf h1 g1 hn
  go_enter Tryz.func35, Tryz.ntmps35
  go_wp2_with fail
  refine calls_named fun W hW => ?_
  obtain ⟨p1, hB⟩ := box1 hW
  clear hW
  (with_reducible refine (shValid_any s _ _ _ (intsL HD.out hB) (HF.out.later hB) (decide_eq_false HN.out)).mono ?_)
  rintro e w1 ⟨rfl, hb1⟩
  go_wp2_with fail
  go_ret2
  exact ⟨rfl, below_step hB hb1⟩
theorem shInts_yes (s : Sht) (vd vf : Value) (w : World) (hd : IntsAt w vd s.don) (hf : FeatsAt w vf s.feats) (hs : ShtOk s) : Calls Tryz.prog 35 #[shtV s vd vf] w (IntsP s w) := by
  obtain ⟨ad, cd, rfl, h1, _, _⟩ := Lists.form hd
  obtain ⟨af, cf, rfl, g1, _, _⟩ := hf.form
  have HD := Lib.hid hd
  have HF := Lib.hid hf
  have HN := Lib.hid hs
  have h200 := hs.2.1
  have h300 := hs.2.2.2.2.2.2.2.1
  have FEW := Lib.hid (fewEls_of hs.2.2.2.2.2.2.2)
  clear hd hf h1 g1 hs
  go_enter Tryz.func35, Tryz.ntmps35
  go_wp2_with fail
  refine calls_named fun W hW => ?_
  obtain ⟨p1, hB⟩ := box1 hW
  clear hW
  (with_reducible refine (shValid_any s _ _ _ (intsL HD.out hB) (HF.out.later hB) (decide_eq_true HN.out)).mono ?_)
  rintro e w1 ⟨rfl, hb1⟩
  have hB1 := below_step hB hb1
  have r1 := block_later hb1 p1
  have c0 := cell_block r1 0
  have c1 := cell_block r1 1
  have c2 := cell_block r1 2
  have c3 := cell_block r1 3
  have c4 := cell_block r1 4
  have c5 := cell_block r1 5
  have c6 := cell_block r1 6
  have c7 := cell_block r1 7
  have c8 := cell_block r1 8
  have c9 := cell_block r1 9
  have c10 := cell_block r1 10
  have c11 := cell_block r1 11
  have c12 := cell_block r1 12
  clear r1 p1
  go_wp2_with fail
  (with_reducible refine (shall_any s _ _ _ _ _ (intsL HD.out hB1) (HF.out.later hB1) h200 h300 FEW.out).mono ?_)
  rintro e w2 ⟨ad3, c3', rfl, hi, hb2⟩
  have I := Lib.hid hi
  clear hi
  go_wp2_with fail
  go_ret2
  exact ⟨ad3, c3', rfl, I.out, below_step hB1 hb2⟩
end Go.Proofs.YtdmegkkifiahdaaGreat
