/- TrN, TrO, TrQ, TrP, TrHp, TrR: joined. -/
import Derived.Test.YtdmegkkifiahdaaGreatKG
import Derived.Test.YtdmegkkifiahdaaGreatKH
import Derived.Test.YtdmegkkifiahdaaGreatFeatB
import Derived.Test.YtdmegkkifiahdaaGreatKF
import Derived.Test.YtdmegkkifiahdaaGreatPC
import Derived.Test.YtdmegkkifiahdaaGreatPlaneG
/- The walks of package transport: a feature as it is carried. -/
namespace Go.Proofs.YtdmegkkifiahdaaGreat
open Go.RowKit Go.Shelf
attribute [local go_sem] bqOp bqAll bqUpon sqOp sqAll sqUpon ssAll ssOp
attribute [local irreducible] wpQuiet wpBQ wpPlan wsPlan
set_option linter.unusedVariables false
/-- What one answers. -/
def oneR (m : Dat) (A B : List Mk) (f : Feat) : Feat × Int := match oneD m A B f with | .ok g => (g, 0) | .error k => (noFeat, k)
def FeatGive (lo : Nat) (g : Feat) (k : Int) (w : World) (e : Ending) (w' : World) : Prop :=
  ∃ (a2 : Option Addr) (n2 c2 : Nat) (b2 : Option Addr) (m2 d2 : Nat), e = .returned (.tuple #[featV g (.slice a2 n2 c2) (.slice b2 m2 d2), .int .i64 k]) ∧ PartsSep lo w' g (.slice a2 n2 c2) (.slice b2 m2 d2) ∧ Below w.heap.size w w'
theorem feat_give {lo : Nat} {g g' : Feat} {k k' : Int} {w w' : World} {a2 : Option Addr} {n2 c2 : Nat} {b2 : Option Addr} {m2 d2 : Nat} (h1 : g' = g) (h2 : k' = k) (hp : PartsSep lo w' g' (.slice a2 n2 c2) (.slice b2 m2 d2)) (hb : Below w.heap.size w w') :
    FeatGive lo g k w (.returned (.tuple #[featV g' (.slice a2 n2 c2) (.slice b2 m2 d2), .int .i64 k'])) w' := by
  subst h1 h2
  exact ⟨a2, n2, c2, b2, m2, d2, rfl, hp, hb⟩
set_option maxRecDepth 20000 in
set_option maxHeartbeats 4000000 in
theorem trone_any (m : Dat) (a b : Bk) (va vb : Value) (f : Feat) (aa : Option Addr) (na ca : Nat) (ab : Option Addr) (ns cs : Nat) (w0 w : World) (h0 : Below w0.heap.size w0 w) (hm : DatOk m) (ha : MksAt w va a.marks) (hb : MksAt w vb b.marks) (oa : BkOk a) (ob : BkOk b) (hf : FeatOk f) (hp : PartsAt w0 f (.slice aa na ca) (.slice ab ns cs)) {g : Feat} {k : Int} (hr : oneR m a.marks b.marks f = (g, k)) :
    Calls Tryz.prog 141 #[carV m, bookV a va, bookV b vb, featV f (.slice aa na ca) (.slice ab ns cs)] w (FeatGive w0.heap.size g k w) := by
  obtain ⟨aa1, ca1, rfl, ha1, _⟩ := Rows.form ha
  obtain ⟨ab1, cb1, rfl, hb1, _⟩ := Rows.form hb
  have HA := Lib.hid (show MksAt w (.slice aa1 a.marks.length ca1) a.marks from ha1)
  have HB := Lib.hid (show MksAt w (.slice ab1 b.marks.length cb1) b.marks from hb1)
  have HM := Lib.hid hm
  have OA := Lib.hid oa
  have OB := Lib.hid ob
  have HF := Lib.hid hf
  have H0 := Lib.hid h0
  have HR := Lib.hid hr
  have hsy := hf.1.2.1
  obtain ⟨fm, hfm⟩ : ∃ q, findM a.marks f.sym = q := ⟨_, rfl⟩
  have FM := Lib.hid hfm
  have hfr : findR a f.sym = ansR fm := by unfold findR; rw [if_pos ⟨oa, hsy.1, hsy.2⟩, hfm]
  have htr : trR a b f.sym = ansT b.marks fm := by unfold trR; rw [if_pos ⟨oa, ob, hsy.1, hsy.2⟩, hfm]
  obtain ⟨T, recv, fn, hsh, hmt, hcf, hcar⟩ := shape_carried m f aa na ca ab ns cs w0 hm hf hp
  have HSH := Lib.hid hsh
  have HMT : ∀ w', (method 535 T recv "seamark/transport.carried").run Tryz.prog w' = .ok (fn, recv) w' := fun w' => hmt _ w'
  have HCAR := Lib.hid hcar
  have BA : bookV a (.slice aa1 a.marks.length ca1) = .agg #[.int .i64 a.office, .slice aa1 a.marks.length ca1] := rfl
  have BB : bookV b (.slice ab1 b.marks.length cb1) = .agg #[.int .i64 b.office, .slice ab1 b.marks.length cb1] := rfl
  obtain ⟨fa, hfa⟩ : ∃ f, a.office = f := ⟨_, rfl⟩
  obtain ⟨fb, hfb⟩ : ∃ f, b.office = f := ⟨_, rfl⟩
  obtain ⟨la, hla⟩ : ∃ q, a.marks.length = q := ⟨_, rfl⟩
  obtain ⟨lb, hlb⟩ : ∃ q, b.marks.length = q := ⟨_, rfl⟩
  rw [BA, BB]
  rw [hla] at HA BA ⊢
  rw [hlb] at HB BB ⊢
  rw [hfa] at BA ⊢
  rw [hfb] at BB ⊢
  have BA := Lib.hid BA
  have BB := Lib.hid BB
  clear hfa hfb hla hlb ha hb ha1 hb1 hm oa ob hf hp h0 hr hfm hsh hmt hcar hsy
  obtain ⟨⟨mk, k1⟩, hq1⟩ : ∃ q, findR a f.sym = q := ⟨_, rfl⟩
  have Q1 := Lib.hid hq1
  rw [hfr] at hq1
  have HTR := Lib.hid htr
  have A1 := Lib.hid hq1
  clear hfr htr hq1
  go_enter Tryz.func141, Tryz.ntmps141
  go_wp2_with fail
  refine calls_named fun W hW => ?_
  obtain ⟨p1, p2, p3, p4, p5, hB⟩ := box5 hW
  clear hW
  simp only [Nat.add_assoc, Nat.reduceAdd] at p1 p2 p3 p4 p5 ⊢
  have P1 := Lib.hid p1
  have P2 := Lib.hid p2
  have P3 := Lib.hid p3
  have P4 := Lib.hid p4
  have P5 := Lib.hid p5
  have HBW := Lib.hid hB
  have hW5 := lt_block p5
  clear p1 p2 p3 p4 p5 hB
  rw [← BA.out]
  (with_reducible refine (syFind_any a _ _ _ (HA.out.later HBW.out) Q1.out).mono ?_)
  rintro e w1 ⟨rfl, hb1⟩
  have X1 := Lib.hid hb1
  clear hb1
  obtain ⟨ms, mkd, mc⟩ := mk
  dsimp only [markV]
  cases fm with
  | none =>
    have h1 := A1.out
    unfold ansR at h1
    cases h1
    have r5a := block_later ((Below.refl w1.heap.size w1).alloc (Nat.le_refl _) (.cells #[.int .i64 0, .int .i64 0, .int .i64 0] 166)) (block_later X1.out P5.out)
    have X1a := below_step X1.out ((Below.refl w1.heap.size w1).alloc (Nat.le_refl _) (.cells #[.int .i64 0, .int .i64 0, .int .i64 0] 166))
    have r5 := block_later X1a P5.out
    have f5 := free_block r5
    have c5 := cell_block r5
    have R5 := Lib.hid r5
    clear r5
    have hBX := below_step HBW.out X1a
    have hNO : Hid (noFeat = g ∧ (11 : Int) = k) := Lib.hid (by
      have h := HR.out
      unfold oneR oneD at h
      rw [FM.out] at h
      exact ⟨congrArg Prod.fst h, congrArg Prod.snd h⟩)
    go_wp2_with fail
    have c9 := cell_block (block_set (i := 8) (block_set (i := 7) (block_set (i := 6) (block_set (i := 5) (block_set (i := 4) (block_set (i := 3) (block_set (i := 2) (block_set (i := 1) (block_set (i := 0) R5.out (.int .i64 0)) (.int .i64 0)) (.int .i64 0)) (.int .i64 0)) (.int .i64 0)) (.slice none 0 0)) (.int .i64 0)) (.int .i64 0)) (.slice none 0 0))
    exact bodyPost_ret (v := .tuple #[featV noFeat (.slice none 0 0) (.slice none 0 0), .int .i64 11]) (by simp [results, Tryz.results141, go_sem, c9, noFeat]) rfl (feat_give hNO.out.1 hNO.out.2 (PartsSep.zero _ _) (((((((((hBX.setCell (by dsimp only; omega) _).setCell (by dsimp only; omega) _).setCell (by dsimp only; omega) _).setCell (by dsimp only; omega) _).setCell (by dsimp only; omega) _).setCell (by dsimp only; omega) _).setCell (by dsimp only; omega) _).setCell (by dsimp only; omega) _).setCell (by dsimp only; omega) _))
  | some mk2 =>
    have h1 := A1.out
    unfold ansR at h1
    cases h1
    have HT2 : Hid (trR a b f.sym = if (bestM ⟨ms, mkd, mc⟩ b.marks ⟨0, 0, 10⟩).cls ≤ 9 then ((bestM ⟨ms, mkd, mc⟩ b.marks ⟨0, 0, 10⟩).sym, 0) else (0, 4)) := Lib.hid HTR.out
    have hne10 : w.heap.size + 4 ≠ w1.heap.size := by have := X1.out.size; omega
    have c4 := fun ob => cell_block (block_later ((Below.refl w1.heap.size w1).alloc (Nat.le_refl _) ob) (block_later X1.out P4.out))
    by_cases hkd : mkd = f.kind
    rotate_left
    · have d1 : (mkd != f.kind) = true := by simpa using hkd
      have hal := (Below.refl w1.heap.size w1).alloc (Nat.le_refl _) (.cells #[.int .i64 ms, .int .i64 mkd, .int .i64 mc] 166)
      have X1a := below_step X1.out hal
      have HKD := Lib.hid hkd
      clear hkd hal
      have r5 := block_later X1a P5.out
      have f5 := free_block r5
      have c5 := cell_block r5
      have R5 := Lib.hid r5
      clear r5
      have hBX := below_step HBW.out X1a
      have hNO : Hid (noFeat = g ∧ (12 : Int) = k) := Lib.hid (by
        have h := HR.out
        unfold oneR oneD at h
        rw [FM.out] at h
        dsimp only at h
        rw [if_pos HKD.out] at h
        exact ⟨congrArg Prod.fst h, congrArg Prod.snd h⟩)
      go_wp2_with fail
      have c9 := cell_block (block_set (i := 8) (block_set (i := 7) (block_set (i := 6) (block_set (i := 5) (block_set (i := 4) (block_set (i := 3) (block_set (i := 2) (block_set (i := 1) (block_set (i := 0) R5.out (.int .i64 0)) (.int .i64 0)) (.int .i64 0)) (.int .i64 0)) (.int .i64 0)) (.slice none 0 0)) (.int .i64 0)) (.int .i64 0)) (.slice none 0 0))
      exact bodyPost_ret (v := .tuple #[featV noFeat (.slice none 0 0) (.slice none 0 0), .int .i64 12]) (by simp [results, Tryz.results141, go_sem, c9, noFeat]) rfl (feat_give hNO.out.1 hNO.out.2 (PartsSep.zero _ _) (((((((((hBX.setCell (by dsimp only; omega) _).setCell (by dsimp only; omega) _).setCell (by dsimp only; omega) _).setCell (by dsimp only; omega) _).setCell (by dsimp only; omega) _).setCell (by dsimp only; omega) _).setCell (by dsimp only; omega) _).setCell (by dsimp only; omega) _).setCell (by dsimp only; omega) _))
    have d1 : (mkd != f.kind) = false := by simpa using hkd
    have HKD := Lib.hid hkd
    clear hkd
    have c2 := fun ob => cell_block (block_later ((Below.refl w1.heap.size w1).alloc (Nat.le_refl _) ob) (block_later X1.out P2.out))
    have c3 := fun ob => cell_block (block_later ((Below.refl w1.heap.size w1).alloc (Nat.le_refl _) ob) (block_later X1.out P3.out))
    go_wp2_with fail
    refine calls_named fun W2 hW2 => ?_
    obtain ⟨_, hx2⟩ := box1 hW2
    have X2 := Lib.hid (below_step X1.out hx2)
    clear hW2 c4 c2 c3 d1
    obtain ⟨⟨s, e⟩, hse⟩ : ∃ q, trR a b f.sym = q := ⟨_, rfl⟩
    have SE := Lib.hid hse
    rw [← BA.out, ← BB.out]
    (with_reducible refine (syTranslate_any a b _ _ _ _ (HA.out.later (below_step HBW.out X2.out)) (HB.out.later (below_step HBW.out X2.out)) SE.out).mono ?_)
    rintro z w3 ⟨rfl, hb3⟩
    have X3 := Lib.hid (below_step X2.out hb3)
    rw [HT2.out] at hse
    clear hb3 hx2
    by_cases hcls : (bestM ⟨ms, mkd, mc⟩ b.marks ⟨0, 0, 10⟩).cls ≤ 9
    rotate_left
    · rw [if_neg hcls] at hse
      cases hse
      have X3a := X3.out
      have r5 := block_later X3a P5.out
      have f5 := free_block r5
      have c5 := cell_block r5
      have R5 := Lib.hid r5
      clear r5
      have hBX := below_step HBW.out X3a
      have hNO : Hid (noFeat = g ∧ (4 : Int) = k) := Lib.hid (by
        have h := HR.out
        unfold oneR oneD at h
        rw [FM.out] at h
        dsimp only at h
        rw [if_neg (fun h => h HKD.out)] at h
        unfold transM at h
        rw [if_neg hcls] at h
        exact ⟨congrArg Prod.fst h, congrArg Prod.snd h⟩)
      go_wp2_with fail
      have c9 := cell_block (block_set (i := 8) (block_set (i := 7) (block_set (i := 6) (block_set (i := 5) (block_set (i := 4) (block_set (i := 3) (block_set (i := 2) (block_set (i := 1) (block_set (i := 0) R5.out (.int .i64 0)) (.int .i64 0)) (.int .i64 0)) (.int .i64 0)) (.int .i64 0)) (.slice none 0 0)) (.int .i64 0)) (.int .i64 0)) (.slice none 0 0))
      exact bodyPost_ret (v := .tuple #[featV noFeat (.slice none 0 0) (.slice none 0 0), .int .i64 4]) (by simp [results, Tryz.results141, go_sem, c9, noFeat]) rfl (feat_give hNO.out.1 hNO.out.2 (PartsSep.zero _ _) (((((((((hBX.setCell (by dsimp only; omega) _).setCell (by dsimp only; omega) _).setCell (by dsimp only; omega) _).setCell (by dsimp only; omega) _).setCell (by dsimp only; omega) _).setCell (by dsimp only; omega) _).setCell (by dsimp only; omega) _).setCell (by dsimp only; omega) _).setCell (by dsimp only; omega) _))
    rw [if_pos hcls] at hse
    obtain ⟨hs, rfl⟩ : (bestM ⟨ms, mkd, mc⟩ b.marks ⟨0, 0, 10⟩).sym = s ∧ (0 : Int) = e := ⟨congrArg Prod.fst hse, congrArg Prod.snd hse⟩
    have HS := Lib.hid hs
    have HCL := Lib.hid hcls
    clear hse hs hcls
    have q4 := cellsR (block_later X3.out P4.out)
    have q1 := cellsR (block_later X3.out P1.out)
    have BX3 := Lib.hid (below_step HBW.out X3.out)
    go_wp2_with fail
    refine wp_region_plan (.take 0 (.take 1 (.only 0 (.only 0 (.take 0 (.take 0 (.take 0 (.take 0 (.take 0 .done))))))))) (by kernel_rfl) (by kernel_rfl) (fun hP => ?_)
    (refine wpPlan_take rfl (fun K hK => ?_); replace hK := Lib.hid hK; go_simp; first | (refine hK.out _ ?_; clear hK K) | (apply Exists.intro; refine ⟨fun _ => ?_, hK.out _ ?_⟩; (first | with_reducible exact rfl | skip); clear hK K))
    (refine wpPlan_take rfl (fun K hK => ?_); replace hK := Lib.hid hK; go_simp; first | (refine hK.out _ ?_; clear hK K) | (apply Exists.intro; refine ⟨fun _ => ?_, hK.out _ ?_⟩; (first | with_reducible exact rfl | skip); clear hK K))
    (refine wpPlan_only rfl (fun K hK => ?_); replace hK := Lib.hid hK; go_simp; go_at_call 161; (with_reducible refine (trof_any f aa ab na ca ns cs _).mono ?_); rintro z w4 ⟨rfl, hbx⟩; rw [HSH.out]; refine hK.out _ _ (by exact below_step hP hbx) (fun hP => ?_); clear hK K hbx)
    (refine wpPlan_only rfl (fun K hK => ?_); replace hK := Lib.hid hK; go_simp; refine (HCAR.out _ (H0.out.trans ((below_step BX3.out hP).mono H0.out.size))).mono ?_; rintro z w5 ⟨sv, u, g2, a2, n2, c2, b2, m2, d2, rfl, hwith, hparts, hcff, hbx⟩; have HWITH := Lib.hid hwith; have HPARTS := Lib.hid hparts; have HCF := Lib.hid hcff; clear hwith hparts hcff; refine hK.out _ _ (by exact below_step hP hbx) (fun hP => ?_); clear hK K hbx)
    (refine wpPlan_take rfl (fun K hK => ?_); replace hK := Lib.hid hK; go_simp; first | (refine hK.out _ ?_; clear hK K) | (apply Exists.intro; refine ⟨fun _ => ?_, hK.out _ ?_⟩; (first | with_reducible exact rfl | skip); clear hK K))
    (refine wpPlan_take rfl (fun K hK => ?_); replace hK := Lib.hid hK; go_simp; first | (refine hK.out _ ?_; clear hK K) | (apply Exists.intro; refine ⟨fun _ => ?_, hK.out _ ?_⟩; (first | with_reducible exact rfl | skip); clear hK K))
    (refine wpPlan_take rfl (fun K hK => ?_); replace hK := Lib.hid hK; go_simp; first | (refine hK.out _ ?_; clear hK K) | (apply Exists.intro; refine ⟨fun _ => ?_, hK.out _ ?_⟩; (first | with_reducible exact rfl | skip); clear hK K))
    (refine wpPlan_take rfl (fun K hK => ?_); replace hK := Lib.hid hK; go_simp; first | (refine hK.out _ ?_; clear hK K) | (apply Exists.intro; refine ⟨fun _ => ?_, hK.out _ ?_⟩; (first | with_reducible exact rfl | skip); clear hK K))
    (refine wpPlan_take rfl (fun K hK => ?_); replace hK := Lib.hid hK; go_simp; first | (refine hK.out _ ?_; clear hK K) | (apply Exists.intro; refine ⟨fun _ => ?_, hK.out _ ?_⟩; (first | with_reducible exact rfl | skip); clear hK K))
    refine wpPlan_done ?_
    have X5 := Lib.hid (below_step X3.out hP)
    clear q1 q4 hP HMT hcf
    have c4 := cell_block (block_later X5.out P4.out)
    go_wp2_with fail
    (with_reducible refine (HWITH.out _).mono ?_)
    rintro z w6 ⟨rfl, hb6⟩
    have X6 := Lib.hid (below_step X5.out hb6)
    have PT6 := Lib.hid (fun hu => (HPARTS.out hu).later (KeepPS.of_below hb6))
    obtain ⟨gi, gk, gx, gy, gr, ga, gd, gs, ge⟩ := g2
    dsimp only [featV]
    clear c4 hb6 HPARTS
    have hne15 : w.heap.size + 4 ≠ w6.heap.size := by have := X6.out.size; omega
    cases u
    · have hal := (Below.refl w6.heap.size w6).alloc (Nat.le_refl _) (.cells #[.int .i64 gi, .int .i64 gk, .int .i64 gx, .int .i64 gy, .int .i64 gr, .slice a2 n2 c2, .int .i64 gd, .int .i64 s, .slice b2 m2 d2] 32)
      have X6a := below_step X6.out hal
      clear hal
      have r5 := block_later X6a P5.out
      have f5 := free_block r5
      have c5 := cell_block r5
      have R5 := Lib.hid r5
      clear r5
      have hBX := below_step HBW.out X6a
      have hNO : Hid (noFeat = g ∧ (3 : Int) = k) := Lib.hid (by
        have h := HR.out
        unfold oneR oneD at h
        rw [FM.out] at h
        dsimp only at h
        rw [if_neg (fun h => h HKD.out)] at h
        unfold transM at h
        rw [if_pos HCL.out] at h
        dsimp only at h
        rw [HCF.out] at h
        exact ⟨congrArg Prod.fst h, congrArg Prod.snd h⟩)
      go_wp2_with fail
      have c9 := cell_block (block_set (i := 8) (block_set (i := 7) (block_set (i := 6) (block_set (i := 5) (block_set (i := 4) (block_set (i := 3) (block_set (i := 2) (block_set (i := 1) (block_set (i := 0) R5.out (.int .i64 0)) (.int .i64 0)) (.int .i64 0)) (.int .i64 0)) (.int .i64 0)) (.slice none 0 0)) (.int .i64 0)) (.int .i64 0)) (.slice none 0 0))
      exact bodyPost_ret (v := .tuple #[featV noFeat (.slice none 0 0) (.slice none 0 0), .int .i64 3]) (by simp [results, Tryz.results141, go_sem, c9, noFeat]) rfl (feat_give hNO.out.1 hNO.out.2 (PartsSep.zero _ _) (((((((((hBX.setCell (by dsimp only; omega) _).setCell (by dsimp only; omega) _).setCell (by dsimp only; omega) _).setCell (by dsimp only; omega) _).setCell (by dsimp only; omega) _).setCell (by dsimp only; omega) _).setCell (by dsimp only; omega) _).setCell (by dsimp only; omega) _).setCell (by dsimp only; omega) _))
    · have FOK : Hid (carryF m f s = some ⟨gi, gk, gx, gy, gr, ga, gd, s, ge⟩) := Lib.hid (HCF.out s)
      obtain ⟨v, hv⟩ : ∃ v, decide (FeatOk ⟨gi, gk, gx, gy, gr, ga, gd, s, ge⟩) = v := ⟨_, rfl⟩
      have V := Lib.hid hv
      clear hv
      go_wp2_with fail
      refine calls_named fun W7 hW7 => ?_
      obtain ⟨p15, hx7⟩ := box1 hW7
      clear hW7
      have PT7 := Lib.hid ((PT6.out (by first | exact trivial | exact rfl)).later (KeepPS.of_below hx7))
      obtain ⟨pt1, pt2⟩ : PtsAt W7 (.slice a2 n2 c2) ga ∧ SecsAt W7 (.slice b2 m2 d2) ge := PT7.out.parts
      (with_reducible refine (ftValid_any ⟨gi, gk, gx, gy, gr, ga, gd, s, ge⟩ _ _ _ pt1 pt2 V.out).mono ?_)
      rintro z w8 ⟨rfl, hb8⟩
      have X8 := Lib.hid (below_step (below_step X6.out hx7) hb8)
      have PT8 := Lib.hid (PT7.out.later (KeepPS.of_below hb8))
      clear pt1 pt2
      have c15 := cell_block (block_later hb8 p15)
      clear hx7 hb8 p15
      cases v
      · have X8a := X8.out
        have r5 := block_later X8a P5.out
        have f5 := free_block r5
        have c5 := cell_block r5
        have R5 := Lib.hid r5
        clear r5
        have hBX := below_step HBW.out X8a
        have hNO : Hid (noFeat = g ∧ (3 : Int) = k) := Lib.hid (by
          have h := HR.out
          unfold oneR oneD at h
          rw [FM.out] at h
          dsimp only at h
          rw [if_neg (fun h => h HKD.out)] at h
          unfold transM at h
          rw [if_pos HCL.out] at h
          dsimp only at h
          rw [HS.out, FOK.out] at h
          dsimp only at h
          rw [if_neg (of_decide_eq_false V.out)] at h
          exact ⟨congrArg Prod.fst h, congrArg Prod.snd h⟩)
        go_wp2_with fail
        have c9 := cell_block (block_set (i := 8) (block_set (i := 7) (block_set (i := 6) (block_set (i := 5) (block_set (i := 4) (block_set (i := 3) (block_set (i := 2) (block_set (i := 1) (block_set (i := 0) R5.out (.int .i64 0)) (.int .i64 0)) (.int .i64 0)) (.int .i64 0)) (.int .i64 0)) (.slice none 0 0)) (.int .i64 0)) (.int .i64 0)) (.slice none 0 0))
        exact bodyPost_ret (v := .tuple #[featV noFeat (.slice none 0 0) (.slice none 0 0), .int .i64 3]) (by simp [results, Tryz.results141, go_sem, c9, noFeat]) rfl (feat_give hNO.out.1 hNO.out.2 (PartsSep.zero _ _) (((((((((hBX.setCell (by dsimp only; omega) _).setCell (by dsimp only; omega) _).setCell (by dsimp only; omega) _).setCell (by dsimp only; omega) _).setCell (by dsimp only; omega) _).setCell (by dsimp only; omega) _).setCell (by dsimp only; omega) _).setCell (by dsimp only; omega) _).setCell (by dsimp only; omega) _))
      · have hlo : w0.heap.size ≤ w.heap.size + 4 := by have := H0.out.size; omega
        have r5 := block_later X8.out P5.out
        have f5 := free_block r5
        have c5 := cell_block r5
        have R5 := Lib.hid r5
        clear r5
        have hBX := below_step HBW.out X8.out
        have hNO : Hid ((⟨gi, gk, gx, gy, gr, ga, gd, s, ge⟩ : Feat) = g ∧ (0 : Int) = k) := Lib.hid (by
          have h := HR.out
          unfold oneR oneD at h
          rw [FM.out] at h
          dsimp only at h
          rw [if_neg (fun h => h HKD.out)] at h
          unfold transM at h
          rw [if_pos HCL.out] at h
          dsimp only at h
          rw [HS.out, FOK.out] at h
          dsimp only at h
          rw [if_pos (of_decide_eq_true V.out)] at h
          exact ⟨congrArg Prod.fst h, congrArg Prod.snd h⟩)
        go_wp2_with fail
        have c9 := cell_block (block_set (i := 8) (block_set (i := 7) (block_set (i := 6) (block_set (i := 5) (block_set (i := 4) (block_set (i := 3) (block_set (i := 2) (block_set (i := 1) (block_set (i := 0) R5.out (.int .i64 gi)) (.int .i64 gk)) (.int .i64 gx)) (.int .i64 gy)) (.int .i64 gr)) (.slice a2 n2 c2)) (.int .i64 gd)) (.int .i64 s)) (.slice b2 m2 d2))
        exact bodyPost_ret (v := .tuple #[featV ⟨gi, gk, gx, gy, gr, ga, gd, s, ge⟩ (.slice a2 n2 c2) (.slice b2 m2 d2), .int .i64 0]) (by simp [results, Tryz.results141, go_sem, c9]) rfl (feat_give hNO.out.1 hNO.out.2 (PartsSep.later (show PartsSep _ w8 ⟨gi, gk, gx, gy, gr, ga, gd, s, ge⟩ _ _ from PT8.out) (((((((((((KeepPS.refl _ _).trans (KeepPS.set (i := 0) hlo R5.out (by decide) (by decide) (.int .i64 gi))).trans (KeepPS.set (i := 1) hlo (block_set (i := 0) R5.out (.int .i64 gi)) (by decide) (by decide) (.int .i64 gk))).trans (KeepPS.set (i := 2) hlo (block_set (i := 1) (block_set (i := 0) R5.out (.int .i64 gi)) (.int .i64 gk)) (by decide) (by decide) (.int .i64 gx))).trans (KeepPS.set (i := 3) hlo (block_set (i := 2) (block_set (i := 1) (block_set (i := 0) R5.out (.int .i64 gi)) (.int .i64 gk)) (.int .i64 gx)) (by decide) (by decide) (.int .i64 gy))).trans (KeepPS.set (i := 4) hlo (block_set (i := 3) (block_set (i := 2) (block_set (i := 1) (block_set (i := 0) R5.out (.int .i64 gi)) (.int .i64 gk)) (.int .i64 gx)) (.int .i64 gy)) (by decide) (by decide) (.int .i64 gr))).trans (KeepPS.set (i := 5) hlo (block_set (i := 4) (block_set (i := 3) (block_set (i := 2) (block_set (i := 1) (block_set (i := 0) R5.out (.int .i64 gi)) (.int .i64 gk)) (.int .i64 gx)) (.int .i64 gy)) (.int .i64 gr)) (by decide) (by decide) (.slice a2 n2 c2))).trans (KeepPS.set (i := 6) hlo (block_set (i := 5) (block_set (i := 4) (block_set (i := 3) (block_set (i := 2) (block_set (i := 1) (block_set (i := 0) R5.out (.int .i64 gi)) (.int .i64 gk)) (.int .i64 gx)) (.int .i64 gy)) (.int .i64 gr)) (.slice a2 n2 c2)) (by decide) (by decide) (.int .i64 gd))).trans (KeepPS.set (i := 7) hlo (block_set (i := 6) (block_set (i := 5) (block_set (i := 4) (block_set (i := 3) (block_set (i := 2) (block_set (i := 1) (block_set (i := 0) R5.out (.int .i64 gi)) (.int .i64 gk)) (.int .i64 gx)) (.int .i64 gy)) (.int .i64 gr)) (.slice a2 n2 c2)) (.int .i64 gd)) (by decide) (by decide) (.int .i64 s))).trans (KeepPS.set (i := 8) hlo (block_set (i := 7) (block_set (i := 6) (block_set (i := 5) (block_set (i := 4) (block_set (i := 3) (block_set (i := 2) (block_set (i := 1) (block_set (i := 0) R5.out (.int .i64 gi)) (.int .i64 gk)) (.int .i64 gx)) (.int .i64 gy)) (.int .i64 gr)) (.slice a2 n2 c2)) (.int .i64 gd)) (.int .i64 s)) (by decide) (by decide) (.slice b2 m2 d2))))) (((((((((hBX.setCell (by dsimp only; omega) _).setCell (by dsimp only; omega) _).setCell (by dsimp only; omega) _).setCell (by dsimp only; omega) _).setCell (by dsimp only; omega) _).setCell (by dsimp only; omega) _).setCell (by dsimp only; omega) _).setCell (by dsimp only; omega) _).setCell (by dsimp only; omega) _))
end Go.Proofs.YtdmegkkifiahdaaGreat
/- The walks of package transport: Feature. -/
namespace Go.Proofs.YtdmegkkifiahdaaGreat
open Go.RowKit Go.Shelf
attribute [local go_sem] bqOp bqAll bqUpon sqOp sqAll sqUpon ssAll ssOp
attribute [local irreducible] wpQuiet wpBQ wpPlan wsPlan
set_option linter.unusedVariables false
def BooksOk (m : Dat) (a b : Bk) : Prop := DatOk m ∧ BkOk a ∧ BkOk b
instance (m : Dat) (a b : Bk) : Decidable (BooksOk m a b) := by unfold BooksOk; exact inferInstance
theorem trbooks_any (m : Dat) (a b : Bk) (va vb : Value) (w : World) (ha : MksAt w va a.marks) (hb : MksAt w vb b.marks) {v : Bool} (hv : decide (BooksOk m a b) = v) :
    Calls Tryz.prog 139 #[.agg #[.int .i64 m.a, .int .i64 m.b, .int .i64 m.c, .int .i64 m.d, .int .i64 m.e, .int .i64 m.f, .int .i64 m.r], bookV a va, bookV b vb] w fun e w' => e = .returned (.bool v) ∧ Below w.heap.size w w' := by
  obtain ⟨u1, hu1⟩ : ∃ v, decide (DatOk m) = v := ⟨_, rfl⟩
  obtain ⟨u2, hu2⟩ : ∃ v, decide (BkOk a) = v := ⟨_, rfl⟩
  obtain ⟨u3, hu3⟩ : ∃ v, decide (BkOk b) = v := ⟨_, rfl⟩
  have hd : (u1 && (u2 && u3)) = v := by
    rw [← hv, ← hu1, ← hu2, ← hu3, Bool.eq_iff_iff, Bool.and_eq_true, Bool.and_eq_true, decide_eq_true_eq, decide_eq_true_eq, decide_eq_true_eq]
    exact ⟨fun h => decide_eq_true h, fun h => of_decide_eq_true h⟩
  have U1 := Lib.hid hu1
  have U2 := Lib.hid hu2
  have U3 := Lib.hid hu3
  have HD := Lib.hid hd
  clear hv hu1 hu2 hu3 hd
  obtain ⟨aa1, ca1, rfl, ha1, _⟩ := Rows.form ha
  obtain ⟨ab1, cb1, rfl, hb1, _⟩ := Rows.form hb
  have HA := Lib.hid (show MksAt w (.slice aa1 a.marks.length ca1) a.marks from ha1)
  have HB := Lib.hid (show MksAt w (.slice ab1 b.marks.length cb1) b.marks from hb1)
  have BA : bookV a (.slice aa1 a.marks.length ca1) = .agg #[.int .i64 a.office, .slice aa1 a.marks.length ca1] := rfl
  have BB : bookV b (.slice ab1 b.marks.length cb1) = .agg #[.int .i64 b.office, .slice ab1 b.marks.length cb1] := rfl
  obtain ⟨fa, hfa⟩ : ∃ f, a.office = f := ⟨_, rfl⟩
  obtain ⟨fb, hfb⟩ : ∃ f, b.office = f := ⟨_, rfl⟩
  obtain ⟨la, hla⟩ : ∃ q, a.marks.length = q := ⟨_, rfl⟩
  obtain ⟨lb, hlb⟩ : ∃ q, b.marks.length = q := ⟨_, rfl⟩
  rw [BA, BB]
  rw [hla] at HA BA ⊢
  rw [hlb] at HB BB ⊢
  rw [hfa] at BA ⊢
  rw [hfb] at BB ⊢
  have BA := Lib.hid BA
  have BB := Lib.hid BB
  clear hfa hfb hla hlb ha hb ha1 hb1
  go_enter Tryz.func139, Tryz.ntmps139
  go_wp2_with fail
  refine calls_named fun W hW => ?_
  obtain ⟨p1, p2, p3, hB⟩ := box3 hW
  clear hW
  (with_reducible refine (dtValid_any m _ U1.out).mono ?_)
  rintro e w1 ⟨rfl, hb1⟩
  have c2 := cell_block (block_later hb1 p2)
  have P3 := Lib.hid (block_later hb1 p3)
  have hB1 := below_step hB hb1
  clear p1 p2 p3
  cases u1
  · go_wp2_with fail
    go_returns
    exact ⟨by rw [← HD.out]; rfl, hB1⟩
  go_wp2_with fail
  rw [← BA.out]
  (with_reducible refine (syValid_any a _ _ (HA.out.later hB1) U2.out).mono ?_)
  rintro e w2 ⟨rfl, hb2⟩
  have c3 := cell_block (block_later hb2 P3.out)
  have hB2 := below_step hB1 hb2
  clear c2
  cases u2
  · go_wp2_with fail
    go_returns
    exact ⟨by rw [← HD.out]; rfl, hB2⟩
  go_wp2_with fail
  rw [← BB.out]
  (with_reducible refine (syValid_any b _ _ (HB.out.later hB2) U3.out).mono ?_)
  rintro e w3 ⟨rfl, hb3⟩
  have hB3 := below_step hB2 hb3
  clear c3
  go_wp2_with fail
  go_returns
  exact ⟨by rw [← HD.out]; cases u3 <;> rfl, hB3⟩
/-- What Feature answers. -/
def featR (m : Dat) (a b : Bk) (f : Feat) : Feat × Int := if BooksOk m a b ∧ FeatOk f then oneR m a.marks b.marks f else (noFeat, 1)
set_option maxRecDepth 20000 in
set_option maxHeartbeats 4000000 in
theorem trFeature_any (m : Dat) (a b : Bk) (va vb : Value) (f : Feat) (aa : Option Addr) (na ca : Nat) (ab : Option Addr) (ns cs : Nat) (w : World) (ha : MksAt w va a.marks) (hb : MksAt w vb b.marks) (hp : PartsAt w f (.slice aa na ca) (.slice ab ns cs)) {g : Feat} {k : Int} (hr : featR m a b f = (g, k)) :
    Calls Tryz.prog 51 #[.agg #[.int .i64 m.a, .int .i64 m.b, .int .i64 m.c, .int .i64 m.d, .int .i64 m.e, .int .i64 m.f, .int .i64 m.r], bookV a va, bookV b vb, featV f (.slice aa na ca) (.slice ab ns cs)] w (FeatGive w.heap.size g k w) := by
  obtain ⟨u1, hu1⟩ : ∃ v, decide (BooksOk m a b) = v := ⟨_, rfl⟩
  obtain ⟨u2, hu2⟩ : ∃ v, decide (FeatOk f) = v := ⟨_, rfl⟩
  have U1 := Lib.hid hu1
  have U2 := Lib.hid hu2
  have HP := Lib.hid hp
  have HR := Lib.hid hr
  have NO : Hid (¬ (u1 = true ∧ u2 = true) → noFeat = g ∧ (1 : Int) = k) := Lib.hid (fun h => by
    unfold featR at hr
    rw [if_neg (fun q => h ⟨by rw [← hu1]; exact decide_eq_true q.1, by rw [← hu2]; exact decide_eq_true q.2⟩)] at hr
    exact ⟨congrArg Prod.fst hr, congrArg Prod.snd hr⟩)
  clear hp hr hu1 hu2
  obtain ⟨aa1, ca1, rfl, ha1, _⟩ := Rows.form ha
  obtain ⟨ab1, cb1, rfl, hb1, _⟩ := Rows.form hb
  have HA := Lib.hid (show MksAt w (.slice aa1 a.marks.length ca1) a.marks from ha1)
  have HB := Lib.hid (show MksAt w (.slice ab1 b.marks.length cb1) b.marks from hb1)
  have BA : bookV a (.slice aa1 a.marks.length ca1) = .agg #[.int .i64 a.office, .slice aa1 a.marks.length ca1] := rfl
  have BB : bookV b (.slice ab1 b.marks.length cb1) = .agg #[.int .i64 b.office, .slice ab1 b.marks.length cb1] := rfl
  obtain ⟨fa, hfa⟩ : ∃ f, a.office = f := ⟨_, rfl⟩
  obtain ⟨fb, hfb⟩ : ∃ f, b.office = f := ⟨_, rfl⟩
  obtain ⟨la, hla⟩ : ∃ q, a.marks.length = q := ⟨_, rfl⟩
  obtain ⟨lb, hlb⟩ : ∃ q, b.marks.length = q := ⟨_, rfl⟩
  rw [BA, BB]
  rw [hla] at HA BA ⊢
  rw [hlb] at HB BB ⊢
  rw [hfa] at BA ⊢
  rw [hfb] at BB ⊢
  have BA := Lib.hid BA
  have BB := Lib.hid BB
  clear hfa hfb hla hlb ha hb ha1 hb1
  go_enter Tryz.func51, Tryz.ntmps51
  go_wp2_with fail
  refine calls_named fun W hW => ?_
  obtain ⟨p1, p2, p3, p4, p5, hB⟩ := box5 hW
  clear hW
  simp only [Nat.add_assoc, Nat.reduceAdd] at p1 p2 p3 p4 p5 ⊢
  have P1 := Lib.hid p1
  have P2 := Lib.hid p2
  have P3 := Lib.hid p3
  have P4 := Lib.hid p4
  have P5 := Lib.hid p5
  have HBW := Lib.hid hB
  have hW5 := lt_block p5
  clear p1 p2 p3 p4 p5 hB
  rw [← BA.out, ← BB.out]
  (with_reducible refine (trbooks_any m a b _ _ _ (HA.out.later HBW.out) (HB.out.later HBW.out) U1.out).mono ?_)
  rintro e w1 ⟨rfl, hb1⟩
  have X1 := Lib.hid hb1
  clear hb1
  cases u1
  · have X1a := X1.out
    have r5 := block_later X1a P5.out
    have f5 := free_block r5
    have c5 := cell_block r5
    have R5 := Lib.hid r5
    clear r5
    have hBX := below_step HBW.out X1a
    have hNO := Lib.hid (NO.out (fun h => by cases h.1))
    go_wp2_with fail
    have c9 := cell_block (block_set (i := 8) (block_set (i := 7) (block_set (i := 6) (block_set (i := 5) (block_set (i := 4) (block_set (i := 3) (block_set (i := 2) (block_set (i := 1) (block_set (i := 0) R5.out (.int .i64 0)) (.int .i64 0)) (.int .i64 0)) (.int .i64 0)) (.int .i64 0)) (.slice none 0 0)) (.int .i64 0)) (.int .i64 0)) (.slice none 0 0))
    exact bodyPost_ret (v := .tuple #[featV noFeat (.slice none 0 0) (.slice none 0 0), .int .i64 1]) (by simp [results, Tryz.results51, go_sem, c9, noFeat]) rfl (feat_give hNO.out.1 hNO.out.2 (PartsSep.zero _ _) (((((((((hBX.setCell (by dsimp only; omega) _).setCell (by dsimp only; omega) _).setCell (by dsimp only; omega) _).setCell (by dsimp only; omega) _).setCell (by dsimp only; omega) _).setCell (by dsimp only; omega) _).setCell (by dsimp only; omega) _).setCell (by dsimp only; omega) _).setCell (by dsimp only; omega) _))
  have c4 := cell_block (block_later X1.out P4.out)
  obtain ⟨pt1, pt2⟩ : PtsAt w1 (.slice aa na ca) f.area ∧ SecsAt w1 (.slice ab ns cs) f.secs := HP.out.later (below_step HBW.out X1.out)
  go_wp2_with fail
  (with_reducible refine (ftValid_any f _ _ _ pt1 pt2 U2.out).mono ?_)
  rintro e w2 ⟨rfl, hb2⟩
  have X2 := Lib.hid (below_step X1.out hb2)
  clear hb2 c4 pt1 pt2
  cases u2
  · have X2a := X2.out
    have r5 := block_later X2a P5.out
    have f5 := free_block r5
    have c5 := cell_block r5
    have R5 := Lib.hid r5
    clear r5
    have hBX := below_step HBW.out X2a
    have hNO := Lib.hid (NO.out (fun h => by cases h.2))
    go_wp2_with fail
    have c9 := cell_block (block_set (i := 8) (block_set (i := 7) (block_set (i := 6) (block_set (i := 5) (block_set (i := 4) (block_set (i := 3) (block_set (i := 2) (block_set (i := 1) (block_set (i := 0) R5.out (.int .i64 0)) (.int .i64 0)) (.int .i64 0)) (.int .i64 0)) (.int .i64 0)) (.slice none 0 0)) (.int .i64 0)) (.int .i64 0)) (.slice none 0 0))
    exact bodyPost_ret (v := .tuple #[featV noFeat (.slice none 0 0) (.slice none 0 0), .int .i64 1]) (by simp [results, Tryz.results51, go_sem, c9, noFeat]) rfl (feat_give hNO.out.1 hNO.out.2 (PartsSep.zero _ _) (((((((((hBX.setCell (by dsimp only; omega) _).setCell (by dsimp only; omega) _).setCell (by dsimp only; omega) _).setCell (by dsimp only; omega) _).setCell (by dsimp only; omega) _).setCell (by dsimp only; omega) _).setCell (by dsimp only; omega) _).setCell (by dsimp only; omega) _).setCell (by dsimp only; omega) _))
  have hok := of_decide_eq_true U1.out
  have hfo := of_decide_eq_true U2.out
  have HOK : Hid (DatOk m ∧ BkOk a ∧ BkOk b) := Lib.hid hok
  have HFO := Lib.hid hfo
  have HR2 : Hid (oneR m a.marks b.marks f = (g, k)) := Lib.hid (by
    have h := HR.out
    unfold featR at h
    rwa [if_pos ⟨hok, hfo⟩] at h)
  clear hok hfo NO HR
  go_wp2_with fail
  obtain ⟨W2, rfl⟩ : ∃ W2 : World, W2 = w2 := ⟨_, rfl⟩
  have p1 := block_later X2.out P1.out
  have p2 := block_later X2.out P2.out
  have p3 := block_later X2.out P3.out
  have p4 := block_later X2.out P4.out
  have p5 := block_later X2.out P5.out
  have hsz5 := lt_block p5
  have B2 := Lib.hid (below_step HBW.out X2.out)
  have F1 : ∀ w', KeepB W2 w.heap.size [w.heap.size, w.heap.size + 1, w.heap.size + 2, w.heap.size + 3] w' → ∀ i, w'.cell? ⟨w.heap.size, i, none⟩ = #[.int .i64 m.a, .int .i64 m.b, .int .i64 m.c, .int .i64 m.d, .int .i64 m.e, .int .i64 m.f, .int .i64 m.r][i]? := fun w' hw i => cell_block (hw.at (by simp) p1) i
  have F2 : ∀ w', KeepB W2 w.heap.size [w.heap.size, w.heap.size + 1, w.heap.size + 2, w.heap.size + 3] w' → ∀ i, w'.cell? ⟨w.heap.size + 1, i, none⟩ = #[.int .i64 fa, .slice aa1 la ca1][i]? := fun w' hw i => cell_block (hw.at (by simp) p2) i
  have F3 : ∀ w', KeepB W2 w.heap.size [w.heap.size, w.heap.size + 1, w.heap.size + 2, w.heap.size + 3] w' → ∀ i, w'.cell? ⟨w.heap.size + 2, i, none⟩ = #[.int .i64 fb, .slice ab1 lb cb1][i]? := fun w' hw i => cell_block (hw.at (by simp) p3) i
  have F4 : ∀ w', KeepB W2 w.heap.size [w.heap.size, w.heap.size + 1, w.heap.size + 2, w.heap.size + 3] w' → ∀ i, w'.cell? ⟨w.heap.size + 3, i, none⟩ = #[.int .i64 f.id, .int .i64 f.kind, .int .i64 f.x, .int .i64 f.y, .int .i64 f.rad, .slice aa na ca, .int .i64 f.dep, .int .i64 f.sym, .slice ab ns cs][i]? := fun w' hw i => cell_block (hw.at (by simp) p4) i
  have HIN := Lib.hid (show ∀ b ∈ [w.heap.size, w.heap.size + 1, w.heap.size + 2, w.heap.size + 3], b < W2.heap.size from fun b hb => by
    simp only [List.mem_cons, List.not_mem_nil, or_false] at hb
    omega)
  have Q5 := Lib.hid p5
  clear p1 p2 p3 p4 p5
  refine wp_region_planS (KeepB W2 w.heap.size [w.heap.size, w.heap.size + 1, w.heap.size + 2, w.heap.size + 3]) (.take 0 (.take 1 (.take 1 (.take 1 (.only 0 (.only 0 (.take 0 (.take 0 (.only 0 (.take 0 .done)))))))))) (by kernel_rfl) (by kernel_rfl) KeepB.refl (fun hP => ?_)
  (refine wsPlan_take rfl (fun K hK => ?_); replace hK := Lib.hid hK; go_simp; first | (refine hK.out _ ?_; clear hK K) | (apply Exists.intro; refine ⟨fun w' hw => ?_, hK.out _ ?_⟩; (first | with_reducible exact rfl | (have f1 := F1 w' hw; have f2 := F2 w' hw; have f3 := F3 w' hw; have f4 := F4 w' hw; go_simp; exact rfl)); clear hK K))
  (refine wsPlan_take rfl (fun K hK => ?_); replace hK := Lib.hid hK; go_simp; first | (refine hK.out _ ?_; clear hK K) | (apply Exists.intro; refine ⟨fun w' hw => ?_, hK.out _ ?_⟩; (first | with_reducible exact rfl | (have f1 := F1 w' hw; have f2 := F2 w' hw; have f3 := F3 w' hw; have f4 := F4 w' hw; go_simp; exact rfl)); clear hK K))
  (refine wsPlan_take rfl (fun K hK => ?_); replace hK := Lib.hid hK; go_simp; first | (refine hK.out _ ?_; clear hK K) | (apply Exists.intro; refine ⟨fun w' hw => ?_, hK.out _ ?_⟩; (first | with_reducible exact rfl | (have f1 := F1 w' hw; have f2 := F2 w' hw; have f3 := F3 w' hw; have f4 := F4 w' hw; go_simp; exact rfl)); clear hK K))
  (refine wsPlan_take rfl (fun K hK => ?_); replace hK := Lib.hid hK; go_simp; first | (refine hK.out _ ?_; clear hK K) | (apply Exists.intro; refine ⟨fun w' hw => ?_, hK.out _ ?_⟩; (first | with_reducible exact rfl | (have f1 := F1 w' hw; have f2 := F2 w' hw; have f3 := F3 w' hw; have f4 := F4 w' hw; go_simp; exact rfl)); clear hK K))
  (refine wsPlan_only rfl (fun K hK => ?_); replace hK := Lib.hid hK; go_simp; go_at_call 140; (with_reducible refine (trcarry_any m _ HOK.out.1).mono ?_); rintro z w5 ⟨rfl, hb5⟩; have hP1 := hP.call hb5 B2.out.size HIN.out; have q5 := block_later hb5 (show W2.drew.heap[w.heap.size + 4]? = _ from Q5.out); refine hK.out _ _ hP1 (fun hP => ?_); clear hK K)
  have W5B := Lib.hid (B2.out.trans hP.1)
  (refine wsPlan_only rfl (fun K hK => ?_); replace hK := Lib.hid hK; go_simp; rw [← BA.out, ← BB.out]; go_at_call 141; (with_reducible refine (trone_any m a b _ _ f aa na ca ab ns cs w _ W5B.out HOK.out.1 (HA.out.later W5B.out) (HB.out.later W5B.out) HOK.out.2.1 HOK.out.2.2 HFO.out HP.out HR2.out).mono ?_); rintro z w6 ⟨a2, n2, c2, b2, m2, d2, rfl, hsep, hb6⟩; have SEP := Lib.hid hsep; have hP2 := hP.call hb6 B2.out.size HIN.out; have q6 := block_later hb6 q5; clear hsep; refine hK.out _ _ hP2 (fun hP => ?_); clear hK K)
  obtain ⟨g2, rfl⟩ : ∃ g2, g2 = g := ⟨_, rfl⟩
  have f6 := free_block q6
  have c6 := cell_block q6
  dsimp only [featV]
  (refine wsPlan_take rfl (fun K hK => ?_); replace hK := Lib.hid hK; go_simp; first | (refine hK.out _ ?_; clear hK K) | (apply Exists.intro; refine ⟨fun w' hw => ?_, hK.out _ ?_⟩; (first | with_reducible exact rfl | (go_simp; exact rfl)); clear hK K))
  (refine wsPlan_take rfl (fun K hK => ?_); replace hK := Lib.hid hK; go_simp; first | (refine hK.out _ ?_; clear hK K) | (apply Exists.intro; refine ⟨fun w' hw => ?_, hK.out _ ?_⟩; (first | with_reducible exact rfl | (go_simp; exact rfl)); clear hK K))
  (refine wsPlan_only rfl (fun K hK => ?_); replace hK := Lib.hid hK; go_simp; refine hK.out _ _ (by exact (((((((((hP.setCell (by omega) (by simp <;> omega) _).setCell (by omega) (by simp <;> omega) _).setCell (by omega) (by simp <;> omega) _).setCell (by omega) (by simp <;> omega) _).setCell (by omega) (by simp <;> omega) _).setCell (by omega) (by simp <;> omega) _).setCell (by omega) (by simp <;> omega) _).setCell (by omega) (by simp <;> omega) _).setCell (by omega) (by simp <;> omega) _)) (fun hP => ?_); clear hK K)
  (refine wsPlan_take rfl (fun K hK => ?_); replace hK := Lib.hid hK; go_simp; first | (refine hK.out _ ?_; clear hK K) | (apply Exists.intro; refine ⟨fun w' hw => ?_, hK.out _ ?_⟩; (first | with_reducible exact rfl | (go_simp; exact rfl)); clear hK K))
  refine wsPlan_done ?_
  have c9 := cell_block (block_set (i := 8) (block_set (i := 7) (block_set (i := 6) (block_set (i := 5) (block_set (i := 4) (block_set (i := 3) (block_set (i := 2) (block_set (i := 1) (block_set (i := 0) q6 (.int .i64 g2.id)) (.int .i64 g2.kind)) (.int .i64 g2.x)) (.int .i64 g2.y)) (.int .i64 g2.rad)) (.slice a2 n2 c2)) (.int .i64 g2.dep)) (.int .i64 g2.sym)) (.slice b2 m2 d2))
  have KSET := Lib.hid (show KeepPS w.heap.size w6 _ from ((((((((((KeepPS.refl _ _).trans (KeepPS.set (i := 0) (by omega) q6 (by decide) (by decide) (.int .i64 g2.id))).trans (KeepPS.set (i := 1) (by omega) (block_set (i := 0) q6 (.int .i64 g2.id)) (by decide) (by decide) (.int .i64 g2.kind))).trans (KeepPS.set (i := 2) (by omega) (block_set (i := 1) (block_set (i := 0) q6 (.int .i64 g2.id)) (.int .i64 g2.kind)) (by decide) (by decide) (.int .i64 g2.x))).trans (KeepPS.set (i := 3) (by omega) (block_set (i := 2) (block_set (i := 1) (block_set (i := 0) q6 (.int .i64 g2.id)) (.int .i64 g2.kind)) (.int .i64 g2.x)) (by decide) (by decide) (.int .i64 g2.y))).trans (KeepPS.set (i := 4) (by omega) (block_set (i := 3) (block_set (i := 2) (block_set (i := 1) (block_set (i := 0) q6 (.int .i64 g2.id)) (.int .i64 g2.kind)) (.int .i64 g2.x)) (.int .i64 g2.y)) (by decide) (by decide) (.int .i64 g2.rad))).trans (KeepPS.set (i := 5) (by omega) (block_set (i := 4) (block_set (i := 3) (block_set (i := 2) (block_set (i := 1) (block_set (i := 0) q6 (.int .i64 g2.id)) (.int .i64 g2.kind)) (.int .i64 g2.x)) (.int .i64 g2.y)) (.int .i64 g2.rad)) (by decide) (by decide) (.slice a2 n2 c2))).trans (KeepPS.set (i := 6) (by omega) (block_set (i := 5) (block_set (i := 4) (block_set (i := 3) (block_set (i := 2) (block_set (i := 1) (block_set (i := 0) q6 (.int .i64 g2.id)) (.int .i64 g2.kind)) (.int .i64 g2.x)) (.int .i64 g2.y)) (.int .i64 g2.rad)) (.slice a2 n2 c2)) (by decide) (by decide) (.int .i64 g2.dep))).trans (KeepPS.set (i := 7) (by omega) (block_set (i := 6) (block_set (i := 5) (block_set (i := 4) (block_set (i := 3) (block_set (i := 2) (block_set (i := 1) (block_set (i := 0) q6 (.int .i64 g2.id)) (.int .i64 g2.kind)) (.int .i64 g2.x)) (.int .i64 g2.y)) (.int .i64 g2.rad)) (.slice a2 n2 c2)) (.int .i64 g2.dep)) (by decide) (by decide) (.int .i64 g2.sym))).trans (KeepPS.set (i := 8) (by omega) (block_set (i := 7) (block_set (i := 6) (block_set (i := 5) (block_set (i := 4) (block_set (i := 3) (block_set (i := 2) (block_set (i := 1) (block_set (i := 0) q6 (.int .i64 g2.id)) (.int .i64 g2.kind)) (.int .i64 g2.x)) (.int .i64 g2.y)) (.int .i64 g2.rad)) (.slice a2 n2 c2)) (.int .i64 g2.dep)) (.int .i64 g2.sym)) (by decide) (by decide) (.slice b2 m2 d2))))
  clear F1 F2 F3 F4 f6 c6
  go_wp2_with fail
  exact bodyPost_ret (v := .tuple #[featV g2 (.slice a2 n2 c2) (.slice b2 m2 d2), .int .i64 k]) (by simp [results, Tryz.results51, go_sem, c9]) rfl (feat_give rfl rfl (SEP.out.later KSET.out) (B2.out.trans hP.1))
end Go.Proofs.YtdmegkkifiahdaaGreat
/- The walks of seamarkref20.Few and of the wrecks of chapter 20's laws. -/
namespace Go.Proofs.YtdmegkkifiahdaaGreat
open Go.RowKit Go.Shelf
attribute [local go_sem] bqOp bqAll bqUpon
attribute [local irreducible] wpQuiet wpBQ
set_option linter.unusedVariables false
def FewArea (f : Feat) : Prop := ¬ (8 < f.area.length ∧ f.area.length ≤ 24)
instance (f : Feat) : Decidable (FewArea f) := by unfold FewArea; exact inferInstance
/-- What Few says. -/
def FewT (l : List Feat) (ops : List Opn) : Prop := (l.length ≤ 10 ∧ ops.length ≤ 8) ∧ (∀ i, i < l.length → FewArea (l.getD i noFeat)) ∧ ∀ i, i < ops.length → FewArea (ops.getD i noOpn).feat
instance (l : List Feat) (ops : List Opn) : Decidable (FewT l ops) := by unfold FewT; exact inferInstance
set_option maxRecDepth 20000 in
set_option maxHeartbeats 4000000 in
theorem q20Few_any (l : List Feat) (ops : List Opn) (v1 v2 : Value) (w : World) (h1 : FeatsAt w v1 l) (h2 : OpsAt w v2 ops) {v : Bool} (hv : decide (FewT l ops) = v) :
    Calls Tryz.prog 50 #[v1, v2] w fun e w' => e = .returned (.bool v) ∧ Below w.heap.size w w' := by
  obtain ⟨ad, c, rfl, k1, hn, hnc⟩ := h1.form
  obtain ⟨ad', c', rfl, k2, hm, hmc⟩ := h2.form
  obtain ⟨n, hln⟩ : ∃ n, l.length = n := ⟨_, rfl⟩
  obtain ⟨m, hlm⟩ : ∃ m, ops.length = m := ⟨_, rfl⟩
  have HV : Hid (decide ((n ≤ 10 ∧ m ≤ 8) ∧ (∀ i, i < n → FewArea (l.getD i noFeat)) ∧ ∀ i, i < m → FewArea (ops.getD i noOpn).feat) = v) := Lib.hid (by
    subst hln hlm
    rw [← hv, decide_eq_decide]
    exact Iff.rfl)
  rw [hln] at k1 hn hnc
  rw [hlm] at k2 hm hmc
  rw [hln, hlm]
  have H1 := Lib.hid k1
  have H2 := Lib.hid k2
  clear hv h1 h2 hln hlm k1 k2
  rcases Nat.lt_or_ge 10 n with h | h
  · have e1 : (10 : Int) < n := by omega
    have HF : Hid (false = v) := Lib.hid (by rw [← HV.out, decide_eq_false (by omega)])
    go_enter Tryz.func50, Tryz.ntmps50
    go_wp2_with fail
    go_returns
    exact ⟨ret_bool HF.out, Below.refl _ _⟩
  rcases Nat.lt_or_ge 8 m with k | k
  · have e1 : ¬ (10 : Int) < n := by omega
    have e2 : (8 : Int) < m := by omega
    have HF : Hid (false = v) := Lib.hid (by rw [← HV.out, decide_eq_false (by omega)])
    go_enter Tryz.func50, Tryz.ntmps50
    go_wp2_with fail
    go_returns
    exact ⟨ret_bool HF.out, Below.refl _ _⟩
  have e1 : ¬ (10 : Int) < n := by omega
  have e2 : ¬ (8 : Int) < m := by omega
  go_enter Tryz.func50, Tryz.ntmps50
  go_wp2_with fail
  clear e1 e2
  go_loopw [5] (fun i wr => ∃ k : Nat, k ≤ n ∧ i = .int .i64 k ∧ wr = w ∧ ∀ j, j < k → FewArea (l.getD j noFeat)) (fun i _ => n - (Go.RowKit.intOf i).toNat)
  case atStart => exact ⟨0, by omega, rfl, rfl, fun j hj => by omega⟩
  case round =>
    obtain ⟨k, hk, rfl, rfl, hall⟩ := hrel
    have ALL := Lib.hid hall
    clear hall
    rcases Nat.lt_or_ge k n with hlt | hge
    · obtain ⟨g, o, va, vs, rfl, fc⟩ := H1.out.row hlt
      obtain ⟨f, hf⟩ : ∃ f, l.getD k noFeat = f := ⟨_, rfl⟩
      rw [hf] at fc
      have HF := Lib.hid hf
      have PA : PartsAt wr f va vs := ⟨fc.area, fc.secs⟩
      obtain ⟨aa, ca, ab, cb, rfl, rfl⟩ := PA.form
      have c5 := fc.c5
      obtain ⟨z, hz⟩ : ∃ z, f.area.length = z := ⟨_, rfl⟩
      have HZ := Lib.hid hz
      rw [hz] at c5
      clear fc PA hf hz
      rcases Nat.lt_or_ge 8 z with hz | hz
      · have d1 : (8 : Int) < z := by omega
        rcases Nat.lt_or_ge 24 z with hy | hy
        · have d2 : ¬ (z : Int) ≤ 24 := by omega
          have FA : Hid (FewArea f) := Lib.hid (fun q => by have := HZ.out; omega)
          go_wp2_with fail
          go_roundw
          case rel => exact ⟨k + 1, by omega, by go_num, trivial, fun j hj => by
            rcases Nat.lt_or_ge j k with hj' | hj'
            · exact ALL.out j hj'
            · obtain rfl : j = k := by omega
              rw [HF.out]
              exact FA.out⟩
          case measure => simp [Go.RowKit.intOf]; omega
        · have d2 : (z : Int) ≤ 24 := by omega
          have NF : Hid (false = v) := Lib.hid (by rw [← HV.out, decide_eq_false (fun q => by
            have := q.2.1 k hlt
            rw [HF.out] at this
            exact this ⟨by have := HZ.out; omega, by have := HZ.out; omega⟩)])
          go_wp2_with fail
          go_returns
          exact ⟨ret_bool NF.out, Below.refl _ _⟩
      · have d1 : ¬ (8 : Int) < z := by omega
        have FA : Hid (FewArea f) := Lib.hid (fun q => by have := HZ.out; omega)
        go_wp2_with fail
        go_roundw
        case rel => exact ⟨k + 1, by omega, by go_num, trivial, fun j hj => by
          rcases Nat.lt_or_ge j k with hj' | hj'
          · exact ALL.out j hj'
          · obtain rfl : j = k := by omega
            rw [HF.out]
            exact FA.out⟩
        case measure => simp [Go.RowKit.intOf]; omega
    obtain rfl : k = n := by omega
    go_wp2_with fail
    go_loopw [6] (fun i wr2 => ∃ k2 : Nat, k2 ≤ m ∧ i = .int .i64 k2 ∧ wr2 = wr ∧ ∀ j, j < k2 → FewArea (ops.getD j noOpn).feat) (fun i _ => m - (Go.RowKit.intOf i).toNat)
    case atStart => exact ⟨0, by omega, rfl, rfl, fun j hj => by omega⟩
    case round =>
      obtain ⟨q, hq, rfl, rfl, hall⟩ := hrel
      have ALO := Lib.hid hall
      clear hall
      rcases Nat.lt_or_ge q m with hlt | hge2
      · obtain ⟨g, o, va, vs, rfl, fc⟩ := H2.out.row hlt
        obtain ⟨f, hf⟩ : ∃ f, ops.getD q noOpn = f := ⟨_, rfl⟩
        rw [hf] at fc
        have HF := Lib.hid hf
        obtain ⟨aa, ca, ab, cb, rfl, rfl⟩ := fc.parts.form
        have c7 := fc.c7
        obtain ⟨z, hz⟩ : ∃ z, f.feat.area.length = z := ⟨_, rfl⟩
        have HZ := Lib.hid hz
        rw [hz] at c7
        clear fc hf hz
        rcases Nat.lt_or_ge 8 z with hz | hz
        · have d1 : (8 : Int) < z := by omega
          rcases Nat.lt_or_ge 24 z with hy | hy
          · have d2 : ¬ (z : Int) ≤ 24 := by omega
            have FA : Hid (FewArea f.feat) := Lib.hid (fun q => by have := HZ.out; omega)
            go_wp2_with fail
            go_roundw
            case rel => exact ⟨q + 1, by omega, by go_num, trivial, fun j hj => by
              rcases Nat.lt_or_ge j q with hj' | hj'
              · exact ALO.out j hj'
              · obtain rfl : j = q := by omega
                rw [HF.out]
                exact FA.out⟩
            case measure => simp [Go.RowKit.intOf]; omega
          · have d2 : (z : Int) ≤ 24 := by omega
            have NF : Hid (false = v) := Lib.hid (by rw [← HV.out, decide_eq_false (fun u => by
              have := u.2.2 q hlt
              rw [HF.out] at this
              exact this ⟨by have := HZ.out; omega, by have := HZ.out; omega⟩)])
            go_wp2_with fail
            go_returns
            exact ⟨ret_bool NF.out, Below.refl _ _⟩
        · have d1 : ¬ (8 : Int) < z := by omega
          have FA : Hid (FewArea f.feat) := Lib.hid (fun q => by have := HZ.out; omega)
          go_wp2_with fail
          go_roundw
          case rel => exact ⟨q + 1, by omega, by go_num, trivial, fun j hj => by
            rcases Nat.lt_or_ge j q with hj' | hj'
            · exact ALO.out j hj'
            · obtain rfl : j = q := by omega
              rw [HF.out]
              exact FA.out⟩
          case measure => simp [Go.RowKit.intOf]; omega
      obtain rfl : q = m := by omega
      have YES : Hid (true = v) := Lib.hid (by rw [← HV.out, decide_eq_true ⟨⟨h, by omega⟩, ALL.out, ALO.out⟩])
      go_wp2_with fail
      go_returns
      exact ⟨ret_bool YES.out, Below.refl _ _⟩
/-- The wreck of the laws' head. -/
def wreckF (x r s : Int) : Feat := ⟨1, 2, x, 2, r, [], 9, s, []⟩
theorem wreck_parts (w : World) (x r s : Int) : PartsAt w (wreckF x r s) (.slice none 0 0) (.slice none 0 0) := PartsAt.zero w
theorem l20wreck_any (x r s : Int) (w : World) : Calls Tryz.prog 134 #[.int .i64 x, .int .i64 r, .int .i64 s] w fun e w' => e = .returned (featV (wreckF x r s) (.slice none 0 0) (.slice none 0 0)) ∧ Below w.heap.size w w' := by
  go_enter Tryz.func134, Tryz.ntmps134
  go_wp2_with fail
  have hb := (Below.refl w.heap.size w).alloc (Nat.le_refl _) (.cells #[.int .i64 1, .int .i64 2, .int .i64 x, .int .i64 2, .int .i64 r, .slice none 0 0, .int .i64 9, .int .i64 s, .slice none 0 0] 32)
  have c9 := cell_block (block_new w (.cells #[.int .i64 1, .int .i64 2, .int .i64 x, .int .i64 2, .int .i64 r, .slice none 0 0, .int .i64 9, .int .i64 s, .slice none 0 0] 32))
  exact bodyPost_ret (v := featV (wreckF x r s) (.slice none 0 0) (.slice none 0 0)) (by simp [results, Tryz.results134, go_sem, c9, wreckF]) rfl ⟨rfl, hb⟩
end Go.Proofs.YtdmegkkifiahdaaGreat
/- The walk of transport's near. -/
namespace Go.Proofs.YtdmegkkifiahdaaGreat
open Go.RowKit Go.Shelf
attribute [local go_sem] bqOp bqAll bqUpon
attribute [local irreducible] wpQuiet wpBQ
attribute [local go_sem] Oper.semAt_some
attribute [local go_sem high] run_maxW run_minW run_max4W
set_option linter.unusedVariables false
/-- Whether all places to which a place may be carried are within d of q. -/
def nearV (m : Dat) (p q : Pt) (d : Int) : Bool × Bool := if BxOk (boxOf m p) then (decide (0 ≤ d) && (cornersB (boxOf m p)).all (fun c => liesB c.1 c.2 0 q.1 q.2 (max 0 d)), true) else (false, false)
theorem corn_mem (b : Bx) (i : Fin 4) : cornP b i.1 ∈ cornersB b := by
  rw [← corn_all]
  exact List.mem_map.2 ⟨i, List.mem_finRange _, rfl⟩
theorem two_set {W : World} {a b : Nat} {A B u v : Value} {T T' : TypeId} {m m' : Nat × Nat} (h1 : W.heap[a]? = some (.cells #[A] T m)) (h2 : W.heap[b]? = some (.cells #[B] T' m')) (hne : a ≠ b) : ((W.setCell ⟨a, 0, none⟩ u).setCell ⟨b, 0, none⟩ v).heap[a]? = some (.cells #[u] T m) ∧ ((W.setCell ⟨a, 0, none⟩ u).setCell ⟨b, 0, none⟩ v).heap[b]? = some (.cells #[v] T' m') :=
  ⟨block_far (a := ⟨b, 0, none⟩) (block_set (i := 0) h1 u) hne v, block_set (i := 0) (block_far (a := ⟨a, 0, none⟩) h2 hne.symm u) v⟩
set_option maxRecDepth 20000 in
set_option maxHeartbeats 4000000 in
theorem trnear_any (m : Dat) (x y qx qy d : Int) (w : World) (hm : DatOk m) (hp : Vld x y) (hq : Vld qx qy) (hd : -9000000000 ≤ d ∧ d ≤ 3000000) {u v : Bool} (hr : nearV m (x, y) (qx, qy) d = (u, v)) :
    Calls Tryz.prog 162 #[carV m, .agg #[.int .i64 x, .int .i64 y], .agg #[.int .i64 qx, .int .i64 qy], .int .i64 d] w fun e w' => e = .returned (.tuple #[.bool u, .bool v]) ∧ Below w.heap.size w w' := by
  have HM := Lib.hid hm
  have HP := Lib.hid hp
  have HQ := Lib.hid hq
  obtain ⟨⟨lx, hx, ly, hy⟩, k, hb⟩ : ∃ (b : Bx) (k : Int), carR (boxOf m (x, y)) = (b, k) := ⟨_, _, rfl⟩
  have HC := Lib.hid hb
  have HR := Lib.hid hr
  have HD := Lib.hid hd
  clear hm hp hq hr hd
  refine (callsIn_wide (n := 5)).1 ?_
  refine callsIn_of_wp_marks Tryz.func162 rfl trivial ?_ rfl
  simp only [Tryz.ntmps162, List.append_toArray, List.cons_append, List.nil_append, List.size_toArray, List.length_cons, List.length_nil, Nat.reduceAdd, Nat.reduceSub, Array.replicate_succ, Array.replicate_zero, List.push_toArray]
  gi_wp2
  generalize hW0 : (World.alloc _ _) = W
  obtain ⟨p1, p2, p3, p4, p5, p6, hB⟩ := box6 hW0.symm
  have hs : W.heap.size = w.heap.size + 6 := by subst hW0; simp
  clear hW0
  have P3 := Lib.hid p3
  have P4 := Lib.hid p4
  have P5 := Lib.hid p5
  have P6 := Lib.hid p6
  clear p1 p2 p3 p4 p5 p6
  refine ⟨trivial, ?_⟩
  refine (callsIn_wide.2 (dtApply_any m _ _ _ HM.out HP.out HC.out)).mono ?_
  rintro z w1 ⟨rfl, hb1⟩
  have hB1 := below_step hB hb1
  rcases carR_cases hb with ⟨h1, h2, h3⟩ | ⟨h1, h2, h3⟩
  case inr =>
    have HV : Hid (false = u ∧ false = v) := Lib.hid (by
      have h := HR.out
      unfold nearV at h
      rw [if_neg h1] at h
      exact ⟨congrArg Prod.fst h, congrArg Prod.snd h⟩)
    cases h2
    subst h3
    have R5 := Lib.hid (block_later hb1 P5.out)
    have R6 := Lib.hid (block_later hb1 P6.out)
    have f5 : ∀ o i, (w1.alloc o).frozen? ⟨w.heap.size + 4, i, none⟩ = false := fun o => free_block (block_alloc R5.out)
    have f6 : ∀ o i, (w1.alloc o).frozen? ⟨w.heap.size + 5, i, none⟩ = false := fun o => free_block (block_alloc R6.out)
    have c5 : ∀ o i, (w1.alloc o).cell? ⟨w.heap.size + 4, i, none⟩ = #[.bool false][i]? := fun o => cell_block (block_alloc R5.out)
    have c6 : ∀ o i, (w1.alloc o).cell? ⟨w.heap.size + 5, i, none⟩ = #[.bool false][i]? := fun o => cell_block (block_alloc R6.out)
    clear hb HR h1
    dsimp only [boxV]
    gi_wp2
    have hbl := (Below.refl w1.heap.size w1).alloc (Nat.le_refl _) (.cells #[.int .i64 0, .int .i64 0, .int .i64 0, .int .i64 0] 240)
    obtain ⟨h5, h6⟩ := two_set (u := .bool false) (v := .bool false) (block_later hbl R5.out) (block_later hbl R6.out) (by omega)
    have g5 := cell_block h5 0
    have g6 := cell_block h6 0
    refine ⟨.tuple #[.bool false, .bool false], ?_, by obtain ⟨rfl, rfl⟩ := HV.out; rfl, ((hB1.trans (hbl.mono (by have := hb1.size; omega))).setCell (p := ⟨w.heap.size + 4, 0, none⟩) (by simp) _).setCell (p := ⟨w.heap.size + 5, 0, none⟩) (by simp) _⟩
    simp [results, Tryz.results162, go_sem, g5, g6]
  · have HV : Hid ((decide (0 ≤ d) && (cornersB ⟨lx, hx, ly, hy⟩).all (fun c => liesB c.1 c.2 0 qx qy (max 0 d))) = u ∧ true = v) := Lib.hid (by
      have h := HR.out
      unfold nearV at h
      rw [if_pos h1, ← h2] at h
      exact ⟨congrArg Prod.fst h, congrArg Prod.snd h⟩)
    have HCV : Hid (∀ i : Fin 4, Vld (cornP ⟨lx, hx, ly, hy⟩ i.1).1 (cornP ⟨lx, hx, ly, hy⟩ i.1).2) := Lib.hid (fun i => corners_vld (by rw [h2]; exact h1) _ (corn_mem _ i))
    subst h3
    have R3 := Lib.hid (block_later hb1 P3.out)
    have R4 := Lib.hid (block_later hb1 P4.out)
    have R5 := Lib.hid (block_later hb1 P5.out)
    have R6 := Lib.hid (block_later hb1 P6.out)
    clear hb h1 h2 HR
    dsimp only [boxV]
    gi_wp2
    generalize hW1 : (World.alloc _ _) = W1
    obtain ⟨_, hB2⟩ := box1 hW1.symm
    clear hW1
    refine ⟨trivial, ?_⟩
    refine (callsIn_wide.2 (trcorners_any ⟨lx, hx, ly, hy⟩ _)).mono ?_
    rintro z W2 ⟨rfl, k1, hb2⟩
    have hs1 := hb1.size
    have hs2 := hB2.size
    have hs3 := hb2.size
    have hX2 := below_step hB2 hb2
    have HB := Lib.hid (below_step hB1 hX2)
    have hk1 := lt_block k1
    have q3 := block_later hX2 R3.out
    have q4 := block_later hX2 R4.out
    have q5 := block_later hX2 R5.out
    have q6 := block_later hX2 R6.out
    clear hX2
    gi_wp2
    refine wpIn_rangeFunc_round (F := Fence.wide) (n := 5) rfl (by omega) (gf := 341) (lb := #[.pointer (some ⟨W1.heap.size, 0, none⟩)]) rfl trivial (enters_of Tryz.func341 (by kernel_rfl) rfl)
      (trcorners1_stops ⟨lx, hx, ly, hy⟩ W1.heap.size w.heap.size 4 (by omega) W2 (by omega) hk1 k1)
      EdgeK.trans (edgeK_b (by omega) (by omega)) (Below.refl _ _) (fun _ => rfl)
      (fun pre W => (∀ i ∈ pre, liesB (cornP ⟨lx, hx, ly, hy⟩ i.1).1 (cornP ⟨lx, hx, ly, hy⟩ i.1).2 0 qx qy (max 0 d) = true) ∧ W.heap[w.heap.size + 2]? = some (.cells #[.int .i64 qx, .int .i64 qy] 28 (0, 0)) ∧ W.heap[w.heap.size + 3]? = some (.cells #[.int .i64 d] 3 (0, 0)) ∧ W.heap[w.heap.size + 4]? = some (.cells #[.bool false] 4 (0, 0)) ∧ W.heap[w.heap.size + 5]? = some (.cells #[.bool false] 4 (0, 0)) ∧ EdgeK w.heap.size W1.heap.size W2 W)
      (fun c pre W => (c = .ret ∧ false = u) ∧ W.heap[w.heap.size + 4]? = some (.cells #[.bool false] 4 (0, 0)) ∧ W.heap[w.heap.size + 5]? = some (.cells #[.bool true] 4 (0, 0)) ∧ EdgeK w.heap.size W1.heap.size W2 W)
      (OwnFrom.and (ownFrom_pure _ _) (OwnFrom.and blk_own (OwnFrom.and blk_own (OwnFrom.and blk_own (OwnFrom.and blk_own (edgeK_own (by omega) (by omega) (by omega) (by omega)))))))
      (fun c => OwnFrom.and (ownFrom_pure _ _) (OwnFrom.and blk_own (OwnFrom.and blk_own (edgeK_own (by omega) (by omega) (by omega) (by omega)))))
      ⟨fun i hi => by simp at hi, q3, q4, q5, q6, EdgeK.refl _ _ _⟩ ?round ?done ?stop
    case round =>
      rintro l1 pre i W3 ⟨hpre0, r3, r4, r5, r6, hK⟩
      have hsW := hK.below.size
      obtain ⟨⟨px, py⟩, hcx⟩ : ∃ y, cornP ⟨lx, hx, ly, hy⟩ i.1 = y := ⟨_, rfl⟩
      have HX := Lib.hid hcx
      have HVi := HCV.out i
      unfold encC
      rw [hcx] at HVi ⊢
      have VC := Lib.hid HVi
      clear hcx HVi
      dsimp only
      gi_wp2
      have hbl := (Below.refl W3.heap.size W3).alloc (Nat.le_refl _) (.cells #[.int .i64 px, .int .i64 py] 28)
      have hek := EdgeK.of_below (n₀ := w.heap.size) (Bn := W1.heap.size) hbl (by omega) (by omega)
      refine ⟨(KeepsOthers.alloc _ _).from _, hek, ⟨hpre0, block_later hbl r3, block_later hbl r4, block_later hbl r5, block_later hbl r6, hK.trans hek⟩, ?_⟩
      clear hpre0 r3 r4 r5 r6 hK
      rintro l2 pre2 W4 hT hl2 rr hr2 hpre r3 r4 r5 r6 hK2 hlen
      have hbx := hT.cs (block_new W3 (.cells #[.int .i64 px, .int .i64 py] 28))
      have x0 := cell_block hbx
      have s3 := cell_block r3
      have s4 := cell_block r4
      have R3 := Lib.hid r3
      have R4 := Lib.hid r4
      have R5 := Lib.hid r5
      have R6 := Lib.hid r6
      have K2 := Lib.hid hK2
      have PRE := Lib.hid hpre
      have hs4 := hK2.below.size
      have HS := Lib.hid (And.intro hs4 (lt_block r6))
      clear r3 r4 r5 r6 hK2 hpre hT hbx hbl hek
      obtain ⟨t, ht⟩ : ∃ t, liesB px py 0 qx qy (max 0 d) = t := ⟨_, rfl⟩
      have HT := Lib.hid ht
      have hmd : 0 ≤ max 0 d ∧ max 0 d ≤ 3000000 := by have := HD.out; omega
      have MD := Lib.hid hmd
      clear ht hmd
      gi_wp2
      refine ⟨trivial, ?_⟩
      refine (CallsIn.inRound l2 (callsIn_wide.2 (Lies_yes px py 0 qx qy (max 0 d) _ VC.out HQ.out ⟨by omega, by omega⟩ MD.out HT.out))).mono ?_
      rintro z w5 ⟨he5, hb5⟩
      subst he5
      have u5 := block_later hb5 R5.out
      have u6 := block_later hb5 R6.out
      have z0 := cell_block u5
      have z1 := free_block u5
      have y0 := cell_block u6
      have y1 := free_block u6
      have U5 := Lib.hid u5
      have U6 := Lib.hid u6
      have hs5 := hb5.size
      have K5 := Lib.hid (K2.out.trans (EdgeK.of_below hb5 (by omega) (by omega)))
      have E5 := Lib.hid (EdgeK.of_below (n₀ := w.heap.size) (Bn := W1.heap.size) hb5 (by omega) (by omega))
      have HB5 := Lib.hid hb5
      clear u5 u6 hb5 x0 s3 s4
      cases t
      · have UF : Hid (false = u) := Lib.hid (by
          rw [← HV.out.1, List.all_eq_false.2 ⟨_, corn_mem ⟨lx, hx, ly, hy⟩ i, by rw [HX.out, HT.out]; decide⟩, Bool.and_false])
        gi_wp2
        obtain ⟨h5, h6⟩ := two_set (u := .bool false) (v := .bool true) U5.out U6.out (by omega)
        have E6 := (EdgeK.set (n₀ := w.heap.size) (Bn := W1.heap.size) (b := w.heap.size + 4) w5 0 (.bool false) (by omega) (by omega)).trans (EdgeK.set (b := w.heap.size + 5) _ 0 (.bool true) (by omega) (by omega))
        exact ⟨((keeps_below HB5.out).trans ((KeepsOthers.setCell _ _ _).from _)).trans ((KeepsOthers.setCell _ _ _).from _), ⟨rfl, UF.out.symm⟩, h5, h6, K5.out.trans E6⟩
      · gi_wp2
        exact ⟨keeps_below HB5.out, E5.out, fun j hj => by
          rcases List.mem_append.1 hj with h | h
          · exact PRE.out j h
          · obtain rfl : j = i := by simpa using h
            rw [HX.out]
            exact HT.out, block_later HB5.out R3.out, block_later HB5.out R4.out, U5.out, U6.out, K5.out⟩
    case done =>
      rintro D xs W3 hD rfl ⟨hpre, r3, r4, r5, r6, hK⟩ hdef
      have UV : Hid (decide (0 ≤ d) = u) := Lib.hid (by
        rw [← HV.out.1, List.all_eq_true.2 (fun c hc => by
          rw [← corn_all] at hc
          obtain ⟨i, _, rfl⟩ := List.mem_map.1 hc
          exact hpre i (List.mem_finRange _)), Bool.and_true])
      have s4 := cell_block r4
      have s5 := cell_block r5
      have f5 := free_block r5
      have s6 := cell_block r6
      have f6 := free_block r6
      have HDF := Lib.hid hdef
      have R5 := Lib.hid r5
      have R6 := Lib.hid r6
      have K := Lib.hid hK
      clear r3 r4 r5 r6 hK hdef hpre
      gi_wp2
      obtain ⟨h5, h6⟩ := two_set (u := .bool (decide (0 ≤ d))) (v := .bool true) R5.out R6.out (by omega)
      have hdf := block_far (a := ⟨w.heap.size + 5, 0, none⟩) (block_far (a := ⟨w.heap.size + 4, 0, none⟩) HDF.out (show D ≠ w.heap.size + 4 by omega) (.bool (decide (0 ≤ d)))) (show D ≠ w.heap.size + 5 by omega) (.bool true)
      refine ⟨by simp, .inl ⟨_, _, rfl, run_takeDeferred hdf, ?_⟩⟩
      have hc5 := cell_block ((World.putObj_heap_other (r := D) (show w.heap.size + 4 ≠ D by omega) (o := .deferred none)).trans h5) 0
      have hc6 := cell_block ((World.putObj_heap_other (r := D) (show w.heap.size + 5 ≠ D by omega) (o := .deferred none)).trans h6) 0
      refine ⟨.tuple #[.bool (decide (0 ≤ d)), .bool true], ?_, by obtain ⟨_, rfl⟩ := HV.out; rw [UV.out], HB.out.trans (K.out.below.trans ((((Below.refl w.heap.size W3).setCell (p := ⟨w.heap.size + 4, 0, none⟩) (by simp) _).setCell (p := ⟨w.heap.size + 5, 0, none⟩) (by simp) _).trans (belowK_b (w := w) (Nat.le_refl _) _ D _ _ (by omega) hdf rfl rfl)))⟩
      simp [results, Tryz.results162, go_sem, hc5, hc6]
    case stop =>
      rintro D c pre W3 hD hpre ⟨⟨rfl, hu⟩, r5, r6, hK⟩ hdef
      have HDF := Lib.hid hdef
      gi_wp2
      refine ⟨by simp, .inl ⟨_, _, rfl, run_takeDeferred HDF.out, ?_⟩⟩
      have hc5 := cell_block ((World.putObj_heap_other (w := W3) (r := D) (show w.heap.size + 4 ≠ D by omega) (o := .deferred none)).trans r5) 0
      have hc6 := cell_block ((World.putObj_heap_other (w := W3) (r := D) (show w.heap.size + 5 ≠ D by omega) (o := .deferred none)).trans r6) 0
      refine ⟨.tuple #[.bool false, .bool true], ?_, by obtain ⟨_, rfl⟩ := HV.out; rw [← hu], HB.out.trans (hK.below.trans (belowK_b (w := W2) (by omega) W3 D _ _ (by omega) HDF.out rfl rfl))⟩
      simp [results, Tryz.results162, go_sem, hc5, hc6]
end Go.Proofs.YtdmegkkifiahdaaGreat
/- Plain facts for the head of chapter 20's laws. -/
namespace Go.Proofs.YtdmegkkifiahdaaGreat
open Go.RowKit Go.Shelf
set_option linter.unusedVariables false
theorem dHi_val {n r : Int} (h0 : 0 ≤ n) (h1 : 1 ≤ r) (h2 : n ≤ r * r) (h3 : (r - 1) * (r - 1) < n) : dHi n = r := by
  have a := (dHi_iff h0 (by omega)).1 h2
  have b := mt (dHi_iff h0 (show 0 ≤ r - 1 by omega)).2 (by omega)
  omega
def hdA : Dat := ⟨1000000, 0, 10, 0, 1000000, 0, 3⟩
def hdB : Dat := ⟨0, -1000000, 0, 1000000, 0, 0, 0⟩
def hdK : Bk := ⟨1, [⟨6, 2, 2⟩, ⟨7, 4, 2⟩]⟩
def hdL : Feat := ⟨2, 4, 5, 0, 0, [], 0, 7, [⟨1, 0, 0, 1, 1, 50⟩]⟩
def hdM : Feat := ⟨2, 4, 0, 5, 0, [], 0, 7, [⟨0, 1, -1, 0, 1, 50⟩]⟩
theorem hdA_s : stretchD hdA = 1000000 := dHi_val (by decide) (by decide) (by decide) (by decide)
theorem hdB_s : stretchD hdB = 1000000 := dHi_val (by decide) (by decide) (by decide) (by decide)
theorem hdA_k : slackD hdA = 5 := dHi_val (by decide) (by decide) (by decide) (by decide)
theorem hdB_k : slackD hdB = 0 := by decide
theorem hdA_ok : DatOk hdA := by decide
theorem hdB_ok : DatOk hdB := by decide
theorem hdK_ok : BkOk hdK := by decide
theorem wk1 : FeatOk (wreckF 1 3 6) := by decide
theorem wk2 : FeatOk (wreckF 11 8 6) := by decide
theorem wk3 : FeatOk (wreckF 1 3 8) := by decide
theorem wk4 : FeatOk (wreckF 1 3 7) := by decide
theorem wk5 : FeatOk (wreckF 11 7 6) := by decide
theorem oneR_of {m : Dat} {A B : List Mk} {f g : Feat} {x t : Mk} (h1 : findM A f.sym = some x) (h2 : x.kind = f.kind) (h3 : transM B x = some t) (h4 : carryF m f t.sym = some g) (h5 : FeatOk g) : oneR m A B f = (g, 0) := by
  have h : oneD m A B f = .ok g := by
    unfold oneD
    rw [h1]
    dsimp only
    rw [if_neg (fun e => e h2), h3]
    dsimp only
    rw [h4]
    dsimp only
    rw [if_pos h5]
  unfold oneR
  rw [h]
theorem one_11 {m : Dat} {A B : List Mk} {f : Feat} (h1 : findM A f.sym = none) : oneR m A B f = (noFeat, 11) := by
  unfold oneR oneD
  rw [h1]
theorem one_12 {m : Dat} {A B : List Mk} {f : Feat} {x : Mk} (h1 : findM A f.sym = some x) (h2 : x.kind ≠ f.kind) : oneR m A B f = (noFeat, 12) := by
  unfold oneR oneD
  rw [h1]
  dsimp only
  rw [if_pos h2]
theorem feat_of {m : Dat} {a b : Bk} {f : Feat} {r : Feat × Int} (h1 : BooksOk m a b) (h2 : FeatOk f) (h3 : oneR m a.marks b.marks f = r) : featR m a b f = r := by
  unfold featR
  rw [if_pos ⟨h1, h2⟩, h3]
theorem hdL_ok : FeatOk hdL := by decide
theorem hdM_ok : FeatOk hdM := by decide
theorem hd_car : carryF hdA (wreckF 1 3 6) 6 = some (wreckF 11 8 6) := by
  unfold carryF
  rw [if_neg (by decide), if_neg (by decide), if_neg (by decide)]
  unfold grownD
  rw [hdA_s, hdA_k]
  rfl
theorem hd_carL : carryF hdB hdL 7 = some hdM := by
  unfold carryF
  rw [if_neg (by decide), if_neg (by decide), if_pos (by decide)]
  have h : secsD hdB hdL.secs = some hdM.secs := by
    unfold hdL secsD secsD rangeD shrinkD
    rw [hdB_s, hdB_k]
    decide
  rw [h]
  rfl
theorem hd1 : featR hdA hdK hdK (wreckF 1 3 6) = (wreckF 11 8 6, 0) := feat_of ⟨hdA_ok, hdK_ok, hdK_ok⟩ wk1 (oneR_of (x := ⟨6, 2, 2⟩) (t := ⟨6, 2, 2⟩) (by decide) (by decide) (by decide) hd_car wk2)
theorem hd2 : featR hdB hdK hdK hdL = (hdM, 0) := feat_of ⟨hdB_ok, hdK_ok, hdK_ok⟩ hdL_ok (oneR_of (x := ⟨7, 4, 2⟩) (t := ⟨7, 4, 2⟩) (by decide) (by decide) (by decide) hd_carL hdM_ok)
theorem hd3 : featR hdA hdK hdK (wreckF 1 3 8) = (noFeat, 11) := feat_of ⟨hdA_ok, hdK_ok, hdK_ok⟩ wk3 (one_11 (by decide))
theorem hd4 : featR hdA hdK hdK (wreckF 1 3 7) = (noFeat, 12) := feat_of ⟨hdA_ok, hdK_ok, hdK_ok⟩ wk4 (one_12 (x := ⟨7, 4, 2⟩) (by decide) (by decide))
theorem hd5 : nearV hdA (1, 2) (11, 2) (8 - 3) = (true, true) := by decide
theorem hd6 : nearV hdA (1, 2) (11, 2) (7 - 3) = (false, true) := by decide
theorem hd_grown : grownD hdA 3 = 3 := by
  unfold grownD
  rw [hdA_s]
  rfl
end Go.Proofs.YtdmegkkifiahdaaGreat
/- The walk of transport.Stands at discs. -/
namespace Go.Proofs.YtdmegkkifiahdaaGreat
open Go.RowKit Go.Shelf
attribute [local go_sem] bqOp bqAll bqUpon sqOp sqAll sqUpon ssAll ssOp
attribute [local irreducible] wpQuiet wpBQ wpPlan wsPlan
set_option linter.unusedVariables false
theorem disc_in {f : Feat} (h : FeatOk f) (h3 : ¬ (f.kind = 3 ∨ f.kind = 6)) (h4 : ¬ f.kind = 4) : Vld f.x f.y ∧ 0 ≤ f.rad ∧ f.rad ≤ 100000 := by
  obtain ⟨⟨_, _, _, h0, h1⟩, hk⟩ := h
  unfold FormR at hk
  split at hk
  · exact ⟨hk.1, h0, h1⟩
  · split at hk
    · omega
    · omega
theorem ret_boolz {a c : Bool} (h1 : a = c) : Ending.returned (.tuple #[.bool a, .int .i64 0]) = Ending.returned (.tuple #[.bool c, .int .i64 0]) := by rw [h1]
set_option maxRecDepth 20000 in
set_option maxHeartbeats 4000000 in
theorem trStands_disc (m : Dat) (f g : Feat) (aa : Option Addr) (na ca : Nat) (ab : Option Addr) (ns cs : Nat) (ba : Option Addr) (nb cb : Nat) (bb : Option Addr) (nt ct : Nat) (w : World)
    (hp : PartsAt w f (.slice aa na ca) (.slice ab ns cs)) (hq : PartsAt w g (.slice ba nb cb) (.slice bb nt ct)) (hm : DatOk m) (hf : FeatOk f) (hg : FeatOk g) (hk : f.kind = g.kind) (h3 : ¬ (f.kind = 3 ∨ f.kind = 6)) (h4 : ¬ f.kind = 4)
    {u v : Bool} (hn : nearV m (f.x, f.y) (g.x, g.y) (g.rad - grownD m f.rad) = (u, true)) (hv : (u && decide (g.dep ≤ f.dep)) = v) :
    Calls Tryz.prog 57 #[.agg #[.int .i64 m.a, .int .i64 m.b, .int .i64 m.c, .int .i64 m.d, .int .i64 m.e, .int .i64 m.f, .int .i64 m.r], featV f (.slice aa na ca) (.slice ab ns cs), featV g (.slice ba nb cb) (.slice bb nt ct)] w fun e w' => e = .returned (.tuple #[.bool v, .int .i64 0]) ∧ Below w.heap.size w w' := by
  have HP := Lib.hid hp
  have HQ := Lib.hid hq
  have HM := Lib.hid hm
  have HF := Lib.hid hf
  have HG := Lib.hid hg
  have HN := Lib.hid hn
  have HV := Lib.hid hv
  have SH : Hid (shapeT f (.slice aa na ca) (.slice ab ns cs) = .iface 205 (.agg #[.int .i64 f.x, .int .i64 f.y, .int .i64 f.rad])) := Lib.hid (by unfold shapeT; rw [if_neg h3, if_neg h4])
  obtain ⟨d1, d2, d3⟩ := disc_in hf h3 h4
  obtain ⟨e1, e2, e3⟩ := disc_in hg (by rw [← hk]; exact h3) (by rw [← hk]; exact h4)
  obtain ⟨_, _, g3, g4⟩ := grown_bd hm d2 d3
  obtain ⟨gr, hgr⟩ : ∃ t, grownD m f.rad = t := ⟨_, rfl⟩
  rw [hgr] at g3 g4
  have GR := Lib.hid hgr
  have DD := Lib.hid (And.intro d1 (And.intro d2 d3))
  have EE := Lib.hid e1
  have NB : Hid (-9000000000 ≤ g.rad - gr ∧ g.rad - gr ≤ 3000000) := Lib.hid (by omega)
  have NR : Hid (nearV m (f.x, f.y) (g.x, g.y) (g.rad - gr) = (u, true)) := Lib.hid (by rw [← hgr]; exact hn)
  have j1 : IntKind.i64.wrap (g.rad - gr) = g.rad - gr := IntWalk.i64_in _ (by omega)
  have kk : (f.kind == g.kind) = true := by simpa using hk
  have kk2 : (f.kind != g.kind) = false := by simpa using hk
  have KK := Lib.hid (And.intro kk kk2)
  clear kk kk2 hp hq hm hf hg hn hv h3 h4 d1 d2 d3 e1 e2 e3 g3 g4 hgr hk
  go_enter Tryz.func57, Tryz.ntmps57
  go_wp2_with fail
  refine calls_named fun W hW => ?_
  obtain ⟨p1, p2, p3, hB⟩ := box3 hW
  clear hW
  simp only [Nat.add_assoc, Nat.reduceAdd] at p1 p2 p3 ⊢
  have P1 := Lib.hid p1
  have P2 := Lib.hid p2
  have P3 := Lib.hid p3
  have HB := Lib.hid hB
  clear p1 p2 p3
  (with_reducible refine (dtValid_any m _ (decide_eq_true HM.out)).mono ?_)
  rintro z w1 ⟨rfl, hb1⟩
  obtain ⟨pt1, pt2⟩ : PtsAt w1 (.slice aa na ca) f.area ∧ SecsAt w1 (.slice ab ns cs) f.secs := HP.out.later (below_step HB.out hb1)
  have c2 := cell_block (block_later hb1 P2.out)
  go_wp2_with fail
  (with_reducible refine (ftValid_any f _ _ _ pt1 pt2 (decide_eq_true HF.out)).mono ?_)
  rintro z w2 ⟨rfl, hb2⟩
  have hX2 := below_step hb1 hb2
  clear pt1 pt2 c2
  obtain ⟨pt1, pt2⟩ : PtsAt w2 (.slice ba nb cb) g.area ∧ SecsAt w2 (.slice bb nt ct) g.secs := HQ.out.later (below_step HB.out hX2)
  have c3 := cell_block (block_later hX2 P3.out)
  go_wp2_with fail
  (with_reducible refine (ftValid_any g _ _ _ pt1 pt2 (decide_eq_true HG.out)).mono ?_)
  rintro z w2b ⟨rfl, hb2b⟩
  have hX3 := below_step hX2 hb2b
  clear pt1 pt2 c3
  have c1 := cell_block (block_later hX3 P1.out)
  have c2 := cell_block (block_later hX3 P2.out)
  have c3 := cell_block (block_later hX3 P3.out)
  have k1 := KK.out.1
  have k2 := KK.out.2
  go_wp2_with fail
  (with_reducible refine (trcarry_any m _ HM.out).mono ?_)
  rintro z w3 ⟨rfl, hb3⟩
  have hX4 := below_step hX3 hb3
  clear c1 c2 c3 k1 k2
  have c2 : ∀ o i, (w3.alloc o).cell? ⟨w.heap.size + 1, i, none⟩ = _ := fun o => cell_block (block_alloc (block_later hX4 P2.out))
  go_wp2_with fail
  refine calls_named fun W3 hW3 => ?_
  obtain ⟨p4, hb4⟩ := box1 hW3
  clear hW3 c2
  have hX5 := below_step hX4 hb4
  (with_reducible refine (trof_any f _ _ _ _ _ _ _).mono ?_)
  rintro z w5 ⟨rfl, hb5⟩
  have hX6 := below_step hX5 hb5
  rw [SH.out]
  go_wp2_with (rw [asT_dd])
  refine wp_named fun W4 hW4 => ?_
  obtain ⟨p5, hb6⟩ := box1 hW4
  clear hW4
  have hX7 := below_step hX6 hb6
  have p2 := block_later hX7 P2.out
  have p3 := block_later hX7 P3.out
  have q4 := block_later (below_step hb5 hb6) p4
  have hsz4 := lt_block q4
  have hsz5 := lt_block p5
  have hsz3 := lt_block p3
  have hs4 := hX4.size
  have hs5 := hX6.size
  have hsW := lt_block P3.out
  have HB7 := Lib.hid (below_step HB.out hX7)
  have P2 := Lib.hid p2
  have P3 := Lib.hid p3
  have F1 : ∀ w', (KeepB W4 w.heap.size [w.heap.size + 1, w.heap.size + 2, w3.heap.size, w5.heap.size]) w' → ∀ i, w'.cell? ⟨w.heap.size + 1, i, none⟩ = #[.int .i64 f.id, .int .i64 f.kind, .int .i64 f.x, .int .i64 f.y, .int .i64 f.rad, .slice aa na ca, .int .i64 f.dep, .int .i64 f.sym, .slice ab ns cs][i]? := fun w' hw i => cell_block (hw.at (by simp) p2) i
  have F2 : ∀ w', (KeepB W4 w.heap.size [w.heap.size + 1, w.heap.size + 2, w3.heap.size, w5.heap.size]) w' → ∀ i, w'.cell? ⟨w.heap.size + 2, i, none⟩ = #[.int .i64 g.id, .int .i64 g.kind, .int .i64 g.x, .int .i64 g.y, .int .i64 g.rad, .slice ba nb cb, .int .i64 g.dep, .int .i64 g.sym, .slice bb nt ct][i]? := fun w' hw i => cell_block (hw.at (by simp) p3) i
  have F3 : ∀ w', (KeepB W4 w.heap.size [w.heap.size + 1, w.heap.size + 2, w3.heap.size, w5.heap.size]) w' → ∀ i, w'.cell? ⟨w3.heap.size, i, none⟩ = #[.int .i64 m.a, .int .i64 m.b, .int .i64 m.c, .int .i64 m.d, .int .i64 m.e, .int .i64 m.f, .int .i64 m.r, .int .i64 (stretchD m), .int .i64 (shrinkD m), .int .i64 (slackD m)][i]? := fun w' hw i => cell_block (hw.at (by simp) q4) i
  have F4 : ∀ w', (KeepB W4 w.heap.size [w.heap.size + 1, w.heap.size + 2, w3.heap.size, w5.heap.size]) w' → ∀ i, w'.cell? ⟨w5.heap.size, i, none⟩ = #[.int .i64 f.x, .int .i64 f.y, .int .i64 f.rad][i]? := fun w' hw i => cell_block (hw.at (by simp) p5) i
  have HIN := Lib.hid (show ∀ b ∈ [w.heap.size + 1, w.heap.size + 2, w3.heap.size, w5.heap.size], b < W4.heap.size from fun b hb => by
    simp only [List.mem_cons, List.not_mem_nil, or_false] at hb
    omega)
  clear p2 p3 q4 p4 p5 hsz4 hsz5 hsz3 hs4 hs5 hsW hX7 hX6 hX5 hX4 hX3 hX2 hb1 hb2 hb2b hb3 hb4 hb5 hb6 hB
  refine wp_region_planS (KeepB W4 w.heap.size [w.heap.size + 1, w.heap.size + 2, w3.heap.size, w5.heap.size]) (.take 0 (.take 0 (.take 0 (.take 0 (.take 0 (.take 0 (.take 0 (.take 0 (.take 0 (.take 0 (.only 0 (.take 0 (.only 0 (.take 0 (.take 0 (.take 0 (.take 0 (.take 0 .done)))))))))))))))))) (by kernel_rfl) (by kernel_rfl) KeepB.refl (fun hP => ?_)
  (refine wsPlan_take rfl (fun K hK => ?_); replace hK := Lib.hid hK; go_simp; first | (refine hK.out _ ?_; clear hK K) | (apply Exists.intro; refine ⟨fun w' hw => ?_, hK.out _ ?_⟩; (first | with_reducible exact rfl | (have f1 := F1 w' hw; have f2 := F2 w' hw; have f3 := F3 w' hw; have f4 := F4 w' hw; go_simp; exact rfl)); clear hK K))
  (refine wsPlan_take rfl (fun K hK => ?_); replace hK := Lib.hid hK; go_simp; first | (refine hK.out _ ?_; clear hK K) | (apply Exists.intro; refine ⟨fun w' hw => ?_, hK.out _ ?_⟩; (first | with_reducible exact rfl | (have f1 := F1 w' hw; have f2 := F2 w' hw; have f3 := F3 w' hw; have f4 := F4 w' hw; go_simp; exact rfl)); clear hK K))
  (refine wsPlan_take rfl (fun K hK => ?_); replace hK := Lib.hid hK; go_simp; first | (refine hK.out _ ?_; clear hK K) | (apply Exists.intro; refine ⟨fun w' hw => ?_, hK.out _ ?_⟩; (first | with_reducible exact rfl | (have f1 := F1 w' hw; have f2 := F2 w' hw; have f3 := F3 w' hw; have f4 := F4 w' hw; go_simp; exact rfl)); clear hK K))
  (refine wsPlan_take rfl (fun K hK => ?_); replace hK := Lib.hid hK; go_simp; first | (refine hK.out _ ?_; clear hK K) | (apply Exists.intro; refine ⟨fun w' hw => ?_, hK.out _ ?_⟩; (first | with_reducible exact rfl | (have f1 := F1 w' hw; have f2 := F2 w' hw; have f3 := F3 w' hw; have f4 := F4 w' hw; go_simp; exact rfl)); clear hK K))
  (refine wsPlan_take rfl (fun K hK => ?_); replace hK := Lib.hid hK; go_simp; first | (refine hK.out _ ?_; clear hK K) | (apply Exists.intro; refine ⟨fun w' hw => ?_, hK.out _ ?_⟩; (first | with_reducible exact rfl | (have f1 := F1 w' hw; have f2 := F2 w' hw; have f3 := F3 w' hw; have f4 := F4 w' hw; go_simp; exact rfl)); clear hK K))
  (refine wsPlan_take rfl (fun K hK => ?_); replace hK := Lib.hid hK; go_simp; first | (refine hK.out _ ?_; clear hK K) | (apply Exists.intro; refine ⟨fun w' hw => ?_, hK.out _ ?_⟩; (first | with_reducible exact rfl | (have f1 := F1 w' hw; have f2 := F2 w' hw; have f3 := F3 w' hw; have f4 := F4 w' hw; go_simp; exact rfl)); clear hK K))
  (refine wsPlan_take rfl (fun K hK => ?_); replace hK := Lib.hid hK; go_simp; first | (refine hK.out _ ?_; clear hK K) | (apply Exists.intro; refine ⟨fun w' hw => ?_, hK.out _ ?_⟩; (first | with_reducible exact rfl | (have f1 := F1 w' hw; have f2 := F2 w' hw; have f3 := F3 w' hw; have f4 := F4 w' hw; go_simp; exact rfl)); clear hK K))
  (refine wsPlan_take rfl (fun K hK => ?_); replace hK := Lib.hid hK; go_simp; first | (refine hK.out _ ?_; clear hK K) | (apply Exists.intro; refine ⟨fun w' hw => ?_, hK.out _ ?_⟩; (first | with_reducible exact rfl | (have f1 := F1 w' hw; have f2 := F2 w' hw; have f3 := F3 w' hw; have f4 := F4 w' hw; go_simp; exact rfl)); clear hK K))
  (refine wsPlan_take rfl (fun K hK => ?_); replace hK := Lib.hid hK; go_simp; first | (refine hK.out _ ?_; clear hK K) | (apply Exists.intro; refine ⟨fun w' hw => ?_, hK.out _ ?_⟩; (first | with_reducible exact rfl | (have f1 := F1 w' hw; have f2 := F2 w' hw; have f3 := F3 w' hw; have f4 := F4 w' hw; go_simp; exact rfl)); clear hK K))
  (refine wsPlan_take rfl (fun K hK => ?_); replace hK := Lib.hid hK; go_simp; first | (refine hK.out _ ?_; clear hK K) | (apply Exists.intro; refine ⟨fun w' hw => ?_, hK.out _ ?_⟩; (first | with_reducible exact rfl | (have f1 := F1 w' hw; have f2 := F2 w' hw; have f3 := F3 w' hw; have f4 := F4 w' hw; go_simp; exact rfl)); clear hK K))
  (refine wsPlan_only rfl (fun K hK => ?_); replace hK := Lib.hid hK; go_simp; go_at_call 163; (with_reducible refine (trgrown_any m _ _ HM.out DD.out.2.1 DD.out.2.2 GR.out).mono ?_); rintro z w8 ⟨rfl, hb8⟩; have hP1 := hP.call hb8 HB7.out.size HIN.out; refine hK.out _ _ hP1 (fun hP => ?_); clear hK K)
  (refine wsPlan_take rfl (fun K hK => ?_); replace hK := Lib.hid hK; go_simp; first | (refine hK.out _ ?_; clear hK K) | (apply Exists.intro; refine ⟨fun w' hw => ?_, hK.out _ ?_⟩; (first | with_reducible exact rfl | (have f1 := F1 w' hw; have f2 := F2 w' hw; have f3 := F3 w' hw; have f4 := F4 w' hw; go_simp; exact rfl)); clear hK K))
  (refine wsPlan_only rfl (fun K hK => ?_); replace hK := Lib.hid hK; go_simp; go_at_call 162; (with_reducible refine (trnear_any (u := u) (v := true) m _ _ _ _ _ _ HM.out DD.out.1 EE.out NB.out NR.out).mono ?_); rintro z w9 ⟨rfl, hb9⟩; have hP1 := hP.call hb9 HB7.out.size HIN.out; refine hK.out _ _ hP1 (fun hP => ?_); clear hK K)
  (refine wsPlan_take rfl (fun K hK => ?_); replace hK := Lib.hid hK; go_simp; first | (refine hK.out _ ?_; clear hK K) | (apply Exists.intro; refine ⟨fun w' hw => ?_, hK.out _ ?_⟩; (first | with_reducible exact rfl | (have f1 := F1 w' hw; have f2 := F2 w' hw; have f3 := F3 w' hw; have f4 := F4 w' hw; go_simp; exact rfl)); clear hK K))
  (refine wsPlan_take rfl (fun K hK => ?_); replace hK := Lib.hid hK; go_simp; first | (refine hK.out _ ?_; clear hK K) | (apply Exists.intro; refine ⟨fun w' hw => ?_, hK.out _ ?_⟩; (first | with_reducible exact rfl | (have f1 := F1 w' hw; have f2 := F2 w' hw; have f3 := F3 w' hw; have f4 := F4 w' hw; go_simp; exact rfl)); clear hK K))
  (refine wsPlan_take rfl (fun K hK => ?_); replace hK := Lib.hid hK; go_simp; first | (refine hK.out _ ?_; clear hK K) | (apply Exists.intro; refine ⟨fun w' hw => ?_, hK.out _ ?_⟩; (first | with_reducible exact rfl | (have f1 := F1 w' hw; have f2 := F2 w' hw; have f3 := F3 w' hw; have f4 := F4 w' hw; go_simp; exact rfl)); clear hK K))
  (refine wsPlan_take rfl (fun K hK => ?_); replace hK := Lib.hid hK; go_simp; first | (refine hK.out _ ?_; clear hK K) | (apply Exists.intro; refine ⟨fun w' hw => ?_, hK.out _ ?_⟩; (first | with_reducible exact rfl | (have f1 := F1 w' hw; have f2 := F2 w' hw; have f3 := F3 w' hw; have f4 := F4 w' hw; go_simp; exact rfl)); clear hK K))
  (refine wsPlan_take rfl (fun K hK => ?_); replace hK := Lib.hid hK; go_simp; first | (refine hK.out _ ?_; clear hK K) | (apply Exists.intro; refine ⟨fun w' hw => ?_, hK.out _ ?_⟩; (first | with_reducible exact rfl | (have f1 := F1 w' hw; have f2 := F2 w' hw; have f3 := F3 w' hw; have f4 := F4 w' hw; go_simp; exact rfl)); clear hK K))
  refine wsPlan_done ?_
  have hBE := Lib.hid (HB7.out.trans hP.1)
  have f1 := F1 _ hP
  have f2 := F2 _ hP
  clear F1 F2 F3 F4 hP
  clear HN NR
  cases u
  · go_wp2_with fail
    go_ret2
    exact ⟨ret_boolz HV.out, hBE.out⟩
  · go_wp2_with fail
    go_ret2
    exact ⟨ret_boolz HV.out, hBE.out⟩
end Go.Proofs.YtdmegkkifiahdaaGreat
