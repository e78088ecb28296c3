/- The walk of transport.Sheet. -/
import Derived.Test.YtdmegkkifiahdaaGreatTrT
import Derived.Test.YtdmegkkifiahdaaGreatTrU
namespace Go.Proofs.YtdmegkkifiahdaaGreat
open Go.RowKit Go.Shelf
attribute [local go_sem] bqOp bqAll bqUpon sqOp sqAll sqUpon ssAll ssOp
attribute [local irreducible] wpQuiet wpBQ wpPlan wsPlan
set_option linter.unusedVariables false
theorem setO {w : World} {b i j : Nat} {v : Value} {o : Obj} (h : w.heap[j]? = some o) (hne : j ≠ b) : (w.setCell ⟨b, i, none⟩ v).heap[j]? = some o := by
  show (w.heap.modify b _)[j]? = _
  rw [Array.getElem?_modify, if_neg (fun e => hne e.symm)]
  exact h
/-- A sheet that is written over another one in its own block. -/
theorem shtSet {w wn : World} {b : Nat} {x0 x1 x2 x3 x4 x5 x6 x7 x8 x9 x10 x11 x12 y0 y1 y2 y3 y4 y5 y6 y7 y8 y9 y10 y11 y12 : Value} {T : TypeId} (h : wn = ((((((((((((w.setCell ⟨b, 0, none⟩ x0).setCell ⟨b, 1, none⟩ x1).setCell ⟨b, 2, none⟩ x2).setCell ⟨b, 3, none⟩ x3).setCell ⟨b, 4, none⟩ x4).setCell ⟨b, 5, none⟩ x5).setCell ⟨b, 6, none⟩ x6).setCell ⟨b, 7, none⟩ x7).setCell ⟨b, 8, none⟩ x8).setCell ⟨b, 9, none⟩ x9).setCell ⟨b, 10, none⟩ x10).setCell ⟨b, 11, none⟩ x11).setCell ⟨b, 12, none⟩ x12) (hb : w.heap[b]? = some (.cells #[y0, y1, y2, y3, y4, y5, y6, y7, y8, y9, y10, y11, y12] T (0, 0))) :
    wn.heap[b]? = some (.cells #[x0, x1, x2, x3, x4, x5, x6, x7, x8, x9, x10, x11, x12] T (0, 0)) ∧ (∀ j o, j ≠ b → w.heap[j]? = some o → wn.heap[j]? = some o) ∧ ∀ (n : Nat) (a : World), Below n a w → n ≤ b → Below n a wn := by
  subst h
  refine ⟨by simpa using (block_set (i := 12) (block_set (i := 11) (block_set (i := 10) (block_set (i := 9) (block_set (i := 8) (block_set (i := 7) (block_set (i := 6) (block_set (i := 5) (block_set (i := 4) (block_set (i := 3) (block_set (i := 2) (block_set (i := 1) (block_set (i := 0) hb x0) x1) x2) x3) x4) x5) x6) x7) x8) x9) x10) x11) x12), fun j o hj ho => setO (setO (setO (setO (setO (setO (setO (setO (setO (setO (setO (setO (setO ho hj) hj) hj) hj) hj) hj) hj) hj) hj) hj) hj) hj) hj, fun n a h hn => setM (setM (setM (setM (setM (setM (setM (setM (setM (setM (setM (setM (setM h hn _) hn _) hn _) hn _) hn _) hn _) hn _) hn _) hn _) hn _) hn _) hn _) hn _⟩
theorem OwnFp.ho {lo base b : Nat} {w wn : World} {v : Value} {l : List Feat} {cs : Array Value} {T : TypeId} {m : Nat × Nat} (h : OwnFp lo base w v l) (hlo : lo ≤ b) (hb : w.heap[b]? = some (.cells cs T m)) (h1 : T ≠ 28) (h2 : T ≠ 151) (h3 : T ≠ 32) (ho : ∀ j o, j ≠ b → w.heap[j]? = some o → wn.heap[j]? = some o) : OwnFp lo base wn v l := by
  obtain ⟨items, e1, e2, e3⟩ := h
  refine ⟨items, e1, ⟨e2.1, ?_⟩, fun x hx => (e3 x hx).later fun j o hj hp => ho j o (fun e => ?_) hj⟩
  · rcases e2.2 with h | ⟨g, cap, cur, hv, hbg, hg', rest⟩
    · exact .inl h
    · refine .inr ⟨g, cap, cur, hv, hbg, ho _ _ (fun e => ?_) hg', rest⟩
      subst e
      rw [hb] at hg'
      cases hg'
      exact h3 rfl
  · subst e
    rw [hb] at hj
    cases hj
    rcases hp with hp | ⟨cs', T', mm', e, ht⟩
    · omega
    · cases e
      rcases ht with ht | ht
      · exact h1 ht
      · exact h2 ht
theorem ints_laterV {w w' : World} {v : Value} {l : List Int} (h : IntsAt w v l) (hb : Below w.heap.size w w') : IntsAt w' v l := Lists.later h hb
def zSht : Sht := ⟨0, 0, 0, noDat, 0, [], []⟩
def ShtArg (m : Dat) (a b : Bk) (s : Sht) (ch sc : Int) : Prop := (BooksOk m a b ∧ ShtOk s) ∧ (1 ≤ ch ∧ ch ≤ 1000) ∧ 1 ≤ sc ∧ sc ≤ 1000
instance (m : Dat) (a b : Bk) (s : Sht) (ch sc : Int) : Decidable (ShtArg m a b s ch sc) := by unfold ShtArg; exact inferInstance
/-- The sheet that is carried. -/
def tshtR (m : Dat) (a b : Bk) (s : Sht) (ch sc : Int) : Sht × Int :=
  if ShtArg m a b s ch sc then (if (thenR s.dat m).2 ≠ 0 then (zSht, (thenR s.dat m).2) else if (listR m a b s.feats).2 ≠ 0 then (zSht, (listR m a b s.feats).2) else (⟨ch, sc, 1, (thenR s.dat m).1, s.cap, [], (listR m a b s.feats).1⟩, 0))
  else (zSht, 1)
def ShtGive (t : Sht) (k : Int) (w : World) (e : Ending) (w' : World) : Prop :=
  ∃ (ad : Option Addr) (c : Nat), e = .returned (.tuple #[shtV t (.slice none 0 0) (.slice ad t.feats.length c), .int .i64 k]) ∧ t.don = [] ∧ OwnFp w.heap.size w.heap.size w' (.slice ad t.feats.length c) t.feats ∧ Below w.heap.size w w'
theorem sht_none {t : Sht} {k k' : Int} {w w' : World} (h : (zSht, k') = (t, k)) (hb : Below w.heap.size w w') : ShtGive t k w (.returned (.tuple #[shtV zSht (.slice none 0 0) (.slice none 0 0), .int .i64 k'])) w' := by
  cases h
  exact ⟨none, 0, rfl, rfl, OwnFp.nil _ _ _, hb⟩
theorem sht_give {t t' : Sht} {k k' : Int} {w w' : World} {ad : Option Addr} {c : Nat} (h : (t', k') = (t, k)) (hf : OwnFp w.heap.size w.heap.size w' (.slice ad t'.feats.length c) t'.feats) (hb : Below w.heap.size w w') (hd : t'.don = [] := by rfl) : ShtGive t k w (.returned (.tuple #[shtV t' (.slice none 0 0) (.slice ad t'.feats.length c), .int .i64 k'])) w' := by
  cases h
  exact ⟨ad, c, rfl, hd, hf, hb⟩
set_option maxRecDepth 30000 in
set_option maxHeartbeats 4000000 in
theorem trSheet_any (m : Dat) (a b : Bk) {va vb : Value} (s : Sht) (vd vf : Value) (ch sc : Int) (w : World) (ha : MksAt w va a.marks) (hb : MksAt w vb b.marks) (hd : IntsAt w vd s.don) (hf : FeatsAt w vf s.feats) {t : Sht} {k : Int} (hr : tshtR m a b s ch sc = (t, k)) :
    Calls Tryz.prog 60 #[.agg #[.int .i64 m.a, .int .i64 m.b, .int .i64 m.c, .int .i64 m.d, .int .i64 m.e, .int .i64 m.f, .int .i64 m.r], .agg #[.int .i64 a.office, va], .agg #[.int .i64 b.office, vb], shtV s vd vf, .int .i64 ch, .int .i64 sc] w (ShtGive t k w) := by
  obtain ⟨ad, cd, rfl, hd1, _, _⟩ := Lists.form hd
  obtain ⟨af, cf, rfl, hf1, _, _⟩ := hf.form
  obtain ⟨aa1, ca1, rfl, ha1, _⟩ := Rows.form ha
  obtain ⟨ab1, cb1, rfl, hb1, _⟩ := Rows.form hb
  obtain ⟨nd, hnd⟩ : ∃ n, s.don.length = n := ⟨_, rfl⟩
  obtain ⟨nf, hnf⟩ : ∃ n, s.feats.length = n := ⟨_, rfl⟩
  have HD := Lib.hid hd
  have HF := Lib.hid hf
  have HA := Lib.hid (show MksAt w (.slice aa1 a.marks.length ca1) a.marks from ha1)
  have HB := Lib.hid (show MksAt w (.slice ab1 b.marks.length cb1) b.marks from hb1)
  rw [hnd] at HD ⊢
  rw [hnf] at HF ⊢
  have HR := Lib.hid hr
  clear hnd hnf hd hf hd1 hf1 ha hb ha1 hb1 hr
  obtain ⟨u1, hu1⟩ : ∃ v, decide (BooksOk m a b) = v := ⟨_, rfl⟩
  obtain ⟨u2, hu2⟩ : ∃ v, decide (ShtOk s) = v := ⟨_, rfl⟩
  have U1 := Lib.hid hu1
  have U2 := Lib.hid hu2
  clear hu1 hu2
  go_enter Tryz.func60, Tryz.ntmps60
  go_wp2_with fail
  refine calls_named fun W hW => ?_
  obtain ⟨p0, p1, p2, p3, p4, hB⟩ := box5 hW
  clear hW
  simp only [Nat.add_assoc, Nat.reduceAdd] at p0 p1 p2 p3 p4 ⊢
  have P0 := Lib.hid p0
  have P1 := Lib.hid p1
  have P2 := Lib.hid p2
  have P3 := Lib.hid p3
  have P4 := Lib.hid p4
  have HBW := Lib.hid hB
  clear p0 p1 p2 p3 p4 hB
  (with_reducible refine (trbooks_raw m a b _ (HA.out.later HBW.out) (HB.out.later HBW.out) U1.out).mono ?_)
  rintro e w1 ⟨rfl, hb1⟩
  have X1 := Lib.hid hb1
  clear hb1
  cases u1
  · skip
    have S0 := block_later X1.out P4.out
    have fX := free_block S0
    have uX := cell_block S0
    have HX := Lib.hid S0
    have hsX := (below_step HBW.out X1.out).size
    clear S0
    go_wp2_with fail
    generalize hwn : World.setCell (World.setCell (World.setCell (World.setCell (World.setCell (World.setCell (World.setCell (World.setCell (World.setCell (World.setCell (World.setCell (World.setCell (World.setCell _ _ _) _ _) _ _) _ _) _ _) _ _) _ _) _ _) _ _) _ _) _ _) _ _) _ _ = wn
    obtain ⟨hX, ho, hbn⟩ := shtSet hwn.symm HX.out
    have hBn := hbn _ w (below_step HBW.out X1.out) (by omega)
    have c9 := cell_block hX
    exact bodyPost_ret (v := (.tuple #[shtV zSht (.slice none 0 0) (.slice none 0 0), .int .i64 1])) (by simp [results, Tryz.results60, go_sem, c9, zSht, noDat]) rfl (sht_none (Eq.trans (if_neg (fun q => of_decide_eq_false U1.out q.1.1)).symm HR.out) hBn)
  have c3 := cell_block (block_later X1.out P3.out)
  go_wp2_with fail
  (with_reducible refine (shValid_any s _ _ _ (ints_laterV HD.out (below_step HBW.out X1.out)) (HF.out.later (below_step HBW.out X1.out)) U2.out).mono ?_)
  rintro e w2 ⟨rfl, hb2⟩
  have X2 := Lib.hid (below_step X1.out hb2)
  clear hb2 c3
  cases u2
  · skip
    have S0 := block_later X2.out P4.out
    have fX := free_block S0
    have uX := cell_block S0
    have HX := Lib.hid S0
    have hsX := (below_step HBW.out X2.out).size
    clear S0
    go_wp2_with fail
    generalize hwn : World.setCell (World.setCell (World.setCell (World.setCell (World.setCell (World.setCell (World.setCell (World.setCell (World.setCell (World.setCell (World.setCell (World.setCell (World.setCell _ _ _) _ _) _ _) _ _) _ _) _ _) _ _) _ _) _ _) _ _) _ _) _ _) _ _ = wn
    obtain ⟨hX, ho, hbn⟩ := shtSet hwn.symm HX.out
    have hBn := hbn _ w (below_step HBW.out X2.out) (by omega)
    have c9 := cell_block hX
    exact bodyPost_ret (v := (.tuple #[shtV zSht (.slice none 0 0) (.slice none 0 0), .int .i64 1])) (by simp [results, Tryz.results60, go_sem, c9, zSht, noDat]) rfl (sht_none (Eq.trans (if_neg (fun q => of_decide_eq_false U2.out q.1.2)).symm HR.out) hBn)
  by_cases h1 : ch < 1
  · have V1 := Lib.hid h1
    have d1 : decide (ch < 1) = true := decide_eq_true h1
    have S0 := block_later X2.out P4.out
    have fX := free_block S0
    have uX := cell_block S0
    have HX := Lib.hid S0
    have hsX := (below_step HBW.out X2.out).size
    clear S0
    go_wp2_with fail
    generalize hwn : World.setCell (World.setCell (World.setCell (World.setCell (World.setCell (World.setCell (World.setCell (World.setCell (World.setCell (World.setCell (World.setCell (World.setCell (World.setCell _ _ _) _ _) _ _) _ _) _ _) _ _) _ _) _ _) _ _) _ _) _ _) _ _) _ _ = wn
    obtain ⟨hX, ho, hbn⟩ := shtSet hwn.symm HX.out
    have hBn := hbn _ w (below_step HBW.out X2.out) (by omega)
    have c9 := cell_block hX
    exact bodyPost_ret (v := (.tuple #[shtV zSht (.slice none 0 0) (.slice none 0 0), .int .i64 1])) (by simp [results, Tryz.results60, go_sem, c9, zSht, noDat]) rfl (sht_none (Eq.trans (if_neg (fun q => absurd q.2.1.1 (by have := V1.out; omega))).symm HR.out) hBn)
  by_cases h2 : 1000 < ch
  · have V1 := Lib.hid h2
    have d1 : decide (1000 < ch) = true := decide_eq_true h2
    have Dh1 := decide_eq_false h1
    have S0 := block_later X2.out P4.out
    have fX := free_block S0
    have uX := cell_block S0
    have HX := Lib.hid S0
    have hsX := (below_step HBW.out X2.out).size
    clear S0
    go_wp2_with fail
    generalize hwn : World.setCell (World.setCell (World.setCell (World.setCell (World.setCell (World.setCell (World.setCell (World.setCell (World.setCell (World.setCell (World.setCell (World.setCell (World.setCell _ _ _) _ _) _ _) _ _) _ _) _ _) _ _) _ _) _ _) _ _) _ _) _ _) _ _ = wn
    obtain ⟨hX, ho, hbn⟩ := shtSet hwn.symm HX.out
    have hBn := hbn _ w (below_step HBW.out X2.out) (by omega)
    have c9 := cell_block hX
    exact bodyPost_ret (v := (.tuple #[shtV zSht (.slice none 0 0) (.slice none 0 0), .int .i64 1])) (by simp [results, Tryz.results60, go_sem, c9, zSht, noDat]) rfl (sht_none (Eq.trans (if_neg (fun q => absurd q.2.1.2 (by have := V1.out; omega))).symm HR.out) hBn)
  by_cases h3 : sc < 1
  · have V1 := Lib.hid h3
    have d1 : decide (sc < 1) = true := decide_eq_true h3
    have Dh1 := decide_eq_false h1
    have Dh2 := decide_eq_false h2
    have S0 := block_later X2.out P4.out
    have fX := free_block S0
    have uX := cell_block S0
    have HX := Lib.hid S0
    have hsX := (below_step HBW.out X2.out).size
    clear S0
    go_wp2_with fail
    generalize hwn : World.setCell (World.setCell (World.setCell (World.setCell (World.setCell (World.setCell (World.setCell (World.setCell (World.setCell (World.setCell (World.setCell (World.setCell (World.setCell _ _ _) _ _) _ _) _ _) _ _) _ _) _ _) _ _) _ _) _ _) _ _) _ _) _ _ = wn
    obtain ⟨hX, ho, hbn⟩ := shtSet hwn.symm HX.out
    have hBn := hbn _ w (below_step HBW.out X2.out) (by omega)
    have c9 := cell_block hX
    exact bodyPost_ret (v := (.tuple #[shtV zSht (.slice none 0 0) (.slice none 0 0), .int .i64 1])) (by simp [results, Tryz.results60, go_sem, c9, zSht, noDat]) rfl (sht_none (Eq.trans (if_neg (fun q => absurd q.2.2.1 (by have := V1.out; omega))).symm HR.out) hBn)
  by_cases h4 : 1000 < sc
  · have V1 := Lib.hid h4
    have d1 : decide (1000 < sc) = true := decide_eq_true h4
    have Dh1 := decide_eq_false h1
    have Dh2 := decide_eq_false h2
    have Dh3 := decide_eq_false h3
    have S0 := block_later X2.out P4.out
    have fX := free_block S0
    have uX := cell_block S0
    have HX := Lib.hid S0
    have hsX := (below_step HBW.out X2.out).size
    clear S0
    go_wp2_with fail
    generalize hwn : World.setCell (World.setCell (World.setCell (World.setCell (World.setCell (World.setCell (World.setCell (World.setCell (World.setCell (World.setCell (World.setCell (World.setCell (World.setCell _ _ _) _ _) _ _) _ _) _ _) _ _) _ _) _ _) _ _) _ _) _ _) _ _) _ _ = wn
    obtain ⟨hX, ho, hbn⟩ := shtSet hwn.symm HX.out
    have hBn := hbn _ w (below_step HBW.out X2.out) (by omega)
    have c9 := cell_block hX
    exact bodyPost_ret (v := (.tuple #[shtV zSht (.slice none 0 0) (.slice none 0 0), .int .i64 1])) (by simp [results, Tryz.results60, go_sem, c9, zSht, noDat]) rfl (sht_none (Eq.trans (if_neg (fun q => absurd q.2.2.2 (by have := V1.out; omega))).symm HR.out) hBn)
  have ARG : Hid (ShtArg m a b s ch sc) := Lib.hid ⟨⟨of_decide_eq_true U1.out, of_decide_eq_true U2.out⟩, ⟨by omega, by omega⟩, by omega, by omega⟩
  have D1 := decide_eq_false h1
  have D2 := decide_eq_false h2
  have D3 := decide_eq_false h3
  have D4 := decide_eq_false h4
  clear h1 h2 h3 h4
  have HR2 := Lib.hid ((if_pos ARG.out).symm.trans HR.out)
  obtain ⟨d, kd, hd⟩ : ∃ (d : Dat) (k : Int), thenR s.dat m = (d, k) := ⟨_, _, rfl⟩
  have TH := Lib.hid hd
  rw [hd] at HR2
  dsimp only at HR2
  clear hd HR
  have c3 := cell_block (block_later X2.out P3.out)
  have c0 := cell_block (block_later X2.out P0.out)
  go_wp2_with fail
  (with_reducible refine (dtThen_any s.dat m _ TH.out).mono ?_)
  rintro e w3 ⟨rfl, hb3⟩
  have X3 := Lib.hid (below_step X2.out hb3)
  clear hb3 c3 c0 D1 D2 D3 D4
  by_cases hk : kd = 0
  rotate_left
  · have d1 : (kd != 0) = true := by simpa using hk
    have EQ := Lib.hid ((if_pos hk).symm.trans HR2.out)
    clear hk
    have S0 := fun ob => block_alloc (o' := ob) (block_later X3.out P4.out)
    have fX := fun ob => free_block (S0 ob)
    have uX := fun ob => cell_block (S0 ob)
    have HX := Lib.hid S0
    have hsX := (below_step HBW.out X3.out).size
    clear S0
    go_wp2_with fail
    generalize hwn : World.setCell (World.setCell (World.setCell (World.setCell (World.setCell (World.setCell (World.setCell (World.setCell (World.setCell (World.setCell (World.setCell (World.setCell (World.setCell _ _ _) _ _) _ _) _ _) _ _) _ _) _ _) _ _) _ _) _ _) _ _) _ _) _ _ = wn
    obtain ⟨hX, ho, hbn⟩ := shtSet hwn.symm (HX.out _)
    have hBn := hbn _ w ((below_step HBW.out X3.out).alloc hsX _) (by omega)
    have c9 := cell_block hX
    exact bodyPost_ret (v := (.tuple #[shtV zSht (.slice none 0 0) (.slice none 0 0), .int .i64 kd])) (by simp [results, Tryz.results60, go_sem, c9, zSht, noDat]) rfl (sht_none (EQ.out) hBn)
  subst hk
  have HR3 := Lib.hid ((if_neg (by decide)).symm.trans HR2.out)
  clear HR2
  obtain ⟨r, kr, hr⟩ : ∃ (r : List Feat) (k : Int), listR m a b s.feats = (r, k) := ⟨_, _, rfl⟩
  have LR := Lib.hid hr
  rw [hr] at HR3
  dsimp only at HR3
  clear hr
  have c0 := fun ob => cell_block (block_alloc (o' := ob) (block_later X3.out P0.out))
  have c1 := fun ob => cell_block (block_alloc (o' := ob) (block_later X3.out P1.out))
  have c2 := fun ob => cell_block (block_alloc (o' := ob) (block_later X3.out P2.out))
  have c3 := fun ob => cell_block (block_alloc (o' := ob) (block_later X3.out P3.out))
  go_wp2_with fail
  clear c0 c1 c2 c3
  refine calls_named fun W4 hW4 => ?_
  obtain ⟨p5, hb4⟩ := box1 hW4
  clear hW4
  have X4 := Lib.hid (below_step X3.out hb4)
  have P5 := Lib.hid p5
  clear p5 hb4
  have B4 := Lib.hid (below_step HBW.out X4.out)
  (with_reducible refine (trList_any m a b s.feats _ w _ B4.out (HA.out.later B4.out) (HB.out.later B4.out) HF.out LR.out).mono ?_)
  rintro e w5 ⟨al, cl, rfl, hown, hb5⟩
  have OWN := Lib.hid hown
  have X5 := Lib.hid (below_step X4.out hb5)
  have P5b := Lib.hid (block_later hb5 P5.out)
  clear hown hb5
  by_cases hk : kr = 0
  rotate_left
  · have d1 : (kr != 0) = true := by simpa using hk
    have EQ := Lib.hid ((if_pos hk).symm.trans HR3.out)
    clear hk
    have S0 := block_later X5.out P4.out
    have fX := free_block S0
    have uX := cell_block S0
    have HX := Lib.hid S0
    have hsX := (below_step HBW.out X5.out).size
    clear S0
    go_wp2_with fail
    generalize hwn : World.setCell (World.setCell (World.setCell (World.setCell (World.setCell (World.setCell (World.setCell (World.setCell (World.setCell (World.setCell (World.setCell (World.setCell (World.setCell _ _ _) _ _) _ _) _ _) _ _) _ _) _ _) _ _) _ _) _ _) _ _) _ _) _ _ = wn
    obtain ⟨hX, ho, hbn⟩ := shtSet hwn.symm HX.out
    have hBn := hbn _ w (below_step HBW.out X5.out) (by omega)
    have c9 := cell_block hX
    exact bodyPost_ret (v := (.tuple #[shtV zSht (.slice none 0 0) (.slice none 0 0), .int .i64 kr])) (by simp [results, Tryz.results60, go_sem, c9, zSht, noDat]) rfl (sht_none (EQ.out) hBn)
  subst hk
  have HR4 := Lib.hid ((if_neg (by decide)).symm.trans HR3.out)
  clear HR3
  have c5 := cell_block P5b.out
  have c3 := cell_block (block_later X5.out P3.out)
  have S0 := block_later X5.out P4.out
  have fX := free_block S0
  have uX := cell_block S0
  have HX := Lib.hid S0
  have hs4 := B4.out.size
  clear S0
  go_wp2_with fail
  generalize hwn : World.setCell (World.setCell (World.setCell (World.setCell (World.setCell (World.setCell (World.setCell (World.setCell (World.setCell (World.setCell (World.setCell (World.setCell (World.setCell _ _ _) _ _) _ _) _ _) _ _) _ _) _ _) _ _) _ _) _ _) _ _) _ _) _ _ = wn
  obtain ⟨hX, ho, hbn⟩ := shtSet hwn.symm HX.out
  have hBn := hbn _ w (below_step HBW.out X5.out) (by omega)
  have hO := OwnFp.ho (OwnFp.mono OWN.out hs4) (by omega) HX.out (by decide) (by decide) (by decide) ho
  have c9 := cell_block hX
  exact bodyPost_ret (v := (.tuple #[shtV ⟨ch, sc, 1, d, s.cap, [], r⟩ (.slice none 0 0) (.slice al r.length cl), .int .i64 0])) (by simp [results, Tryz.results60, go_sem, c9]) rfl (sht_give HR4.out hO hBn)
end Go.Proofs.YtdmegkkifiahdaaGreat
