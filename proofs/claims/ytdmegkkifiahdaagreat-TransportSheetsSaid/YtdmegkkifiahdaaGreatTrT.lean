/- The walk of transport.List. -/
import Derived.Test.YtdmegkkifiahdaaGreatKI
import Derived.Test.YtdmegkkifiahdaaGreatTrList
import Derived.Test.YtdmegkkifiahdaaGreatTrS
namespace Go.Proofs.YtdmegkkifiahdaaGreat
open Go.RowKit Go.Shelf
attribute [local go_sem] bqOp bqAll bqUpon sqOp sqAll sqUpon ssAll ssOp
attribute [local irreducible] wpQuiet wpBQ wpPlan wsPlan
set_option linter.unusedVariables false
/-- An own list of features whose parts lie apart from rows of features and operations. -/
def OwnFp (lo base : Nat) (w : World) (v : Value) (l : List Feat) : Prop := ∃ items : List FItem, items.map Prod.fst = l ∧ OwnT featCells 9 32 base w v items ∧ ∀ x ∈ items, PartsSep lo w x.1 x.2.1 x.2.2
theorem OwnFp.nil (lo base : Nat) (w : World) : OwnFp lo base w (.slice none 0 0) [] := ⟨[], rfl, OwnT.nil _ _, fun x hx => by simp at hx⟩
theorem OwnFp.keep {lo base : Nat} {w W : World} {v : Value} {l : List Feat} (h : OwnFp lo base w v l) (hb : Below w.heap.size w W) : OwnFp lo base W v l := by
  obtain ⟨items, h1, h2, h3⟩ := h
  exact ⟨items, h1, own_keep h2 hb, fun x hx => (h3 x hx).later (KeepPS.of_below hb)⟩
theorem OwnFp.feats {lo base : Nat} {w : World} {v : Value} {l : List Feat} (h : OwnFp lo base w v l) (hl : l.length ≤ 9223372036854775807) : FeatsAt w v l := by
  obtain ⟨items, h1, h2, h3⟩ := h
  exact OwnFs.feats (base := base) (w0 := w) ⟨items, h1, h2, fun x hx => (h3 x hx).parts⟩ (Below.refl _ _) hl
theorem OwnFp.form {lo base : Nat} {w : World} {v : Value} {l : List Feat} (h : OwnFp lo base w v l) : ∃ ad c, v = .slice ad l.length c := by
  obtain ⟨items, rfl, h2, _⟩ := h
  obtain ⟨ad, c, e⟩ := OwnT.form h2
  exact ⟨ad, c, by rw [e, List.length_map]⟩
/-- What is carried of a list. -/
theorem carL_append {m : Dat} {A B : List Mk} : ∀ (l1 l2 : List Feat), carL m A B (l1 ++ l2) = match carL m A B l1 with
    | .error e => .error e
    | .ok r1 => match carL m A B l2 with
      | .error e => .error e
      | .ok r2 => .ok (r1 ++ r2)
  | [], l2 => by
    have e : carL m A B [] = .ok [] := by unfold carL; rfl
    rw [List.nil_append, e]
    cases carL m A B l2 <;> rfl
  | f :: l1, l2 => by
    have e1 : carL m A B (f :: (l1 ++ l2)) = match oneD m A B f with | .error e => .error e | .ok g => match carL m A B (l1 ++ l2) with | .error e => .error e | .ok r => .ok (g :: r) := by rw [carL]; cases oneD m A B f <;> rfl
    have e2 : carL m A B (f :: l1) = match oneD m A B f with | .error e => .error e | .ok g => match carL m A B l1 with | .error e => .error e | .ok r => .ok (g :: r) := by rw [carL]; cases oneD m A B f <;> rfl
    rw [List.cons_append, e1, e2]
    cases oneD m A B f with
    | error e => rfl
    | ok g =>
      dsimp only
      rw [carL_append l1 l2]
      cases carL m A B l1 with
      | error e => rfl
      | ok r1 =>
        dsimp only
        cases carL m A B l2 <;> rfl
theorem carL_snoc {m : Dat} {A B : List Mk} {l r : List Feat} {k : Nat} {g : Feat} (hk : k < l.length) (h : carL m A B (l.take k) = .ok r) (hg : oneD m A B (l.getD k noFeat) = .ok g) : carL m A B (l.take (k + 1)) = .ok (r ++ [g]) := by
  rw [List.take_succ_eq_append_getElem hk, carL_append, h]
  have e : l[k] = l.getD k noFeat := by rw [List.getD_eq_getElem?_getD, List.getElem?_eq_getElem hk]; rfl
  rw [e]
  unfold carL
  rw [hg]
  rfl
theorem carL_stop {m : Dat} {A B : List Mk} {l r : List Feat} {k : Nat} {e : Int} (hk : k < l.length) (h : carL m A B (l.take k) = .ok r) (hg : oneD m A B (l.getD k noFeat) = .error e) : carL m A B l = .error e := by
  conv => lhs; rw [← List.take_append_drop k l]
  rw [carL_append, h, List.drop_eq_getElem_cons hk]
  have e1 : l[k] = l.getD k noFeat := by rw [List.getD_eq_getElem?_getD, List.getElem?_eq_getElem hk]; rfl
  rw [e1]
  dsimp only
  have e2 : carL m A B (l.getD k noFeat :: l.drop (k + 1)) = .error e := by unfold carL; rw [hg]
  rw [e2]
theorem carL_len {m : Dat} {A B : List Mk} : ∀ {l r : List Feat}, carL m A B l = .ok r → r.length = l.length
  | [], r, h => by cases h; rfl
  | f :: l, r, h => by
    unfold carL at h
    split at h
    · cases h
    · split at h
      · cases h
      · next h2 => cases h; simp [carL_len h2]
def listR (m : Dat) (a b : Bk) (l : List Feat) : List Feat × Int := if BooksOk m a b ∧ FeatsOk l then (match carL m a.marks b.marks l with | .ok r => (r, 0) | .error k => ([], k)) else ([], 1)
theorem listR_no {m : Dat} {a b : Bk} {l : List Feat} (h : ¬ (BooksOk m a b ∧ FeatsOk l)) : listR m a b l = ([], 1) := if_neg h
theorem listR_ok {m : Dat} {a b : Bk} {l r : List Feat} (h : BooksOk m a b ∧ FeatsOk l) (hc : carL m a.marks b.marks l = .ok r) : listR m a b l = (r, 0) := by
  unfold listR
  rw [if_pos h, hc]
theorem listR_err {m : Dat} {a b : Bk} {l : List Feat} {k : Int} (h : BooksOk m a b ∧ FeatsOk l) (hc : carL m a.marks b.marks l = .error k) : listR m a b l = ([], k) := by
  unfold listR
  rw [if_pos h, hc]
def FeatsGive (lo : Nat) (r : List Feat) (k : Int) (w : World) (e : Ending) (w' : World) : Prop :=
  ∃ (ad : Option Addr) (c : Nat), e = .returned (.tuple #[.slice ad r.length c, .int .i64 k]) ∧ OwnFp lo w.heap.size w' (.slice ad r.length c) r ∧ Below w.heap.size w w'
theorem OwnFp.mono {lo base base' : Nat} {w : World} {v : Value} {l : List Feat} (h : OwnFp lo base w v l) (hb : base' ≤ base) : OwnFp lo base' w v l := by
  obtain ⟨items, h1, h2, h3⟩ := h
  exact ⟨items, h1, OwnT.mono h2 hb, h3⟩
theorem feats_give {lo : Nat} {r : List Feat} {k : Int} {w w' : World} {r' : List Feat} {k' : Int} {ad : Option Addr} {n c : Nat} (h : (r', k') = (r, k)) (hn : r'.length = n) (hf : OwnFp lo w.heap.size w' (.slice ad r'.length c) r') (hb : Below w.heap.size w w') : FeatsGive lo r k w (.returned (.tuple #[.slice ad n c, .int .i64 k'])) w' := by
  subst hn
  cases h
  exact ⟨ad, c, rfl, hf, hb⟩
theorem trbooks_raw (m : Dat) (a b : Bk) {va vb : Value} (w : World) (ha : MksAt w va a.marks) (hb : MksAt w vb b.marks) {v : Bool} (hv : decide (BooksOk m a b) = v) :
    Calls Tryz.prog 139 #[.agg #[.int .i64 m.a, .int .i64 m.b, .int .i64 m.c, .int .i64 m.d, .int .i64 m.e, .int .i64 m.f, .int .i64 m.r], .agg #[.int .i64 a.office, va], .agg #[.int .i64 b.office, vb]] w fun e w' => e = .returned (.bool v) ∧ Below w.heap.size w w' := trbooks_any m a b va vb w ha hb hv
theorem trone_raw (m : Dat) (a b : Bk) {va vb : Value} (f : Feat) {aa : Option Addr} {na ca : Nat} {ab : Option Addr} {ns cs : Nat} {w0 w : World} (h0 : Below w0.heap.size w0 w) (hbo : BooksOk m a b) (ha : MksAt w va a.marks) (hb : MksAt w vb b.marks) (hf : FeatOk f) (hp : PartsAt w0 f (.slice aa na ca) (.slice ab ns cs)) {g : Feat} {k : Int} (hr : oneR m a.marks b.marks f = (g, k)) :
    Calls Tryz.prog 141 #[carV m, .agg #[.int .i64 a.office, va], .agg #[.int .i64 b.office, vb], featV f (.slice aa na ca) (.slice ab ns cs)] w (FeatGive w0.heap.size g k w) := trone_any m a b va vb f aa na ca ab ns cs w0 w h0 hbo.1 ha hb hbo.2.1 hbo.2.2 hf hp hr
theorem oneR_case {m : Dat} {A B : List Mk} {f g : Feat} {k : Int} (h : oneR m A B f = (g, k)) : (k = 0 ∧ oneD m A B f = .ok g) ∨ (k ≠ 0 ∧ oneD m A B f = .error k) := by
  by_cases hk : k = 0
  · subst hk
    exact .inl ⟨rfl, oneR_zero h⟩
  · refine .inr ⟨hk, ?_⟩
    unfold oneR at h
    cases e : oneD m A B f with
    | ok x => rw [e] at h; cases h; exact absurd rfl hk
    | error j => rw [e] at h; cases h; rfl
theorem books_dat {m : Dat} {a b : Bk} (h : BooksOk m a b) : DatOk m := h.1
set_option maxRecDepth 20000 in
set_option maxHeartbeats 4000000 in
theorem trList_any (m : Dat) (a b : Bk) {va vb : Value} (l : List Feat) (v0 : Value) (w0 w : World) (h0 : Below w0.heap.size w0 w) (ha : MksAt w va a.marks) (hb : MksAt w vb b.marks) (h : FeatsAt w0 v0 l) {r : List Feat} {k : Int} (hr : listR m a b l = (r, k)) :
    Calls Tryz.prog 61 #[.agg #[.int .i64 m.a, .int .i64 m.b, .int .i64 m.c, .int .i64 m.d, .int .i64 m.e, .int .i64 m.f, .int .i64 m.r], .agg #[.int .i64 a.office, va], .agg #[.int .i64 b.office, vb], v0] w (FeatsGive w0.heap.size r k w) := by
  have H0 := Lib.hid h0
  have hs0 := h0.size
  clear h0
  obtain ⟨ad, c, rfl, k1, hn1, _⟩ := h.form
  have H := Lib.hid k1
  have HR := Lib.hid hr
  obtain ⟨aa1, ca1, rfl, ha1, _⟩ := Rows.form ha
  obtain ⟨ab1, cb1, rfl, hb1, _⟩ := Rows.form hb
  have HA := Lib.hid (show MksAt w (.slice aa1 a.marks.length ca1) a.marks from ha1)
  have HB := Lib.hid (show MksAt w (.slice ab1 b.marks.length cb1) b.marks from hb1)
  obtain ⟨n, hln⟩ : ∃ n, l.length = n := ⟨_, rfl⟩
  rw [hln] at H hn1
  rw [hln]
  have HN := Lib.hid hln
  obtain ⟨u1, hu1⟩ : ∃ v, decide (BooksOk m a b) = v := ⟨_, rfl⟩
  obtain ⟨u2, hu2⟩ : ∃ v, decide (FeatsOk l) = v := ⟨_, rfl⟩
  have U1 := Lib.hid hu1
  have U2 := Lib.hid hu2
  clear h k1 hr hln ha hb ha1 hb1 hu1 hu2
  go_enter Tryz.func61, Tryz.ntmps61
  go_wp2_with fail
  refine calls_named fun W hW => ?_
  obtain ⟨p0, p1, p2, hB⟩ := box3 hW
  clear hW
  simp only [Nat.add_assoc, Nat.reduceAdd] at p0 p1 p2 ⊢
  have P0 := Lib.hid p0
  have P1 := Lib.hid p1
  have P2 := Lib.hid p2
  have HBW := Lib.hid hB
  clear p0 p1 p2 hB
  (with_reducible refine (trbooks_raw m a b _ (HA.out.later HBW.out) (HB.out.later HBW.out) U1.out).mono ?_)
  rintro e w1 ⟨rfl, hb1⟩
  have hB1 := below_step HBW.out hb1
  cases u1
  · go_wp2_with fail
    go_ret2
    exact feats_give (r' := []) (k' := 1) ((listR_no (fun q => of_decide_eq_false U1.out q.1)).symm.trans HR.out) rfl (OwnFp.nil _ _ _) hB1
  go_wp2_with fail
  (with_reducible refine (ftList_any l _ _ ((H.out.later H0.out).later hB1) U2.out).mono ?_)
  rintro e w2 ⟨rfl, hb2⟩
  have hB2 := below_step hB1 hb2
  cases u2
  · go_wp2_with fail
    go_ret2
    exact feats_give (r' := []) (k' := 1) ((listR_no (fun q => of_decide_eq_false U2.out q.2)).symm.trans HR.out) rfl (OwnFp.nil _ _ _) hB2
  have HOK := Lib.hid (And.intro (of_decide_eq_true U1.out) (of_decide_eq_true U2.out))
  have c0 := cell_block (block_later (below_step hb1 hb2) P0.out)
  go_wp2_with fail
  (with_reducible refine (trcarry_any m _ (books_dat HOK.out.1)).mono ?_)
  rintro e w3 ⟨rfl, hb3⟩
  have hB3 := below_step hB2 hb3
  clear c0
  have X3 := Lib.hid (below_step (below_step hb1 hb2) hb3)
  go_wp2_with fail
  refine wp_named fun W4 hW4 => ?_
  obtain ⟨p4, hb4⟩ := box1 hW4
  clear hW4
  have HB4 := Lib.hid (below_step hB3 hb4)
  have X4 := Lib.hid (below_step X3.out hb4)
  have P4 := Lib.hid p4
  have l4 := lt_block p4
  have hs34 : w.heap.size + 3 ≤ w3.heap.size := by have := lt_block P2.out; have := X3.out.size; omega
  clear p4 hb4 hb1 hb2 hb3 hB1 hB2 hB3
  go_loopw [11, 30] (fun t i wr => ∃ (k : Nat) (ad' : Option Addr) (c' : Nat) (r' : List Feat), k ≤ n ∧ i = .int .i64 k ∧ t = .slice ad' k c' ∧ carL m a.marks b.marks (l.take k) = .ok r' ∧ r'.length = k ∧ OwnFp w0.heap.size W4.heap.size wr (.slice ad' k c') r' ∧ Below W4.heap.size W4 wr) (fun _ i _ => n - (Go.RowKit.intOf i).toNat)
  case atStart => exact ⟨0, none, 0, [], by omega, rfl, rfl, rfl, rfl, OwnFp.nil _ _ _, Below.refl _ _⟩
  case round =>
    obtain ⟨k, ad', c', r', hk, rfl, rfl, hcar, hlen, how, hbr⟩ := hrel
    have CAR := Lib.hid hcar
    have LEN := Lib.hid hlen
    have OW := Lib.hid how
    have BR := Lib.hid hbr
    have BWR := Lib.hid (HB4.out.trans (hbr.mono HB4.out.size))
    have hsr := hbr.size
    clear hcar hlen how hbr
    rcases Nat.lt_or_ge k n with hlt | hge
    rotate_left
    · obtain rfl : k = n := by omega
      have hk2 : l.take k = l := by rw [← HN.out, List.take_length]
      have HE := Lib.hid ((listR_ok HOK.out (by rw [← hk2]; exact CAR.out)).symm.trans HR.out)
      have FE := Lib.hid (show OwnFp w0.heap.size w.heap.size wr (.slice ad' r'.length c') r' from by rw [LEN.out]; exact OwnFp.mono OW.out HB4.out.size)
      clear hk2
      go_wp2_with fail
      go_ret2
      exact feats_give HE.out LEN.out FE.out BWR.out
    have hkl : k < l.length := by have := HN.out; omega
    have hk3 : k ≤ 300 := by have h3 := HOK.out.2.1; omega
    obtain ⟨g, o, va, vs, rfl, fc0⟩ := H.out.row hlt
    obtain ⟨f, hf⟩ : ∃ f, l.getD k noFeat = f := ⟨_, rfl⟩
    rw [hf] at fc0
    have F1 := Lib.hid hf
    have PA : Hid (PartsAt w0 f va vs) := Lib.hid ⟨fc0.area, fc0.secs⟩
    have FOK : Hid (FeatOk f) := Lib.hid (by rw [← hf]; exact (HOK.out.2.2 k hkl).1)
    obtain ⟨aa, ca, ab, cb, rfl, rfl⟩ := PA.out.form
    have fc := fc0.later (below_step H0.out BWR.out)
    obtain ⟨r0, r1, r2, r3, r4, r5, r6, r7, r8, _, _⟩ := fc
    clear hf fc0
    obtain ⟨x, e, hx⟩ : ∃ (x : Feat) (e : Int), oneR m a.marks b.marks f = (x, e) := ⟨_, _, rfl⟩
    have ONE := Lib.hid hx
    clear hx
    have qc4 := block_later BR.out P4.out
    have qc1 := block_later (below_step X4.out BR.out) P1.out
    have qc2 := block_later (below_step X4.out BR.out) P2.out
    have QC4 := Lib.hid qc4
    have c4 : ∀ ob i, (wr.alloc ob).cell? ⟨w3.heap.size, i, none⟩ = #[.int .i64 m.a, .int .i64 m.b, .int .i64 m.c, .int .i64 m.d, .int .i64 m.e, .int .i64 m.f, .int .i64 m.r, .int .i64 (stretchD m), .int .i64 (shrinkD m), .int .i64 (slackD m)][i]? := fun ob => cell_block (block_alloc QC4.out)
    have QC1 := Lib.hid qc1
    have QC2 := Lib.hid qc2
    have c1 : ∀ ob i, (wr.alloc ob).cell? ⟨w.heap.size + 1, i, none⟩ = #[.int .i64 a.office, .slice aa1 a.marks.length ca1][i]? := fun ob => cell_block (block_alloc QC1.out)
    have c2 : ∀ ob i, (wr.alloc ob).cell? ⟨w.heap.size + 2, i, none⟩ = #[.int .i64 b.office, .slice ab1 b.marks.length cb1][i]? := fun ob => cell_block (block_alloc QC2.out)
    clear qc4 qc1 qc2
    go_wp2_with fail
    refine calls_named fun W5 hW5 => ?_
    obtain ⟨p5, hb5⟩ := box1 hW5
    clear hW5 r0 r1 r2 r3 r4 r5 r6 r7 r8 c4 c1 c2 p5
    have B5 := Lib.hid (below_step BWR.out hb5)
    (with_reducible refine (trone_raw m a b f (below_step H0.out B5.out) HOK.out.1 (HA.out.later B5.out) (HB.out.later B5.out) FOK.out PA.out ONE.out).mono ?_)
    rintro z w6 ⟨aR, nR, cR, bR, mR, dR, rfl, hsep, hb6⟩
    have SEP := Lib.hid hsep
    have HB6 := Lib.hid hb6
    have X6 := Lib.hid (below_step hb5 hb6)
    have B6 := Lib.hid (below_step B5.out hb6)
    have hs6 := X6.out.size
    clear hsep hb5 hb6
    rcases oneR_case ONE.out with ⟨he, ho⟩ | ⟨he, ho⟩
    rotate_left
    · have d : (e != 0) = true := by simpa using he
      have HE := Lib.hid ((listR_err HOK.out (carL_stop hkl CAR.out (by rw [F1.out]; exact ho))).symm.trans HR.out)
      clear he ho
      go_wp2_with fail
      go_ret2
      exact feats_give HE.out rfl (OwnFp.nil _ _ _) (B6.out.alloc (by omega) _)
    subst he
    have ONX : Hid (carL m a.marks b.marks (l.take (k + 1)) = .ok (r' ++ [x])) := Lib.hid (carL_snoc hkl CAR.out (by rw [F1.out]; exact ho))
    clear ho
    obtain ⟨items, hi1, hi2, hi3⟩ := OW.out
    have HI1 := Lib.hid hi1
    have HI2 := Lib.hid hi2
    have HI3 := Lib.hid hi3
    have LI : Hid (items.length = k) := Lib.hid (by rw [← LEN.out, ← hi1, List.length_map])
    clear hi1 hi2 hi3
    go_wp2_with (at_builtin; (generalize hwn : World.alloc _ _ = wA; obtain ⟨_, pA, hbA⟩ := box2 hwn.symm; clear hwn; have hbX := below_step X6.out hbA; have hsX := hbX.size; have SEPA := Lib.hid (SEP.out.later (KeepPS.of_below hbA)); refine wpList_appT featCells_len (by omega) Tryz.underlying22 info_feat rfl rfl _ _ rfl W4.heap.size _ items [(x, .slice aR nR cR, .slice bR mR dR)] rfl (own_keep HI2.out hbX) _ 1 1 rfl rfl (SrcAt.one pA rfl) (by intro u hu; simp only [List.flatMap_cons, List.flatMap_nil, List.append_nil] at hu; exact featCells_one SEPA.out.parts u hu) (by rw [LI.out]) (by unfold maxLen; omega) (by omega) (by omega) ?_; intro ad3 c3 w7 hown3 hg3 hb3))
    have HX := Lib.hid hbX
    have HO3 := Lib.hid hown3
    have HB3 := Lib.hid hb3
    have HG3 : Hid (KeepPS w0.heap.size wA w7) := Lib.hid (KeepPS.grown (own_keep HI2.out hbX) hg3 (by omega) (by decide) (by decide))
    clear hown3 hg3 hb3 hbX pA hbA
    go_wp2_with fail
    go_roundw
    case rel => exact ⟨k + 1, ad3, c3, r' ++ [x], by omega, by go_num, rfl, ONX.out, by rw [List.length_append, LEN.out]; rfl, ⟨items ++ [(x, .slice aR nR cR, .slice bR mR dR)], by rw [List.map_append, HI1.out]; rfl, HO3.out, fun y hy => by
      rcases List.mem_append.1 hy with hy | hy
      · exact ((HI3.out y hy).later (KeepPS.of_below HX.out)).later HG3.out
      · obtain rfl : y = (x, .slice aR nR cR, .slice bR mR dR) := by simpa using hy
        exact SEPA.out.later HG3.out⟩, BR.out.trans ((HX.out.mono hsr).trans HB3.out)⟩
    case measure => simp [Go.RowKit.intOf]; omega
theorem carL_err {m : Dat} {A B : List Mk} : ∀ {l : List Feat} {k : Int}, carL m A B l = .error k → k ≠ 0
  | [], k, h => by cases h
  | f :: l, k, h => by
    unfold carL at h
    cases e : oneD m A B f with
    | error j =>
      rw [e] at h
      cases h
      exact one_err e
    | ok g =>
      rw [e] at h
      simp only at h
      cases e2 : carL m A B l with
      | error j =>
        rw [e2] at h
        cases h
        exact carL_err e2
      | ok r => rw [e2] at h; cases h
theorem listR_zero {m : Dat} {a b : Bk} {l r : List Feat} (h : listR m a b l = (r, 0)) : BooksOk m a b ∧ FeatsOk l ∧ carL m a.marks b.marks l = .ok r := by
  unfold listR at h
  by_cases hv : BooksOk m a b ∧ FeatsOk l
  · rw [if_pos hv] at h
    cases e : carL m a.marks b.marks l with
    | error k =>
      rw [e] at h
      simp only [Prod.mk.injEq] at h
      exact absurd h.2 (carL_err e)
    | ok x =>
      rw [e] at h
      simp only [Prod.mk.injEq, and_true] at h
      exact ⟨hv.1, hv.2, by rw [h]⟩
  · rw [if_neg hv] at h
    cases h
end Go.Proofs.YtdmegkkifiahdaaGreat
