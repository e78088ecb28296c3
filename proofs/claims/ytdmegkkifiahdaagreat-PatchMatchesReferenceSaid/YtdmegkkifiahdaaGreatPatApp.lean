import Derived.Test.YtdmegkkifiahdaaGreatPatSh4
import Derived.Test.YtdmegkkifiahdaaGreatPKL
import Derived.Test.YtdmegkkifiahdaaGreatPRv
namespace Go.Proofs.YtdmegkkifiahdaaGreat
open Go.RowKit
attribute [local go_sem] bqOp bqAll bqUpon sqOp sqAll sqUpon
attribute [local irreducible] wpQuiet wpBQ wpPlan
set_option linter.unusedVariables false
def PatchOk (l : List Feat) (ops : List Opn) : Prop := FeatsOk l ∧ ops.length ≤ 100 ∧ ∀ o ∈ ops, OpOk o
instance (l : List Feat) (ops : List Opn) : Decidable (PatchOk l ops) := by unfold PatchOk; exact inferInstance
def applyO (l : List Feat) (ops : List Opn) : List Feat × Int × Int :=
 if PatchOk l ops then match runO l ops with
  | .error (i, e) => ([], (i : Int), e)
  | .ok (l', _) => (l', -1, 0)
 else ([], -1, 1)
def undoO (l : List Feat) (ops : List Opn) : List Opn × Int :=
 if PatchOk l ops then match runO l ops with
  | .error (_, e) => ([], e)
  | .ok (_, bs) => (bs.reverse, 0)
 else ([], 1)
theorem do_err {l : List Feat} {o : Opn} {e : Int} (h : doO l o = .error e) : e = 5 ∨ e = 2 ∨ e = 4 ∨ e = 12 := by
 unfold doO at h
 split at h
 · split at h
   · cases h; simp
   · split at h
     · cases h; simp
     · cases h
 · split at h
   · cases h; simp
   · split at h
     · cases h
     · split at h
       · cases h; simp
       · cases h
theorem run_err : ∀ {ops : List Opn} {l : List Feat} {i : Nat} {e : Int}, runO l ops = .error (i, e) → e = 5 ∨ e = 2 ∨ e = 4 ∨ e = 12
 | [], l, i, e, h => by cases h
 | o :: ops, l, i, e, h => by
   unfold runO at h
   cases hd : doO l o with
   | error e' => rw [hd] at h; cases h; exact do_err hd
   | ok r =>
     obtain ⟨l', b⟩ := r
     rw [hd] at h
     simp only at h
     cases hr : runO l' ops with
     | error r => obtain ⟨j, e'⟩ := r; rw [hr] at h; cases h; exact run_err hr
     | ok r => obtain ⟨l2, bs⟩ := r; rw [hr] at h; cases h
theorem OwnFs.nil2 (base : Nat) (w0 w : World) : FeatsAt w (.slice none 0 0) [] := ⟨none, 0, rfl, ⟨by simp, by simp⟩, fun i hi => absurd hi (Nat.not_lt_zero i)⟩
def ApplyP2 (w0 w : World) (l' : List Feat) (i er : Int) (e : Ending) (w' : World) : Prop := ∃ (ad : Option Addr) (n c : Nat), l'.length = n ∧ e = .returned (.tuple #[.slice ad n c, .int .i64 i, .int .i64 er]) ∧ OwnFs w.heap.size w0 w' (.slice ad n c) l' ∧ Below w.heap.size w w'
set_option maxHeartbeats 4000000 in
theorem paApply_own (l : List Feat) (ops : List Opn) (v0 v1 : Value) (w0 w : World) (h : Feats2 w0 w v0 l) (h1 : OpsAt w0 v1 ops) (hb0 : Below w0.heap.size w0 w) {l' : List Feat} {i er : Int} (hv : applyO l ops = (l', i, er)) : Calls Tryz.prog 14 #[v0, v1] w (ApplyP2 w0 w l' i er) := by
 have H0 := Lib.hid h
 have H1 := Lib.hid h1
 have HB0 := Lib.hid hb0
 obtain ⟨ad, c, rfl, _, _, _⟩ := h.form
 obtain ⟨ad1, c1, rfl, _, _, _⟩ := h1.form
 clear h h1 hb0
 by_cases hok : PatchOk l ops
 rotate_left
 · have HV : Hid (([], -1, 1) = (l', i, er)) := Lib.hid (by rw [← hv]; unfold applyO; rw [if_neg hok])
   have HOK : Hid (¬ (FeatsOk l ∧ ops.length ≤ 100 ∧ ∀ o ∈ ops, OpOk o)) := Lib.hid hok
   clear hv hok
   have E := HV.out
   cases E
   clear HV
   generalize l.length = n0 at *
   generalize hn1 : ops.length = n1 at *
   have HN := Lib.hid hn1
   clear hn1
   go_enter Tryz.func14, Tryz.ntmps14
   go_wp2_with fail
   (with_reducible refine (paapply_bad l ops _ _ _ H0.out.at (H1.out.later HB0.out) (mt (fun h => by rw [← HN.out]; exact h) HOK.out)).mono ?_)
   rintro e w1 ⟨rfl, hb1⟩
   go_wp2_with fail
   go_returns
   exact ⟨none, 0, 0, rfl, rfl, OwnFs.nil _ _ _, hb1⟩
 have HOK : Hid (FeatsOk l ∧ ops.length ≤ 100 ∧ ∀ o ∈ ops, OpOk o) := Lib.hid hok
 have HV : Hid ((match runO l ops with | .error (i, e) => ([], (i : Int), e) | .ok (l', _) => (l', -1, 0)) = (l', i, er)) := Lib.hid (by rw [← hv]; unfold applyO; rw [if_pos hok])
 clear hv hok
 generalize l.length = n0 at *
 generalize hn1 : ops.length = n1 at *
 have HN := Lib.hid hn1
 clear hn1
 go_enter Tryz.func14, Tryz.ntmps14
 go_wp2_with fail
 (with_reducible refine (paapply_run l ops _ _ w0 w H0.out H1.out HB0.out HOK.out.1 (by rw [HN.out]; exact HOK.out.2.1) HOK.out.2.2).mono ?_)
 rintro e w1 ⟨hb1, ⟨j, er', hr, rfl⟩ | ⟨b, l2, bs, ad2, m, c2, hr, hbs, rfl, hbb, hs, hlo, how⟩⟩
 · have E := HV.out
   rw [hr] at E
   cases E
   have hne := run_err hr
   have d : (er != 0) = true := by simp; omega
   clear HV hr hne
   go_wp2_with fail
   go_returns
   exact ⟨none, 0, 0, rfl, rfl, OwnFs.nil _ _ _, hb1⟩
 · have E := HV.out
   rw [hr] at E
   cases E
   have SH := Lib.hid hs
   have HLO := Lib.hid hlo
   clear HV hr hs hlo how hbs
   go_wp2_with fail
   (with_reducible refine (palist_any l' b w0 w1 SH.out HLO.out).mono ?_)
   rintro e w2 ⟨ad3, n3, c3, hn3, rfl, how3, hb2⟩
   have hB := below_step hb1 hb2
   have F3 : Hid (OwnFs w.heap.size w0 w2 (.slice ad3 n3 c3) l') := Lib.hid (OwnFs.mono how3 hb1.size)
   have N3 := Lib.hid hn3
   clear how3 hn3
   go_wp2_with fail
   go_returns
   exact ⟨ad3, n3, c3, N3.out, rfl, F3.out, hB⟩
def ApplyP (w : World) (l' : List Feat) (i er : Int) (e : Ending) (w' : World) : Prop := ∃ (ad : Option Addr) (n c : Nat), l'.length = n ∧ e = .returned (.tuple #[.slice ad n c, .int .i64 i, .int .i64 er]) ∧ FeatsAt w' (.slice ad n c) l' ∧ Below w.heap.size w w'
theorem apply_len {l : List Feat} {ops : List Opn} {l' : List Feat} {i er : Int} (hv : applyO l ops = (l', i, er)) : l'.length ≤ 1000 := by
 unfold applyO at hv
 split at hv
 · next hok =>
   split at hv
   · cases hv
     simp
   · next hr =>
     cases hv
     have := (run_acts ops hok.1 (fun o ho => opForm (hok.2.2 o ho)) hr).2.1
     have := hok.1.1
     have := hok.2.1
     omega
 · cases hv
   simp
theorem paApply_any (l : List Feat) (ops : List Opn) (v0 v1 : Value) (w : World) (h : FeatsAt w v0 l) (h1 : OpsAt w v1 ops) {l' : List Feat} {i er : Int} (hv : applyO l ops = (l', i, er)) : Calls Tryz.prog 14 #[v0, v1] w (ApplyP w l' i er) := by
 refine (paApply_own l ops v0 v1 w w (h.two (Below.refl _ _)) h1 (Below.refl _ _) hv).mono fun e w' h => ?_
 obtain ⟨ad, n, c, hn, he, ho, hb⟩ := h
 have := apply_len hv
 exact ⟨ad, n, c, hn, he, ho.feats hb (by omega), hb⟩
def UndoP (w : World) (bs : List Opn) (er : Int) (e : Ending) (w' : World) : Prop := ∃ (ad : Option Addr) (n c : Nat), bs.length = n ∧ e = .returned (.tuple #[.slice ad n c, .int .i64 er]) ∧ OpsAt w' (.slice ad n c) bs ∧ Below w.heap.size w w'
theorem run_bk_len : ∀ {ops : List Opn} {l l' : List Feat} {bs : List Opn}, runO l ops = .ok (l', bs) → bs.length = ops.length
 | [], l, l', bs, h => by cases h; rfl
 | o :: ops, l, l', bs, h => by
   unfold runO at h
   cases hd : doO l o with
   | error e => rw [hd] at h; cases h
   | ok r =>
     obtain ⟨l1, b⟩ := r
     rw [hd] at h
     simp only at h
     cases hr : runO l1 ops with
     | error r => obtain ⟨j, e'⟩ := r; rw [hr] at h; cases h
     | ok r =>
       obtain ⟨l2, bs2⟩ := r
       rw [hr] at h
       cases h
       simp [run_bk_len hr]
set_option maxHeartbeats 4000000 in
theorem paUndo_any (l : List Feat) (ops : List Opn) (v0 v1 : Value) (w : World) (h : FeatsAt w v0 l) (h1 : OpsAt w v1 ops) {bs : List Opn} {er : Int} (hv : undoO l ops = (bs, er)) : Calls Tryz.prog 17 #[v0, v1] w (UndoP w bs er) := by
 have H0 := Lib.hid h
 have H1 := Lib.hid h1
 obtain ⟨ad, c, rfl, _, _, _⟩ := h.form
 obtain ⟨ad1, c1, rfl, _, _, _⟩ := h1.form
 clear h h1
 have NIL : ∀ W : World, OwnOs w.heap.size w W (.slice none 0 0) [] := fun W => OwnOs.nil _ _ _
 by_cases hok : PatchOk l ops
 rotate_left
 · have HV : Hid (([], 1) = (bs, er)) := Lib.hid (by rw [← hv]; unfold undoO; rw [if_neg hok])
   have HOK : Hid (¬ (FeatsOk l ∧ ops.length ≤ 100 ∧ ∀ o ∈ ops, OpOk o)) := Lib.hid hok
   clear hv hok
   have E := HV.out
   cases E
   clear HV
   generalize l.length = n0 at *
   generalize hn1 : ops.length = n1 at *
   have HN := Lib.hid hn1
   clear hn1
   go_enter Tryz.func17, Tryz.ntmps17
   go_wp2_with fail
   (with_reducible refine (paapply_bad l ops _ _ _ H0.out H1.out (mt (fun h => by rw [← HN.out]; exact h) HOK.out)).mono ?_)
   rintro e w1 ⟨rfl, hb1⟩
   go_wp2_with fail
   (with_reducible refine (revOps_any [] _ w.heap.size w w1 (NIL w1) (by simp)).mono ?_)
   rintro e w2 ⟨rfl, ho2, hb2⟩
   have O2 := Lib.hid (ho2.ops (hb1.trans hb2) (by simp))
   clear ho2
   go_wp2_with fail
   go_returns
   exact ⟨none, 0, 0, rfl, rfl, O2.out, hb1.trans hb2⟩
 have HOK : Hid (FeatsOk l ∧ ops.length ≤ 100 ∧ ∀ o ∈ ops, OpOk o) := Lib.hid hok
 have HV : Hid ((match runO l ops with | .error (_, e) => ([], e) | .ok (_, bs) => (bs.reverse, 0)) = (bs, er)) := Lib.hid (by rw [← hv]; unfold undoO; rw [if_pos hok])
 clear hv hok
 generalize l.length = n0 at *
 generalize hn1 : ops.length = n1 at *
 have HN := Lib.hid hn1
 clear hn1
 go_enter Tryz.func17, Tryz.ntmps17
 go_wp2_with fail
 (with_reducible refine (paapply_run l ops _ _ w w (H0.out.two (Below.refl _ _)) H1.out (Below.refl _ _) HOK.out.1 (by rw [HN.out]; exact HOK.out.2.1) HOK.out.2.2).mono ?_)
 rintro e w1 ⟨hb1, ⟨j, er', hr, rfl⟩ | ⟨b, l2, bs2, ad2, m, c2, hr, hbs, rfl, hbb, hs, hlo, how⟩⟩
 · have E := HV.out
   rw [hr] at E
   cases E
   clear HV hr
   go_wp2_with fail
   (with_reducible refine (revOps_any [] _ w.heap.size w w1 (NIL w1) (by simp)).mono ?_)
   rintro e w2 ⟨rfl, ho2, hb2⟩
   have O2 := Lib.hid (ho2.ops (hb1.trans hb2) (by simp))
   clear ho2
   go_wp2_with fail
   go_returns
   exact ⟨none, 0, 0, rfl, rfl, O2.out, hb1.trans hb2⟩
 · have E := HV.out
   rw [hr] at E
   have hl3 : bs2.length ≤ 100 := by have h1 := run_bk_len hr; have h2 := HOK.out.2.1; have := HN.out; omega
   have EQ : Hid (bs2.reverse = bs ∧ (0 : Int) = er) := Lib.hid (by simpa using E)
   have HBS := Lib.hid hbs
   have OW := Lib.hid how
   have L3 := Lib.hid hl3
   obtain rfl : (0 : Int) = er := EQ.out.2
   clear HV hr hs hlo how hbs E hl3
   go_wp2_with fail
   (with_reducible refine (revOps_any bs2 _ w.heap.size w w1 OW.out (by have := L3.out; omega)).mono ?_)
   rintro e w2 ⟨rfl, ho2, hb2⟩
   have O2 := Lib.hid (ho2.ops (hb1.trans hb2) (by rw [List.length_reverse]; have := L3.out; omega))
   clear ho2
   go_wp2_with fail
   go_returns
   exact ⟨ad2, m, c2, by rw [← EQ.out.1, List.length_reverse, HBS.out], rfl, by rw [← EQ.out.1]; exact O2.out, hb1.trans hb2⟩
end Go.Proofs.YtdmegkkifiahdaaGreat
