/- The walks of what operations do to a sheet: insert, remove, change; the map of deeds. -/
import Derived.Test.YtpidmgkjnomigaaGreatPatSh
namespace Go.Proofs.YtpidmgkjnomigaaGreat
open Go.RowKit
attribute [local go_sem] bqOp bqAll bqUpon sqOp sqAll sqUpon
attribute [local irreducible] wpQuiet wpBQ wpPlan
set_option linter.unusedVariables false
/-- What a deed answers, and what it makes of the sheet. -/
def DeedP (w0 : World) (b : Nat) (l : List Feat) (p : Opn) (w : World) (e : Ending) (w' : World) : Prop :=
  Wr b w w' ∧ ∃ (bk : Opn) (a1 : Option Addr) (n1 c1 : Nat) (a2 : Option Addr) (n2 c2 : Nat) (er : Int) (l' : List Feat), e = .returned (.tuple #[opV bk (.slice a1 n1 c1) (.slice a2 n2 c2), .int .i64 er]) ∧ PartsAt w0 bk.feat (.slice a1 n1 c1) (.slice a2 n2 c2) ∧ ShM w0 w' b l' ∧
    ((doO l p = .error er ∧ er ≠ 0 ∧ l' = l) ∨ (doO l p = .ok (l', bk) ∧ er = 0))
theorem ShM.lt2 {w0 w W : World} {b : Nat} {l : List Feat} (h : ShM w0 w b l) (hb : Below w.heap.size w W) (k : Nat) : b ≠ w.heap.size + k := by
  have := h.lt
  omega
set_option maxHeartbeats 4000000 in
theorem sinsert_any (l : List Feat) (f : Feat) (b : Nat) (va vs : Value) (w0 w : World) (hs : ShM w0 w b l) (hp : PartsAt w0 f va vs) (hl : l.length ≤ 300) (hid : IdOk f.id) :
    Calls Tryz.prog 100 #[.map (some b), opV ⟨1, f.id, f, 0, 0, 0, 0, 0⟩ va vs] w (DeedP w0 b l ⟨1, f.id, f, 0, 0, 0, 0, 0⟩ w) := by
  obtain ⟨aa, ca, ab, cb, rfl, rfl⟩ := hp.form
  have SH := Lib.hid hs
  have PA := Lib.hid hp
  have WF := Lib.hid (wf_id (a := f.id) (by have := hid.1; omega) (by have := hid.2; omega))
  obtain ⟨n, hn⟩ : ∃ n, l.length = n := ⟨_, rfl⟩
  rw [hn] at hl
  have HN := Lib.hid hn
  clear hs hp hid hn
  cases hlk : look l f.id with
  | some g =>
    have his : (look l f.id).isSome = true := by rw [hlk]; rfl
    have HD : Hid (doO l ⟨1, f.id, f, 0, 0, 0, 0, 0⟩ = .error 5) := Lib.hid (by simp [doO, hlk])
    clear hlk
    go_enter Tryz.func100, Tryz.ntmps100
    have hlt := SH.out.lt
    go_wp2_with (first
      | (refine wpList_shLookOk rfl _ _ _ rfl Tryz.underlying67 rfl rfl ((SH.out.alloc _).alloc _) WF.out ?_; intro ff va' vs' hp' hf'; have FP := Lib.hid hp'; have FF := Lib.hid hf'; obtain ⟨fa, fc, fb, fd, rfl, rfl⟩ := hp'.form; clear hp' hf')
      | (refine wpList_store_row rfl _ _ _ rfl _ (#[.int .i64 0, .int .i64 0, .int .i64 0, .int .i64 0, .int .i64 0, .int .i64 0, .int .i64 0, .slice none 0 0, .int .i64 0, .int .i64 0, .slice none 0 0, .int .i64 0, .int .i64 0, .int .i64 0, .int .i64 0, .int .i64 0]) rfl rfl _ _ (block_alloc (block_new_at _ (by simp only [World.size_alloc]))) (by kernel_rfl) (by kernel_rfl) (by kernel_rfl) ?_))
    refine body_named fun WR hW => ?_
    have q2 := (congrArg (fun X : World => X.heap[w.heap.size + 1]?) hW).trans (setRow_heap _ _ _ _ _ _ (block_alloc (block_new_at _ (by simp only [World.size_alloc]))))
    replace q2 : WR.heap[w.heap.size + 1]? = _ := q2
    have hWR : Wr b w WR := by rw [hW]; exact Wr.setRow ((((Wr.refl b w).alloc _).alloc _).alloc _) (by omega) _
    have hSR : ShM w0 WR b (l) := by rw [hW]; exact ShM.setRow (((SH.out.alloc _).alloc _).alloc _) (by omega) _
    clear hW
    exact bodyPost_ret (results_ct rfl _ _ _ _ _ _ _ _ rfl rfl q2 Tryz.underlying53 rfl (by kernel_rfl)) rfl ⟨hWR, noOpn, _, _, _, _, _, _, 5, _, rfl, PartsAt.zero w0, hSR, .inl ⟨HD.out, by decide, rfl⟩⟩
  | none =>
    have his : (look l f.id).isSome = false := by rw [hlk]; rfl
    rcases Nat.lt_or_ge n 300 with hlt3 | hge3
    rotate_left
    · have HD : Hid (doO l ⟨1, f.id, f, 0, 0, 0, 0, 0⟩ = .error 2) := Lib.hid (by simp [doO, hlk, HN.out, hge3])
      have d : decide ((300 : Int) ≤ (n : Int)) = true := decide_eq_true (by omega)
      clear hlk
      go_enter Tryz.func100, Tryz.ntmps100
      have hlt := SH.out.lt
      go_wp2_with (first
        | (refine wpList_shLookOk rfl _ _ _ rfl Tryz.underlying67 rfl rfl ((SH.out.alloc _).alloc _) WF.out ?_; intro ff va' vs' hp' hf'; have FP := Lib.hid hp'; have FF := Lib.hid hf'; obtain ⟨fa, fc, fb, fd, rfl, rfl⟩ := hp'.form; clear hp' hf')
        | (refine wpList_shLen rfl _ _ rfl Tryz.underlying67 rfl (((SH.out.alloc _).alloc _).alloc _) ?_; rw [HN.out])
        | (refine wpList_store_row rfl _ _ _ rfl _ (#[.int .i64 0, .int .i64 0, .int .i64 0, .int .i64 0, .int .i64 0, .int .i64 0, .int .i64 0, .slice none 0 0, .int .i64 0, .int .i64 0, .slice none 0 0, .int .i64 0, .int .i64 0, .int .i64 0, .int .i64 0, .int .i64 0]) rfl rfl _ _ (block_alloc (block_new_at _ (by simp only [World.size_alloc]))) (by kernel_rfl) (by kernel_rfl) (by kernel_rfl) ?_))
      refine body_named fun WR hW => ?_
      have q2 := (congrArg (fun X : World => X.heap[w.heap.size + 1]?) hW).trans (setRow_heap _ _ _ _ _ _ (block_alloc (block_new_at _ (by simp only [World.size_alloc]))))
      replace q2 : WR.heap[w.heap.size + 1]? = _ := q2
      have hWR : Wr b w WR := by rw [hW]; exact Wr.setRow ((((Wr.refl b w).alloc _).alloc _).alloc _) (by omega) _
      have hSR : ShM w0 WR b (l) := by rw [hW]; exact ShM.setRow (((SH.out.alloc _).alloc _).alloc _) (by omega) _
      clear hW
      exact bodyPost_ret (results_ct rfl _ _ _ _ _ _ _ _ rfl rfl q2 Tryz.underlying53 rfl (by kernel_rfl)) rfl ⟨hWR, noOpn, _, _, _, _, _, _, 2, _, rfl, PartsAt.zero w0, hSR, .inl ⟨HD.out, by decide, rfl⟩⟩
    · have HD : Hid (doO l ⟨1, f.id, f, 0, 0, 0, 0, 0⟩ = .ok (putF f l, delO f.id)) := Lib.hid (by simp [doO, hlk, HN.out]; omega)
      have d : decide ((300 : Int) ≤ (n : Int)) = false := decide_eq_false (by omega)
      have hlm : l.length < maxLen := by rw [HN.out]; unfold maxLen; omega
      have LM := Lib.hid hlm
      clear hlk hlm
      go_enter Tryz.func100, Tryz.ntmps100
      have hlt := SH.out.lt
      go_wp2_with (first
        | (refine wpList_shLookOk rfl _ _ _ rfl Tryz.underlying67 rfl rfl ((SH.out.alloc _).alloc _) WF.out ?_; intro ff va' vs' hp' hf'; have FP := Lib.hid hp'; have FF := Lib.hid hf'; obtain ⟨fa, fc, fb, fd, rfl, rfl⟩ := hp'.form; clear hp' hf')
        | (refine wpList_shLen rfl _ _ rfl Tryz.underlying67 rfl (((SH.out.alloc _).alloc _).alloc _) ?_; rw [HN.out])
        | (refine wpList_shStore rfl _ _ _ _ rfl Tryz.underlying67 (f := f) rfl rfl rfl (((SH.out.alloc _).alloc _).alloc _) WF.out PA.out LM.out ?_; intro w1 hs1 ht1; have hT : Wr b _ w1 := ht1.grown; have p3 : w1.heap[w.heap.size + 1]? = _ := hT.block_ne (block_alloc (block_new_at _ (by simp only [World.size_alloc]))) (by omega); have k3 : w1.heap[w.heap.size]? = _ := hT.block_ne (block_alloc (block_alloc (block_new w _))) (by omega); have c31 := cell_block k3 1)
        | (refine wpList_store_row rfl _ _ _ rfl _ (#[.int .i64 2, .int .i64 f.id, .int .i64 0, .int .i64 0, .int .i64 0, .int .i64 0, .int .i64 0, .slice none 0 0, .int .i64 0, .int .i64 0, .slice none 0 0, .int .i64 0, .int .i64 0, .int .i64 0, .int .i64 0, .int .i64 0]) rfl rfl _ _ p3 (by kernel_rfl) (by kernel_rfl) (by kernel_rfl) ?_))
      refine body_named fun WR hW => ?_
      have q2 := (congrArg (fun X : World => X.heap[w.heap.size + 1]?) hW).trans (setRow_heap _ _ _ _ _ _ p3)
      replace q2 : WR.heap[w.heap.size + 1]? = _ := q2
      have hWR : Wr b w WR := by rw [hW]; exact Wr.setRow (((((Wr.refl b w).alloc _).alloc _).alloc _).trans hT) (by omega) _
      have hSR : ShM w0 WR b (putF f l) := by rw [hW]; exact ShM.setRow (hs1) (by omega) _
      clear hW
      exact bodyPost_ret (results_ct rfl _ _ _ _ _ _ _ _ rfl rfl q2 Tryz.underlying53 rfl (by kernel_rfl)) rfl ⟨hWR, delO f.id, _, _, _, _, _, _, 0, _, rfl, PartsAt.zero w0, hSR, .inr ⟨HD.out, rfl⟩⟩
end Go.Proofs.YtpidmgkjnomigaaGreat
