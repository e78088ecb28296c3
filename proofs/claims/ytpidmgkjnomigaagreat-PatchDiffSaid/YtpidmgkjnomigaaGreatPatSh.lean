/- The walks of package patch's sheets: load, insert, remove, change, deeds. -/
import Derived.Test.YtpidmgkjnomigaaGreatPC
import Derived.Test.YtpidmgkjnomigaaGreatPatChg2
import Derived.Test.YtpidmgkjnomigaaGreatPatMath
import Derived.Deep.MidRow
import Derived.Deep.Cut
namespace Go.Proofs.YtpidmgkjnomigaaGreat
open Go.RowKit
attribute [local go_sem] bqOp bqAll bqUpon sqOp sqAll sqUpon
attribute [local irreducible] wpQuiet wpBQ wpPlan
set_option linter.unusedVariables false
/-- What has turned: block b alone. -/
def Wr (b : Nat) (w w' : World) : Prop := w.grownBy w' (some b)
theorem Wr.refl (b : Nat) (w : World) : Wr b w w := ⟨rfl, rfl, rfl, Nat.le_refl _, fun _ _ _ => rfl⟩
theorem Wr.trans {b : Nat} {w1 w2 w3 : World} (h : Wr b w1 w2) (k : Wr b w2 w3) : Wr b w1 w3 :=
  ⟨k.os.trans h.os, k.tape.trans h.tape, k.output.trans h.output, Nat.le_trans h.size k.size, fun i hi hne => (k.block i (Nat.lt_of_lt_of_le hi h.size) hne).trans (h.block i hi hne)⟩
theorem Wr.of_below {b : Nat} {w w' : World} (h : Below w.heap.size w w') : Wr b w w' := ⟨h.os, h.tape, h.output, h.size, fun i hi _ => h.block i hi⟩
theorem Wr.block_ne {b i : Nat} {w w' : World} {o : Obj} (h : Wr b w w') (hi : w.heap[i]? = some o) (hne : i ≠ b) : w'.heap[i]? = some o := (h.block i (lt_block hi) (fun e => hne (Option.some.inj e))).trans hi
theorem Wr.below {b B : Nat} {w w' : World} (h : Wr b w w') (hB : B ≤ b) (hw : B ≤ w.heap.size) : Below B w w' := ⟨h.os, h.tape, h.output, h.size, fun i hi => h.block i (Nat.lt_of_lt_of_le hi hw) (fun e => by have := Option.some.inj e; omega)⟩
theorem Wr.setRow {b k : Nat} {w w' : World} (h : Wr b w w') (hk : w.heap.size ≤ k) (cs : Array Value) : Wr b w (w'.setRow k cs) :=
  ⟨h.os, h.tape, h.output, by rw [setRow_size]; exact h.size, fun i hi hne => (setRow_other _ _ _ _ (by omega)).trans (h.block i hi hne)⟩
theorem Wr.alloc {b : Nat} {w w' : World} (h : Wr b w w') (o : Obj) : Wr b w (w'.alloc o) := h.trans (Wr.of_below ((Below.refl _ _).alloc (Nat.le_refl _) o))
theorem ShM.setRow {w0 w : World} {b g : Nat} {l : List Feat} (h : ShM w0 w b l) (hne : b ≠ g) (cs : Array Value) : ShM w0 (w.setRow g cs) b l := by
  obtain ⟨hu, D, ⟨es, clock, hh, r⟩, hr⟩ := h
  exact ⟨hu, D, ⟨es, clock, (setRow_other _ _ _ _ hne).trans hh, r⟩, hr⟩
def cntV : Value → Nat
  | .int _ q => q.toNat
  | _ => 0
theorem put_snoc {f : Feat} : ∀ {l : List Feat}, (∀ g ∈ l, g.id < f.id) → putF f l = l ++ [f]
  | [], _ => rfl
  | g :: l, h => by
    have hg := h g (by simp)
    unfold putF
    rw [if_neg (by omega), if_neg (by omega), put_snoc fun x hx => h x (by simp [hx])]
    rfl
theorem take_snoc {α : Type} {l : List α} {k : Nat} (d : α) (hk : k < l.length) : l.take (k + 1) = l.take k ++ [l.getD k d] := by
  rw [List.take_add_one, List.getElem?_eq_getElem hk, List.getD_eq_getElem?_getD, List.getElem?_eq_getElem hk]
  rfl
theorem put_take {l : List Feat} (h : idsUp l) {k : Nat} (hk : k < l.length) : putF (l.getD k noFeat) (l.take k) = l.take (k + 1) := by
  rw [take_snoc noFeat hk, put_snoc]
  intro g hg
  obtain ⟨i, hi, rfl⟩ := List.getElem_of_mem hg
  rw [List.length_take] at hi
  rw [List.getElem_take, List.getD_eq_getElem?_getD, List.getElem?_eq_getElem hk]
  exact List.pairwise_iff_getElem.1 h i k (by omega) hk (by omega)
theorem FeatCells.range {w : World} {g o : Nat} {f : Feat} {va vs : Value} (h : FeatCells w g o f va vs) : w.rangeAt g o (featCells (f, va, vs)) := fun j v hj => by
  have hlt := (List.getElem?_eq_some_iff.1 hj).1
  rw [h.at j hlt, hj]
set_option maxHeartbeats 4000000 in
theorem paload_any (l : List Feat) (v0 : Value) (w0 w : World) (h : FeatsAt w0 v0 l) (hb0 : Below w0.heap.size w0 w) (hl : FeatsOk l) : Calls Tryz.prog 67 #[v0] w fun e w' => e = .returned (.map (some w.heap.size)) ∧ ShM w0 w' w.heap.size l ∧ Below w.heap.size w w' := by
  obtain ⟨ad, c, rfl, h1, hn, hc⟩ := h.form
  have H := Lib.hid h1
  have HO := Lib.hid hl
  have HB0 := Lib.hid hb0
  obtain ⟨n, hln⟩ : ∃ n, l.length = n := ⟨_, rfl⟩
  have hn3 : n ≤ 300 := by rw [← hln]; exact hl.1
  rw [hln] at H hn hc
  rw [hln]
  have HL := Lib.hid hln
  clear h h1 hln hl hb0
  have hmm := @run_makeMap Tryz.prog
  go_enter Tryz.func67, Tryz.ntmps67
  go_wp2_with fail
  go_loopw [9] (fun i wr => ∃ k : Nat, k ≤ n ∧ i = .int .i64 k ∧ ShM w0 wr w.heap.size (l.take k) ∧ Below w.heap.size w wr) (fun i _ => n - cntV i)
  case atStart => exact ⟨0, by omega, rfl, ShM.made w0 w, (Below.refl _ _).alloc (Nat.le_refl _) _⟩
  case round =>
    obtain ⟨k, hk, rfl, hs, hb⟩ := hrel
    have SH := Lib.hid hs
    clear hs
    rcases Nat.lt_or_ge k n with hlt | hge
    rotate_left
    · obtain rfl : k = n := by omega
      have SH2 : Hid (ShM w0 wr w.heap.size l) := Lib.hid (by have := SH.out; rwa [List.take_of_length_le (by have := HL.out; omega)] at this)
      go_wp2_with fail
      go_returns
      exact ⟨rfl, SH2.out, hb⟩
    obtain ⟨g, o, va, vs, rfl, fc0⟩ := H.out.row hlt
    have fc := fc0.later (HB0.out.trans (hb.mono HB0.out.size))
    obtain ⟨f, hf⟩ : ∃ f, l.getD k noFeat = f := ⟨_, rfl⟩
    have hok := featsOk_mem HO.out (l.getD k noFeat) (getD_memD (by have := HL.out; omega) _)
    have NEXT : Hid (putF f (l.take k) = l.take (k + 1)) := Lib.hid (by rw [← hf]; exact put_take (idsUp_of HO.out) (by have := HL.out; omega))
    rw [hf] at fc fc0 hok
    have hid := featOk_id hok
    have WF := Lib.hid (wf_id (a := f.id) (by have := hid.1; omega) (by have := hid.2; omega))
    have PA := Lib.hid (show PartsAt w0 f va vs from ⟨fc0.area, fc0.secs⟩)
    have hlk : (l.take k).length < maxLen := by rw [List.length_take]; unfold maxLen; omega
    have LK := Lib.hid hlk
    have RG := Lib.hid fc.range
    obtain ⟨aa, ca, ab, cb, rfl, rfl⟩ := PA.out.form
    clear fc fc0 hok hid hlk hf
    go_wp2_with (first
      | (refine wpList_load_mid rfl _ _ rfl g (o + k * 9) rfl [.int .i64 f.id, .int .i64 f.kind, .int .i64 f.x, .int .i64 f.y, .int .i64 f.rad, .slice aa f.area.length ca, .int .i64 f.dep, .int .i64 f.sym, .slice ab f.secs.length cb] _ RG.out Tryz.underlying46 rfl (by kernel_rfl) ?_)
      | (refine wpList_shStore rfl _ _ _ _ rfl Tryz.underlying67 rfl rfl rfl (SH.out.alloc _) WF.out PA.out LK.out ?_; intro w1 hs1 ht1))
    have hb1 : Below w.heap.size w w1 := (hb.alloc hb.size _).trans (turned_below ht1 (Nat.le_refl _) (by have := hb.size; simp only [World.size_alloc]; omega))
    go_roundw
    case rel => exact ⟨k + 1, by omega, by go_num, by rw [← NEXT.out]; exact hs1, hb1⟩
    case measure => simp [cntV]; omega
end Go.Proofs.YtpidmgkjnomigaaGreat
