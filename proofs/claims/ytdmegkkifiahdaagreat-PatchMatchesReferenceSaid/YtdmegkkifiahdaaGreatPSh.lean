import Derived.Test.YtdmegkkifiahdaaGreatPC
import Derived.Test.YtdmegkkifiahdaaGreatPCh
import Derived.Test.YtdmegkkifiahdaaGreatPatMath
import Derived.Deep.MidRow
import Derived.Deep.Cut
namespace Go.Proofs.YtdmegkkifiahdaaGreat
open Go.RowKit
attribute [local go_sem] bqOp bqAll bqUpon sqOp sqAll sqUpon
attribute [local irreducible] wpQuiet wpBQ wpPlan
set_option linter.unusedVariables false
def Wr (b : Nat) (w w' : World) : Prop := w.grownBy w' (some b)
theorem Wr.refl (b : Nat) (w : World) : Wr b w w := ⟨rfl, rfl, rfl, Nat.le_refl _, fun _ _ _ => rfl⟩
theorem Wr.trans {b : Nat} {w1 w2 w3 : World} (h : Wr b w1 w2) (k : Wr b w2 w3) : Wr b w1 w3 :=
 ⟨k.os.trans h.os, k.tape.trans h.tape, k.output.trans h.output, Nat.le_trans h.size k.size, fun i hi hne => (k.block i (Nat.lt_of_lt_of_le hi h.size) hne).trans (h.block i hi hne)⟩
theorem Wr.of_below {b : Nat} {w w' : World} (h : Below w.heap.size w w') : Wr b w w' := ⟨h.os, h.tape, h.output, h.size, fun i hi _ => h.block i hi⟩
theorem Wr.block_ne {b i : Nat} {w w' : World} {o : Obj} (h : Wr b w w') (hi : w.heap[i]? = some o) (hne : i ≠ b) : w'.heap[i]? = some o := (h.block i (lt_block hi) (fun e => hne (Option.some.inj e))).trans hi
theorem Wr.below {b B : Nat} {w w' : World} (h : Wr b w w') (hB : B ≤ b) (hw : B ≤ w.heap.size) : Below B w w' := ⟨h.os, h.tape, h.output, h.size, fun i hi => h.block i (Nat.lt_of_lt_of_le hi hw) (fun e => by have := Option.some.inj e; omega)⟩
theorem Wr.setRow {b k : Nat} {w w' : World} (h : Wr b w w') (hk : w.heap.size ≤ k) (cs : Array Value) : Wr b w (w'.setRow k cs) :=
 ⟨h.os, h.tape, h.output, by rw [setRow_size]; exact h.size, fun i hi hne => (setRow_other _ _ _ _ (by omega)).trans (h.block i hi hne)⟩
theorem Wr.alloc {b : Nat} {w w' : World} (h : Wr b w w') (o : Obj) : Wr b w (w'.alloc o) := h.trans (Wr.of_below ((Below.refl _ _).alloc (Nat.le_refl _) o))
theorem ShM.setRow {w0 w : World} {b g : Nat} {l : List Feat} (h : ShM w0 w b l) (hne : b ≠ g) (cs : Array Value) : ShM w0 (w.setRow g cs) b l := by
 obtain ⟨hu, D, ⟨es, clock, hh, r⟩, hr⟩ := h
 exact ⟨hu, D, ⟨es, clock, (setRow_other _ _ _ _ hne).trans hh, r⟩, hr⟩
def cntV : Value → Nat
 | .int _ q => q.toNat
 | _ => 0
theorem put_snoc {f : Feat} : ∀ {l : List Feat}, (∀ g ∈ l, g.id < f.id) → putF f l = l ++ [f]
 | [], _ => rfl
 | g :: l, h => by
   have hg := h g (by simp)
   unfold putF
   rw [if_neg (by omega), if_neg (by omega), put_snoc fun x hx => h x (by simp [hx])]
   rfl
theorem take_snoc {α : Type} {l : List α} {k : Nat} (d : α) (hk : k < l.length) : l.take (k + 1) = l.take k ++ [l.getD k d] := by
 rw [List.take_add_one, List.getElem?_eq_getElem hk, List.getD_eq_getElem?_getD, List.getElem?_eq_getElem hk]
 rfl
theorem put_take {l : List Feat} (h : idsUp l) {k : Nat} (hk : k < l.length) : putF (l.getD k noFeat) (l.take k) = l.take (k + 1) := by
 rw [take_snoc noFeat hk, put_snoc]
 intro g hg
 obtain ⟨i, hi, rfl⟩ := List.getElem_of_mem hg
 rw [List.length_take] at hi
 rw [List.getElem_take, List.getD_eq_getElem?_getD, List.getElem?_eq_getElem hk]
 exact List.pairwise_iff_getElem.1 h i k (by omega) hk (by omega)
theorem FeatCells.range {w : World} {g o : Nat} {f : Feat} {va vs : Value} (h : FeatCells w g o f va vs) : w.rangeAt g o (featCells (f, va, vs)) := fun j v hj => by
 have hlt := (List.getElem?_eq_some_iff.1 hj).1
 rw [h.at j hlt, hj]
def Feats2 (w0 w : World) (v : Value) (l : List Feat) : Prop :=
 ∃ ad c, v = .slice ad l.length c ∧ (l.length ≤ 9223372036854775807 ∧ l.length ≤ c) ∧ ∀ i, i < l.length → ∃ g o va vs, ad = some ⟨g, o, none⟩ ∧ FeatCells w g (o + i * 9) (l.getD i noFeat) va vs ∧ PartsAt w0 (l.getD i noFeat) va vs
theorem Feats2.later {w0 w w' : World} {v : Value} {l : List Feat} (h : Feats2 w0 w v l) (hb : Below w.heap.size w w') : Feats2 w0 w' v l := by
 obtain ⟨ad, c, hv, hn, hc⟩ := h
 exact ⟨ad, c, hv, hn, fun i hi => by obtain ⟨g, o, va, vs, hg, h, hp⟩ := hc i hi; exact ⟨g, o, va, vs, hg, h.later hb, hp⟩⟩
theorem Feats2.at {w0 w : World} {v : Value} {l : List Feat} (h : Feats2 w0 w v l) : FeatsAt w v l := by
 obtain ⟨ad, c, hv, hn, hc⟩ := h
 exact ⟨ad, c, hv, hn, fun i hi => by obtain ⟨g, o, va, vs, hg, h, hp⟩ := hc i hi; exact ⟨g, o, va, vs, hg, h⟩⟩
theorem FeatsAt.two {w0 w : World} {v : Value} {l : List Feat} (h : FeatsAt w0 v l) (hb : Below w0.heap.size w0 w) : Feats2 w0 w v l := by
 obtain ⟨ad, c, hv, hn, hc⟩ := h
 exact ⟨ad, c, hv, hn, fun i hi => by obtain ⟨g, o, va, vs, hg, h⟩ := hc i hi; exact ⟨g, o, va, vs, hg, h.later hb, h.area, h.secs⟩⟩
theorem Feats2.row {w0 w : World} {ad : Option Addr} {c n : Nat} {l : List Feat} (h : Feats2 w0 w (.slice ad n c) l) {i : Nat} (hi : i < n) : ∃ g o va vs, ad = some ⟨g, o, none⟩ ∧ FeatCells w g (o + i * 9) (l.getD i noFeat) va vs ∧ PartsAt w0 (l.getD i noFeat) va vs := by
 obtain ⟨ad', c', e, _, hc⟩ := h
 cases e
 exact hc i hi
theorem Feats2.form {w0 w : World} {v : Value} {l : List Feat} (h : Feats2 w0 w v l) : ∃ ad c, v = .slice ad l.length c ∧ Feats2 w0 w (.slice ad l.length c) l ∧ l.length ≤ 9223372036854775807 ∧ l.length ≤ c := by
 obtain ⟨ad, c, rfl, hn, hc⟩ := h
 exact ⟨ad, c, rfl, ⟨ad, c, rfl, hn, hc⟩, hn.1, hn.2⟩
theorem OwnFs.two {base : Nat} {w0 w : World} {v : Value} {l : List Feat} (h : OwnFs base w0 w v l) (hb : Below w0.heap.size w0 w) (hl : l.length ≤ 9223372036854775807) : Feats2 w0 w v l := by
 obtain ⟨l, rfl, h, hp⟩ := h
 rw [List.length_map] at hl
 have hc := own_cap h
 obtain ⟨ad, c, rfl⟩ := OwnT.form h
 refine ⟨ad, c, by simp, ⟨by simpa using hl, by rw [List.length_map]; exact hc _ _ _ rfl⟩, fun i hi => ?_⟩
 rw [List.length_map] at hi
 obtain ⟨g, rfl, hg, hcell⟩ := OwnT.cell featCells_len noItem h rfl (by omega)
 refine ⟨g, 0, (l.getD i noItem).2.1, (l.getD i noItem).2.2, rfl, ?_⟩
 rw [fst_getD hi noItem]
 exact ⟨featCells_at ((hp _ (getD_memD hi noItem)).later hb) (fun j hj => hcell i hi j hj), hp _ (getD_memD hi noItem)⟩
set_option maxHeartbeats 4000000 in
theorem paload_any (l : List Feat) (v0 : Value) (w0 w : World) (h : Feats2 w0 w v0 l) (hl : FeatsOk l) : Calls Tryz.prog 97 #[v0] w fun e w' => e = .returned (.map (some w.heap.size)) ∧ ShM w0 w' w.heap.size l ∧ Below w.heap.size w w' := by
 obtain ⟨ad, c, rfl, h1, hn, hc⟩ := h.form
 have H := Lib.hid h1
 have HO := Lib.hid hl
 obtain ⟨n, hln⟩ : ∃ n, l.length = n := ⟨_, rfl⟩
 have hn3 : n ≤ 300 := by rw [← hln]; exact hl.1
 rw [hln] at H hn hc
 rw [hln]
 have HL := Lib.hid hln
 clear h h1 hln hl
 have hmm := @run_makeMap Tryz.prog
 go_enter Tryz.func97, Tryz.ntmps97
 go_wp2_with fail
 go_loopw [9] (fun i wr => ∃ k : Nat, k ≤ n ∧ i = .int .i64 k ∧ ShM w0 wr w.heap.size (l.take k) ∧ Below w.heap.size w wr) (fun i _ => n - cntV i)
 case atStart => exact ⟨0, by omega, rfl, ShM.made w0 w, (Below.refl _ _).alloc (Nat.le_refl _) _⟩
 case round =>
  obtain ⟨k, hk, rfl, hs, hb⟩ := hrel
  have SH := Lib.hid hs
  clear hs
  rcases Nat.lt_or_ge k n with hlt | hge
  rotate_left
  · obtain rfl : k = n := by omega
    have SH2 : Hid (ShM w0 wr w.heap.size l) := Lib.hid (by have := SH.out; rwa [List.take_of_length_le (by have := HL.out; omega)] at this)
    go_wp2_with fail
    go_returns
    exact ⟨rfl, SH2.out, hb⟩
  obtain ⟨g, o, va, vs, rfl, fc0, pa0⟩ := H.out.row hlt
  have fc := fc0.later hb
  obtain ⟨f, hf⟩ : ∃ f, l.getD k noFeat = f := ⟨_, rfl⟩
  have hok := featsOk_mem HO.out (l.getD k noFeat) (getD_memD (by have := HL.out; omega) _)
  have NEXT : Hid (putF f (l.take k) = l.take (k + 1)) := Lib.hid (by rw [← hf]; exact put_take (idsUp_of HO.out) (by have := HL.out; omega))
  rw [hf] at fc fc0 hok pa0
  have hid := featOk_id hok
  have WF := Lib.hid (wf_id (a := f.id) (by have := hid.1; omega) (by have := hid.2; omega))
  have PA := Lib.hid (show PartsAt w0 f va vs from pa0)
  have hlk : (l.take k).length < maxLen := by rw [List.length_take]; unfold maxLen; omega
  have LK := Lib.hid hlk
  have RG := Lib.hid fc.range
  obtain ⟨aa, ca, ab, cb, rfl, rfl⟩ := PA.out.form
  clear fc fc0 hok hid hlk hf pa0
  go_wp2_with (first
   | (refine wpList_load_mid rfl _ _ rfl g (o + k * 9) rfl [.int .i64 f.id, .int .i64 f.kind, .int .i64 f.x, .int .i64 f.y, .int .i64 f.rad, .slice aa f.area.length ca, .int .i64 f.dep, .int .i64 f.sym, .slice ab f.secs.length cb] _ RG.out Tryz.underlying32 rfl (by kernel_rfl) ?_)
   | (refine wpList_shStore rfl _ _ _ _ rfl Tryz.underlying103 rfl rfl rfl (SH.out.alloc _) WF.out PA.out LK.out ?_; intro w1 hs1 ht1))
  have hb1 : Below w.heap.size w w1 := (hb.alloc hb.size _).trans (turned_below ht1 (Nat.le_refl _) (by have := hb.size; simp only [World.size_alloc]; omega))
  go_roundw
  case rel => exact ⟨k + 1, by omega, by go_num, by rw [← NEXT.out]; exact hs1, hb1⟩
  case measure => simp [cntV]; omega
end Go.Proofs.YtdmegkkifiahdaaGreat
namespace Go.Proofs.YtdmegkkifiahdaaGreat
open Go.RowKit
attribute [local go_sem] bqOp bqAll bqUpon sqOp sqAll sqUpon
attribute [local irreducible] wpQuiet wpBQ wpPlan
set_option linter.unusedVariables false
def DeedP (w0 : World) (b : Nat) (l : List Feat) (p : Opn) (w : World) (e : Ending) (w' : World) : Prop :=
 Wr b w w' ∧ ∃ (bk : Opn) (a1 : Option Addr) (n1 c1 : Nat) (a2 : Option Addr) (n2 c2 : Nat) (er : Int) (l' : List Feat), e = .returned (.tuple #[opV bk (.slice a1 n1 c1) (.slice a2 n2 c2), .int .i64 er]) ∧ PartsAt w0 bk.feat (.slice a1 n1 c1) (.slice a2 n2 c2) ∧ ShM w0 w' b l' ∧
  ((doO l p = .error er ∧ er ≠ 0 ∧ l' = l) ∨ (doO l p = .ok (l', bk) ∧ er = 0))
set_option maxHeartbeats 4000000 in
theorem sinsert_any (l : List Feat) (f : Feat) (b : Nat) (va vs : Value) (w0 w : World) (hs : ShM w0 w b l) (hp : PartsAt w0 f va vs) (hl : l.length ≤ 300) (hid : IdOk f.id) :
  Calls Tryz.prog 293 #[.map (some b), opV ⟨1, f.id, f, 0, 0, 0, 0, 0⟩ va vs] w (DeedP w0 b l ⟨1, f.id, f, 0, 0, 0, 0, 0⟩ w) := by
 obtain ⟨aa, ca, ab, cb, rfl, rfl⟩ := hp.form
 have SH := Lib.hid hs
 have PA := Lib.hid hp
 have WF := Lib.hid (wf_id (a := f.id) (by have := hid.1; omega) (by have := hid.2; omega))
 obtain ⟨n, hn⟩ : ∃ n, l.length = n := ⟨_, rfl⟩
 rw [hn] at hl
 have HN := Lib.hid hn
 clear hs hp hid hn
 cases hlk : look l f.id with
 | some g =>
   have his : (look l f.id).isSome = true := by rw [hlk]; rfl
   have HD : Hid (doO l ⟨1, f.id, f, 0, 0, 0, 0, 0⟩ = .error 5) := Lib.hid (by simp [doO, hlk])
   clear hlk
   go_enter Tryz.func293, Tryz.ntmps293
   have hlt := SH.out.lt
   go_wp2_with (first
    | (refine wpList_shLookOk rfl _ _ _ rfl Tryz.underlying103 rfl rfl ((SH.out.alloc _).alloc _) WF.out ?_; intro ff va' vs' hp' hf'; have FP := Lib.hid hp'; have FF := Lib.hid hf'; obtain ⟨fa, fc, fb, fd, rfl, rfl⟩ := hp'.form; clear hp' hf')
    | (refine wpList_store_row rfl _ _ _ rfl _ (#[.int .i64 0, .int .i64 0, .int .i64 0, .int .i64 0, .int .i64 0, .int .i64 0, .int .i64 0, .slice none 0 0, .int .i64 0, .int .i64 0, .slice none 0 0, .int .i64 0, .int .i64 0, .int .i64 0, .int .i64 0, .int .i64 0]) rfl rfl _ _ (block_alloc (block_new_at _ (by simp only [World.size_alloc]))) (by kernel_rfl) (by kernel_rfl) (by kernel_rfl) ?_))
   refine body_named fun WR hW => ?_
   have q2 := (congrArg (fun X : World => X.heap[w.heap.size + 1]?) hW).trans (setRow_heap _ _ _ _ _ _ (block_alloc (block_new_at _ (by simp only [World.size_alloc]))))
   replace q2 : WR.heap[w.heap.size + 1]? = _ := q2
   have hWR : Wr b w WR := by rw [hW]; exact Wr.setRow ((((Wr.refl b w).alloc _).alloc _).alloc _) (by omega) _
   have hSR : ShM w0 WR b (l) := by rw [hW]; exact ShM.setRow (((SH.out.alloc _).alloc _).alloc _) (by omega) _
   clear hW
   exact bodyPost_ret (results_ct rfl _ _ _ _ _ _ _ _ rfl rfl q2 Tryz.underlying34 rfl (by kernel_rfl)) rfl ⟨hWR, noOpn, _, _, _, _, _, _, 5, _, rfl, PartsAt.zero w0, hSR, .inl ⟨HD.out, by decide, rfl⟩⟩
 | none =>
   have his : (look l f.id).isSome = false := by rw [hlk]; rfl
   rcases Nat.lt_or_ge n 300 with hlt3 | hge3
   rotate_left
   · have HD : Hid (doO l ⟨1, f.id, f, 0, 0, 0, 0, 0⟩ = .error 2) := Lib.hid (by simp [doO, hlk, HN.out, hge3])
     have d : decide ((300 : Int) ≤ (n : Int)) = true := decide_eq_true (by omega)
     clear hlk
     go_enter Tryz.func293, Tryz.ntmps293
     have hlt := SH.out.lt
     go_wp2_with (first
      | (refine wpList_shLookOk rfl _ _ _ rfl Tryz.underlying103 rfl rfl ((SH.out.alloc _).alloc _) WF.out ?_; intro ff va' vs' hp' hf'; have FP := Lib.hid hp'; have FF := Lib.hid hf'; obtain ⟨fa, fc, fb, fd, rfl, rfl⟩ := hp'.form; clear hp' hf')
      | (refine wpList_shLen rfl _ _ rfl Tryz.underlying103 rfl (((SH.out.alloc _).alloc _).alloc _) ?_; rw [HN.out])
      | (refine wpList_store_row rfl _ _ _ rfl _ (#[.int .i64 0, .int .i64 0, .int .i64 0, .int .i64 0, .int .i64 0, .int .i64 0, .int .i64 0, .slice none 0 0, .int .i64 0, .int .i64 0, .slice none 0 0, .int .i64 0, .int .i64 0, .int .i64 0, .int .i64 0, .int .i64 0]) rfl rfl _ _ (block_alloc (block_new_at _ (by simp only [World.size_alloc]))) (by kernel_rfl) (by kernel_rfl) (by kernel_rfl) ?_))
     refine body_named fun WR hW => ?_
     have q2 := (congrArg (fun X : World => X.heap[w.heap.size + 1]?) hW).trans (setRow_heap _ _ _ _ _ _ (block_alloc (block_new_at _ (by simp only [World.size_alloc]))))
     replace q2 : WR.heap[w.heap.size + 1]? = _ := q2
     have hWR : Wr b w WR := by rw [hW]; exact Wr.setRow ((((Wr.refl b w).alloc _).alloc _).alloc _) (by omega) _
     have hSR : ShM w0 WR b (l) := by rw [hW]; exact ShM.setRow (((SH.out.alloc _).alloc _).alloc _) (by omega) _
     clear hW
     exact bodyPost_ret (results_ct rfl _ _ _ _ _ _ _ _ rfl rfl q2 Tryz.underlying34 rfl (by kernel_rfl)) rfl ⟨hWR, noOpn, _, _, _, _, _, _, 2, _, rfl, PartsAt.zero w0, hSR, .inl ⟨HD.out, by decide, rfl⟩⟩
   · have HD : Hid (doO l ⟨1, f.id, f, 0, 0, 0, 0, 0⟩ = .ok (putF f l, delO f.id)) := Lib.hid (by simp [doO, hlk, HN.out]; omega)
     have d : decide ((300 : Int) ≤ (n : Int)) = false := decide_eq_false (by omega)
     have hlm : l.length < maxLen := by rw [HN.out]; unfold maxLen; omega
     have LM := Lib.hid hlm
     clear hlk hlm
     go_enter Tryz.func293, Tryz.ntmps293
     have hlt := SH.out.lt
     go_wp2_with (first
      | (refine wpList_shLookOk rfl _ _ _ rfl Tryz.underlying103 rfl rfl ((SH.out.alloc _).alloc _) WF.out ?_; intro ff va' vs' hp' hf'; have FP := Lib.hid hp'; have FF := Lib.hid hf'; obtain ⟨fa, fc, fb, fd, rfl, rfl⟩ := hp'.form; clear hp' hf')
      | (refine wpList_shLen rfl _ _ rfl Tryz.underlying103 rfl (((SH.out.alloc _).alloc _).alloc _) ?_; rw [HN.out])
      | (refine wpList_shStore rfl _ _ _ _ rfl Tryz.underlying103 (f := f) rfl rfl rfl (((SH.out.alloc _).alloc _).alloc _) WF.out PA.out LM.out ?_; intro w1 hs1 ht1; have hT : Wr b _ w1 := ht1.grown; have p3 : w1.heap[w.heap.size + 1]? = _ := hT.block_ne (block_alloc (block_new_at _ (by simp only [World.size_alloc]))) (by omega); have k3 : w1.heap[w.heap.size]? = _ := hT.block_ne (block_alloc (block_alloc (block_new w _))) (by omega); have c31 := cell_block k3 1)
      | (refine wpList_store_row rfl _ _ _ rfl _ (#[.int .i64 2, .int .i64 f.id, .int .i64 0, .int .i64 0, .int .i64 0, .int .i64 0, .int .i64 0, .slice none 0 0, .int .i64 0, .int .i64 0, .slice none 0 0, .int .i64 0, .int .i64 0, .int .i64 0, .int .i64 0, .int .i64 0]) rfl rfl _ _ p3 (by kernel_rfl) (by kernel_rfl) (by kernel_rfl) ?_))
     refine body_named fun WR hW => ?_
     have q2 := (congrArg (fun X : World => X.heap[w.heap.size + 1]?) hW).trans (setRow_heap _ _ _ _ _ _ p3)
     replace q2 : WR.heap[w.heap.size + 1]? = _ := q2
     have hWR : Wr b w WR := by rw [hW]; exact Wr.setRow (((((Wr.refl b w).alloc _).alloc _).alloc _).trans hT) (by omega) _
     have hSR : ShM w0 WR b (putF f l) := by rw [hW]; exact ShM.setRow (hs1) (by omega) _
     clear hW
     exact bodyPost_ret (results_ct rfl _ _ _ _ _ _ _ _ rfl rfl q2 Tryz.underlying34 rfl (by kernel_rfl)) rfl ⟨hWR, delO f.id, _, _, _, _, _, _, 0, _, rfl, PartsAt.zero w0, hSR, .inr ⟨HD.out, rfl⟩⟩
end Go.Proofs.YtdmegkkifiahdaaGreat
namespace Go.Proofs.YtdmegkkifiahdaaGreat
open Go.RowKit
attribute [local go_sem] bqOp bqAll bqUpon sqOp sqAll sqUpon
attribute [local irreducible] wpQuiet wpBQ wpPlan
set_option linter.unusedVariables false
set_option maxHeartbeats 4000000 in
theorem sremove_any (l : List Feat) (id : Int) (b : Nat) (va vs : Value) (w0 w : World) (hs : ShM w0 w b l) (hp : PartsAt w0 noFeat va vs) (hid : IdOk id) :
  Calls Tryz.prog 294 #[.map (some b), opV ⟨2, id, ⟨0, 0, 0, 0, 0, [], 0, 0, []⟩, 0, 0, 0, 0, 0⟩ va vs] w (DeedP w0 b l (delO id) w) := by
 obtain ⟨aa, ca, ab, cb, rfl, rfl⟩ := hp.form
 have SH := Lib.hid hs
 have WF := Lib.hid (wf_id (a := id) (by have := hid.1; omega) (by have := hid.2; omega))
 have hlt := SH.out.lt
 clear hs hp hid
 cases hlk : look l id with
 | none =>
   have his : (look l id).isSome = false := by rw [hlk]; rfl
   have HD : Hid (doO l (delO id) = .error 4) := Lib.hid (by rw [do_delE, hlk])
   clear hlk
   go_enter Tryz.func294, Tryz.ntmps294
   go_wp2_with (first
    | (refine wpList_shLookOk rfl _ _ _ rfl Tryz.underlying103 rfl rfl ((SH.out.alloc _).alloc _) WF.out ?_; intro ff va' vs' hp' hf'; have FP := Lib.hid hp'; have FF := Lib.hid hf'; obtain ⟨fa, fc, fb, fd, rfl, rfl⟩ := hp'.form; clear hp' hf')
    | (refine wpList_store_row rfl _ _ _ rfl _ (#[.int .i64 0, .int .i64 0, .int .i64 0, .int .i64 0, .int .i64 0, .int .i64 0, .int .i64 0, .slice none 0 0, .int .i64 0, .int .i64 0, .slice none 0 0, .int .i64 0, .int .i64 0, .int .i64 0, .int .i64 0, .int .i64 0]) rfl rfl _ _ (block_alloc (block_new_at _ (by simp only [World.size_alloc]))) (by kernel_rfl) (by kernel_rfl) (by kernel_rfl) ?_))
   refine body_named fun WR hW => ?_
   have q2 := (congrArg (fun X : World => X.heap[w.heap.size + 1]?) hW).trans (setRow_heap _ _ _ _ _ _ (block_alloc (block_new_at _ (by simp only [World.size_alloc]))))
   replace q2 : WR.heap[w.heap.size + 1]? = _ := q2
   have hWR : Wr b w WR := by rw [hW]; exact Wr.setRow ((((Wr.refl b w).alloc _).alloc _).alloc _) (by omega) _
   have hSR : ShM w0 WR b (l) := by rw [hW]; exact ShM.setRow (((SH.out.alloc _).alloc _).alloc _) (by omega) _
   clear hW
   exact bodyPost_ret (results_ct rfl _ _ _ _ _ _ _ _ rfl rfl q2 Tryz.underlying34 rfl (by kernel_rfl)) rfl ⟨hWR, noOpn, _, _, _, _, _, _, 4, _, rfl, PartsAt.zero w0, hSR, .inl ⟨HD.out, by decide, rfl⟩⟩
 | some g =>
   have his : (look l id).isSome = true := by rw [hlk]; rfl
   obtain rfl := (look_some hlk).2
   have HD : Hid (doO l (delO g.id) = .ok (delF g.id l, insO g)) := Lib.hid (by rw [do_delE, hlk])
   have HLK := Lib.hid hlk
   clear hlk
   go_enter Tryz.func294, Tryz.ntmps294
   go_wp2_with (first
    | (refine wpList_shLookOk rfl _ _ _ rfl Tryz.underlying103 rfl rfl ((SH.out.alloc _).alloc _) WF.out ?_; intro ff va' vs' hp' hf'; have FP := Lib.hid hp'; obtain rfl : g = ff := (by have := hf'; rw [HLK.out] at this; exact this.symm); clear hf'; obtain ⟨fa, fc, fb, fd, rfl, rfl⟩ := hp'.form; clear hp')
    | (refine wpList_shDrop rfl _ _ _ rfl Tryz.underlying103 rfl rfl (((SH.out.alloc _).alloc _).alloc _) WF.out ?_; intro w1 hs1 ht1; have hT : Wr b _ w1 := ht1.grown; have p3 : w1.heap[w.heap.size + 1]? = _ := hT.block_ne (block_alloc (block_new_at _ (by simp only [World.size_alloc]))) (by omega); have k6 : w1.heap[w.heap.size + 1 + 1]? = _ := hT.block_ne (block_new_at _ (by simp only [World.size_alloc])) (by omega); have k3 : w1.heap[w.heap.size]? = _ := hT.block_ne (block_alloc (block_alloc (block_new w _))) (by omega); have c31 := cell_block k3 1)
    | (refine wpList_load_row rfl 32 _ rfl _ rfl _ _ _ _ k6 Tryz.underlying32 rfl (by kernel_rfl) ?_)
    | (refine wpList_store_row rfl _ _ _ rfl _ (#[.int .i64 1, .int .i64 g.id, .int .i64 g.id, .int .i64 g.kind, .int .i64 g.x, .int .i64 g.y, .int .i64 g.rad, .slice fa g.area.length fc, .int .i64 g.dep, .int .i64 g.sym, .slice fb g.secs.length fd, .int .i64 0, .int .i64 0, .int .i64 0, .int .i64 0, .int .i64 0]) rfl rfl _ _ p3 (by kernel_rfl) (by kernel_rfl) (by kernel_rfl) ?_))
   refine body_named fun WR hW => ?_
   have q2 := (congrArg (fun X : World => X.heap[w.heap.size + 1]?) hW).trans (setRow_heap _ _ _ _ _ _ p3)
   replace q2 : WR.heap[w.heap.size + 1]? = _ := q2
   have hWR : Wr b w WR := by rw [hW]; exact Wr.setRow (((((Wr.refl b w).alloc _).alloc _).alloc _).trans hT) (by omega) _
   have hSR : ShM w0 WR b (delF g.id l) := by rw [hW]; exact ShM.setRow (hs1) (by omega) _
   clear hW
   exact bodyPost_ret (results_ct rfl _ _ _ _ _ _ _ _ rfl rfl q2 Tryz.underlying34 rfl (by kernel_rfl)) rfl ⟨hWR, insO g, _, _, _, _, _, _, 0, _, rfl, FP.out, hSR, .inr ⟨HD.out, rfl⟩⟩
set_option maxHeartbeats 4000000 in
theorem schange_any (l : List Feat) (p : Opn) (b : Nat) (va vs : Value) (w0 w : World) (hs : ShM w0 w b l) (hb0 : Below w0.heap.size w0 w) (hp : PartsAt w0 p.feat va vs) (hl : l.length ≤ 300) (hid : IdOk p.id) (h1 : p.kind ≠ 1) (h2 : p.kind ≠ 2) :
  Calls Tryz.prog 295 #[.map (some b), opV p va vs] w (DeedP w0 b l p w) := by
 obtain ⟨aa, ca, ab, cb, rfl, rfl⟩ := hp.form
 have SH := Lib.hid hs
 have PO := Lib.hid hp
 have B0 := Lib.hid hb0
 have WF := Lib.hid (wf_id (a := p.id) (by have := hid.1; omega) (by have := hid.2; omega))
 have hlt := SH.out.lt
 clear hs hp hid hb0
 cases hlk : look l p.id with
 | none =>
   have his : (look l p.id).isSome = false := by rw [hlk]; rfl
   have HD : Hid (doO l p = .error 4) := Lib.hid (by unfold doO; rw [if_neg h1, hlk])
   clear hlk
   go_enter Tryz.func295, Tryz.ntmps295
   go_wp2_with (first
    | (refine wpList_shLookOk rfl _ _ _ rfl Tryz.underlying103 rfl rfl ((SH.out.alloc _).alloc _) WF.out ?_; intro ff va' vs' hp' hf'; have FP := Lib.hid hp'; have FF := Lib.hid hf'; obtain ⟨fa, fc, fb, fd, rfl, rfl⟩ := hp'.form; clear hp' hf')
    | (refine wpList_store_row rfl _ _ _ rfl _ (#[.int .i64 0, .int .i64 0, .int .i64 0, .int .i64 0, .int .i64 0, .int .i64 0, .int .i64 0, .slice none 0 0, .int .i64 0, .int .i64 0, .slice none 0 0, .int .i64 0, .int .i64 0, .int .i64 0, .int .i64 0, .int .i64 0]) rfl rfl _ _ (block_alloc (block_new_at _ (by simp only [World.size_alloc]))) (by kernel_rfl) (by kernel_rfl) (by kernel_rfl) ?_))
   refine body_named fun WR hW => ?_
   have q2 := (congrArg (fun X : World => X.heap[w.heap.size + 1]?) hW).trans (setRow_heap _ _ _ _ _ _ (block_alloc (block_new_at _ (by simp only [World.size_alloc]))))
   replace q2 : WR.heap[w.heap.size + 1]? = _ := q2
   have hWR : Wr b w WR := by rw [hW]; exact Wr.setRow ((((Wr.refl b w).alloc _).alloc _).alloc _) (by omega) _
   have hSR : ShM w0 WR b (l) := by rw [hW]; exact ShM.setRow (((SH.out.alloc _).alloc _).alloc _) (by omega) _
   clear hW
   exact bodyPost_ret (results_ct rfl _ _ _ _ _ _ _ _ rfl rfl q2 Tryz.underlying34 rfl (by kernel_rfl)) rfl ⟨hWR, noOpn, _, _, _, _, _, _, 4, _, rfl, PartsAt.zero w0, hSR, .inl ⟨HD.out, by decide, rfl⟩⟩
 | some g =>
   have his : (look l p.id).isSome = true := by rw [hlk]; rfl
   have hgi := (look_some hlk).2
   have hlm : l.length < maxLen := by unfold maxLen; omega
   have LM := Lib.hid hlm
   have HLK := Lib.hid hlk
   have HGI := Lib.hid hgi
   clear hlm hgi
   cases hch : chgF g p with
   | none =>
     have HD : Hid (doO l p = .error 12) := Lib.hid (by unfold doO; rw [if_neg h1, hlk]; simp only []; rw [if_neg h2, hch])
     have HC : Hid (chgR g p = (g, ⟨p.kind, p.id, ⟨0, 0, 0, 0, 0, [], 0, 0, []⟩, 0, 0, 0, 0, 0⟩, 12)) := Lib.hid (by unfold chgR; rw [hch]; rfl)
     clear hlk hch h1 h2
     go_enter Tryz.func295, Tryz.ntmps295
     go_wp2_with (first
      | (refine wpList_shLookOk rfl _ _ _ rfl Tryz.underlying103 rfl rfl ((SH.out.alloc _).alloc _) WF.out ?_; intro ff va' vs' hp' hf'; have FP := Lib.hid hp'; obtain rfl : g = ff := (by have := hf'; rw [HLK.out] at this; exact this.symm); clear hf'; obtain ⟨fa, fc, fb, fd, rfl, rfl⟩ := hp'.form; clear hp')
      | (refine wpList_load_row rfl 32 _ rfl _ rfl _ _ _ _ (block_new_at _ (by simp only [World.size_alloc])) Tryz.underlying32 rfl (by kernel_rfl) ?_)
      | (refine wpList_load_row rfl 34 _ rfl _ rfl _ _ _ _ (block_alloc (block_alloc (block_new w _))) Tryz.underlying34 rfl (by kernel_rfl) ?_))
     refine calls_named fun W hW => ?_
     have SW : ShM w0 W b l := by rw [hW]; exact ((SH.out.alloc _).alloc _).alloc _
     obtain ⟨p1, p2, p3, hB⟩ := box3 hW
     clear hW
     have B1 := B0.out.trans (hB.mono B0.out.size)
     (with_reducible refine (pachanged_any g p _ _ _ _ _ (FP.out.later B1) (PO.out.later B1) HC.out).mono ?_)
     rintro e w1 ⟨rfl, hb1⟩
     have hB1 := below_step hB hb1
     have S1 := Lib.hid (SW.below hb1)
     have q1 := block_later hb1 p1
     have q2 := block_later hb1 p2
     clear p1 p2 p3 SW
     go_upto_region 5 with (fail)
     refine wp_named fun W5 hW => ?_
     have r1 := (congrArg (fun X : World => X.heap[w.heap.size]?) hW).trans (block_alloc (block_alloc q1))
     replace r1 : W5.heap[w.heap.size]? = _ := r1
     have r2 := (congrArg (fun X : World => X.heap[w.heap.size + 1]?) hW).trans (block_alloc (block_alloc q2))
     replace r2 : W5.heap[w.heap.size + 1]? = _ := r2
     have S5 := Lib.hid (show ShM w0 W5 b l by rw [hW]; exact (S1.out.alloc _).alloc _)
     obtain ⟨r3, r4, hB5⟩ := box2 hW
     clear hW q1 q2
     have WR5 : Wr b w W5 := (Wr.of_below hB1).trans (Wr.of_below hB5)
     have hsz := hB1.size
     have hsz5 := hB5.size
     have c51 := cell_block r1 1
     go_wp2_with (first
      | (refine wpList_store_row rfl _ _ _ rfl _ (#[.int .i64 0, .int .i64 0, .int .i64 0, .int .i64 0, .int .i64 0, .int .i64 0, .int .i64 0, .slice none 0 0, .int .i64 0, .int .i64 0, .slice none 0 0, .int .i64 0, .int .i64 0, .int .i64 0, .int .i64 0, .int .i64 0]) rfl rfl _ _ r2 (by kernel_rfl) (by kernel_rfl) (by kernel_rfl) ?_))
     refine body_named fun WR hW => ?_
     have q2 := (congrArg (fun X : World => X.heap[w.heap.size + 1]?) hW).trans (setRow_heap _ _ _ _ _ _ r2)
     replace q2 : WR.heap[w.heap.size + 1]? = _ := q2
     have hWR : Wr b w WR := by rw [hW]; exact Wr.setRow (WR5) (by omega) _
     have hSR : ShM w0 WR b (l) := by rw [hW]; exact ShM.setRow (S5.out) (by omega) _
     clear hW
     exact bodyPost_ret (results_ct rfl _ _ _ _ _ _ _ _ rfl rfl q2 Tryz.underlying34 rfl (by kernel_rfl)) rfl ⟨hWR, noOpn, _, _, _, _, _, _, 12, _, rfl, PartsAt.zero w0, hSR, .inl ⟨HD.out, by decide, rfl⟩⟩
   | some g' =>
     have HD : Hid (doO l p = .ok (putF g' l, bakF g p)) := Lib.hid (by unfold doO; rw [if_neg h1, hlk]; simp only []; rw [if_neg h2, hch])
     have HC : Hid (chgR g p = (g', bakF g p, 0)) := Lib.hid (by unfold chgR; rw [hch])
     have hgi' : g'.id = p.id := by rw [(chgF_id hch).1, HGI.out]
     have HAR : Hid (g'.area = g.area ∧ g'.secs = g.secs) := Lib.hid ⟨(chgF_id hch).2.2.1, (chgF_id hch).2.2.2⟩
     have HBF : Hid ((bakF g p).feat = noFeat) := Lib.hid (by unfold bakF; split; rfl; split <;> rfl)
     have HG2 := Lib.hid hgi'
     clear hlk hch h1 h2 hgi'
     go_enter Tryz.func295, Tryz.ntmps295
     go_wp2_with (first
      | (refine wpList_shLookOk rfl _ _ _ rfl Tryz.underlying103 rfl rfl ((SH.out.alloc _).alloc _) WF.out ?_; intro ff va' vs' hp' hf'; have FP := Lib.hid hp'; obtain rfl : g = ff := (by have := hf'; rw [HLK.out] at this; exact this.symm); clear hf'; obtain ⟨fa, fc, fb, fd, rfl, rfl⟩ := hp'.form; clear hp')
      | (refine wpList_load_row rfl 32 _ rfl _ rfl _ _ _ _ (block_new_at _ (by simp only [World.size_alloc])) Tryz.underlying32 rfl (by kernel_rfl) ?_)
      | (refine wpList_load_row rfl 34 _ rfl _ rfl _ _ _ _ (block_alloc (block_alloc (block_new w _))) Tryz.underlying34 rfl (by kernel_rfl) ?_))
     refine calls_named fun W hW => ?_
     have SW : ShM w0 W b l := by rw [hW]; exact ((SH.out.alloc _).alloc _).alloc _
     obtain ⟨p1, p2, p3, hB⟩ := box3 hW
     clear hW
     have B1 := B0.out.trans (hB.mono B0.out.size)
     (with_reducible refine (pachanged_any g p _ _ _ _ _ (FP.out.later B1) (PO.out.later B1) HC.out).mono ?_)
     rintro e w1 ⟨rfl, hb1⟩
     have hB1 := below_step hB hb1
     have S1 := Lib.hid (SW.below hb1)
     have q1 := block_later hb1 p1
     have q2 := block_later hb1 p2
     clear p1 p2 p3 SW
     go_upto_region 5 with (fail)
     refine wp_named fun W5 hW => ?_
     have r1 := (congrArg (fun X : World => X.heap[w.heap.size]?) hW).trans (block_alloc (block_alloc q1))
     replace r1 : W5.heap[w.heap.size]? = _ := r1
     have r2 := (congrArg (fun X : World => X.heap[w.heap.size + 1]?) hW).trans (block_alloc (block_alloc q2))
     replace r2 : W5.heap[w.heap.size + 1]? = _ := r2
     have S5 := Lib.hid (show ShM w0 W5 b l by rw [hW]; exact (S1.out.alloc _).alloc _)
     obtain ⟨r3, r4, hB5⟩ := box2 hW
     clear hW q1 q2
     have WR5 : Wr b w W5 := (Wr.of_below hB1).trans (Wr.of_below hB5)
     have hsz := hB1.size
     have hsz5 := hB5.size
     have c51 := cell_block r1 1
     have PG : Hid (PartsAt w0 g' (.slice fa g.area.length fc) (.slice fb g.secs.length fd)) := Lib.hid (by have h := FP.out; unfold PartsAt at h ⊢; rw [HAR.out.1, HAR.out.2]; exact h)
     have WG : Hid ((Lit.int .i64 g'.id).wf = true) := Lib.hid (by rw [HG2.out]; exact WF.out)
     go_wp2_with (first
      | (refine wpList_load_row rfl 32 _ rfl _ rfl _ _ _ _ r3 Tryz.underlying32 rfl (by kernel_rfl) ?_)
      | (refine wpList_shStore rfl _ _ _ _ rfl Tryz.underlying103 (f := g') rfl (by rw [HG2.out]; rfl) rfl S5.out WG.out PG.out LM.out ?_; intro w6 hs6 ht6; have hT : Wr b _ w6 := ht6.grown; have t2 : w6.heap[w.heap.size + 1]? = _ := hT.block_ne r2 (by omega); have t4 : w6.heap[w1.heap.size + 1]? = _ := hT.block_ne r4 (by omega))
      | (refine wpList_load_row rfl 34 _ rfl _ rfl _ _ _ _ t4 Tryz.underlying34 rfl (by kernel_rfl) ?_)
      | (refine wpList_store_row rfl _ _ _ rfl _ (#[.int .i64 (bakF g p).kind, .int .i64 (bakF g p).id, .int .i64 (bakF g p).feat.id, .int .i64 (bakF g p).feat.kind, .int .i64 (bakF g p).feat.x, .int .i64 (bakF g p).feat.y, .int .i64 (bakF g p).feat.rad, .slice none 0 0, .int .i64 (bakF g p).feat.dep, .int .i64 (bakF g p).feat.sym, .slice none 0 0, .int .i64 (bakF g p).x, .int .i64 (bakF g p).y, .int .i64 (bakF g p).rad, .int .i64 (bakF g p).dep, .int .i64 (bakF g p).sym]) rfl rfl _ _ t2 (by kernel_rfl) (by kernel_rfl) (by kernel_rfl) ?_))
     refine body_named fun WR hW => ?_
     have q2 := (congrArg (fun X : World => X.heap[w.heap.size + 1]?) hW).trans (setRow_heap _ _ _ _ _ _ t2)
     replace q2 : WR.heap[w.heap.size + 1]? = _ := q2
     have hWR : Wr b w WR := by rw [hW]; exact Wr.setRow (WR5.trans hT) (by omega) _
     have hSR : ShM w0 WR b (putF g' l) := by rw [hW]; exact ShM.setRow (hs6) (by omega) _
     clear hW
     exact bodyPost_ret (results_ct rfl _ _ _ _ _ _ _ _ rfl rfl q2 Tryz.underlying34 rfl (by kernel_rfl)) rfl ⟨hWR, bakF g p, _, _, _, _, _, _, 0, _, rfl, (by rw [HBF.out]; exact PartsAt.zero w0), hSR, .inr ⟨HD.out, rfl⟩⟩
end Go.Proofs.YtdmegkkifiahdaaGreat
