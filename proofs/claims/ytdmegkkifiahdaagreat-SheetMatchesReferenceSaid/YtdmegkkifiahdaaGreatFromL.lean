/- The walk of sheet.From. -/
import Derived.Test.YtdmegkkifiahdaaGreatGetF
import Derived.Test.YtdmegkkifiahdaaGreatShtD
import Derived.Laws.EntriesVeiled
namespace Go.Proofs.YtdmegkkifiahdaaGreat
open Go.RowKit
attribute [local go_sem] bqOp bqAll bqUpon sqOp sqAll sqUpon ssOp ssAll
attribute [local irreducible] wpQuiet wpBQ wpPlan wsPlan
set_option linter.unusedVariables false
theorem sht_set {w0 w wn : World} {br b : Nat} {x0 x1 x2 x3 x4 x5 x6 x7 x8 x9 x10 x11 x12 y0 y1 y2 y3 y4 y5 y6 y7 y8 y9 y10 y11 y12 : Value} {T : TypeId} (h : wn = ((((((((((((w.setCell ⟨b, 0, none⟩ x0).setCell ⟨b, 1, none⟩ x1).setCell ⟨b, 2, none⟩ x2).setCell ⟨b, 3, none⟩ x3).setCell ⟨b, 4, none⟩ x4).setCell ⟨b, 5, none⟩ x5).setCell ⟨b, 6, none⟩ x6).setCell ⟨b, 7, none⟩ x7).setCell ⟨b, 8, none⟩ x8).setCell ⟨b, 9, none⟩ x9).setCell ⟨b, 10, none⟩ x10).setCell ⟨b, 11, none⟩ x11).setCell ⟨b, 12, none⟩ x12) (hb : w.heap[b]? = some (.cells #[y0, y1, y2, y3, y4, y5, y6, y7, y8, y9, y10, y11, y12] T (0, 0))) :
    wn.heap[b]? = some (.cells #[x0, x1, x2, x3, x4, x5, x6, x7, x8, x9, x10, x11, x12] T (0, 0)) ∧ (∀ j o, j ≠ b → w.heap[j]? = some o → wn.heap[j]? = some o) ∧ (∀ l, RestAt w0 br w l → b ≠ br → w0.heap.size ≤ b → RestAt w0 br wn l) ∧ (∀ W, Wr br W w → W.heap.size ≤ b → Wr br W wn) := by
  subst h
  refine ⟨by simpa using (block_set (i := 12) (block_set (i := 11) (block_set (i := 10) (block_set (i := 9) (block_set (i := 8) (block_set (i := 7) (block_set (i := 6) (block_set (i := 5) (block_set (i := 4) (block_set (i := 3) (block_set (i := 2) (block_set (i := 1) (block_set (i := 0) hb x0) x1) x2) x3) x4) x5) x6) x7) x8) x9) x10) x11) x12), fun j o hj ho => (set_other (set_other (set_other (set_other (set_other (set_other (set_other (set_other (set_other (set_other (set_other (set_other (set_other ho hj) hj) hj) hj) hj) hj) hj) hj) hj) hj) hj) hj) hj), fun l hl hne hk => (((((((((((((hl.setOther hne hk _).setOther hne hk _).setOther hne hk _).setOther hne hk _).setOther hne hk _).setOther hne hk _).setOther hne hk _).setOther hne hk _).setOther hne hk _).setOther hne hk _).setOther hne hk _).setOther hne hk _).setOther hne hk _), fun W hw hk => (((((((((((((hw.setOther hk _).setOther hk _).setOther hk _).setOther hk _).setOther hk _).setOther hk _).setOther hk _).setOther hk _).setOther hk _).setOther hk _).setOther hk _).setOther hk _).setOther hk _)⟩
theorem Parts.ho {base b : Nat} {w wn : World} {l : List FItem} {cs : Array Value} {m : Nat × Nat} (h : Parts base w l) (hb : w.heap[b]? = some (.cells cs 54 m)) (ho : ∀ j o, j ≠ b → w.heap[j]? = some o → wn.heap[j]? = some o) : Parts base wn l := fun x hx => ⟨own_ho (h x hx).1 hb (by decide) ho, own_ho (h x hx).2 hb (by decide) ho⟩
theorem oi_mono {base base' : Nat} {w : World} {v : Value} {l : List Int} (h : OwnI base w v l) (hb : base' ≤ base) : OwnI base' w v l := own_mono h hb
def ptrsOf (bs : Nat) : Array Value := #[.pointer (some ⟨bs, 0, none⟩), .pointer (some ⟨bs, 1, none⟩), .pointer (some ⟨bs, 2, none⟩), .pointer (some ⟨bs, 3, none⟩), .pointer (some ⟨bs, 4, none⟩), .pointer (some ⟨bs, 5, none⟩), .pointer (some ⟨bs, 6, none⟩), .pointer (some ⟨bs, 7, none⟩), .pointer (some ⟨bs, 8, none⟩), .pointer (some ⟨bs, 9, none⟩), .pointer (some ⟨bs, 10, none⟩)]
theorem ptrs_at {w : World} {b bs : Nat} {T : TypeId} {m : Nat × Nat} (h : w.heap[b]? = some (.cells (ptrsOf bs) T m)) {k : Nat} (hk : k < 11) : w.cell? ⟨b, k, none⟩ = some (.pointer (some ⟨bs, k, none⟩)) := by
  rw [cell_block h]
  match k, hk with
  | 0, _ => rfl
  | 1, _ => rfl
  | 2, _ => rfl
  | 3, _ => rfl
  | 4, _ => rfl
  | 5, _ => rfl
  | 6, _ => rfl
  | 7, _ => rfl
  | 8, _ => rfl
  | 9, _ => rfl
  | 10, _ => rfl
def shcA (s : Sht) (k : Nat) : Array Value := #[.int .i64 (if 0 < k then s.chart else 0), .int .i64 (if 1 < k then s.scale else 0), .int .i64 (if 2 < k then s.edition else 0), .int .i64 (if 3 < k then s.dat.a else 0), .int .i64 (if 4 < k then s.dat.b else 0), .int .i64 (if 5 < k then s.dat.c else 0), .int .i64 (if 6 < k then s.dat.d else 0), .int .i64 (if 7 < k then s.dat.e else 0), .int .i64 (if 8 < k then s.dat.f else 0), .int .i64 (if 9 < k then s.dat.r else 0), .int .i64 (if 10 < k then s.cap else 0), .slice none 0 0, .slice none 0 0]
theorem shc_at (s : Sht) {k : Nat} (hk : k < 11) : (shcA s k)[k]? = some (.int .i64 0) := by
  match k, hk with
  | 0, _ => rfl
  | 1, _ => rfl
  | 2, _ => rfl
  | 3, _ => rfl
  | 4, _ => rfl
  | 5, _ => rfl
  | 6, _ => rfl
  | 7, _ => rfl
  | 8, _ => rfl
  | 9, _ => rfl
  | 10, _ => rfl
theorem shc_step (s : Sht) {k : Nat} (hk : k < 11) : (shcA s k).setIfInBounds k (.int .i64 ((encHead s).getD k 0)) = shcA s (k + 1) := by
  match k, hk with
  | 0, _ => rfl
  | 1, _ => rfl
  | 2, _ => rfl
  | 3, _ => rfl
  | 4, _ => rfl
  | 5, _ => rfl
  | 6, _ => rfl
  | 7, _ => rfl
  | 8, _ => rfl
  | 9, _ => rfl
  | 10, _ => rfl
theorem shc_end (s : Sht) : shcA s 11 = #[.int .i64 s.chart, .int .i64 s.scale, .int .i64 s.edition, .int .i64 s.dat.a, .int .i64 s.dat.b, .int .i64 s.dat.c, .int .i64 s.dat.d, .int .i64 s.dat.e, .int .i64 s.dat.f, .int .i64 s.dat.r, .int .i64 s.cap, .slice none 0 0, .slice none 0 0] := rfl
def noSht : Sht := ⟨0, 0, 0, ⟨0, 0, 0, 0, 0, 0, 0⟩, 0, [], []⟩
def FromYes (s : Sht) (w : World) (e : Ending) (w' : World) : Prop := ∃ ad c af cf, e = .returned (.tuple #[shtV s (.slice ad s.don.length c) (.slice af s.feats.length cf), .int .i64 0]) ∧ IntsAt w' (.slice ad s.don.length c) s.don ∧ FeatsAt w' (.slice af s.feats.length cf) s.feats ∧ Below w.heap.size w w'
def FromNo (w : World) (e : Ending) (w' : World) : Prop := e = .returned (.tuple #[shtV noSht (.slice none 0 0) (.slice none 0 0), .int .i64 7]) ∧ Below w.heap.size w w'
def FromP (s : Sht) (o : Bool) (w : World) (e : Ending) (w' : World) : Prop := (o = true → FromYes s w e w') ∧ (o = false → FromNo w e w')
/-- What stays through From: the boxes of the result, of next and of point. -/
def FromS0 (w wr : World) : Prop := Wr (w.heap.size + 1) w wr ∧ wr.heap[w.heap.size]? = some (.cells #[.int .i64 0, .int .i64 0, .int .i64 0, .int .i64 0, .int .i64 0, .int .i64 0, .int .i64 0, .int .i64 0, .int .i64 0, .int .i64 0, .int .i64 0, .slice none 0 0, .slice none 0 0] 54 (0, 0)) ∧ wr.heap[w.heap.size + 1 + 1]? = some (.cells #[nextV (w.heap.size + 1)] 141 (0, 0)) ∧ wr.heap[w.heap.size + 1 + 1 + 1]? = some (.cells #[pointV (w.heap.size + 1 + 1)] 142 (0, 0))
theorem FromS0.wr {w w1 w2 : World} (h : FromS0 w w1) (k : Wr (w.heap.size + 1) w1 w2) : FromS0 w w2 := ⟨h.1.trans k, k.block_ne h.2.1 (by omega), k.block_ne h.2.2.1 (by omega), k.block_ne h.2.2.2 (by omega)⟩
theorem FromS0.set {w w1 w2 : World} {b : Nat} (h : FromS0 w w1) (ho : ∀ j o, j ≠ b → w1.heap[j]? = some o → w2.heap[j]? = some o) (hw : ∀ W, Wr (w.heap.size + 1) W w1 → W.heap.size ≤ b → Wr (w.heap.size + 1) W w2) (hb : w.heap.size + 1 + 1 + 1 < b) : FromS0 w w2 := ⟨hw _ h.1 (by omega), ho _ _ (by omega) h.2.1, ho _ _ (by omega) h.2.2.1, ho _ _ (by omega) h.2.2.2⟩
theorem getL_len {α : Type} (rd : List Int → α × List Int) (most : Int) (h0 : 0 ≤ most) (l : List Int) : ((getL rd most l).1.length : Int) ≤ most := by
  unfold getL
  split
  · simpa using h0
  · rw [getN_len]; omega
theorem getN_mem {α : Type} (rd : List Int → α × List Int) (P : α → Prop) (h : ∀ l, P (rd l).1) : ∀ (k : Nat) (l : List Int), ∀ x ∈ (getN rd k l).1, P x
  | 0, _, x, hx => absurd hx (by simp [getN])
  | k + 1, l, x, hx => by
    simp only [getN, List.mem_cons] at hx
    rcases hx with rfl | hx
    · exact h l
    · exact getN_mem rd P h k _ x hx
theorem getL_mem {α : Type} (rd : List Int → α × List Int) (P : α → Prop) (h : ∀ l, P (rd l).1) (most : Int) (l : List Int) : ∀ x ∈ (getL rd most l).1, P x := by
  unfold getL
  split
  · intro x hx; exact absurd hx (by simp)
  · exact getN_mem rd P h _ _
theorem rdFeat_few (l : List Int) : (rdFeat l).1.area.length ≤ 24 ∧ (rdFeat l).1.secs.length ≤ 12 := by
  have h1 := getL_len rdSec 12 (by omega) (l.drop 5)
  have h2 := getL_len rdPt 24 (by omega) (l.drop 4)
  unfold rdFeat
  split
  · simp
  · split
    · simp only [List.length_nil]; omega
    · simp only [List.length_nil]; omega
theorem rdS_few {l : List Int} {s : Sht} {t : List Int} (h : rdS l = (s, t)) : s.don.length ≤ 200 ∧ s.feats.length ≤ 300 ∧ FewEls s.feats := by
  unfold rdS at h
  have e := congrArg Prod.fst h
  subst e
  have h1 := getL_len rdInt 200 (by omega) (l.drop 11)
  have h2 := getL_len rdFeat 300 (by omega) (getL rdInt 200 (l.drop 11)).2
  exact ⟨by simpa using (by omega : (getL rdInt 200 (l.drop 11)).1.length ≤ 200), by simpa using (by omega : (getL rdFeat 300 (getL rdInt 200 (l.drop 11)).2).1.length ≤ 300), getL_mem rdFeat (fun f => f.area.length ≤ 24 ∧ f.secs.length ≤ 12) rdFeat_few 300 _⟩
set_option maxRecDepth 100000 in
set_option maxHeartbeats 8000000 in
theorem shFrom_walk (s : Sht) (t l : List Int) (ad : Option Addr) (c : Nat) (w : World) (h : IntsAt w (.slice ad l.length c) l) (hs : rdS l = (s, t)) {o : Bool} (ho : decide (ShtOk s ∧ encS s = l) = o) :
    Calls Tryz.prog 37 #[.slice ad l.length c] w (FromP s o w) := by
  have hl : l.length ≤ 9223372036854775807 := (Lists.form h).choose_spec.choose_spec.2.2.1
  obtain ⟨q200, q300, few⟩ := rdS_few hs
  obtain ⟨u, hu⟩ : ∃ u, (getL rdInt 200 (l.drop 11)).2 = u := ⟨_, rfl⟩
  have hgI : getL rdInt 200 (l.drop 11) = (s.don, u) := by
    unfold rdS at hs
    have e : _ = s := congrArg Prod.fst hs
    rw [← e, ← hu]
  have hgF : getL rdFeat 300 u = (s.feats, t) := by
    unfold rdS at hs
    have e : _ = s := congrArg Prod.fst hs
    have e2 : _ = t := congrArg Prod.snd hs
    rw [← hu, ← e, ← e2]
  have hH : ∀ k, k < 11 → (l.drop k).getD 0 0 = (encHead s).getD k 0 := by
    intro k hk
    unfold rdS at hs
    have e : _ = s := congrArg Prod.fst hs
    rw [← e, getD_drop']
    match k, hk with
    | 0, _ => rfl
    | 1, _ => rfl
    | 2, _ => rfl
    | 3, _ => rfl
    | 4, _ => rfl
    | 5, _ => rfl
    | 6, _ => rfl
    | 7, _ => rfl
    | 8, _ => rfl
    | 9, _ => rfl
    | 10, _ => rfl
  have GI := Lib.hid hgI
  have GF := Lib.hid hgF
  have HH := Lib.hid hH
  have FEW := Lib.hid few
  have HL := Lib.hid h
  have HO := Lib.hid ho
  have R0 : Hid (∀ W : World, W.heap[w.heap.size + 1]? = some (.cells #[.slice ad l.length c] 46 (0, 0)) → Below w.heap.size w W → RestAt w (w.heap.size + 1) W (l.drop 0)) := Lib.hid (fun W h1 h2 => ⟨ad, c, h1, h, h2, by omega⟩)
  clear h hs hgI hgF hH few ho hu
  obtain ⟨nl, hnl⟩ : ∃ n, l.length = n := ⟨_, rfl⟩
  have NL := Lib.hid hnl
  rw [hnl] at hl HL R0 ⊢
  clear hnl
  go_enter Tryz.func37, Tryz.ntmps37
  go_wp2_with fail
  refine wp_named fun W hW => ?_
  obtain ⟨p0, p1, p2, p3, p4, hB⟩ := box5 hW
  have hsW : W.heap.size = w.heap.size + 5 := by rw [hW]; simp
  clear hW
  have hR := R0.out W p1 hB
  have hS0 : FromS0 w W := ⟨Wr.of_below hB, p0, p2, p3⟩
  have hS : W.heap[w.heap.size + 1 + 1 + 1 + 1]? = some (.cells (shcA s 0) 54 (0, 0)) := p4
  clear R0 p0 p1 p2 p3 p4
  refine wp_region_plan (.take 0 (.take 0 (.take 0 (.take 0 (.take 0 (.take 0 (.take 0 (.take 0 (.take 0 (.take 0 (.take 0 (.take 0 (.take 0 (.take 0 (.take 0 (.take 0 (.take 0 (.take 0 (.take 0 (.take 0 (.take 0 (.take 0 (.take 0 (.take 0 (.take 0 (.take 2 (.only 0 (.take 0 .done)))))))))))))))))))))))))))) (by kernel_rfl) (by kernel_rfl) (fun hP => ?_)
  repeat' (first
    | (refine wpPlan_two ?_ ?_)
    | (refine wpPlan_three ?_ ?_ ?_)
    | (refine wpPlan_take rfl (fun K hK => ?_); replace hK := Lib.hid hK; go_simp; first | (refine hK.out _ ?_; clear hK K) | (apply Exists.intro; refine ⟨fun _ => ?_, hK.out _ ?_⟩; (first | with_reducible exact rfl | skip); clear hK K))
    | (refine wpPlan_only rfl (fun K hK => ?_); replace hK := Lib.hid hK; (first | (go_simp; first | skip)); refine hK.out _ _ (by first | assumption | exact below_step hP hbx | exact hP.drew | exact hP.alloc hP.size _) (fun hP => ?_); clear hK K))
  all_goals refine wpPlan_done ?_
  have hs5 := hP.size
  have hS0 := hS0.wr (Wr.of_below hP)
  have hR := hR.later hP
  have hS := block_later hP hS
  have hL := block_new_at (w := W) (k := w.heap.size + 5) (.cells (ptrsOf (w.heap.size + 1 + 1 + 1 + 1)) 144) hsW
  generalize hWd : World.drew (World.alloc _ _) = Wd at hP hs5 hS0 hR hS ⊢
  have hL : Wd.heap[w.heap.size + 5]? = some (.cells (ptrsOf (w.heap.size + 1 + 1 + 1 + 1)) 144 (0, 0)) := by rw [← hWd]; exact hL
  clear hWd hP hB
  have hsW5 : w.heap.size + 5 ≤ W.heap.size := Nat.le_of_eq hsW.symm
  have hsd : w.heap.size + 5 < Wd.heap.size := lt_block hL
  clear hsW hsW5 hs5
  go_wp2_with fail
  go_loopw [42] (fun i wr => ∃ k : Nat, k ≤ 11 ∧ i = .int .i64 k ∧ RestAt w (w.heap.size + 1) wr (l.drop k) ∧ wr.heap[w.heap.size + 1 + 1 + 1 + 1]? = some (.cells (shcA s k) 54 (0, 0)) ∧ wr.heap[w.heap.size + 5]? = some (.cells (ptrsOf (w.heap.size + 1 + 1 + 1 + 1)) 144 (0, 0)) ∧ FromS0 w wr) (fun i _ => 11 - (intOf i).toNat)
  case atStart => exact ⟨0, by omega, rfl, hR, hS, hL, hS0⟩
  case round =>
    clear hR hS hL hS0 hsd
    obtain ⟨k, hk, rfl, hR, hS, hL, hS0⟩ := hrel
    rcases Nat.lt_or_ge k 11 with hlt | hge
    · have cp := ptrs_at hL hlt
      have c5 := cell_block hS0.2.2.1 0
      obtain ⟨x, hx⟩ : ∃ x, (encHead s).getD k 0 = x := ⟨_, rfl⟩
      have X := Lib.hid ((HH.out k hlt).trans hx)
      have SX := Lib.hid (show (shcA s k).setIfInBounds k (.int .i64 x) = shcA s (k + 1) by rw [← hx]; exact shc_step s hlt)
      clear hx
      have D := Lib.hid (show (l.drop k).drop 1 = l.drop (k + 1) by rw [List.drop_drop])
      have hbr := hR.lt
      have hbs := lt_block hS
      go_wp2_with fail
      (with_reducible refine (shFrom1_at w _ _ _ hR X.out D.out).mono ?_)
      rintro e wx ⟨rfl, hR, hwx⟩
      have hS := hwx.block_ne hS (by omega)
      have hL := hwx.block_ne hL (by omega)
      have hS0 := hS0.wr hwx
      have fS := free_block hS k
      have uS := (cell_block hS k).trans (shc_at s hlt)
      clear hwx cp c5
      go_wp2_with fail
      go_roundw
      case rel =>
        obtain ⟨hS, ho, hr, hw⟩ := one_set (w0 := w) (br := w.heap.size + 1) (i := k) (x := .int .i64 x) rfl hS
        exact ⟨k + 1, by omega, by go_num, hr _ hR (by omega) (by omega), by rw [← SX.out]; exact hS, ho _ _ (by omega) hL, hS0.set ho hw (by omega)⟩
      case measure => simp [intOf]; omega
    · obtain rfl : k = 11 := by omega
      have HNL := NL
      have hbr := hR.lt
      rw [shc_end] at hS
      have c5 := cell_block hS0.2.2.1 0
      have c6 := cell_block hS0.2.2.2 0
      clear hL hge
      have hbs := lt_block hS
      go_wp2_with fail
      (with_reducible refine (shgetI_any w _ _ _ hR GI.out).mono ?_)
      rintro e w1 ⟨ad1, cd1, rfl, hoi, hR, hwx⟩
      have hS := hwx.block_ne hS (by omega)
      have hoi := oi_mono (base' := w.heap.size + 1 + 1) hoi (by omega)
      have hS0 := hS0.wr hwx
      have fS := free_block hS
      have uS := cell_block hS
      have c5 := cell_block hS0.2.2.1 0
      have c6 := cell_block hS0.2.2.2 0
      clear hwx
      go_wp2_with fail
      refine calls_named fun W5 hW5 => ?_
      obtain ⟨hS', ho, hr, hw⟩ := one_set (w0 := w) (br := w.heap.size + 1) hW5 hS
      simp only [List.setIfInBounds_toArray, List.set_cons_succ, List.set_cons_zero] at hS'
      have hR := hr _ hR (by omega) (by omega)
      have hS0 := hS0.set ho hw (by omega)
      have hoi := own_ho hoi hS (by decide) ho
      replace hS := hS'
      clear hS' ho hr hw hW5 fS uS c5 c6
      have hnn := hS0.2.2.1
      have hpp := hS0.2.2.2
      (with_reducible refine (shgetF_any w _ _ _ u _ hR hnn hpp (by omega) (by omega) GF.out).mono ?_)
      clear hnn hpp
      rintro e w6 ⟨ad2, cf2, items, him, he, hor, hpa, hR, hwx⟩
      have hil : items.length = s.feats.length := by rw [← him]; simp
      have hli := hil
      rw [hil] at he
      subst he
      have HIM := Lib.hid him
      have HIL := Lib.hid hil
      have hil' : items.length ≤ 300 := by omega
      clear him hil hli
      have hor : OwnR (w.heap.size + 1 + 1) w6 (.slice ad2 items.length cf2) items := own_mono hor (by have := lt_block hS; omega)
      have hpa : Parts (w.heap.size + 1 + 1) w6 items := fun x hx => ⟨own_mono (hpa x hx).1 (by have := lt_block hS; omega), own_mono (hpa x hx).2 (by have := lt_block hS; omega)⟩
      have hoi := own_wr hoi hwx (by omega)
      have hS := hwx.block_ne hS (by omega)
      have hS0 := hS0.wr hwx
      have fS := free_block hS
      have uS := cell_block hS
      clear hwx hR
      go_wp2_with fail
      refine calls_named fun W7 hW7 => ?_
      obtain ⟨hS', ho, hr, hw⟩ := one_set (w0 := w) (br := w.heap.size + 1) hW7 hS
      simp only [List.setIfInBounds_toArray, List.set_cons_succ, List.set_cons_zero] at hS'
      have hS0 := hS0.set ho hw (by omega)
      have hoi := own_ho hoi hS (by decide) ho
      have hor := own_ho hor hS (by decide) ho
      have hpa := hpa.ho hS ho
      replace hS := hS'
      clear hS' ho hr hw hW7 fS uS
      have hI : IntsAt W7 (.slice ad1 s.don.length cd1) s.don := OwnI.ints hoi (by omega)
      have hFe : FeatsAt W7 (.slice ad2 s.feats.length cf2) s.feats := by
        have h := FeatsAt.of_own hor hpa (by omega) (fun x hx => by have := FEW.out x.1 (by rw [← HIM.out]; exact List.mem_map_of_mem hx); omega)
        rw [HIM.out, HIL.out] at h
        exact h
      by_cases hok : ShtOk s
      · have HOK := Lib.hid hok
        clear hok
        (with_reducible refine (shValid_any s _ _ _ hI hFe (decide_eq_true HOK.out)).mono ?_)
        rintro e w8 ⟨rfl, hbx⟩
        have hS := block_later hbx hS
        have hS0 := hS0.wr (Wr.of_below hbx)
        have hoi := own_keep hoi hbx
        have hor := own_keep hor hbx
        have hpa := hpa.keep hbx
        have hI := intsL hI hbx
        have hFe := hFe.later hbx
        have uS := cell_block hS
        clear hbx
        go_wp2_with fail
        (with_reducible refine (shall_any s _ _ _ _ _ hI hFe q200 q300 FEW.out).mono ?_)
        obtain ⟨ne, hne⟩ : ∃ n, (encS s).length = n := ⟨_, rfl⟩
        rintro e w9 ⟨ad3, c3, he, hi, hbx⟩
        have hir := hi.rows
        have hnb : ne ≤ 9223372036854775807 := by obtain ⟨_, _, _, h, _⟩ := hir; rw [← hne]; exact h
        rw [hne] at he hir
        subst he
        have hS := block_later hbx hS
        have hS0 := hS0.wr (Wr.of_below hbx)
        have hoi := own_keep hoi hbx
        have hor := own_keep hor hbx
        have hpa := hpa.keep hbx
        clear hI hFe uS hi
        have HNE := Lib.hid hne
        have HIR := Lib.hid hir
        have HLR : Hid (Rows 1 w9 (.slice ad nl c) nl (fun i _ => l.getD i 0)) := Lib.hid (by
          have h := (intsL HL.out (hS0.1.below (B := w.heap.size) (by omega) (Nat.le_refl _))).rows
          rw [NL.out] at h
          exact h)
        obtain ⟨v, hv⟩ : ∃ v, decide (RowsEq 1 ne nl (fun i _ => (encS s).getD i 0) (fun i _ => l.getD i 0)) = v := ⟨_, rfl⟩
        have HVO : Hid (o = v) := Lib.hid (by
          have h := HO.out
          have e := ints_eq (encS s) l
          rw [hne, NL.out] at e
          rw [← h, ← hv]
          exact decide_eq_decide.2 ⟨fun k => e.2 k.2, fun k => ⟨HOK.out, e.1 k⟩⟩)
        have HV := Lib.hid hv
        clear hne hir hv hbx
        go_wp2_with fail
        (with_reducible refine (eqInts_any _ _ _ _ _ _ _ _ _ HIR.out HLR.out hnb hl HV.out).mono ?_)
        rintro e w10 ⟨rfl, hbx⟩
        have hS := block_later hbx hS
        have hS0 := hS0.wr (Wr.of_below hbx)
        have hoi := own_keep hoi hbx
        have hor := own_keep hor hbx
        have hpa := hpa.keep hbx
        clear hbx
        cases v
        · have HNO : Hid (o = false) := HVO
          have fX := free_block hS0.2.1
          have uX := cell_block hS0.2.1
          go_wp2_with fail
          generalize hwn : World.setCell (World.setCell (World.setCell (World.setCell (World.setCell (World.setCell (World.setCell (World.setCell (World.setCell (World.setCell (World.setCell (World.setCell (World.setCell _ _ _) _ _) _ _) _ _) _ _) _ _) _ _) _ _) _ _) _ _) _ _) _ _) _ _ = wn
          obtain ⟨hX, ho, hr, hw⟩ := sht_set (w0 := w) (br := w.heap.size + 1) hwn.symm hS0.2.1
          have hBn := (hw _ hS0.1 (Nat.le_refl _)).below (B := w.heap.size) (by omega) (Nat.le_refl _)
          have c9 := cell_block hX
          exact bodyPost_ret (v := (.tuple #[shtV noSht (.slice none 0 0) (.slice none 0 0), .int .i64 7])) (by simp [results, Tryz.results37, go_sem, c9, noSht]) rfl ⟨fun h => absurd (HNO.out.symm.trans h) (by decide), fun _ => ⟨rfl, hBn⟩⟩
        · have HNO : Hid (o = true) := HVO
          have fX := free_block hS0.2.1
          have uX := cell_block hS0.2.1
          have uS := cell_block hS
          go_wp2_with fail
          generalize hwn : World.setCell (World.setCell (World.setCell (World.setCell (World.setCell (World.setCell (World.setCell (World.setCell (World.setCell (World.setCell (World.setCell (World.setCell (World.setCell _ _ _) _ _) _ _) _ _) _ _) _ _) _ _) _ _) _ _) _ _) _ _) _ _) _ _ = wn
          obtain ⟨hX, ho, hr, hw⟩ := sht_set (w0 := w) (br := w.heap.size + 1) hwn.symm hS0.2.1
          have hBn := (hw _ hS0.1 (Nat.le_refl _)).below (B := w.heap.size) (by omega) (Nat.le_refl _)
          have hoi := own_ho hoi hS0.2.1 (by decide) ho
          have hor := own_ho hor hS0.2.1 (by decide) ho
          have hpa := hpa.ho hS0.2.1 ho
          have hI : IntsAt wn (.slice ad1 s.don.length cd1) s.don := OwnI.ints hoi (by omega)
          have hFe : FeatsAt wn (.slice ad2 s.feats.length cf2) s.feats := by
            have h := FeatsAt.of_own hor hpa (by omega) (fun x hx => by have := FEW.out x.1 (by rw [← HIM.out]; exact List.mem_map_of_mem hx); omega)
            rw [HIM.out, HIL.out] at h
            exact h
          have c9 := cell_block hX
          exact bodyPost_ret (v := (.tuple #[shtV s (.slice ad1 s.don.length cd1) (.slice ad2 s.feats.length cf2), .int .i64 0])) (by simp [results, Tryz.results37, go_sem, c9]) rfl ⟨fun _ => ⟨_, _, _, _, rfl, hI, hFe, hBn⟩, fun h => absurd (HNO.out.symm.trans h) (by decide)⟩
      · have HNO : Hid (o = false) := Lib.hid (by rw [← HO.out]; exact decide_eq_false fun k => hok k.1)
        have HOK := Lib.hid hok
        clear hok
        (with_reducible refine (shValid_any s _ _ _ hI hFe (decide_eq_false HOK.out)).mono ?_)
        rintro e w8 ⟨rfl, hbx⟩
        have hS := block_later hbx hS
        have hS0 := hS0.wr (Wr.of_below hbx)
        have hoi := own_keep hoi hbx
        have hor := own_keep hor hbx
        have hpa := hpa.keep hbx
        clear hbx hI hFe
        have fX := free_block hS0.2.1
        have uX := cell_block hS0.2.1
        go_wp2_with fail
        generalize hwn : World.setCell (World.setCell (World.setCell (World.setCell (World.setCell (World.setCell (World.setCell (World.setCell (World.setCell (World.setCell (World.setCell (World.setCell (World.setCell _ _ _) _ _) _ _) _ _) _ _) _ _) _ _) _ _) _ _) _ _) _ _) _ _) _ _ = wn
        obtain ⟨hX, ho, hr, hw⟩ := sht_set (w0 := w) (br := w.heap.size + 1) hwn.symm hS0.2.1
        have hBn := (hw _ hS0.1 (Nat.le_refl _)).below (B := w.heap.size) (by omega) (Nat.le_refl _)
        have c9 := cell_block hX
        exact bodyPost_ret (v := (.tuple #[shtV noSht (.slice none 0 0) (.slice none 0 0), .int .i64 7])) (by simp [results, Tryz.results37, go_sem, c9, noSht]) rfl ⟨fun h => absurd (HNO.out.symm.trans h) (by decide), fun _ => ⟨rfl, hBn⟩⟩
theorem shFrom_yes {s : Sht} {l : List Int} (ad : Option Addr) (c : Nat) (w : World) (h : IntsAt w (.slice ad l.length c) l) (hs : fromL l = some s) : Calls Tryz.prog 37 #[.slice ad l.length c] w (FromYes s w) := by
  unfold fromL at hs
  split at hs
  · next hh =>
    cases hs
    exact (shFrom_walk (rdS l).1 (rdS l).2 l ad c w h rfl (decide_eq_true hh)).mono fun e w' h => h.1 rfl
  · cases hs
theorem shFrom_no {l : List Int} (ad : Option Addr) (c : Nat) (w : World) (h : IntsAt w (.slice ad l.length c) l) (hs : fromL l = none) : Calls Tryz.prog 37 #[.slice ad l.length c] w (FromNo w) := by
  unfold fromL at hs
  split at hs
  · cases hs
  · next hh => exact (shFrom_walk (rdS l).1 (rdS l).2 l ad c w h rfl (decide_eq_false hh)).mono fun e w' h => h.2 rfl
theorem shFrom_yesN {s : Sht} {l : List Int} {n : Nat} (hn : l.length = n) (ad : Option Addr) (c : Nat) (w : World) (h : IntsAt w (.slice ad n c) l) (hs : fromL l = some s) : Calls Tryz.prog 37 #[.slice ad n c] w (FromYes s w) := by
  subst hn
  exact shFrom_yes ad c w h hs
end Go.Proofs.YtdmegkkifiahdaaGreat
