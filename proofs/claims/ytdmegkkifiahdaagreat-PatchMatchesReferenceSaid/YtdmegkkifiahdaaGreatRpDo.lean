import Derived.Test.YtdmegkkifiahdaaGreatRpB
namespace Go.Proofs.YtdmegkkifiahdaaGreat
open Go.RowKit
attribute [local go_sem] bqOp bqAll bqUpon sqOp sqAll sqUpon
attribute [local irreducible] wpQuiet wpBQ wpPlan
set_option linter.unusedVariables false
theorem cellRp {w : World} {a : Addr} {v : Value} (h : w.cell? a = some v) (d : Nat) (os : Array Obj) : (Sort.grow (redrawn w d) os).cell? a = some v := cell_later (below_regrown w d os) h
def FsP (w0 w : World) (m : List Feat) (e : Ending) (w' : World) : Prop := ∃ ad c, e = .returned (.slice ad m.length c) ∧ OwnFs w.heap.size w0 w' (.slice ad m.length c) m ∧ Below w.heap.size w w'
def keepF (B : Feat → Bool) (l : List Feat) (k : Nat) : List Feat := (l.take k).filter B
theorem keep_len (B : Feat → Bool) (l : List Feat) (k : Nat) : (keepF B l k).length ≤ k := by
 have h := List.length_filter_le B (l.take k)
 rw [List.length_take] at h
 unfold keepF
 omega
theorem keep_yes {B : Feat → Bool} {l : List Feat} {k : Nat} {f : Feat} (hk : k < l.length) (hf : l.getD k noFeat = f) (hB : B f = true) : keepF B l (k + 1) = keepF B l k ++ [f] := by
 unfold keepF
 rw [take_snoc noFeat hk, hf, List.filter_append, List.filter_cons_of_pos hB, List.filter_nil]
theorem keep_no {B : Feat → Bool} {l : List Feat} {k : Nat} {f : Feat} (hk : k < l.length) (hf : l.getD k noFeat = f) (hB : B f = false) : keepF B l (k + 1) = keepF B l k := by
 unfold keepF
 rw [take_snoc noFeat hk, hf, List.filter_append, List.filter_cons_of_neg (by rw [hB]; decide), List.filter_nil, List.append_nil]
theorem keep_all {B : Feat → Bool} {l : List Feat} {n : Nat} (h : l.length = n) : keepF B l n = l.filter B := by
 unfold keepF
 rw [List.take_of_length_le (by omega)]
set_option maxHeartbeats 4000000 in
set_option maxRecDepth 20000 in
theorem q17Without_any (l : List Feat) (v0 : Value) (id : Int) (w0 w : World) (h : Feats2 w0 w v0 l) (hl : l.length ≤ 1000) : Calls Tryz.prog 197 #[v0, .int .i64 id] w (FsP w0 w (delF id l)) := by
 obtain ⟨ad, c, rfl, h1, hn, hc⟩ := h.form
 have H := Lib.hid h1
 obtain ⟨n, hln⟩ : ∃ n, l.length = n := ⟨_, rfl⟩
 rw [hln] at H hn hc hl
 rw [hln]
 have HL := Lib.hid hln
 clear h h1 hln
 have hBW : Below w.heap.size w w := Below.refl _ _
 go_enter Tryz.func197, Tryz.ntmps197
 go_wp2_with fail
 go_loopw [5, 6] (fun a i wr => ∃ (k : Nat) (ad' : Option Addr) (c' : Nat) (m : List Feat), k ≤ n ∧ i = .int .i64 k ∧ a = .slice ad' m.length c' ∧ Hid ((keepF (fun g => decide (g.id ≠ id)) l k) = m) ∧ OwnFs w.heap.size w0 wr (.slice ad' m.length c') m ∧ Below w.heap.size w wr) (fun _ i _ => n - cntV i)
 case atStart => exact ⟨0, none, 0, [], Nat.zero_le _, rfl, rfl, Lib.hid rfl, OwnFs.nil _ _ _, Below.refl _ _⟩
 case round =>
  obtain ⟨k, ad', c', m, hk, rfl, rfl, EM, how, hb⟩ := hrel
  have hB := below_step hBW hb
  have ML : Hid (m.length ≤ 3001) := Lib.hid (by
   have h1 := keep_len (fun g => decide (g.id ≠ id)) l k
   rw [← EM.out]
   omega)
  rcases Nat.lt_or_ge k n with hlt | hge
  rotate_left
  · obtain rfl : k = n := by omega
    have EM2 : Hid (delF id l = m) := Lib.hid (by rw [← EM.out, keep_all HL.out]; rfl)
    go_wp2_with fail
    go_returns
    refine ⟨ad', c', ?_⟩
    rw [EM2.out]
    exact ⟨rfl, how, hB⟩
  obtain ⟨g, o, va, vs, rfl, fc0, pa0⟩ := H.out.row hlt
  have fc := fc0.later hB
  obtain ⟨f, hf⟩ : ∃ f, l.getD k noFeat = f := ⟨_, rfl⟩
  rw [hf] at fc pa0
  have PA := Lib.hid (show PartsAt w0 f va vs from pa0)
  obtain ⟨aa, ca, ab, cb, rfl, rfl⟩ := PA.out.form
  have c0 := fc.c0
  have FC := Lib.hid fc
  have HF := Lib.hid hf
  have hkl : k < l.length := by have := HL.out; omega
  have HKL := Lib.hid hkl
  clear fc fc0 pa0 hf hkl
  by_cases hd : f.id ≠ id
  · skip
    have d1 : (f.id != id) = true := by simpa using hd
    have KY : Hid (keepF (fun g => decide (g.id ≠ id)) l (k + 1) = keepF (fun g => decide (g.id ≠ id)) l k ++ [f]) := Lib.hid (keep_yes HKL.out HF.out (by simpa using hd))
    clear hd
    have hb2 := hb
    have hB2 := hB
    have RG := Lib.hid FC.out.range
    have OW := Lib.hid how
    clear how
    have hs2 := hb2.size
    go_wp2_with (first | (refine wpList_load_mid rfl _ _ rfl g (o + k * 9) rfl [.int .i64 f.id, .int .i64 f.kind, .int .i64 f.x, .int .i64 f.y, .int .i64 f.rad, .slice aa f.area.length ca, .int .i64 f.dep, .int .i64 f.sym, .slice ab f.secs.length cb] _ RG.out Tryz.underlying32 rfl (by kernel_rfl) ?_) | (refine wpList_appF rfl _ _ rfl w.heap.size w0 _ (m) [f] rfl (OW.out.keep ((Below.refl _ _).alloc (Nat.le_refl _) _)) _ _ _ rfl [(f, .slice aa f.area.length ca, .slice ab f.secs.length cb)] rfl rfl (fun x hx => by obtain rfl := List.mem_singleton.1 hx; exact PA.out) (SrcAt.one (block_new _ _) rfl) (N := (m).length + 1) rfl (by have := ML.out; omega) (by simp only [World.size_alloc]; omega) ?_; intro ad2 c2 w5 how5 hgr hbl))
    go_roundw
    case rel => exact ⟨k + 1, ad2, c2, m ++ [f], by omega, by go_num, by rw [List.length_append]; rfl, Lib.hid (by rw [KY.out, EM.out]), by rw [List.length_append]; exact how5, (hb2.alloc (by have := hb2.size; omega) _).trans hbl⟩
    case measure => simp [cntV]; omega
  · skip
    have d1 : (f.id != id) = false := by simpa using hd
    have KN : Hid (keepF (fun g => decide (g.id ≠ id)) l (k + 1) = keepF (fun g => decide (g.id ≠ id)) l k) := Lib.hid (keep_no HKL.out HF.out (by simpa using hd))
    clear hd
    have hb2 := hb
    have hB2 := hB
    have RG := Lib.hid FC.out.range
    have OW := Lib.hid how
    clear how
    have hs2 := hb2.size
    go_wp2_with fail
    go_roundw
    case rel => exact ⟨k + 1, ad', c', m, by omega, by go_num, rfl, Lib.hid (by rw [KN.out, EM.out]), OW.out, hb2⟩
    case measure => simp [cntV]; omega
set_option maxHeartbeats 8000000 in
set_option maxRecDepth 20000 in
theorem q17Put_any (l : List Feat) (p : Feat) (v0 va vs : Value) (w0 w : World) (h : Feats2 w0 w v0 l) (hp : PartsAt w0 p va vs) (hl : l.length ≤ 1000) : Calls Tryz.prog 196 #[v0, featV p va vs] w (FsP w0 w (putR p l)) := by
 obtain ⟨ad, c, rfl, h1, hn, hc⟩ := h.form
 have H := Lib.hid h1
 have PP := Lib.hid hp
 obtain ⟨pa, pc, pb, pd, rfl, rfl⟩ := hp.form
 obtain ⟨n, hln⟩ : ∃ n, l.length = n := ⟨_, rfl⟩
 rw [hln] at H hn hc hl
 rw [hln]
 have HL := Lib.hid hln
 clear h h1 hln hp
 go_enter Tryz.func196, Tryz.ntmps196
 go_wp2_with fail
 refine wp_named fun W hW => ?_
 obtain ⟨p1, hBW⟩ := box1 hW
 clear hW
 have P1 := Lib.hid p1
 clear p1
 go_loopw [5, 6] (fun a i wr => ∃ (k : Nat) (ad' : Option Addr) (c' : Nat) (m : List Feat), k ≤ n ∧ i = .int .i64 k ∧ a = .slice ad' m.length c' ∧ Hid ((keepF (fun g => decide (g.id < p.id)) l k) = m) ∧ OwnFs W.heap.size w0 wr (.slice ad' m.length c') m ∧ Below W.heap.size W wr) (fun _ i _ => n - cntV i)
 case atStart => exact ⟨0, none, 0, [], Nat.zero_le _, rfl, rfl, Lib.hid rfl, OwnFs.nil _ _ _, Below.refl _ _⟩
 case round =>
  obtain ⟨k, ad', c', m, hk, rfl, rfl, EM, how, hb⟩ := hrel
  have hB := below_step hBW hb
  have ML : Hid (m.length ≤ 3001) := Lib.hid (by
   have h1 := keep_len (fun g => decide (g.id < p.id)) l k
   rw [← EM.out]
   omega)
  rcases Nat.lt_or_ge k n with hlt | hge
  rotate_left
  · have hkn : k = n := by omega
    subst k
    have BL : Hid ((m ++ [p]).length ≤ 1001) := Lib.hid (by
     have h1 := keep_len (fun g => decide (g.id < p.id)) l n
     rw [← EM.out, List.length_append]
     simp only [List.length_singleton]
     omega)
    have EM2 : Hid (l.filter (fun g => decide (g.id < p.id)) = m) := Lib.hid (by rw [← EM.out, keep_all HL.out])
    have OW := Lib.hid how
    have hs2 := hb.size
    have q1 := cell_block (block_later hb P1.out)
    clear how
    go_wp2_with (first | (refine wpList_appF rfl _ _ rfl W.heap.size w0 _ (m) [p] rfl (OW.out.keep ((Below.refl _ _).alloc (Nat.le_refl _) _)) _ _ _ rfl [(p, .slice pa p.area.length pc, .slice pb p.secs.length pd)] rfl rfl (fun x hx => by obtain rfl := List.mem_singleton.1 hx; exact PP.out) (SrcAt.one (block_new _ _) rfl) (N := (m).length + 1) rfl (by have := ML.out; omega) (by simp only [World.size_alloc]; omega) ?_; intro ad2 c2 w5 how5 hgr hbl))
    have hbN := (hb.alloc hb.size _).trans hbl
    clear q1
    obtain ⟨M0, hM0⟩ : ∃ z, m ++ [p] = z := ⟨_, rfl⟩
    have HM0 := Lib.hid hM0
    have how6 : OwnFs W.heap.size w0 w5 (.slice ad2 M0.length c2) M0 := by rw [← hM0, List.length_append]; exact how5
    rw [hM0] at BL
    have hl6 : m.length + 1 = M0.length := by rw [← hM0, List.length_append]; rfl
    rw [hl6]
    clear how5 hM0 EM ML hb hB OW hl6
    go_loopw [5, 7] (fun a i wr => ∃ (k : Nat) (ad' : Option Addr) (c' : Nat) (m : List Feat), k ≤ n ∧ i = .int .i64 k ∧ a = .slice ad' m.length c' ∧ Hid ((M0 ++ keepF (fun g => decide (p.id < g.id)) l k) = m) ∧ OwnFs W.heap.size w0 wr (.slice ad' m.length c') m ∧ Below W.heap.size W wr) (fun _ i _ => n - cntV i)
    case atStart => exact ⟨0, ad2, c2, M0, Nat.zero_le _, rfl, rfl, Lib.hid (by show M0 ++ [] = M0; rw [List.append_nil]), how6, hbN⟩
    case round =>
     obtain ⟨k, ad', c', m, hk, rfl, rfl, EM, how, hb⟩ := hrel
     have hB := below_step hBW hb
     have ML : Hid (m.length ≤ 3001) := Lib.hid (by
      have h1 := keep_len (fun g => decide (p.id < g.id)) l k
      rw [← EM.out]
      rw [List.length_append]; have := BL.out; omega)
     rcases Nat.lt_or_ge k n with hlt | hge
     rotate_left
     · obtain rfl : k = n := by omega
       have EM3 : Hid (putR p l = m) := Lib.hid (by rw [← EM.out, keep_all HL.out, ← HM0.out]; unfold putR; rw [EM2.out])
       go_wp2_with fail
       go_returns
       refine ⟨ad', c', ?_⟩
       rw [EM3.out]
       exact ⟨rfl, how.mono hBW.size, hB⟩
     obtain ⟨g, o, va, vs, rfl, fc0, pa0⟩ := H.out.row hlt
     have fc := fc0.later hB
     obtain ⟨f, hf⟩ : ∃ f, l.getD k noFeat = f := ⟨_, rfl⟩
     rw [hf] at fc pa0
     have PA := Lib.hid (show PartsAt w0 f va vs from pa0)
     obtain ⟨aa, ca, ab, cb, rfl, rfl⟩ := PA.out.form
     have c0 := fc.c0
     have FC := Lib.hid fc
     have HF := Lib.hid hf
     have hkl : k < l.length := by have := HL.out; omega
     have HKL := Lib.hid hkl
     clear fc fc0 pa0 hf hkl
     by_cases hd : p.id < f.id
     · skip
       have d1 : decide (p.id < f.id) = true := decide_eq_true hd
       have KY : Hid (keepF (fun g => decide (p.id < g.id)) l (k + 1) = keepF (fun g => decide (p.id < g.id)) l k ++ [f]) := Lib.hid (keep_yes HKL.out HF.out (by simpa using hd))
       clear hd
       have q1 := cellsR (block_later hb P1.out)
       have q0 := cellRp c0
       clear c0
       go_wp2_with fail
       refine wp_region_plan (.take 0 (.take 0 (.take 0 (.take 0 (.take 0 (.take 0 (.take 0 (.take 0 .done)))))))) (by kernel_rfl) (by kernel_rfl) (fun hP => ?_)
       repeat' (first
        | (refine wpPlan_two ?_ ?_)
        | (refine wpPlan_three ?_ ?_ ?_)
        | (refine wpPlan_take rfl (fun K hK => ?_); replace hK := Lib.hid hK; go_simp; first | (refine hK.out _ ?_; clear hK K) | (apply Exists.intro; refine ⟨fun _ => ?_, hK.out _ ?_⟩; (first | with_reducible exact rfl | skip); clear hK K))
        | (refine wpPlan_only rfl (fun K hK => ?_); replace hK := Lib.hid hK; (first | (go_simp; first | skip)); refine hK.out _ _ (by first | assumption | exact below_step hP hbx | exact hP.drew | exact hP.alloc hP.size _) (fun hP => ?_); clear hK K))
       all_goals refine wpPlan_done ?_
       generalize hwd : wr.drew = V at hP ⊢
       clear q0 q1 hwd
       have hb2 := below_step hb hP
       have hB2 := below_step hB hP
       have RG := Lib.hid (FC.out.later hP).range
       have OW := Lib.hid (how.keep hP)
       clear how
       have hs2 := hb2.size
       go_wp2_with (first | (refine wpList_load_mid rfl _ _ rfl g (o + k * 9) rfl [.int .i64 f.id, .int .i64 f.kind, .int .i64 f.x, .int .i64 f.y, .int .i64 f.rad, .slice aa f.area.length ca, .int .i64 f.dep, .int .i64 f.sym, .slice ab f.secs.length cb] _ RG.out Tryz.underlying32 rfl (by kernel_rfl) ?_) | (refine wpList_appF rfl _ _ rfl W.heap.size w0 _ (m) [f] rfl (OW.out.keep ((Below.refl _ _).alloc (Nat.le_refl _) _)) _ _ _ rfl [(f, .slice aa f.area.length ca, .slice ab f.secs.length cb)] rfl rfl (fun x hx => by obtain rfl := List.mem_singleton.1 hx; exact PA.out) (SrcAt.one (block_new _ _) rfl) (N := (m).length + 1) rfl (by have := ML.out; omega) (by simp only [World.size_alloc]; omega) ?_; intro ad2 c2 w5 how5 hgr hbl))
       go_roundw
       case rel => exact ⟨k + 1, ad2, c2, m ++ [f], by omega, by go_num, by rw [List.length_append]; rfl, Lib.hid (by rw [KY.out, ← List.append_assoc, EM.out]), by rw [List.length_append]; exact how5, (hb2.alloc (by have := hb2.size; omega) _).trans hbl⟩
       case measure => simp [cntV]; omega
     · skip
       have d1 : decide (p.id < f.id) = false := decide_eq_false hd
       have KN : Hid (keepF (fun g => decide (p.id < g.id)) l (k + 1) = keepF (fun g => decide (p.id < g.id)) l k) := Lib.hid (keep_no HKL.out HF.out (by simpa using hd))
       clear hd
       have q1 := cellsR (block_later hb P1.out)
       have q0 := cellRp c0
       clear c0
       go_wp2_with fail
       refine wp_region_plan (.take 0 (.take 0 (.take 0 (.take 0 (.take 0 (.take 0 (.take 0 (.take 0 .done)))))))) (by kernel_rfl) (by kernel_rfl) (fun hP => ?_)
       repeat' (first
        | (refine wpPlan_two ?_ ?_)
        | (refine wpPlan_three ?_ ?_ ?_)
        | (refine wpPlan_take rfl (fun K hK => ?_); replace hK := Lib.hid hK; go_simp; first | (refine hK.out _ ?_; clear hK K) | (apply Exists.intro; refine ⟨fun _ => ?_, hK.out _ ?_⟩; (first | with_reducible exact rfl | skip); clear hK K))
        | (refine wpPlan_only rfl (fun K hK => ?_); replace hK := Lib.hid hK; (first | (go_simp; first | skip)); refine hK.out _ _ (by first | assumption | exact below_step hP hbx | exact hP.drew | exact hP.alloc hP.size _) (fun hP => ?_); clear hK K))
       all_goals refine wpPlan_done ?_
       generalize hwd : wr.drew = V at hP ⊢
       clear q0 q1 hwd
       have hb2 := below_step hb hP
       have hB2 := below_step hB hP
       have OW := Lib.hid (how.keep hP)
       clear how
       go_wp2_with fail
       go_roundw
       case rel => exact ⟨k + 1, ad', c', m, by omega, by go_num, rfl, Lib.hid (by rw [KN.out, EM.out]), OW.out, hb2⟩
       case measure => simp [cntV]; omega
  obtain ⟨g, o, va, vs, rfl, fc0, pa0⟩ := H.out.row hlt
  have fc := fc0.later hB
  obtain ⟨f, hf⟩ : ∃ f, l.getD k noFeat = f := ⟨_, rfl⟩
  rw [hf] at fc pa0
  have PA := Lib.hid (show PartsAt w0 f va vs from pa0)
  obtain ⟨aa, ca, ab, cb, rfl, rfl⟩ := PA.out.form
  have c0 := fc.c0
  have FC := Lib.hid fc
  have HF := Lib.hid hf
  have hkl : k < l.length := by have := HL.out; omega
  have HKL := Lib.hid hkl
  clear fc fc0 pa0 hf hkl
  by_cases hd : f.id < p.id
  · skip
    have d1 : decide (f.id < p.id) = true := decide_eq_true hd
    have KY : Hid (keepF (fun g => decide (g.id < p.id)) l (k + 1) = keepF (fun g => decide (g.id < p.id)) l k ++ [f]) := Lib.hid (keep_yes HKL.out HF.out (by simpa using hd))
    clear hd
    have q1 := cellsR (block_later hb P1.out)
    have q0 := cellRp c0
    clear c0
    go_wp2_with fail
    refine wp_region_plan (.take 0 (.take 0 (.take 0 (.take 0 (.take 0 (.take 0 (.take 0 (.take 0 .done)))))))) (by kernel_rfl) (by kernel_rfl) (fun hP => ?_)
    repeat' (first
     | (refine wpPlan_two ?_ ?_)
     | (refine wpPlan_three ?_ ?_ ?_)
     | (refine wpPlan_take rfl (fun K hK => ?_); replace hK := Lib.hid hK; go_simp; first | (refine hK.out _ ?_; clear hK K) | (apply Exists.intro; refine ⟨fun _ => ?_, hK.out _ ?_⟩; (first | with_reducible exact rfl | skip); clear hK K))
     | (refine wpPlan_only rfl (fun K hK => ?_); replace hK := Lib.hid hK; (first | (go_simp; first | skip)); refine hK.out _ _ (by first | assumption | exact below_step hP hbx | exact hP.drew | exact hP.alloc hP.size _) (fun hP => ?_); clear hK K))
    all_goals refine wpPlan_done ?_
    generalize hwd : wr.drew = V at hP ⊢
    clear q0 q1 hwd
    have hb2 := below_step hb hP
    have hB2 := below_step hB hP
    have RG := Lib.hid (FC.out.later hP).range
    have OW := Lib.hid (how.keep hP)
    clear how
    have hs2 := hb2.size
    go_wp2_with (first | (refine wpList_load_mid rfl _ _ rfl g (o + k * 9) rfl [.int .i64 f.id, .int .i64 f.kind, .int .i64 f.x, .int .i64 f.y, .int .i64 f.rad, .slice aa f.area.length ca, .int .i64 f.dep, .int .i64 f.sym, .slice ab f.secs.length cb] _ RG.out Tryz.underlying32 rfl (by kernel_rfl) ?_) | (refine wpList_appF rfl _ _ rfl W.heap.size w0 _ (m) [f] rfl (OW.out.keep ((Below.refl _ _).alloc (Nat.le_refl _) _)) _ _ _ rfl [(f, .slice aa f.area.length ca, .slice ab f.secs.length cb)] rfl rfl (fun x hx => by obtain rfl := List.mem_singleton.1 hx; exact PA.out) (SrcAt.one (block_new _ _) rfl) (N := (m).length + 1) rfl (by have := ML.out; omega) (by simp only [World.size_alloc]; omega) ?_; intro ad2 c2 w5 how5 hgr hbl))
    go_roundw
    case rel => exact ⟨k + 1, ad2, c2, m ++ [f], by omega, by go_num, by rw [List.length_append]; rfl, Lib.hid (by rw [KY.out, EM.out]), by rw [List.length_append]; exact how5, (hb2.alloc (by have := hb2.size; omega) _).trans hbl⟩
    case measure => simp [cntV]; omega
  · skip
    have d1 : decide (f.id < p.id) = false := decide_eq_false hd
    have KN : Hid (keepF (fun g => decide (g.id < p.id)) l (k + 1) = keepF (fun g => decide (g.id < p.id)) l k) := Lib.hid (keep_no HKL.out HF.out (by simpa using hd))
    clear hd
    have q1 := cellsR (block_later hb P1.out)
    have q0 := cellRp c0
    clear c0
    go_wp2_with fail
    refine wp_region_plan (.take 0 (.take 0 (.take 0 (.take 0 (.take 0 (.take 0 (.take 0 (.take 0 .done)))))))) (by kernel_rfl) (by kernel_rfl) (fun hP => ?_)
    repeat' (first
     | (refine wpPlan_two ?_ ?_)
     | (refine wpPlan_three ?_ ?_ ?_)
     | (refine wpPlan_take rfl (fun K hK => ?_); replace hK := Lib.hid hK; go_simp; first | (refine hK.out _ ?_; clear hK K) | (apply Exists.intro; refine ⟨fun _ => ?_, hK.out _ ?_⟩; (first | with_reducible exact rfl | skip); clear hK K))
     | (refine wpPlan_only rfl (fun K hK => ?_); replace hK := Lib.hid hK; (first | (go_simp; first | skip)); refine hK.out _ _ (by first | assumption | exact below_step hP hbx | exact hP.drew | exact hP.alloc hP.size _) (fun hP => ?_); clear hK K))
    all_goals refine wpPlan_done ?_
    generalize hwd : wr.drew = V at hP ⊢
    clear q0 q1 hwd
    have hb2 := below_step hb hP
    have hB2 := below_step hB hP
    have OW := Lib.hid (how.keep hP)
    clear how
    go_wp2_with fail
    go_roundw
    case rel => exact ⟨k + 1, ad', c', m, by omega, by go_num, rfl, Lib.hid (by rw [KN.out, EM.out]), OW.out, hb2⟩
    case measure => simp [cntV]; omega
end Go.Proofs.YtdmegkkifiahdaaGreat
namespace Go.Proofs.YtdmegkkifiahdaaGreat
open Go.RowKit
attribute [local go_sem] bqOp bqAll bqUpon sqOp sqAll sqUpon ssAll
attribute [local irreducible] wpQuiet wpBQ wpPlan wsPlan
set_option linter.unusedVariables false
theorem ws_loadMidT {P : Program} {ops : Array Oper} {S : World → Prop} {Q : Exit → Act → World → Prop} {b : Nat} {p : Plan} {l rest : List Oper} {o : Oper} {a : Act} {w : World} (hb : bring b l = o :: rest) (hgd : o.guard = none) (ty : TypeId) (x : Operand) (ho : o.op = .load ty x)
  (g off : Nat) (hx : a.eval x = .pointer (some ⟨g, off, none⟩)) (cs : List Value) (d : TypeDesc) (hS : ∀ w, S w → w.rangeAt g off cs)
  (hu : P.underlying ty = some d) (hd : d.isRow = true) (hi : (P.info? ty).map (·.size) = some cs.length)
  (h : wsPlan P ops S Q p rest (a.put o.dst (.agg cs.toArray)) w) : wsPlan P ops S Q (.take b p) l a w := by
 refine wsPlan_take hb fun K hK => ?_
 rw [if_pos (wanted_plain hgd)]
 refine ⟨.agg cs.toArray, fun w' hw' => ?_, hK _ h⟩
 unfold execOp
 simp only [ho, hx, Instr.loadAt, Instr.sureAddr, Sem.run_bind, Sem.run_pure, Result.andThen_ok, run_loadVar_mid w' g off ty cs d (hS w' hw') hu hd hi]
 exact ⟨rfl, rfl⟩
theorem chgE_kind3 {f : Feat} {id : Int} {of : Feat} {x y rad dep sym : Int} : chgE f ⟨3, id, of, x, y, rad, dep, sym⟩ = if (f.kind = 3 ∨ f.kind = 6) ∨ f.kind = 4 ∧ rad ≠ 0 then (f, 12) else ({ f with x := x, y := y, rad := rad }, 0) := by
 unfold chgE chgF
 by_cases h : (f.kind = 3 ∨ f.kind = 6) ∨ f.kind = 4 ∧ rad ≠ 0
 · rw [if_pos h, if_pos (.inl ⟨rfl, h⟩)]
 · rw [if_neg h, if_neg (fun k => k.elim (fun k => h k.2) (fun k => absurd k.1 (by simp)))]
   rfl
theorem chgE_kind4 {f : Feat} {id : Int} {of : Feat} {x y rad dep sym : Int} : chgE f ⟨4, id, of, x, y, rad, dep, sym⟩ = if f.kind = 4 ∨ f.kind = 6 then (f, 12) else ({ f with dep := dep }, 0) := by
 unfold chgE chgF
 by_cases h : f.kind = 4 ∨ f.kind = 6
 · rw [if_pos h, if_pos (.inr ⟨rfl, h⟩)]
 · rw [if_neg h, if_neg (fun k => k.elim (fun k => absurd k.1 (by simp)) (fun k => h k.2))]
   rfl
theorem chgE_kind5 {f : Feat} {id : Int} {of : Feat} {x y rad dep sym : Int} : chgE f ⟨5, id, of, x, y, rad, dep, sym⟩ = ({ f with sym := sym }, 0) := by
 unfold chgE chgF
 rw [if_neg (fun k => k.elim (fun k => absurd k.1 (by simp)) (fun k => absurd k.1 (by simp)))]
 rfl
set_option maxHeartbeats 8000000 in
set_option maxRecDepth 20000 in
theorem q17Changed_any (f : Feat) (o : Opn) (va vs ua us : Value) (w0 w : World) (hp : PartsAt w0 f va vs) (hq : PartsAt w0 o.feat ua us) (ho : 3 ≤ o.kind ∧ o.kind ≤ 5) {g : Feat} {er : Int} (hv : chgE f o = (g, er)) :
  Calls Tryz.prog 198 #[featV f va vs, opV o ua us] w fun e w' => e = .returned (.tuple #[featV g va vs, .int .i64 er]) ∧ Below w.heap.size w w' := by
 obtain ⟨aa, ca, ab, cb, rfl, rfl⟩ := hp.form
 obtain ⟨ac, cc, ae, ce, rfl, rfl⟩ := hq.form
 generalize f.area.length = n1
 generalize f.secs.length = n2
 generalize o.feat.area.length = n3
 generalize o.feat.secs.length = n4
 clear hp hq
 obtain ⟨u, hu⟩ : ∃ z, decide (f.kind = 3 ∨ f.kind = 6) = z := ⟨_, rfl⟩
 have U := Lib.hid hu
 clear hu
 obtain ⟨kind, id, of, x, y, rad, dep, sym⟩ := o
 have hk : kind = 3 ∨ kind = 4 ∨ kind = 5 := by simp only at ho; omega
 clear ho
 rcases hk with rfl | rfl | rfl
 · skip
   have HV := Lib.hid (hv.symm.trans chgE_kind3).symm
   clear hv
   go_enter Tryz.func198, Tryz.ntmps198
   go_wp2_with fail
   refine calls_named fun W hW => ?_
   obtain ⟨p1, p2, p3, hB⟩ := box3 hW
   clear hW
   (with_reducible refine (q07Polygon_any _ _ U.out).mono ?_)
   rintro e w1 ⟨rfl, hb1⟩
   have hB1 := below_step hB hb1
   have B1 := Lib.hid (block_later hb1 p1)
   have B2 := Lib.hid (block_later hb1 p2)
   have B3 := Lib.hid (block_later hb1 p3)
   have c1 := cell_block B1.out
   have c2 := cell_block B2.out
   have c3 := cell_block B3.out
   have f1 := free_block B1.out
   have f3 := free_block B3.out
   clear p1 p2 p3 hb1
   cases u
   rotate_left
   · have UT := of_decide_eq_true U.out
     have hge : g = f ∧ er = 12 := by
      have h := HV.out
      rw [if_pos (.inl UT)] at h
      cases h
      exact ⟨rfl, rfl⟩
     obtain ⟨hg, he⟩ := hge
     subst g
     subst er
     go_wp2_with fail
     have c9 := cell_block (block_set (i := 8) (block_set (i := 7) (block_set (i := 6) (block_set (i := 5) (block_set (i := 4) (block_set (i := 3) (block_set (i := 2) (block_set (i := 1) (block_set (i := 0) B3.out (.int .i64 f.id)) (.int .i64 f.kind)) (.int .i64 f.x)) (.int .i64 f.y)) (.int .i64 f.rad)) (.slice aa n1 ca)) (.int .i64 f.dep)) (.int .i64 f.sym)) (.slice ab n2 cb))
     exact bodyPost_ret (v := .tuple #[.agg #[.int .i64 f.id, .int .i64 f.kind, .int .i64 f.x, .int .i64 f.y, .int .i64 f.rad, .slice aa n1 ca, .int .i64 f.dep, .int .i64 f.sym, .slice ab n2 cb], .int .i64 12]) (by simp [results, Tryz.results198, go_sem, c9]) rfl ⟨rfl, (((((((((hB1.setCell (by dsimp only; omega) _).setCell (by dsimp only; omega) _).setCell (by dsimp only; omega) _).setCell (by dsimp only; omega) _).setCell (by dsimp only; omega) _).setCell (by dsimp only; omega) _).setCell (by dsimp only; omega) _).setCell (by dsimp only; omega) _).setCell (by dsimp only; omega) _)⟩
   have UF := of_decide_eq_false U.out
   by_cases k4 : f.kind = 4
   · have d4 : (f.kind == 4) = true := by simpa using k4
     have K4 := Lib.hid k4
     clear k4
     by_cases k5 : rad = 0
     · have d5 : (rad != 0) = false := by simpa using k5
       have K5 := Lib.hid k5
       clear k5
       have hge : g = { f with x := x, y := y, rad := rad } ∧ er = 0 := by
        have h := HV.out
        rw [if_neg (fun h => h.elim UF (fun h => h.2 K5.out))] at h
        cases h
        exact ⟨rfl, rfl⟩
       obtain ⟨hg, he⟩ := hge
       subst g
       subst er
       go_wp2_with fail
       have c9 := cell_block (block_set (i := 8) (block_set (i := 7) (block_set (i := 6) (block_set (i := 5) (block_set (i := 4) (block_set (i := 3) (block_set (i := 2) (block_set (i := 1) (block_set (i := 0) (block_far (a := ⟨w.heap.size, 4, none⟩) (block_far (a := ⟨w.heap.size, 3, none⟩) (block_far (a := ⟨w.heap.size, 2, none⟩) B3.out (by dsimp only; omega) (.int .i64 x)) (by dsimp only; omega) (.int .i64 y)) (by dsimp only; omega) (.int .i64 rad)) (.int .i64 f.id)) (.int .i64 f.kind)) (.int .i64 x)) (.int .i64 y)) (.int .i64 rad)) (.slice aa n1 ca)) (.int .i64 f.dep)) (.int .i64 f.sym)) (.slice ab n2 cb))
       exact bodyPost_ret (v := .tuple #[.agg #[.int .i64 f.id, .int .i64 f.kind, .int .i64 x, .int .i64 y, .int .i64 rad, .slice aa n1 ca, .int .i64 f.dep, .int .i64 f.sym, .slice ab n2 cb], .int .i64 0]) (by simp [results, Tryz.results198, go_sem, c9]) rfl ⟨rfl, ((((((((((((hB1.setCell (by dsimp only; omega) _).setCell (by dsimp only; omega) _).setCell (by dsimp only; omega) _).setCell (by dsimp only; omega) _).setCell (by dsimp only; omega) _).setCell (by dsimp only; omega) _).setCell (by dsimp only; omega) _).setCell (by dsimp only; omega) _).setCell (by dsimp only; omega) _).setCell (by dsimp only; omega) _).setCell (by dsimp only; omega) _).setCell (by dsimp only; omega) _)⟩
     · have d5 : (rad != 0) = true := by simpa using k5
       have hge : g = f ∧ er = 12 := by
        have h := HV.out
        rw [if_pos (.inr ⟨K4.out, k5⟩)] at h
        cases h
        exact ⟨rfl, rfl⟩
       obtain ⟨hg, he⟩ := hge
       subst g
       subst er
       go_wp2_with fail
       have c9 := cell_block (block_set (i := 8) (block_set (i := 7) (block_set (i := 6) (block_set (i := 5) (block_set (i := 4) (block_set (i := 3) (block_set (i := 2) (block_set (i := 1) (block_set (i := 0) B3.out (.int .i64 f.id)) (.int .i64 f.kind)) (.int .i64 f.x)) (.int .i64 f.y)) (.int .i64 f.rad)) (.slice aa n1 ca)) (.int .i64 f.dep)) (.int .i64 f.sym)) (.slice ab n2 cb))
       exact bodyPost_ret (v := .tuple #[.agg #[.int .i64 f.id, .int .i64 f.kind, .int .i64 f.x, .int .i64 f.y, .int .i64 f.rad, .slice aa n1 ca, .int .i64 f.dep, .int .i64 f.sym, .slice ab n2 cb], .int .i64 12]) (by simp [results, Tryz.results198, go_sem, c9]) rfl ⟨rfl, (((((((((hB1.setCell (by dsimp only; omega) _).setCell (by dsimp only; omega) _).setCell (by dsimp only; omega) _).setCell (by dsimp only; omega) _).setCell (by dsimp only; omega) _).setCell (by dsimp only; omega) _).setCell (by dsimp only; omega) _).setCell (by dsimp only; omega) _).setCell (by dsimp only; omega) _)⟩
   · have d4 : (f.kind == 4) = false := by simpa using k4
     have hge : g = { f with x := x, y := y, rad := rad } ∧ er = 0 := by
      have h := HV.out
      rw [if_neg (fun h => h.elim UF (fun h => k4 h.1))] at h
      cases h
      exact ⟨rfl, rfl⟩
     obtain ⟨hg, he⟩ := hge
     subst g
     subst er
     go_wp2_with fail
     have c9 := cell_block (block_set (i := 8) (block_set (i := 7) (block_set (i := 6) (block_set (i := 5) (block_set (i := 4) (block_set (i := 3) (block_set (i := 2) (block_set (i := 1) (block_set (i := 0) (block_far (a := ⟨w.heap.size, 4, none⟩) (block_far (a := ⟨w.heap.size, 3, none⟩) (block_far (a := ⟨w.heap.size, 2, none⟩) B3.out (by dsimp only; omega) (.int .i64 x)) (by dsimp only; omega) (.int .i64 y)) (by dsimp only; omega) (.int .i64 rad)) (.int .i64 f.id)) (.int .i64 f.kind)) (.int .i64 x)) (.int .i64 y)) (.int .i64 rad)) (.slice aa n1 ca)) (.int .i64 f.dep)) (.int .i64 f.sym)) (.slice ab n2 cb))
     exact bodyPost_ret (v := .tuple #[.agg #[.int .i64 f.id, .int .i64 f.kind, .int .i64 x, .int .i64 y, .int .i64 rad, .slice aa n1 ca, .int .i64 f.dep, .int .i64 f.sym, .slice ab n2 cb], .int .i64 0]) (by simp [results, Tryz.results198, go_sem, c9]) rfl ⟨rfl, ((((((((((((hB1.setCell (by dsimp only; omega) _).setCell (by dsimp only; omega) _).setCell (by dsimp only; omega) _).setCell (by dsimp only; omega) _).setCell (by dsimp only; omega) _).setCell (by dsimp only; omega) _).setCell (by dsimp only; omega) _).setCell (by dsimp only; omega) _).setCell (by dsimp only; omega) _).setCell (by dsimp only; omega) _).setCell (by dsimp only; omega) _).setCell (by dsimp only; omega) _)⟩
 · skip
   have HV := Lib.hid (hv.symm.trans chgE_kind4).symm
   clear hv
   go_enter Tryz.func198, Tryz.ntmps198
   go_wp2_with fail
   refine calls_named fun W hW => ?_
   obtain ⟨p1, p2, p3, hB⟩ := box3 hW
   clear hW
   (with_reducible refine (q07Polygon_any _ _ U.out).mono ?_)
   rintro e w1 ⟨rfl, hb1⟩
   have hB1 := below_step hB hb1
   have B1 := Lib.hid (block_later hb1 p1)
   have B2 := Lib.hid (block_later hb1 p2)
   have B3 := Lib.hid (block_later hb1 p3)
   have c1 := cell_block B1.out
   have c2 := cell_block B2.out
   have c3 := cell_block B3.out
   have f1 := free_block B1.out
   have f3 := free_block B3.out
   clear p1 p2 p3 hb1
   by_cases k4 : f.kind = 4
   · have d4 : (f.kind == 4) = true := by simpa using k4
     have K4 := Lib.hid k4
     clear k4
     have hge : g = f ∧ er = 12 := by
      have h := HV.out
      rw [if_pos (.inl K4.out)] at h
      cases h
      exact ⟨rfl, rfl⟩
     obtain ⟨hg, he⟩ := hge
     subst g
     subst er
     go_wp2_with fail
     have c9 := cell_block (block_set (i := 8) (block_set (i := 7) (block_set (i := 6) (block_set (i := 5) (block_set (i := 4) (block_set (i := 3) (block_set (i := 2) (block_set (i := 1) (block_set (i := 0) B3.out (.int .i64 f.id)) (.int .i64 f.kind)) (.int .i64 f.x)) (.int .i64 f.y)) (.int .i64 f.rad)) (.slice aa n1 ca)) (.int .i64 f.dep)) (.int .i64 f.sym)) (.slice ab n2 cb))
     exact bodyPost_ret (v := .tuple #[.agg #[.int .i64 f.id, .int .i64 f.kind, .int .i64 f.x, .int .i64 f.y, .int .i64 f.rad, .slice aa n1 ca, .int .i64 f.dep, .int .i64 f.sym, .slice ab n2 cb], .int .i64 12]) (by simp [results, Tryz.results198, go_sem, c9]) rfl ⟨rfl, (((((((((hB1.setCell (by dsimp only; omega) _).setCell (by dsimp only; omega) _).setCell (by dsimp only; omega) _).setCell (by dsimp only; omega) _).setCell (by dsimp only; omega) _).setCell (by dsimp only; omega) _).setCell (by dsimp only; omega) _).setCell (by dsimp only; omega) _).setCell (by dsimp only; omega) _)⟩
   have d4 : (f.kind == 4) = false := by simpa using k4
   by_cases k6 : f.kind = 6
   · have d6 : (f.kind == 6) = true := by simpa using k6
     have K6 := Lib.hid k6
     clear k6
     have hge : g = f ∧ er = 12 := by
      have h := HV.out
      rw [if_pos (.inr K6.out)] at h
      cases h
      exact ⟨rfl, rfl⟩
     obtain ⟨hg, he⟩ := hge
     subst g
     subst er
     go_wp2_with fail
     have c9 := cell_block (block_set (i := 8) (block_set (i := 7) (block_set (i := 6) (block_set (i := 5) (block_set (i := 4) (block_set (i := 3) (block_set (i := 2) (block_set (i := 1) (block_set (i := 0) B3.out (.int .i64 f.id)) (.int .i64 f.kind)) (.int .i64 f.x)) (.int .i64 f.y)) (.int .i64 f.rad)) (.slice aa n1 ca)) (.int .i64 f.dep)) (.int .i64 f.sym)) (.slice ab n2 cb))
     exact bodyPost_ret (v := .tuple #[.agg #[.int .i64 f.id, .int .i64 f.kind, .int .i64 f.x, .int .i64 f.y, .int .i64 f.rad, .slice aa n1 ca, .int .i64 f.dep, .int .i64 f.sym, .slice ab n2 cb], .int .i64 12]) (by simp [results, Tryz.results198, go_sem, c9]) rfl ⟨rfl, (((((((((hB1.setCell (by dsimp only; omega) _).setCell (by dsimp only; omega) _).setCell (by dsimp only; omega) _).setCell (by dsimp only; omega) _).setCell (by dsimp only; omega) _).setCell (by dsimp only; omega) _).setCell (by dsimp only; omega) _).setCell (by dsimp only; omega) _).setCell (by dsimp only; omega) _)⟩
   have d6 : (f.kind == 6) = false := by simpa using k6
   have hge : g = { f with dep := dep } ∧ er = 0 := by
    have h := HV.out
    rw [if_neg (fun h => h.elim k4 k6)] at h
    cases h
    exact ⟨rfl, rfl⟩
   obtain ⟨hg, he⟩ := hge
   subst g
   subst er
   go_wp2_with fail
   have c9 := cell_block (block_set (i := 8) (block_set (i := 7) (block_set (i := 6) (block_set (i := 5) (block_set (i := 4) (block_set (i := 3) (block_set (i := 2) (block_set (i := 1) (block_set (i := 0) (block_far (a := ⟨w.heap.size, 6, none⟩) B3.out (by dsimp only; omega) (.int .i64 dep)) (.int .i64 f.id)) (.int .i64 f.kind)) (.int .i64 f.x)) (.int .i64 f.y)) (.int .i64 f.rad)) (.slice aa n1 ca)) (.int .i64 dep)) (.int .i64 f.sym)) (.slice ab n2 cb))
   exact bodyPost_ret (v := .tuple #[.agg #[.int .i64 f.id, .int .i64 f.kind, .int .i64 f.x, .int .i64 f.y, .int .i64 f.rad, .slice aa n1 ca, .int .i64 dep, .int .i64 f.sym, .slice ab n2 cb], .int .i64 0]) (by simp [results, Tryz.results198, go_sem, c9]) rfl ⟨rfl, ((((((((((hB1.setCell (by dsimp only; omega) _).setCell (by dsimp only; omega) _).setCell (by dsimp only; omega) _).setCell (by dsimp only; omega) _).setCell (by dsimp only; omega) _).setCell (by dsimp only; omega) _).setCell (by dsimp only; omega) _).setCell (by dsimp only; omega) _).setCell (by dsimp only; omega) _).setCell (by dsimp only; omega) _)⟩
 · skip
   have HV := Lib.hid (hv.symm.trans chgE_kind5).symm
   clear hv
   go_enter Tryz.func198, Tryz.ntmps198
   go_wp2_with fail
   refine calls_named fun W hW => ?_
   obtain ⟨p1, p2, p3, hB⟩ := box3 hW
   clear hW
   (with_reducible refine (q07Polygon_any _ _ U.out).mono ?_)
   rintro e w1 ⟨rfl, hb1⟩
   have hB1 := below_step hB hb1
   have B1 := Lib.hid (block_later hb1 p1)
   have B2 := Lib.hid (block_later hb1 p2)
   have B3 := Lib.hid (block_later hb1 p3)
   have c1 := cell_block B1.out
   have c2 := cell_block B2.out
   have c3 := cell_block B3.out
   have f1 := free_block B1.out
   have f3 := free_block B3.out
   clear p1 p2 p3 hb1
   have hz : True := trivial
   have hge : g = { f with sym := sym } ∧ er = 0 := by
    have h := HV.out
    skip
    cases h
    exact ⟨rfl, rfl⟩
   obtain ⟨hg, he⟩ := hge
   subst g
   subst er
   go_wp2_with fail
   have c9 := cell_block (block_set (i := 8) (block_set (i := 7) (block_set (i := 6) (block_set (i := 5) (block_set (i := 4) (block_set (i := 3) (block_set (i := 2) (block_set (i := 1) (block_set (i := 0) (block_far (a := ⟨w.heap.size, 7, none⟩) B3.out (by dsimp only; omega) (.int .i64 sym)) (.int .i64 f.id)) (.int .i64 f.kind)) (.int .i64 f.x)) (.int .i64 f.y)) (.int .i64 f.rad)) (.slice aa n1 ca)) (.int .i64 f.dep)) (.int .i64 sym)) (.slice ab n2 cb))
   exact bodyPost_ret (v := .tuple #[.agg #[.int .i64 f.id, .int .i64 f.kind, .int .i64 f.x, .int .i64 f.y, .int .i64 f.rad, .slice aa n1 ca, .int .i64 f.dep, .int .i64 sym, .slice ab n2 cb], .int .i64 0]) (by simp [results, Tryz.results198, go_sem, c9]) rfl ⟨rfl, ((((((((((hB1.setCell (by dsimp only; omega) _).setCell (by dsimp only; omega) _).setCell (by dsimp only; omega) _).setCell (by dsimp only; omega) _).setCell (by dsimp only; omega) _).setCell (by dsimp only; omega) _).setCell (by dsimp only; omega) _).setCell (by dsimp only; omega) _).setCell (by dsimp only; omega) _).setCell (by dsimp only; omega) _)⟩
def DoP (w0 w : World) (m : List Feat) (er : Int) (e : Ending) (w' : World) : Prop := ∃ ad c, e = .returned (.tuple #[.slice ad m.length c, .int .i64 er]) ∧ OwnFs w.heap.size w0 w' (.slice ad m.length c) m ∧ Below w.heap.size w w'
set_option maxHeartbeats 16000000 in
set_option maxRecDepth 20000 in
theorem q17Do_any (l : List Feat) (o : Opn) (v0 va vs : Value) (w0 w : World) (h : Feats2 w0 w v0 l) (hp : PartsAt w0 o.feat va vs) (hb0 : Below w0.heap.size w0 w) (hl : FeatsOk l) (ho : OpForm o) {l' : List Feat} {er : Int} (hv : doE l o = (l', er)) :
  Calls Tryz.prog 82 #[v0, opV o va vs] w (DoP w0 w l' er) := by
 obtain ⟨ad, c, rfl, h1, hn, hc⟩ := h.form
 have H := Lib.hid h1
 have HP := Lib.hid hp
 have HL := Lib.hid hl
 have HV := Lib.hid hv
 have HO := Lib.hid ho
 have h300 := hl.1
 obtain ⟨aa, ca, ab, cb, rfl, rfl⟩ := hp.form
 obtain ⟨n, hln⟩ : ∃ n, l.length = n := ⟨_, rfl⟩
 rw [hln] at H hn hc h300
 rw [hln]
 have HN := Lib.hid hln
 clear h h1 hp hl hv ho hln
 go_enter Tryz.func82, Tryz.ntmps82
 go_wp2_with fail
 refine calls_named fun W hW => ?_
 obtain ⟨p1, hB⟩ := box1 hW
 clear hW
 have P1 := Lib.hid p1
 clear p1
 (with_reducible refine (q17Index_any l _ o.id _ (H.out.later hB).at).mono ?_)
 rintro e w1 ⟨r, rfl, hr, hb1⟩
 have hB1 := below_step hB hb1
 have P1' := Lib.hid (block_later hb1 P1.out)
 have q1 := cell_block P1'.out
 clear hb1 P1
 by_cases k1 : o.kind = 1
 · have d1 : (o.kind == 1) = true := by simpa using k1
   rcases hr with ⟨rfl, hlk⟩ | ⟨k, hk, rfl, hlk⟩
   rotate_left
   · obtain ⟨rfl, rfl⟩ : l' = [] ∧ er = 5 := by
      have h := HV.out
      unfold doE doO at h
      rw [if_pos k1, hlk] at h
      cases h
      exact ⟨rfl, rfl⟩
     have d2 : decide (0 ≤ (k : Int)) = true := decide_eq_true (by omega)
     go_wp2_with fail
     go_returns
     exact ⟨none, 0, rfl, OwnFs.nil _ _ _, hB1⟩
   by_cases k2 : 300 ≤ n
   · obtain ⟨rfl, rfl⟩ : l' = [] ∧ er = 2 := by
      have h := HV.out
      unfold doE doO at h
      rw [if_pos k1, hlk] at h
      simp only at h
      rw [if_pos (by rw [HN.out]; exact k2)] at h
      cases h
      exact ⟨rfl, rfl⟩
     have d2 : decide (300 ≤ (n : Int)) = true := decide_eq_true (by omega)
     go_wp2_with fail
     go_returns
     exact ⟨none, 0, rfl, OwnFs.nil _ _ _, hB1⟩
   have E : Hid (l' = putR o.feat l ∧ er = 0) := Lib.hid (by
    have h := HV.out
    unfold doE doO at h
    rw [if_pos k1, hlk] at h
    simp only at h
    rw [if_neg (by rw [HN.out]; exact k2)] at h
    cases h
    exact ⟨(putR_eq (idsUp_of HL.out)).symm, rfl⟩)
   obtain ⟨rfl, rfl⟩ := E.out
   have d2 : decide (300 ≤ (n : Int)) = false := decide_eq_false (by omega)
   clear E HV hlk
   go_wp2_with fail
   (with_reducible refine (q17Put_any l o.feat _ _ _ w0 _ (H.out.later hB1) HP.out (by rw [HN.out]; omega)).mono ?_)
   rintro e w2 ⟨ad2, c2, rfl, how, hb2⟩
   have hsz := hB1.size
   have OW := Lib.hid (how.mono hsz)
   have hB2 := below_step hB1 hb2
   clear how
   go_wp2_with fail
   go_returns
   exact ⟨ad2, c2, rfl, OW.out, hB2⟩
 have d1 : (o.kind == 1) = false := by simpa using k1
 rcases hr with ⟨rfl, hlk⟩ | ⟨k, hk, rfl, hlk⟩
 · obtain ⟨rfl, rfl⟩ : l' = [] ∧ er = 4 := by
    have h := HV.out
    unfold doE doO at h
    rw [if_neg k1, hlk] at h
    cases h
    exact ⟨rfl, rfl⟩
   go_wp2_with fail
   go_returns
   exact ⟨none, 0, rfl, OwnFs.nil _ _ _, hB1⟩
 have d2 : decide ((k : Int) < 0) = false := decide_eq_false (by omega)
 by_cases k2 : o.kind = 2
 · have d3 : (o.kind == 2) = true := by simpa using k2
   obtain ⟨rfl, rfl⟩ : l' = delF o.id l ∧ er = 0 := by
    have h := HV.out
    unfold doE doO at h
    rw [if_neg k1, hlk] at h
    simp only at h
    rw [if_pos k2] at h
    cases h
    exact ⟨rfl, rfl⟩
   go_wp2_with fail
   (with_reducible refine (q17Without_any l _ o.id w0 _ (H.out.later hB1) (by rw [HN.out]; omega)).mono ?_)
   rintro e w2 ⟨ad2, c2, rfl, how, hb2⟩
   have hsz := hB1.size
   have OW := Lib.hid (how.mono hsz)
   have hB2 := below_step hB1 hb2
   clear how
   go_wp2_with fail
   go_returns
   exact ⟨ad2, c2, rfl, OW.out, hB2⟩
 have d3 : (o.kind == 2) = false := by simpa using k2
 have K35 : Hid (3 ≤ o.kind ∧ o.kind ≤ 5) := Lib.hid (by
  have h := HO.out
  cases h <;> simp_all [insO, delO, movO, depO, symO])
 obtain ⟨f, hf⟩ : ∃ f, l.getD k noFeat = f := ⟨_, rfl⟩
 rw [hf] at hlk
 have hkn : k < n := by rw [← HN.out]; exact hk
 obtain ⟨g0, o0, va, vs, rfl, fc0, pa0⟩ := H.out.row hkn
 rw [hf] at fc0 pa0
 have PA := Lib.hid (show PartsAt w0 f va vs from pa0)
 obtain ⟨fa, fca, fb, fcb, rfl, rfl⟩ := PA.out.form
 have FC := Lib.hid (fc0.later hB1)
 obtain ⟨gg, ge, hge⟩ : ∃ g e, chgE f o = (g, e) := ⟨_, _, rfl⟩
 have GE := Lib.hid hge
 have fid : f.id = o.id := by
  have := List.find?_some hlk
  simpa using this
 have E : Hid ((ge ≠ 0 ∧ l' = [] ∧ er = ge) ∨ (ge = 0 ∧ er = 0 ∧ l' = putR gg (delF o.id l) ∧ PartsAt w0 gg (.slice fa f.area.length fca) (.slice fb f.secs.length fcb))) := Lib.hid (by
  have h := HV.out
  unfold doE doO at h
  rw [if_neg k1, hlk] at h
  simp only at h
  rw [if_neg k2] at h
  unfold chgE at hge
  cases hc : chgF f o with
  | none =>
    rw [hc] at h hge
    cases h
    cases hge
    exact .inl ⟨by decide, rfl, rfl⟩
  | some g =>
    rw [hc] at h hge
    cases h
    cases hge
    obtain ⟨i1, i2, i3, i4⟩ := chgF_id hc
    refine .inr ⟨rfl, rfl, ?_, ?_⟩
    · rw [← fid, ← i1, putR_del]
      exact (putR_eq (idsUp_of HL.out)).symm
    · obtain ⟨a1, a2⟩ := PA.out
      exact ⟨by rw [i3]; exact a1, by rw [i4]; exact a2⟩)
 clear hf hlk fc0 pa0 hge fid HV hk
 go_wp2_with fail
 have hdr : Below w1.heap.size w1 w1.drew := (Below.refl _ _).drew
 refine wp_region_planS (Below w1.heap.size w1) (.take 0 (.take 0 (.take 0 (.take 0 (.take 0 (.two 0 (.take 0 (.take 0 (.take 0 (.only 0 (.only 0 (.take 0 .done)))))) 4 (.only 0 (.take 0 (.take 0 (.take 0 (.only 0 (.take 0 .done)))))))))))) (by kernel_rfl) (by kernel_rfl) hdr (fun hP => ?_)
 generalize hVe : w1.drew = V at hP hdr ⊢
 clear hVe
 iterate 3 (refine wsPlan_take rfl (fun K hK => ?_); replace hK := Lib.hid hK; go_simp; first | (refine hK.out _ ?_; clear hK K) | (apply Exists.intro; refine ⟨fun w' hw => ?_, hK.out _ ?_⟩; (first | with_reducible exact rfl | (have q5 := cell_block (block_later hw P1'.out); go_simp; exact rfl)); clear hK K))
 refine ws_loadMidT rfl rfl _ _ rfl g0 (o0 + k * 9) rfl [.int .i64 f.id, .int .i64 f.kind, .int .i64 f.x, .int .i64 f.y, .int .i64 f.rad, .slice fa f.area.length fca, .int .i64 f.dep, .int .i64 f.sym, .slice fb f.secs.length fcb] _ (fun w' hw => (FC.out.later hw).range) Tryz.underlying32 rfl (by kernel_rfl) ?_
 refine ws_load rfl rfl _ _ rfl _ rfl _ _ _ _ (fun w' hw => block_later hw P1'.out) Tryz.underlying34 rfl (by kernel_rfl) ?_
 refine wsPlan_two ?_ ?_
 · skip
   (refine wsPlan_only rfl (fun K hK => ?_); replace hK := Lib.hid hK; go_simp; go_at_call 198; (with_reducible refine (q17Changed_any f o _ _ _ _ w0 _ PA.out HP.out K35.out GE.out).mono ?_); rintro z y2 ⟨rfl, hy⟩; refine hK.out _ _ (below_step hP hy) (fun hP => ?_); clear hK K)
   iterate 3 (refine wsPlan_take rfl (fun K hK => ?_); replace hK := Lib.hid hK; go_simp; first | (refine hK.out _ ?_; clear hK K) | (apply Exists.intro; refine ⟨fun w' hw => ?_, hK.out _ ?_⟩; (first | with_reducible exact rfl | (have q5 := cell_block (block_later hw P1'.out); go_simp; exact rfl)); clear hK K))
   have hsz2 := hP.size
   (refine wsPlan_only rfl (fun K hK => ?_); replace hK := Lib.hid hK; go_simp; refine hK.out _ _ (hP.alloc hP.size _) (fun hP => ?_); clear hK K)
   generalize hwa : World.alloc y2 (Obj.cells #[.int .i64 0, .int .i64 0, .int .i64 0, .int .i64 0, .int .i64 0, .slice none 0 0, .int .i64 0, .int .i64 0, .slice none 0 0] 32) = y3 at hP ⊢
   obtain ⟨q7, hb7⟩ := box1 hwa.symm
   clear hwa
   refine ws_store rfl rfl _ _ _ rfl _ #[.int .i64 gg.id, .int .i64 gg.kind, .int .i64 gg.x, .int .i64 gg.y, .int .i64 gg.rad, .slice fa f.area.length fca, .int .i64 gg.dep, .int .i64 gg.sym, .slice fb f.secs.length fcb] rfl rfl _ _ q7 (by kernel_rfl) (by kernel_rfl) (by kernel_rfl) (below_setRow hP (by have := hdr.size; omega) _) ?_
   (refine wsPlan_take rfl (fun K hK => ?_); replace hK := Lib.hid hK; go_simp; first | (refine hK.out _ ?_; clear hK K) | (apply Exists.intro; refine ⟨fun w' hw => ?_, hK.out _ ?_⟩; (first | with_reducible exact rfl | (have q5 := cell_block (block_later hw P1'.out); go_simp; exact rfl)); clear hK K))
   refine wsPlan_done ?_
   have q8 := setRow_heap y3 y2.heap.size _ #[.int .i64 gg.id, .int .i64 gg.kind, .int .i64 gg.x, .int .i64 gg.y, .int .i64 gg.rad, .slice fa f.area.length fca, .int .i64 gg.dep, .int .i64 gg.sym, .slice fb f.secs.length fcb] _ _ q7
   have hS := below_setRow hP (show w1.heap.size ≤ y2.heap.size by have := hdr.size; omega) #[.int .i64 gg.id, .int .i64 gg.kind, .int .i64 gg.x, .int .i64 gg.y, .int .i64 gg.rad, .slice fa f.area.length fca, .int .i64 gg.dep, .int .i64 gg.sym, .slice fb f.secs.length fcb]
   try simp only [Act.put, List.setIfInBounds_toArray, List.set_cons_zero, List.set_cons_succ]
   generalize hws : World.setRow y3 y2.heap.size #[.int .i64 gg.id, .int .i64 gg.kind, .int .i64 gg.x, .int .i64 gg.y, .int .i64 gg.rad, .slice fa f.area.length fca, .int .i64 gg.dep, .int .i64 gg.sym, .slice fb f.secs.length fcb] = y9 at q8 hS ⊢
   clear hws
   have Q8 := Lib.hid q8
   have hB9 := below_step hB1 hS
   have P9 := Lib.hid (block_later hS P1'.out)
   clear q8 q7 q1 hP
   rcases E.out with ⟨e1, rfl, rfl⟩ | ⟨rfl, rfl, rfl, pg⟩
   · have d5 : (er != 0) = true := by simpa using e1
     clear e1 E
     go_wp2_with fail
     go_returns
     exact ⟨none, 0, rfl, OwnFs.nil _ _ _, hB9⟩
   have PG := Lib.hid pg
   clear pg E
   go_wp2_with fail
   have hdY : Below y9.heap.size y9 y9.drew := (Below.refl _ _).drew
   refine wp_region_planS (Below y9.heap.size y9) (.take 0 (.take 0 (.take 0 (.take 1 (.only 0 (.only 0 (.take 0 (.take 0 .done)))))))) (by kernel_rfl) (by kernel_rfl) hdY (fun hP => ?_)
   generalize hYe : y9.drew = Y at hP hdY ⊢
   clear hYe
   iterate 3 (refine wsPlan_take rfl (fun K hK => ?_); replace hK := Lib.hid hK; go_simp; first | (refine hK.out _ ?_; clear hK K) | (apply Exists.intro; refine ⟨fun w' hw => ?_, hK.out _ ?_⟩; (first | with_reducible exact rfl | (have q5 := cell_block (block_later hw P9.out); go_simp; exact rfl)); clear hK K))
   refine ws_load rfl rfl _ _ rfl _ rfl _ _ _ _ (fun w' hw => block_later hw Q8.out) Tryz.underlying32 rfl (by kernel_rfl) ?_
   (refine wsPlan_only rfl (fun K hK => ?_); replace hK := Lib.hid hK; go_simp; go_at_call 197; (with_reducible refine (q17Without_any l _ o.id w0 _ (H.out.later (below_step hB9 hP)) (by rw [HN.out]; omega)).mono ?_); rintro z y10 ⟨ad3, c3, rfl, how, hy10⟩; refine hK.out _ _ (below_step hP hy10) (fun hP => ?_); clear hK K)
   have hB10 := below_step hB9 hP
   have DL : (delF o.id l).length ≤ 1000 := by
    have h1 : (delF o.id l).length ≤ l.length := List.length_filter_le _ _
    rw [HN.out] at h1
    omega
   have T3 := Lib.hid (how.two (hb0.trans (hB10.mono (by have := hb0.size; first | exact Nat.le_refl _ | omega))) (by omega))
   clear how hy10
   (refine wsPlan_only rfl (fun K hK => ?_); replace hK := Lib.hid hK; go_simp; go_at_call 196; (with_reducible refine (q17Put_any (delF o.id l) gg _ _ _ w0 _ T3.out PG.out DL).mono ?_); rintro z y11 ⟨ad4, c4, rfl, how, hy11⟩; refine hK.out _ _ (below_step hP hy11) (fun hP => ?_); clear hK K)
   have hsz := hB10.size
   have OW := Lib.hid (how.mono hsz)
   have hB11 := below_step hB9 hP
   clear how hy11
   iterate 2 (refine wsPlan_take rfl (fun K hK => ?_); replace hK := Lib.hid hK; go_simp; first | (refine hK.out _ ?_; clear hK K) | (apply Exists.intro; refine ⟨fun w' hw => ?_, hK.out _ ?_⟩; (first | with_reducible exact rfl | (have q5 := cell_block (block_later hw P9.out); go_simp; exact rfl)); clear hK K))
   refine wsPlan_done ?_
   go_wp2_with fail
   go_returns
   exact ⟨ad4, c4, rfl, OW.out, hB11⟩
 · skip
   (refine wsPlan_only rfl (fun K hK => ?_); replace hK := Lib.hid hK; go_simp; refine hK.out _ _ (hP.alloc hP.size _) (fun hP => ?_); clear hK K)
   generalize hwa : World.alloc V (Obj.cells #[.int .i64 0, .int .i64 0, .int .i64 0, .int .i64 0, .int .i64 0, .slice none 0 0, .int .i64 0, .int .i64 0, .slice none 0 0] 32) = y2 at hP ⊢
   obtain ⟨q7, hb7⟩ := box1 hwa.symm
   clear hwa
   (refine wsPlan_only rfl (fun K hK => ?_); replace hK := Lib.hid hK; go_simp; go_at_call 198; (with_reducible refine (q17Changed_any f o _ _ _ _ w0 _ PA.out HP.out K35.out GE.out).mono ?_); rintro z y3 ⟨rfl, hy⟩; refine hK.out _ _ (below_step hP hy) (fun hP => ?_); clear hK K)
   iterate 3 (refine wsPlan_take rfl (fun K hK => ?_); replace hK := Lib.hid hK; go_simp; first | (refine hK.out _ ?_; clear hK K) | (apply Exists.intro; refine ⟨fun w' hw => ?_, hK.out _ ?_⟩; (first | with_reducible exact rfl | (have q5 := cell_block (block_later hw P1'.out); go_simp; exact rfl)); clear hK K))
   have q7b := block_later hy q7
   have hsz2 := hP.size
   refine ws_store rfl rfl _ _ _ rfl _ #[.int .i64 gg.id, .int .i64 gg.kind, .int .i64 gg.x, .int .i64 gg.y, .int .i64 gg.rad, .slice fa f.area.length fca, .int .i64 gg.dep, .int .i64 gg.sym, .slice fb f.secs.length fcb] rfl rfl _ _ q7b (by kernel_rfl) (by kernel_rfl) (by kernel_rfl) (below_setRow hP (by have := hdr.size; omega) _) ?_
   (refine wsPlan_take rfl (fun K hK => ?_); replace hK := Lib.hid hK; go_simp; first | (refine hK.out _ ?_; clear hK K) | (apply Exists.intro; refine ⟨fun w' hw => ?_, hK.out _ ?_⟩; (first | with_reducible exact rfl | (have q5 := cell_block (block_later hw P1'.out); go_simp; exact rfl)); clear hK K))
   refine wsPlan_done ?_
   have q8 := setRow_heap y3 V.heap.size _ #[.int .i64 gg.id, .int .i64 gg.kind, .int .i64 gg.x, .int .i64 gg.y, .int .i64 gg.rad, .slice fa f.area.length fca, .int .i64 gg.dep, .int .i64 gg.sym, .slice fb f.secs.length fcb] _ _ q7b
   have hS := below_setRow hP (show w1.heap.size ≤ V.heap.size by have := hdr.size; omega) #[.int .i64 gg.id, .int .i64 gg.kind, .int .i64 gg.x, .int .i64 gg.y, .int .i64 gg.rad, .slice fa f.area.length fca, .int .i64 gg.dep, .int .i64 gg.sym, .slice fb f.secs.length fcb]
   try simp only [Act.put, List.setIfInBounds_toArray, List.set_cons_zero, List.set_cons_succ]
   generalize hws : World.setRow y3 V.heap.size #[.int .i64 gg.id, .int .i64 gg.kind, .int .i64 gg.x, .int .i64 gg.y, .int .i64 gg.rad, .slice fa f.area.length fca, .int .i64 gg.dep, .int .i64 gg.sym, .slice fb f.secs.length fcb] = y9 at q8 hS ⊢
   clear hws
   have Q8 := Lib.hid q8
   have hB9 := below_step hB1 hS
   have P9 := Lib.hid (block_later hS P1'.out)
   clear q8 q7b q1 hP
   rcases E.out with ⟨e1, rfl, rfl⟩ | ⟨rfl, rfl, rfl, pg⟩
   · have d5 : (er != 0) = true := by simpa using e1
     clear e1 E
     go_wp2_with fail
     go_returns
     exact ⟨none, 0, rfl, OwnFs.nil _ _ _, hB9⟩
   have PG := Lib.hid pg
   clear pg E
   go_wp2_with fail
   have hdY : Below y9.heap.size y9 y9.drew := (Below.refl _ _).drew
   refine wp_region_planS (Below y9.heap.size y9) (.take 0 (.take 0 (.take 0 (.take 1 (.only 0 (.only 0 (.take 0 (.take 0 .done)))))))) (by kernel_rfl) (by kernel_rfl) hdY (fun hP => ?_)
   generalize hYe : y9.drew = Y at hP hdY ⊢
   clear hYe
   iterate 3 (refine wsPlan_take rfl (fun K hK => ?_); replace hK := Lib.hid hK; go_simp; first | (refine hK.out _ ?_; clear hK K) | (apply Exists.intro; refine ⟨fun w' hw => ?_, hK.out _ ?_⟩; (first | with_reducible exact rfl | (have q5 := cell_block (block_later hw P9.out); go_simp; exact rfl)); clear hK K))
   refine ws_load rfl rfl _ _ rfl _ rfl _ _ _ _ (fun w' hw => block_later hw Q8.out) Tryz.underlying32 rfl (by kernel_rfl) ?_
   (refine wsPlan_only rfl (fun K hK => ?_); replace hK := Lib.hid hK; go_simp; go_at_call 197; (with_reducible refine (q17Without_any l _ o.id w0 _ (H.out.later (below_step hB9 hP)) (by rw [HN.out]; omega)).mono ?_); rintro z y10 ⟨ad3, c3, rfl, how, hy10⟩; refine hK.out _ _ (below_step hP hy10) (fun hP => ?_); clear hK K)
   have hB10 := below_step hB9 hP
   have DL : (delF o.id l).length ≤ 1000 := by
    have h1 : (delF o.id l).length ≤ l.length := List.length_filter_le _ _
    rw [HN.out] at h1
    omega
   have T3 := Lib.hid (how.two (hb0.trans (hB10.mono (by have := hb0.size; first | exact Nat.le_refl _ | omega))) (by omega))
   clear how hy10
   (refine wsPlan_only rfl (fun K hK => ?_); replace hK := Lib.hid hK; go_simp; go_at_call 196; (with_reducible refine (q17Put_any (delF o.id l) gg _ _ _ w0 _ T3.out PG.out DL).mono ?_); rintro z y11 ⟨ad4, c4, rfl, how, hy11⟩; refine hK.out _ _ (below_step hP hy11) (fun hP => ?_); clear hK K)
   have hsz := hB10.size
   have OW := Lib.hid (how.mono hsz)
   have hB11 := below_step hB9 hP
   clear how hy11
   iterate 2 (refine wsPlan_take rfl (fun K hK => ?_); replace hK := Lib.hid hK; go_simp; first | (refine hK.out _ ?_; clear hK K) | (apply Exists.intro; refine ⟨fun w' hw => ?_, hK.out _ ?_⟩; (first | with_reducible exact rfl | (have q5 := cell_block (block_later hw P9.out); go_simp; exact rfl)); clear hK K))
   refine wsPlan_done ?_
   go_wp2_with fail
   go_returns
   exact ⟨ad4, c4, rfl, OW.out, hB11⟩
end Go.Proofs.YtdmegkkifiahdaaGreat
namespace Go.Proofs.YtdmegkkifiahdaaGreat
open Go.RowKit
attribute [local go_sem] bqOp bqAll bqUpon sqOp sqAll sqUpon ssAll
attribute [local irreducible] wpQuiet wpBQ wpPlan wsPlan
set_option linter.unusedVariables false
theorem OwnFs.own0 {base b : Nat} (w0 : World) {w : World} (h : w.heap[b]? = some (.cells #[] 32 (0, 0))) (hb : base ≤ b) : OwnFs base w0 w (.slice (some ⟨b, 0, none⟩) 0 0) [] :=
 ⟨[], rfl, ⟨by simp, .inr ⟨b, 0, #[], rfl, hb, h, Nat.le_refl _, by simp, by simp, by simp⟩⟩, fun x hx => by simp at hx⟩
theorem OwnOs.own1 {base b : Nat} {w0 w : World} {p : Opn} {va vs : Value} (h : w.heap[b]? = some (.cells (opCells (p, va, vs)).toArray 34 (0, 0))) (hb : base ≤ b) (hp : PartsAt w0 p.feat va vs) : OwnOs base w0 w (.slice (some ⟨b, 0, none⟩) 1 1) [p] :=
 ⟨[(p, va, vs)], rfl, ⟨by simp [opCells], .inr ⟨b, 1, _, rfl, hb, h, Nat.le_refl _, by unfold maxLen; omega, by simp [opCells], by simp [opCells]⟩⟩, fun x hx => by obtain rfl := List.mem_singleton.1 hx; exact hp⟩
theorem run_okLen : ∀ {ops : List Opn} {l m : List Feat} {bs : List Opn}, runO l ops = .ok (m, bs) → bs.length = ops.length
 | [], l, m, bs, h => by cases h; rfl
 | o :: ops, l, m, bs, h => by
   unfold runO at h
   cases hd : doO l o with
   | error e => rw [hd] at h; cases h
   | ok r =>
     obtain ⟨l1, b⟩ := r
     rw [hd] at h
     simp only at h
     cases hr : runO l1 ops with
     | error r => obtain ⟨j, e⟩ := r; rw [hr] at h; cases h
     | ok r =>
       obtain ⟨l2, cs⟩ := r
       rw [hr] at h
       cases h
       rw [List.length_cons, List.length_cons, run_okLen hr]
theorem SrcAt.own {α : Type} {f : α → List Value} {k : Nat} {e : TypeId} {base n c : Nat} {w : World} {ad : Option Addr} {l : List α} (h : w.ownsRow base e k (.slice ad n c) l.length (l.flatMap f)) : SrcAt f w ad l := by
 intro j u hj
 obtain ⟨h1, h2⟩ := h
 rcases h2 with ⟨e1, h0⟩ | ⟨g, cap, cur, e1, hg, hh, _, _, _, ht⟩
 · rw [h0, Nat.zero_mul] at h1
   rw [List.getElem?_eq_none (by omega)] at hj
   cases hj
 · cases e1
   refine ⟨g, 0, rfl, ?_⟩
   rw [Nat.zero_add, cell_block hh]
   have hlt : j < (l.flatMap f).length := (List.getElem?_eq_some_iff.1 hj).1
   rw [← ht, List.getElem?_take_of_lt (by omega)] at hj
   simpa using hj
set_option maxHeartbeats 8000000 in
theorem q17Apply_any (l : List Feat) (ops : List Opn) (v0 v1 : Value) (w : World) (h : FeatsAt w v0 l) (h1 : OpsAt w v1 ops) {l' : List Feat} {i er : Int} (hv : applyO l ops = (l', i, er)) :
  Calls Tryz.prog 15 #[v0, v1] w (ApplyP w l' i er) := by
 obtain ⟨ad, c, rfl, g0, hn, hc⟩ := h.form
 obtain ⟨ad1, c1, rfl, g1, hn1, _⟩ := h1.form
 obtain ⟨items, hit, hrd, hsrc⟩ := feats_items g0
 have H0 := Lib.hid g0
 have H1 := Lib.hid g1
 have HV := Lib.hid hv
 have IT := Lib.hid hit
 have RD := Lib.hid hrd
 have SR := Lib.hid hsrc
 obtain ⟨ul, hul⟩ : ∃ z, decide (FeatsOk l) = z := ⟨_, rfl⟩
 have UL := Lib.hid hul
 obtain ⟨up, hup⟩ : ∃ z, decide (OpsOk ops) = z := ⟨_, rfl⟩
 have UP := Lib.hid hup
 obtain ⟨n, hln⟩ : ∃ n, l.length = n := ⟨_, rfl⟩
 obtain ⟨n1, hln1⟩ : ∃ n, ops.length = n := ⟨_, rfl⟩
 rw [hln] at H0 hn hc
 rw [hln1] at H1 hn1
 rw [hln, hln1]
 have HN := Lib.hid hln
 have HN1 := Lib.hid hln1
 clear h h1 g0 g1 hv hit hrd hsrc hul hup hln hln1
 go_enter Tryz.func15, Tryz.ntmps15
 go_wp2_with fail
 (with_reducible refine (q07List_any l _ _ H0.out UL.out).mono ?_)
 rintro e w1 ⟨rfl, hb1⟩
 go_wp2_with fail
 (with_reducible refine (q17Patch_any ops _ _ (H1.out.later hb1) UP.out).mono ?_)
 rintro e w2 ⟨rfl, hb2⟩
 have hB2 := below_step hb1 hb2
 clear hb1 hb2
 by_cases hok : PatchOk l ops
 rotate_left
 · obtain ⟨rfl, rfl, rfl⟩ : l' = [] ∧ i = -1 ∧ er = 1 := by
    have h := HV.out
    unfold applyO at h
    rw [if_neg hok] at h
    cases h
    exact ⟨rfl, rfl, rfl⟩
   cases ul
   · go_wp2_with fail
     go_returns
     exact ⟨none, 0, 0, rfl, rfl, OwnFs.nil2 0 w _, hB2⟩
   · have hupf : up = false := by
      cases up with
      | false => rfl
      | true => exact absurd ⟨of_decide_eq_true UL.out, of_decide_eq_true UP.out⟩ hok
     subst hupf
     go_wp2_with fail
     go_returns
     exact ⟨none, 0, 0, rfl, rfl, OwnFs.nil2 0 w _, hB2⟩
 have hulT : ul = true := UL.out.symm.trans (decide_eq_true hok.1)
 have hupT : up = true := UP.out.symm.trans (decide_eq_true hok.2)
 subst hulT hupT
 have OK := Lib.hid hok
 have FORMS : Hid (∀ o ∈ ops, OpForm o) := Lib.hid fun o ho => opForm (hok.2.2 o ho)
 have h300 : n ≤ 300 := by rw [← HN.out]; exact hok.1.1
 clear hok
 go_wp2_with (first | (refine wpList_appF rfl _ _ rfl w.heap.size w _ [] l rfl (OwnFs.own0 w (block_new _ _) hB2.size) _ n c rfl items IT.out HN.out RD.out (SR.out.later (hB2.alloc hB2.size _)) (N := n) (by simp) (by omega) (by simp only [World.size_alloc]; have := hB2.size; omega) ?_; intro ad3 c3 w3 how3 hgr hb3))
 have hB3 : Below w.heap.size w w3 := (hB2.alloc hB2.size _).trans hb3
 rw [List.nil_append] at how3
 rw [← HN.out] at how3 ⊢
 clear hB2 hb3 hgr UL UP IT RD SR
 go_loopw [9, 10] (fun a i wr => ∃ (k : Nat) (ad' : Option Addr) (c' : Nat) (m : List Feat), k ≤ n1 ∧ i = .int .i64 k ∧ a = .slice ad' m.length c' ∧ Hid (∃ bs, runO l (ops.take k) = .ok (m, bs)) ∧ OwnFs w.heap.size w wr (.slice ad' m.length c') m ∧ Below w.heap.size w wr) (fun _ i _ => n1 - cntV i)
 case atStart => exact ⟨0, ad3, c3, l, Nat.zero_le _, rfl, rfl, Lib.hid ⟨[], rfl⟩, how3, hB3⟩
 case round =>
  clear how3 hB3
  obtain ⟨k, ad', c', m, hk, rfl, rfl, RN, how, hb⟩ := hrel
  obtain ⟨bs, hrun⟩ := RN.out
  have hFM := (run_acts (ops.take k) OK.out.1 (fun o ho => FORMS.out o (List.mem_of_mem_take ho)) hrun).1
  have FM := Lib.hid hFM
  have RUN := Lib.hid hrun
  have hml : m.length ≤ 300 := hFM.1
  have OW := Lib.hid how
  clear RN hrun hFM how
  rcases Nat.lt_or_ge k n1 with hlt | hge
  rotate_left
  · have hkn : k = n1 := by omega
    subst k
    obtain ⟨rfl, rfl, rfl⟩ : l' = m ∧ i = -1 ∧ er = 0 := by
     have h := HV.out
     unfold applyO at h
     have hr := RUN.out
     rw [List.take_of_length_le (by rw [HN1.out]; exact Nat.le_refl _)] at hr
     rw [if_pos OK.out, hr] at h
     cases h
     exact ⟨rfl, rfl, rfl⟩
    go_wp2_with fail
    go_returns
    exact ⟨ad', l'.length, c', rfl, rfl, OW.out.feats hb (by omega), hb⟩
  obtain ⟨g, o, va, vs, rfl, fc0⟩ := H1.out.row hlt
  obtain ⟨p, hp⟩ : ∃ p, ops.getD k noOpn = p := ⟨_, rfl⟩
  rw [hp] at fc0
  have HPK := Lib.hid hp
  have hko : k < ops.length := by rw [HN1.out]; exact hlt
  have HKO := Lib.hid hko
  have PF : Hid (OpForm p) := Lib.hid (FORMS.out p (by rw [← hp]; exact getD_memD hko noOpn))
  have HPA := Lib.hid fc0.parts
  obtain ⟨aa, ca, ab, cb, rfl, rfl⟩ := fc0.parts.form
  have RG := Lib.hid (fc0.later hb).range
  obtain ⟨m', er', hde⟩ : ∃ m' er', doE m p = (m', er') := ⟨_, _, rfl⟩
  have DE := Lib.hid hde
  have T2 := Lib.hid (OW.out.two hb (by omega))
  clear fc0 hp hko hde
  go_wp2_with (first | (refine wpList_load_mid rfl _ _ rfl g (o + k * 16) rfl [.int .i64 p.kind, .int .i64 p.id, .int .i64 p.feat.id, .int .i64 p.feat.kind, .int .i64 p.feat.x, .int .i64 p.feat.y, .int .i64 p.feat.rad, .slice aa p.feat.area.length ca, .int .i64 p.feat.dep, .int .i64 p.feat.sym, .slice ab p.feat.secs.length cb, .int .i64 p.x, .int .i64 p.y, .int .i64 p.rad, .int .i64 p.dep, .int .i64 p.sym] _ RG.out Tryz.underlying34 rfl (by kernel_rfl) ?_))
  (with_reducible refine (q17Do_any m p _ _ _ w wr T2.out HPA.out hb FM.out PF.out DE.out).mono ?_)
  rintro e w5 ⟨ad5, c5, rfl, how5, hb5⟩
  have hB5 := below_step hb hb5
  have hsz := hb.size
  have OW5 := Lib.hid (how5.mono hsz)
  clear how5 hb5
  cases hdo : doO m p with
  | error er2 =>
    obtain ⟨rfl, rfl⟩ : m' = [] ∧ er' = er2 := by
     have h := DE.out
     unfold doE at h
     rw [hdo] at h
     cases h
     exact ⟨rfl, rfl⟩
    have hne := do_err hdo
    have d1 : (er' != 0) = true := by simp; omega
    obtain ⟨rfl, rfl, rfl⟩ : l' = [] ∧ i = (k : Int) ∧ er = er' := by
     have h := HV.out
     unfold applyO at h
     rw [if_pos OK.out, run_stop HKO.out RUN.out (by rw [HPK.out]; exact hdo)] at h
     cases h
     exact ⟨rfl, rfl, rfl⟩
    clear hdo hne
    go_wp2_with fail
    go_returns
    exact ⟨none, 0, 0, rfl, rfl, OwnFs.nil2 0 w _, hB5⟩
  | ok r =>
    obtain ⟨m2, b⟩ := r
    obtain ⟨rfl, rfl⟩ : m' = m2 ∧ er' = 0 := by
     have h := DE.out
     unfold doE at h
     rw [hdo] at h
     cases h
     exact ⟨rfl, rfl⟩
    have SN : Hid (runO l (ops.take (k + 1)) = .ok (m', bs ++ [b])) := Lib.hid (run_snoc HKO.out RUN.out (by rw [HPK.out]; exact hdo))
    clear hdo
    go_wp2_with fail
    go_roundw
    case rel => exact ⟨k + 1, ad5, c5, m', by omega, by go_num, rfl, Lib.hid ⟨_, SN.out⟩, OW5.out, hB5⟩
    case measure => simp [cntV]; omega
end Go.Proofs.YtdmegkkifiahdaaGreat
namespace Go.Proofs.YtdmegkkifiahdaaGreat
open Go.RowKit
attribute [local go_sem] bqOp bqAll bqUpon sqOp sqAll sqUpon ssAll
attribute [local irreducible] wpQuiet wpBQ wpPlan wsPlan
set_option linter.unusedVariables false
set_option maxHeartbeats 2000000 in
theorem q17Field_any (o : Opn) (va vs : Value) (w0 w : World) (hp : PartsAt w0 o.feat va vs) {v : Bool} (hv : decide (fieldO o) = v) : Calls Tryz.prog 201 #[opV o va vs] w fun e w' => e = .returned (.bool v) ∧ Below w.heap.size w w' := by
 obtain ⟨aa, ca, ab, cb, rfl, rfl⟩ := hp.form
 have HV := Lib.hid hv
 clear hp hv
 have A0 : ∀ o : Obj, Below w.heap.size w (w.alloc o) := fun o => (Below.refl _ _).alloc (Nat.le_refl _) o
 by_cases k3 : o.kind = 3
 · have d3 : (o.kind == 3) = true := by simpa using k3
   go_enter Tryz.func201, Tryz.ntmps201
   go_wp2_with fail
   go_returns
   exact ⟨ret_bool (by rw [← HV.out]; exact (decide_eq_true (⟨by omega, by omega⟩ : fieldO o)).symm), A0 _⟩
 have d3 : (o.kind == 3) = false := by simpa using k3
 by_cases k4 : o.kind = 4
 · have d4 : (o.kind == 4) = true := by simpa using k4
   go_enter Tryz.func201, Tryz.ntmps201
   go_wp2_with fail
   go_returns
   exact ⟨ret_bool (by rw [← HV.out]; exact (decide_eq_true (⟨by omega, by omega⟩ : fieldO o)).symm), A0 _⟩
 have d4 : (o.kind == 4) = false := by simpa using k4
 by_cases k5 : o.kind = 5
 · have d5 : (o.kind == 5) = true := by simpa using k5
   go_enter Tryz.func201, Tryz.ntmps201
   go_wp2_with fail
   go_returns
   exact ⟨ret_bool (by rw [← HV.out]; exact (decide_eq_true (⟨by omega, by omega⟩ : fieldO o)).symm), A0 _⟩
 have d5 : (o.kind == 5) = false := by simpa using k5
 go_enter Tryz.func201, Tryz.ntmps201
 go_wp2_with fail
 go_returns
 exact ⟨ret_bool (by rw [← HV.out]; exact (decide_eq_false (fun h : fieldO o => by have h1 := h.1; have h2 := h.2; omega)).symm), A0 _⟩
set_option maxHeartbeats 4000000 in
theorem q17Free_any (o p : Opn) (va vs ua us : Value) (w0 w : World) (ho : PartsAt w0 o.feat va vs) (hp : PartsAt w0 p.feat ua us) {v : Bool} (hv : decide (FreeO o p) = v) : Calls Tryz.prog 90 #[opV o va vs, opV p ua us] w fun e w' => e = .returned (.bool v) ∧ Below w.heap.size w w' := by
 have HO := Lib.hid ho
 have HP := Lib.hid hp
 obtain ⟨aa, ca, ab, cb, rfl, rfl⟩ := ho.form
 obtain ⟨ac, cc, ae, ce, rfl, rfl⟩ := hp.form
 have HV : Hid (v = decide (FreeO o p)) := Lib.hid hv.symm
 obtain ⟨u1, hu1⟩ : ∃ z, decide (fieldO o) = z := ⟨_, rfl⟩
 have U1 := Lib.hid hu1
 obtain ⟨u2, hu2⟩ : ∃ z, decide (fieldO p) = z := ⟨_, rfl⟩
 have U2 := Lib.hid hu2
 clear ho hp hv hu1 hu2
 go_enter Tryz.func90, Tryz.ntmps90
 go_wp2_with fail
 refine calls_named fun W hW => ?_
 obtain ⟨p1, p2, hB⟩ := box2 hW
 clear hW
 have P1 := Lib.hid p1
 have P2 := Lib.hid p2
 clear p1 p2
 have q1 := cellsL P1.out
 have q2 := cellsL P2.out
 (with_reducible refine (q17Field_any o _ _ w0 _ HO.out U1.out).mono ?_)
 rintro e w1 ⟨rfl, hb1⟩
 have hB1 := below_step hB hb1
 go_wp2_with fail
 (with_reducible refine (q17Field_any p _ _ w0 _ HP.out U2.out).mono ?_)
 rintro e w2 ⟨rfl, hb2⟩
 have hB2 := below_step hB1 hb2
 have hW2 := below_step hb1 hb2
 by_cases hid : o.id = p.id
 rotate_left
 · have d1 : (o.id != p.id) = true := by simpa using hid
   go_wp2_with fail
   go_returns
   exact ⟨ret_bool (by rw [HV.out]; exact (decide_eq_true (show FreeO o p from fun h => hid h.1)).symm), hB2⟩
 have d1 : (o.id != p.id) = false := by simpa using hid
 have HID := Lib.hid hid
 clear hid
 cases u1
 · go_wp2_with fail
   go_returns
   exact ⟨ret_bool (by rw [HV.out]; exact (decide_eq_false (fun h : FreeO o p => h ⟨HID.out, .inr (.inl (of_decide_eq_false U1.out))⟩)).symm), hB2⟩
 cases u2
 · go_wp2_with fail
   go_returns
   exact ⟨ret_bool (by rw [HV.out]; exact (decide_eq_false (fun h : FreeO o p => h ⟨HID.out, .inr (.inr (of_decide_eq_false U2.out))⟩)).symm), hB2⟩
 by_cases hk : o.kind = p.kind
 · have d2 : (o.kind != p.kind) = false := by simpa using hk
   go_wp2_with fail
   go_returns
   exact ⟨ret_bool (by rw [HV.out]; exact (decide_eq_false (fun h : FreeO o p => h ⟨HID.out, .inl hk⟩)).symm), hB2⟩
 · have d2 : (o.kind != p.kind) = true := by simpa using hk
   go_wp2_with fail
   go_returns
   exact ⟨ret_bool (by rw [HV.out]; exact (decide_eq_true (show FreeO o p from fun h => h.2.elim hk (fun h => h.elim (fun h => h (of_decide_eq_true U1.out)) (fun h => h (of_decide_eq_true U2.out))))).symm), hB2⟩
theorem first_neg {B : Opn → Bool} {l : List Opn} (h : ∀ i, i < l.length → B (l.getD i noOpn) = false) : firstI B l < 0 := by
 have := firstR_eq (B := B) (l := l) (r := -1) (.inl ⟨rfl, fun o ho => by
  obtain ⟨i, hi, rfl⟩ := List.getElem_of_mem ho
  have e := h i hi
  rw [List.getD_eq_getElem?_getD, List.getElem?_eq_getElem hi] at e
  exact e⟩)
 omega
theorem first_at {B : Opn → Bool} {l : List Opn} {k : Nat} (hk : k < l.length) (h : ∀ i, i < k → B (l.getD i noOpn) = false) (hB : B (l.getD k noOpn) = true) : firstI B l = k := (firstR_eq (B := B) (.inr ⟨k, hk, rfl, hB, h⟩)).symm
set_option maxHeartbeats 8000000 in
set_option maxRecDepth 20000 in
theorem q17Commute_any (a b : List Opn) (v0 v1 : Value) (w : World) (h0 : OpsAt w v0 a) (h1 : OpsAt w v1 b) {r s er : Int} (hv : commO a b = (r, s, er)) : Calls Tryz.prog 21 #[v0, v1] w fun e w' => e = .returned (.tuple #[.int .i64 r, .int .i64 s, .int .i64 er]) ∧ Below w.heap.size w w' := by
 obtain ⟨ad0, c0, rfl, k0, hn0, _⟩ := h0.form
 obtain ⟨ad1, c1, rfl, k1, hn1, _⟩ := h1.form
 have H0 := Lib.hid k0
 have H1 := Lib.hid k1
 have HV := Lib.hid hv
 obtain ⟨u0, hu0⟩ : ∃ u, decide (OpsOk a) = u := ⟨_, rfl⟩
 obtain ⟨u1, hu1⟩ : ∃ u, decide (OpsOk b) = u := ⟨_, rfl⟩
 have U0 := Lib.hid hu0
 have U1 := Lib.hid hu1
 obtain ⟨n, hln⟩ : ∃ n, a.length = n := ⟨_, rfl⟩
 obtain ⟨m, hlm⟩ : ∃ n, b.length = n := ⟨_, rfl⟩
 rw [hln] at H0 hn0
 rw [hlm] at H1 hn1
 rw [hln, hlm]
 have HN := Lib.hid hln
 have HM := Lib.hid hlm
 clear h0 h1 k0 k1 hv hu0 hu1 hln hlm
 go_enter Tryz.func21, Tryz.ntmps21
 go_wp2_with fail
 (with_reducible refine (q17Patch_any a _ _ H0.out U0.out).mono ?_)
 rintro e w1 ⟨rfl, hb1⟩
 go_wp2_with fail
 (with_reducible refine (q17Patch_any b _ _ (H1.out.later hb1) U1.out).mono ?_)
 rintro e w2 ⟨rfl, hb2⟩
 have hB2 := below_step hb1 hb2
 clear hb1 hb2
 cases u0
 · obtain ⟨rfl, rfl, rfl⟩ : r = 0 ∧ s = 0 ∧ er = 1 := by
    have h := HV.out
    unfold commO at h
    rw [if_neg (fun h => absurd h.1 (of_decide_eq_false U0.out))] at h
    cases h
    exact ⟨rfl, rfl, rfl⟩
   go_wp2_with fail
   go_returns
   exact ⟨rfl, hB2⟩
 cases u1
 · obtain ⟨rfl, rfl, rfl⟩ : r = 0 ∧ s = 0 ∧ er = 1 := by
    have h := HV.out
    unfold commO at h
    rw [if_neg (fun h => absurd h.2 (of_decide_eq_false U1.out))] at h
    cases h
    exact ⟨rfl, rfl, rfl⟩
   go_wp2_with fail
   go_returns
   exact ⟨rfl, hB2⟩
 have HC : Hid (r = (commI a b).1 ∧ s = (commI a b).2 ∧ er = 0) := Lib.hid (by
  have h := HV.out
  unfold commO at h
  rw [if_pos ⟨of_decide_eq_true U0.out, of_decide_eq_true U1.out⟩] at h
  cases h
  exact ⟨rfl, rfl, rfl⟩)
 have hn100 : n ≤ 100 := by rw [← HN.out]; exact (of_decide_eq_true U0.out).1
 have hm100 : m ≤ 100 := by rw [← HM.out]; exact (of_decide_eq_true U1.out).1
 clear HV U0 U1
 go_wp2_with fail
 go_loopw [9] (fun i wr => ∃ k : Nat, k ≤ n ∧ i = .int .i64 k ∧ Below w.heap.size w wr ∧ Hid (∀ i, i < k → firstI (fun y => decide (¬ FreeO (a.getD i noOpn) y)) b < 0)) (fun i _ => n - cntV i)
 case atStart => exact ⟨0, Nat.zero_le _, rfl, hB2, Lib.hid fun i hi => absurd hi (Nat.not_lt_zero i)⟩
 case round =>
  clear hB2
  obtain ⟨k, hk, rfl, hb, ALL⟩ := hrel
  rcases Nat.lt_or_ge k n with hlt | hge
  rotate_left
  · have hkn : k = n := by omega
    subst k
    obtain ⟨rfl, rfl, rfl⟩ : r = -1 ∧ s = -1 ∧ er = 0 := by
     obtain ⟨e1, e2, e3⟩ := HC.out
     rw [comm_none (fun i hi => ALL.out i (by rw [← HN.out]; exact hi))] at e1 e2
     exact ⟨e1, e2, e3⟩
    go_wp2_with fail
    go_returns
    exact ⟨rfl, hb⟩
  obtain ⟨g, o, va, vs, rfl, fc⟩ := H0.out.row hlt
  obtain ⟨x, hx⟩ : ∃ x, a.getD k noOpn = x := ⟨_, rfl⟩
  rw [hx] at fc
  have HX := Lib.hid hx
  have XP := Lib.hid fc.parts
  obtain ⟨aa, ca, ab, cb, rfl, rfl⟩ := fc.parts.form
  have XC := Lib.hid fc
  clear fc hx
  go_wp2_with fail
  go_loopw [10] (fun i wr => ∃ j : Nat, j ≤ m ∧ i = .int .i64 j ∧ Below w.heap.size w wr ∧ Hid (∀ i, i < j → (fun y => decide (¬ FreeO x y)) (b.getD i noOpn) = false)) (fun i _ => m - cntV i)
  case atStart => exact ⟨0, Nat.zero_le _, rfl, hb, Lib.hid fun i hi => absurd hi (Nat.not_lt_zero i)⟩
  case round =>
   clear hb
   obtain ⟨j, hj, rfl, hb, ALJ⟩ := hrel
   rcases Nat.lt_or_ge j m with hjt | hjge
   rotate_left
   · have hjm : j = m := by omega
     subst j
     have NEW : Hid (firstI (fun y => decide (¬ FreeO x y)) b < 0) := Lib.hid (first_neg (fun i hi => ALJ.out i (by rw [← HM.out]; exact hi)))
     go_wp2_with fail
     go_roundw
     case rel => exact ⟨k + 1, by omega, by go_num, hb, Lib.hid fun i hi => by
      rcases Nat.lt_or_ge i k with h | h
      · exact ALL.out i h
      · obtain rfl : i = k := by omega
        rw [HX.out]
        exact NEW.out⟩
     case measure => simp [cntV]; omega
   obtain ⟨g2, o2, ua, us, rfl, fc2⟩ := H1.out.row hjt
   obtain ⟨y, hy⟩ : ∃ y, b.getD j noOpn = y := ⟨_, rfl⟩
   rw [hy] at fc2
   have HY := Lib.hid hy
   have YP := Lib.hid fc2.parts
   obtain ⟨ac, cc, ae, ce, rfl, rfl⟩ := fc2.parts.form
   have YC := Lib.hid fc2
   obtain ⟨fr, hfr⟩ : ∃ z, decide (FreeO x y) = z := ⟨_, rfl⟩
   have FR := Lib.hid hfr
   clear fc2 hy hfr
   go_wp2_with fail
   have hdr : Below wr.heap.size wr wr.drew := (Below.refl _ _).drew
   refine wp_region_planS (Below wr.heap.size wr) (.take 0 (.take 0 (.take 0 (.take 0 (.take 0 (.take 0 (.take 0 (.take 0 (.only 0 (.take 0 .done)))))))))) (by kernel_rfl) (by kernel_rfl) hdr (fun hP => ?_)
   generalize hVe : wr.drew = V at hP hdr ⊢
   clear hVe
   iterate 3 (refine wsPlan_take rfl (fun K hK => ?_); replace hK := Lib.hid hK; go_simp; first | (refine hK.out _ ?_; clear hK K) | (apply Exists.intro; refine ⟨fun w' hw => ?_, hK.out _ ?_⟩; (first | with_reducible exact rfl | (go_simp; exact rfl)); clear hK K))
   refine ws_loadMidT rfl rfl _ _ rfl g (o + k * 16) rfl [.int .i64 x.kind, .int .i64 x.id, .int .i64 x.feat.id, .int .i64 x.feat.kind, .int .i64 x.feat.x, .int .i64 x.feat.y, .int .i64 x.feat.rad, .slice aa x.feat.area.length ca, .int .i64 x.feat.dep, .int .i64 x.feat.sym, .slice ab x.feat.secs.length cb, .int .i64 x.x, .int .i64 x.y, .int .i64 x.rad, .int .i64 x.dep, .int .i64 x.sym] _ (fun w' hw => (XC.out.later (below_step hb hw)).range) Tryz.underlying34 rfl (by kernel_rfl) ?_
   iterate 3 (refine wsPlan_take rfl (fun K hK => ?_); replace hK := Lib.hid hK; go_simp; first | (refine hK.out _ ?_; clear hK K) | (apply Exists.intro; refine ⟨fun w' hw => ?_, hK.out _ ?_⟩; (first | with_reducible exact rfl | (go_simp; exact rfl)); clear hK K))
   refine ws_loadMidT rfl rfl _ _ rfl g2 (o2 + j * 16) rfl [.int .i64 y.kind, .int .i64 y.id, .int .i64 y.feat.id, .int .i64 y.feat.kind, .int .i64 y.feat.x, .int .i64 y.feat.y, .int .i64 y.feat.rad, .slice ac y.feat.area.length cc, .int .i64 y.feat.dep, .int .i64 y.feat.sym, .slice ae y.feat.secs.length ce, .int .i64 y.x, .int .i64 y.y, .int .i64 y.rad, .int .i64 y.dep, .int .i64 y.sym] _ (fun w' hw => (YC.out.later (below_step hb hw)).range) Tryz.underlying34 rfl (by kernel_rfl) ?_
   (refine wsPlan_only rfl (fun K hK => ?_); replace hK := Lib.hid hK; go_simp; go_at_call 90; (with_reducible refine (q17Free_any x y _ _ _ _ w _ XP.out YP.out FR.out).mono ?_); rintro z y2 ⟨rfl, hy2⟩; refine hK.out _ _ (below_step hP hy2) (fun hP => ?_); clear hK K)
   (refine wsPlan_take rfl (fun K hK => ?_); replace hK := Lib.hid hK; go_simp; first | (refine hK.out _ ?_; clear hK K) | (apply Exists.intro; refine ⟨fun w' hw => ?_, hK.out _ ?_⟩; (first | with_reducible exact rfl | (go_simp; exact rfl)); clear hK K))
   refine wsPlan_done ?_
   have hB3 := below_step hb hP
   cases fr
   · have FI : Hid (commI a b = ((k : Int), (j : Int))) := Lib.hid (by
      have e := first_at (B := fun y => decide (¬ FreeO x y)) (l := b) (k := j) (by rw [HM.out]; exact hjt) ALJ.out (by rw [HY.out]; exact decide_eq_true (of_decide_eq_false FR.out))
      rw [comm_at (i := k) (by rw [HN.out]; exact hlt) ALL.out (by rw [HX.out, e]; omega), HX.out, e])
     obtain ⟨rfl, rfl, rfl⟩ : r = (k : Int) ∧ s = (j : Int) ∧ er = 0 := by
      obtain ⟨e1, e2, e3⟩ := HC.out
      rw [FI.out] at e1 e2
      exact ⟨e1, e2, e3⟩
     go_wp2_with fail
     go_returns
     exact ⟨rfl, hB3⟩
   · have NEW : Hid ((fun y => decide (¬ FreeO x y)) y = false) := Lib.hid (decide_eq_false (fun h => h (of_decide_eq_true FR.out)))
     go_wp2_with fail
     go_roundw
     case rel => exact ⟨j + 1, by omega, by go_num, hB3, Lib.hid fun i hi => by
      rcases Nat.lt_or_ge i j with h | h
      · exact ALJ.out i h
      · obtain rfl : i = j := by omega
        rw [HY.out]
        exact NEW.out⟩
     case measure => simp [cntV]; omega
end Go.Proofs.YtdmegkkifiahdaaGreat
