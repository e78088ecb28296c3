import Derived.Test.YtdmegkkifiahdaaGreatRpDo
namespace Go.Proofs.YtdmegkkifiahdaaGreat
open Go.RowKit
attribute [local go_sem] bqOp bqAll bqUpon sqOp sqAll sqUpon ssAll
attribute [local irreducible] wpQuiet wpBQ wpPlan wsPlan
set_option linter.unusedVariables false
theorem OwnI.intsAt {base : Nat} {w : World} {v : Value} {l : List Int} (h : OwnI base w v l) (hl : l.length ≤ 9223372036854775807) : IntsAt w v l := by
 have h' : w.ownsRow base 3 1 v l.length (l.flatMap intC) := h
 rw [intC_flat] at h'
 exact ints_own h' rfl hl
def MinR (ops : List Opn) (last : Int) (k : Nat) (nx : Int) : Prop := (nx = 0 ∧ ∀ i, i < k → (ops.getD i noOpn).id ≤ last) ∨ (last < nx ∧ (∃ i, i < k ∧ (ops.getD i noOpn).id = nx) ∧ ∀ i, i < k → last < (ops.getD i noOpn).id → nx ≤ (ops.getD i noOpn).id)
theorem min_step {ops : List Opn} {last nx nx' x : Int} {k : Nat} (h : MinR ops last k nx) (h0 : 0 ≤ last) (hx : (ops.getD k noOpn).id = x) (hs : (last < x ∧ (nx = 0 ∨ x < nx) ∧ nx' = x) ∨ ((x ≤ last ∨ (nx ≠ 0 ∧ nx ≤ x)) ∧ nx' = nx)) : MinR ops last (k + 1) nx' := by
 have cut : ∀ i, i < k + 1 → i < k ∨ (ops.getD i noOpn).id = x := fun i hi => by
  rcases Nat.lt_or_ge i k with h | h
  · exact .inl h
  · obtain rfl : i = k := by omega
    exact .inr hx
 rcases hs with ⟨h1, h2, rfl⟩ | ⟨h1, rfl⟩
 · refine .inr ⟨h1, ⟨k, by omega, hx⟩, fun i hi hl => ?_⟩
   rcases cut i hi with h3 | h3
   · rcases h with ⟨e, h⟩ | ⟨_, _, h⟩
     · have := h i h3
       omega
     · have := h i h3 hl
       rcases h2 with h2 | h2
       · rcases ‹∃ i, _› with ⟨j, hj, e⟩
         omega
       · omega
   · omega
 · rcases h with ⟨e, h⟩ | ⟨g1, ⟨j, hj, e⟩, h⟩
   · refine .inl ⟨e, fun i hi => ?_⟩
     rcases cut i hi with h3 | h3
     · exact h i h3
     · rcases h1 with h1 | h1
       · omega
       · exact absurd e h1.1
   · refine .inr ⟨g1, ⟨j, by omega, e⟩, fun i hi hl => ?_⟩
     rcases cut i hi with h3 | h3
     · exact h i h3 hl
     · rcases h1 with h1 | h1 <;> omega
structure TouchS (ops : List Opn) (ids : List Int) (last : Int) : Prop where
 up : ids.Pairwise (· < ·)
 mem : ∀ id ∈ ids, ∃ o ∈ ops, o.id = id
 all : ∀ o ∈ ops, o.id ≤ last → o.id ∈ ids
 le : ∀ id ∈ ids, id ≤ last
 lo : 0 ≤ last
 hi : last ≤ 100000
 len : ids.length ≤ last.toNat
theorem touch_end {ops : List Opn} {ids : List Int} {last : Int} (h : TouchS ops ids last) (hm : MinR ops last ops.length 0) : TouchL ops ids := by
 refine ⟨h.up, fun id => ⟨h.mem id, fun ⟨o, ho, e⟩ => ?_⟩⟩
 subst e
 refine h.all o ho ?_
 rcases hm with ⟨_, hm⟩ | ⟨hm, _⟩
 · obtain ⟨i, hi, rfl⟩ := List.getElem_of_mem ho
   have := hm i hi
   rw [List.getD_eq_getElem?_getD, List.getElem?_eq_getElem hi] at this
   exact this
 · have := h.lo
   omega
theorem touch_next {ops : List Opn} {ids : List Int} {last nx : Int} (h : TouchS ops ids last) (hid : ∀ o ∈ ops, IdOk o.id) (hm : MinR ops last ops.length nx) (h0 : nx ≠ 0) : TouchS ops (ids ++ [nx]) nx ∧ last < nx := by
 rcases hm with ⟨e, _⟩ | ⟨h1, ⟨i, hi, e⟩, h2⟩
 · exact absurd e h0
 have hmem : ops.getD i noOpn ∈ ops := getD_memD hi noOpn
 have hlo := h.lo
 refine ⟨⟨?_, fun id hid' => ?_, fun o ho hle => ?_, fun id hid' => ?_, by omega, by have := (hid _ hmem).2; rw [e] at this; exact this, ?_⟩, h1⟩
 · rw [List.pairwise_append]
   refine ⟨h.up, List.pairwise_singleton _ _, fun a ha b hb => ?_⟩
   rw [List.mem_singleton.1 hb]
   have := h.le a ha
   omega
 · rw [List.mem_append] at hid'
   rcases hid' with h3 | h3
   · exact h.mem id h3
   · rw [List.mem_singleton.1 h3]
     exact ⟨_, hmem, e⟩
 · rw [List.mem_append]
   rcases Int.lt_or_le last o.id with h3 | h3
   · obtain ⟨j, hj, rfl⟩ := List.getElem_of_mem ho
     have := h2 j hj (by rw [List.getD_eq_getElem?_getD, List.getElem?_eq_getElem hj]; exact h3)
     rw [List.getD_eq_getElem?_getD, List.getElem?_eq_getElem hj] at this
     have h4 : nx ≤ ops[j].id := this
     exact .inr (List.mem_singleton.2 (by omega))
   · exact .inl (h.all o ho h3)
 · rw [List.mem_append] at hid'
   rcases hid' with h3 | h3
   · have := h.le id h3
     omega
   · rw [List.mem_singleton.1 h3]
     exact Int.le_refl _
 · rw [List.length_append, List.length_singleton]
   have := h.len
   omega
set_option maxHeartbeats 1000000 in
theorem q17Touch_no (ops : List Opn) (v0 : Value) (w : World) (h : OpsAt w v0 ops) (hn : ¬ OpsOk ops) : Calls Tryz.prog 27 #[v0] w fun e w' => e = .returned (.tuple #[nilV, .int .i64 1]) ∧ Below w.heap.size w w' := by
 obtain ⟨ad, c, rfl, k1, _, _⟩ := h.form
 have H1 := Lib.hid k1
 have HN := Lib.hid hn
 clear h k1 hn
 go_enter Tryz.func27, Tryz.ntmps27
 go_wp2_with fail
 (with_reducible refine (q17Patch_any ops _ _ H1.out (decide_eq_false HN.out)).mono ?_)
 rintro e w1 ⟨rfl, hb1⟩
 go_wp2_with fail
 go_returns
 exact ⟨rfl, hb1⟩
set_option maxHeartbeats 8000000 in
set_option maxRecDepth 20000 in
theorem q17Touch_yes (ops : List Opn) (v0 : Value) (w : World) (h : OpsAt w v0 ops) (ho : OpsOk ops) : Calls Tryz.prog 27 #[v0] w (TouchP ops w) := by
 obtain ⟨ad, c, rfl, k1, hn1, _⟩ := h.form
 have H1 := Lib.hid k1
 have HO := Lib.hid ho
 have IDS : Hid (∀ o ∈ ops, IdOk o.id) := Lib.hid fun o h => (ho.2 o h).1
 obtain ⟨n, hln⟩ : ∃ n, ops.length = n := ⟨_, rfl⟩
 rw [hln] at H1 hn1
 rw [hln]
 have HN := Lib.hid hln
 have hn100 : n ≤ 100 := by rw [← hln]; exact ho.1
 clear h k1 ho hln
 go_enter Tryz.func27, Tryz.ntmps27
 go_wp2_with fail
 (with_reducible refine (q17Patch_any ops _ _ H1.out (decide_eq_true HO.out)).mono ?_)
 rintro e w1 ⟨rfl, hb1⟩
 go_wp2_with fail
 go_loopw [5, 6] (fun out la wr => ∃ (ids : List Int) (last : Int) (ad' : Option Addr) (c' : Nat), la = .int .i64 last ∧ out = .slice ad' ids.length c' ∧ Hid (TouchS ops ids last) ∧ OwnI w.heap.size wr (.slice ad' ids.length c') ids ∧ Below w.heap.size w wr) (fun _ la _ => 100001 - (Go.RowKit.intOf la).toNat)
 case atStart => exact ⟨[], 0, none, 0, rfl, rfl, Lib.hid ⟨List.Pairwise.nil, fun id h => absurd h (by simp), fun o ho h => by have := (IDS.out o ho).1; omega, fun id h => absurd h (by simp), by decide, by decide, by decide⟩, OwnT.nil _ _, hb1⟩
 case round =>
  clear hb1
  obtain ⟨ids, last, ad', c', rfl, rfl, TS, how, hb⟩ := hrel
  have OW := Lib.hid how
  have hl0 := TS.out.lo
  have hl1 := TS.out.hi
  have hlen := TS.out.len
  clear how
  go_wp2_with fail
  go_loopw [7, 8] (fun x i wx => ∃ (k : Nat) (nx : Int), k ≤ n ∧ i = .int .i64 k ∧ x = .int .i64 nx ∧ wx = wr ∧ Hid (MinR ops last k nx)) (fun _ i _ => n - cntV i)
  case atStart => exact ⟨0, 0, Nat.zero_le _, rfl, rfl, rfl, Lib.hid (.inl ⟨rfl, fun i hi => absurd hi (Nat.not_lt_zero i)⟩)⟩
  case round =>
   obtain ⟨k, nx, hk, rfl, rfl, rfl, MR⟩ := hrel
   rcases Nat.lt_or_ge k n with hlt | hge
   rotate_left
   · have hkn : k = n := by omega
     subst hkn
     have ME : Hid (MinR ops last ops.length nx) := Lib.hid (by rw [HN.out]; exact MR.out)
     by_cases h0 : nx = 0
     · have d0 : (nx == 0) = true := by simpa using h0
       have TE : Hid (TouchL ops ids) := Lib.hid (touch_end TS.out (by have := ME.out; rw [h0] at this; exact this))
       clear h0
       go_wp2_with fail
       go_returns
       exact ⟨ad', _, c', ids, rfl, TE.out, rfl, OW.out.intsAt (by omega), hb⟩
     · have d0 : (nx == 0) = false := by simpa using h0
       obtain ⟨hts, hlt2⟩ := touch_next TS.out IDS.out ME.out h0
       have TN := Lib.hid hts
       have hsz := hb.size
       have hnx := hts.hi
       have hlen2 := hts.len
       clear h0 hts
       go_wp2_with (first
        | (refine wpList_appT (f := intC) (k := 1) (e := 3) intC_len (by omega) Tryz.underlying46 info_int rfl rfl _ _ rfl w.heap.size _ ids [nx] rfl (OwnI.keep OW.out ((Below.refl _ _).alloc (Nat.le_refl _) _)) _ _ _ rfl rfl (SrcAt.one (block_new _ _) rfl) (fun u hu => by obtain rfl : u = .int .i64 nx := (by simpa [intC] using hu); rfl) (N := ids.length + 1) rfl (by unfold maxLen; omega) (by omega) (by simp only [World.size_alloc]; omega) ?_; intro ad2 c2 w5 how5 hgr hbl))
       go_roundw
       case rel => exact ⟨ids ++ [nx], nx, ad2, c2, rfl, by rw [List.length_append]; rfl, TN, by rw [List.length_append]; exact how5, (hb.alloc hsz _).trans hbl⟩
       case measure => simp [Go.RowKit.intOf]; omega
   obtain ⟨gg, oo, va, vs, rfl, fc0⟩ := H1.out.row hlt
   obtain ⟨p, hp⟩ : ∃ p, ops.getD k noOpn = p := ⟨_, rfl⟩
   rw [hp] at fc0
   have c1 := (fc0.later hb).c1
   obtain ⟨x, hx⟩ : ∃ x, p.id = x := ⟨_, rfl⟩
   rw [hx] at c1
   have HX : Hid ((ops.getD k noOpn).id = x) := Lib.hid (by rw [hp]; exact hx)
   clear fc0 hp hx
   by_cases g1 : last < x
   · have d1 : decide (last < x) = true := decide_eq_true g1
     by_cases g2 : nx = 0
     · have d2 : (nx == 0) = true := by simpa using g2
       have MS := Lib.hid (min_step MR.out hl0 HX.out (.inl ⟨g1, .inl g2, rfl⟩))
       clear g1 g2
       go_wp2_with fail
       go_roundw
       case rel => exact ⟨k + 1, x, by omega, by go_num, by first | rfl | trivial, by first | rfl | trivial, MS⟩
       case measure => simp [cntV]; omega
     · have d2 : (nx == 0) = false := by simpa using g2
       by_cases g3 : x < nx
       · have d3 : decide (x < nx) = true := decide_eq_true g3
         have MS := Lib.hid (min_step MR.out hl0 HX.out (.inl ⟨g1, .inr g3, rfl⟩))
         clear g1 g2 g3
         go_wp2_with fail
         go_roundw
         case rel => exact ⟨k + 1, x, by omega, by go_num, by first | rfl | trivial, by first | rfl | trivial, MS⟩
         case measure => simp [cntV]; omega
       · have d3 : decide (x < nx) = false := decide_eq_false g3
         have MS := Lib.hid (min_step (nx' := nx) MR.out hl0 HX.out (.inr ⟨.inr ⟨g2, by omega⟩, rfl⟩))
         clear g1 g2 g3
         go_wp2_with fail
         go_roundw
         case rel => exact ⟨k + 1, nx, by omega, by go_num, by first | rfl | trivial, by first | rfl | trivial, MS⟩
         case measure => simp [cntV]; omega
   · have d1 : decide (last < x) = false := decide_eq_false g1
     have MS := Lib.hid (min_step (nx' := nx) MR.out hl0 HX.out (.inr ⟨.inl (by omega), rfl⟩))
     clear g1
     go_wp2_with fail
     go_roundw
     case rel => exact ⟨k + 1, nx, by omega, by go_num, by first | rfl | trivial, by first | rfl | trivial, MS⟩
     case measure => simp [cntV]; omega
end Go.Proofs.YtdmegkkifiahdaaGreat
namespace Go.Proofs.YtdmegkkifiahdaaGreat
open Go.RowKit
attribute [local go_sem] bqOp bqAll bqUpon sqOp sqAll sqUpon ssAll
attribute [local irreducible] wpQuiet wpBQ wpPlan wsPlan
set_option linter.unusedVariables false
def BackP (w0 w : World) (b : Opn) (e : Ending) (w' : World) : Prop := ∃ ua us, e = .returned (opV b ua us) ∧ PartsAt w0 b.feat ua us ∧ Below w.heap.size w w'
set_option maxHeartbeats 4000000 in
set_option maxRecDepth 20000 in
theorem q17Back_1 (l : List Feat) (id : Int) (of : Feat) (x y rad dep sym : Int) (v0 va vs : Value) (w0 w : World) (h : Feats2 w0 w v0 l) (hp : PartsAt w0 of va vs) :
  Calls Tryz.prog 84 #[v0, opV ⟨1, id, of, x, y, rad, dep, sym⟩ va vs] w (BackP w0 w (backE l ⟨1, id, of, x, y, rad, dep, sym⟩)) := by
 obtain ⟨ad, c, rfl, h1, hn, hc⟩ := h.form
 have H := Lib.hid h1
 have HP := Lib.hid hp
 skip
 obtain ⟨aa, ca, ab, cb, rfl, rfl⟩ := hp.form
 obtain ⟨n, hln⟩ : ∃ n, l.length = n := ⟨_, rfl⟩
 rw [hln] at H hn hc
 rw [hln]
 have HN := Lib.hid hln
 clear h h1 hp hln
 have hz : True := trivial
 go_enter Tryz.func84, Tryz.ntmps84
 go_wp2_with fail
 refine calls_named fun W hW => ?_
 obtain ⟨p1, p2, hB⟩ := box2 hW
 clear hW
 have P1 := Lib.hid p1
 have P2 := Lib.hid p2
 clear p1 p2
 (with_reducible refine (q17Index_any l _ id _ (H.out.later hB).at).mono ?_)
 rintro e w1 ⟨r, rfl, hr, hb1⟩
 have hB1 := below_step hB hb1
 have P1' := Lib.hid (block_later hb1 P1.out)
 have P2' := Lib.hid (block_later hb1 P2.out)
 have hs1 := hB1.size
 clear hb1 P1 P2
 have q1 := cell_block P1'.out
 clear hr
 have f2 := free_block P2'.out
 have k2 := cell_block P2'.out
 go_wp2_with fail
 have c9 := cell_block (block_set (i := 15) (block_set (i := 14) (block_set (i := 13) (block_set (i := 12) (block_set (i := 11) (block_set (i := 10) (block_set (i := 9) (block_set (i := 8) (block_set (i := 7) (block_set (i := 6) (block_set (i := 5) (block_set (i := 4) (block_set (i := 3) (block_set (i := 2) (block_set (i := 1) (block_set (i := 0) P2'.out (.int .i64 2)) (.int .i64 id)) (.int .i64 0)) (.int .i64 0)) (.int .i64 0)) (.int .i64 0)) (.int .i64 0)) (.slice none 0 0)) (.int .i64 0)) (.int .i64 0)) (.slice none 0 0)) (.int .i64 0)) (.int .i64 0)) (.int .i64 0)) (.int .i64 0)) (.int .i64 0))
 exact bodyPost_ret (v := .agg #[.int .i64 2, .int .i64 id, .int .i64 0, .int .i64 0, .int .i64 0, .int .i64 0, .int .i64 0, .slice none 0 0, .int .i64 0, .int .i64 0, .slice none 0 0, .int .i64 0, .int .i64 0, .int .i64 0, .int .i64 0, .int .i64 0]) (by simp [results, Tryz.results84, go_sem, c9]) rfl ⟨.slice none 0 0, .slice none 0 0, rfl, PartsAt.zero _, ((((((((((((((((hB1.setCell (by dsimp only; omega) _).setCell (by dsimp only; omega) _).setCell (by dsimp only; omega) _).setCell (by dsimp only; omega) _).setCell (by dsimp only; omega) _).setCell (by dsimp only; omega) _).setCell (by dsimp only; omega) _).setCell (by dsimp only; omega) _).setCell (by dsimp only; omega) _).setCell (by dsimp only; omega) _).setCell (by dsimp only; omega) _).setCell (by dsimp only; omega) _).setCell (by dsimp only; omega) _).setCell (by dsimp only; omega) _).setCell (by dsimp only; omega) _).setCell (by dsimp only; omega) _)⟩
set_option maxHeartbeats 4000000 in
set_option maxRecDepth 20000 in
theorem q17Back_2 (l : List Feat) (id : Int) (of : Feat) (x y rad dep sym : Int) (v0 va vs : Value) (w0 w : World) (h : Feats2 w0 w v0 l) (hp : PartsAt w0 of va vs) (hl : ∃ f, look l id = some f) :
  Calls Tryz.prog 84 #[v0, opV ⟨2, id, of, x, y, rad, dep, sym⟩ va vs] w (BackP w0 w (backE l ⟨2, id, of, x, y, rad, dep, sym⟩)) := by
 obtain ⟨ad, c, rfl, h1, hn, hc⟩ := h.form
 have H := Lib.hid h1
 have HP := Lib.hid hp
 have LK := Lib.hid hl
 obtain ⟨aa, ca, ab, cb, rfl, rfl⟩ := hp.form
 obtain ⟨n, hln⟩ : ∃ n, l.length = n := ⟨_, rfl⟩
 rw [hln] at H hn hc
 rw [hln]
 have HN := Lib.hid hln
 clear h h1 hp hln hl
 have hz : True := trivial
 go_enter Tryz.func84, Tryz.ntmps84
 go_wp2_with fail
 refine calls_named fun W hW => ?_
 obtain ⟨p1, p2, hB⟩ := box2 hW
 clear hW
 have P1 := Lib.hid p1
 have P2 := Lib.hid p2
 clear p1 p2
 (with_reducible refine (q17Index_any l _ id _ (H.out.later hB).at).mono ?_)
 rintro e w1 ⟨r, rfl, hr, hb1⟩
 have hB1 := below_step hB hb1
 have P1' := Lib.hid (block_later hb1 P1.out)
 have P2' := Lib.hid (block_later hb1 P2.out)
 have hs1 := hB1.size
 clear hb1 P1 P2
 have q1 := cell_block P1'.out
 rcases hr with ⟨rfl, hlk⟩ | ⟨k, hk, rfl, hlk⟩
 · obtain ⟨f, hf⟩ := LK.out
   rw [hlk] at hf
   cases hf
 obtain ⟨f, hf⟩ : ∃ f, l.getD k noFeat = f := ⟨_, rfl⟩
 rw [hf] at hlk
 have BE : Hid (backE l ⟨2, id, of, x, y, rad, dep, sym⟩ = ⟨1, id, f, 0, 0, 0, 0, 0⟩) := Lib.hid (by
  unfold backE
  rw [if_neg (by simp)]
  simp only [hlk]
  rfl)
 have hkn : k < n := by rw [← HN.out]; exact hk
 obtain ⟨g0, o0, va, vs, rfl, fc0, pa0⟩ := H.out.row hkn
 rw [hf] at fc0 pa0
 have PA := Lib.hid (show PartsAt w0 f va vs from pa0)
 obtain ⟨fa, fca, fb, fcb, rfl, rfl⟩ := PA.out.form
 have FC := Lib.hid fc0
 clear hf hlk fc0 pa0 hk LK
 go_wp2_with fail
 have P2d : w1.drew.heap[w.heap.size + 1]? = _ := P2'.out
 refine wp_region_planS (KeepB w1 w.heap.size [w.heap.size]) (.take 0 (.take 0 (.take 0 (.take 0 (.take 0 (.take 0 (.take 0 (.only 0 .done)))))))) (by kernel_rfl) (by kernel_rfl) KeepB.refl (fun hP => ?_)
 iterate 5 (refine wsPlan_take rfl (fun K hK => ?_); replace hK := Lib.hid hK; go_simp; first | (refine hK.out _ ?_; clear hK K) | (apply Exists.intro; refine ⟨fun w' hw => ?_, hK.out _ ?_⟩; (first | with_reducible exact rfl | (have q5 := cell_block (hw.at (by simp) P1'.out); go_simp; exact rfl) | (have fcw := FC.out.later (hB1.trans hw.1); have c0 := fcw.c0; have c1 := fcw.c1; have c2 := fcw.c2; have c3 := fcw.c3; have c4 := fcw.c4; have c5 := fcw.c5; have c6 := fcw.c6; have c7 := fcw.c7; have c8 := fcw.c8; go_simp; exact rfl)); clear hK K))
 refine ws_loadMidT rfl rfl _ _ rfl g0 (o0 + k * 9) rfl [.int .i64 f.id, .int .i64 f.kind, .int .i64 f.x, .int .i64 f.y, .int .i64 f.rad, .slice fa f.area.length fca, .int .i64 f.dep, .int .i64 f.sym, .slice fb f.secs.length fcb] _ (fun w' hw => (FC.out.later (hB1.trans hw.1)).range) Tryz.underlying32 rfl (by kernel_rfl) ?_
 (refine wsPlan_take rfl (fun K hK => ?_); replace hK := Lib.hid hK; go_simp; first | (refine hK.out _ ?_; clear hK K) | (apply Exists.intro; refine ⟨fun w' hw => ?_, hK.out _ ?_⟩; (first | with_reducible exact rfl | (have q5 := cell_block (hw.at (by simp) P1'.out); go_simp; exact rfl) | (have fcw := FC.out.later (hB1.trans hw.1); have c0 := fcw.c0; have c1 := fcw.c1; have c2 := fcw.c2; have c3 := fcw.c3; have c4 := fcw.c4; have c5 := fcw.c5; have c6 := fcw.c6; have c7 := fcw.c7; have c8 := fcw.c8; go_simp; exact rfl)); clear hK K))
 refine ws_store rfl rfl _ _ _ rfl _ (#[.int .i64 1, .int .i64 id, .int .i64 f.id, .int .i64 f.kind, .int .i64 f.x, .int .i64 f.y, .int .i64 f.rad, .slice fa f.area.length fca, .int .i64 f.dep, .int .i64 f.sym, .slice fb f.secs.length fcb, .int .i64 0, .int .i64 0, .int .i64 0, .int .i64 0, .int .i64 0]) rfl rfl _ _ P2d (by kernel_rfl) (by kernel_rfl) (by kernel_rfl) (KeepB.setRow (by exact hP) (by omega) (by simp <;> omega) _) ?_
 refine wsPlan_done ?_
 simp only [Act.put, List.setIfInBounds_toArray, List.set_cons_zero, List.set_cons_succ]
 go_wp2_with fail
 refine body_named fun WR hW => ?_
 have q4 := (congrArg (fun X : World => X.heap[w.heap.size + 1]?) hW).trans (setRow_heap _ _ _ _ _ _ P2d)
 replace q4 : WR.heap[w.heap.size + 1]? = _ := q4
 have hR : Below w.heap.size w WR := by rw [hW]; exact below_setRow hB1.drew (by omega) _
 clear hW
 have c9 := cell_block q4
 rw [BE.out]
 exact bodyPost_ret (v := .agg #[.int .i64 1, .int .i64 id, .int .i64 f.id, .int .i64 f.kind, .int .i64 f.x, .int .i64 f.y, .int .i64 f.rad, .slice fa f.area.length fca, .int .i64 f.dep, .int .i64 f.sym, .slice fb f.secs.length fcb, .int .i64 0, .int .i64 0, .int .i64 0, .int .i64 0, .int .i64 0]) (by simp [results, Tryz.results84, go_sem, c9]) rfl ⟨.slice fa f.area.length fca, .slice fb f.secs.length fcb, rfl, PA.out, hR⟩
set_option maxHeartbeats 4000000 in
set_option maxRecDepth 20000 in
theorem q17Back_3 (l : List Feat) (id : Int) (of : Feat) (x y rad dep sym : Int) (v0 va vs : Value) (w0 w : World) (h : Feats2 w0 w v0 l) (hp : PartsAt w0 of va vs) (hl : ∃ f, look l id = some f) :
  Calls Tryz.prog 84 #[v0, opV ⟨3, id, of, x, y, rad, dep, sym⟩ va vs] w (BackP w0 w (backE l ⟨3, id, of, x, y, rad, dep, sym⟩)) := by
 obtain ⟨ad, c, rfl, h1, hn, hc⟩ := h.form
 have H := Lib.hid h1
 have HP := Lib.hid hp
 have LK := Lib.hid hl
 obtain ⟨aa, ca, ab, cb, rfl, rfl⟩ := hp.form
 obtain ⟨n, hln⟩ : ∃ n, l.length = n := ⟨_, rfl⟩
 rw [hln] at H hn hc
 rw [hln]
 have HN := Lib.hid hln
 clear h h1 hp hln hl
 have hz : True := trivial
 go_enter Tryz.func84, Tryz.ntmps84
 go_wp2_with fail
 refine calls_named fun W hW => ?_
 obtain ⟨p1, p2, hB⟩ := box2 hW
 clear hW
 have P1 := Lib.hid p1
 have P2 := Lib.hid p2
 clear p1 p2
 (with_reducible refine (q17Index_any l _ id _ (H.out.later hB).at).mono ?_)
 rintro e w1 ⟨r, rfl, hr, hb1⟩
 have hB1 := below_step hB hb1
 have P1' := Lib.hid (block_later hb1 P1.out)
 have P2' := Lib.hid (block_later hb1 P2.out)
 have hs1 := hB1.size
 clear hb1 P1 P2
 have q1 := cell_block P1'.out
 rcases hr with ⟨rfl, hlk⟩ | ⟨k, hk, rfl, hlk⟩
 · obtain ⟨f, hf⟩ := LK.out
   rw [hlk] at hf
   cases hf
 obtain ⟨f, hf⟩ : ∃ f, l.getD k noFeat = f := ⟨_, rfl⟩
 rw [hf] at hlk
 have BE : Hid (backE l ⟨3, id, of, x, y, rad, dep, sym⟩ = ⟨3, id, noFeat, f.x, f.y, f.rad, 0, 0⟩) := Lib.hid (by
  unfold backE
  rw [if_neg (by simp)]
  simp only [hlk]
  rfl)
 have hkn : k < n := by rw [← HN.out]; exact hk
 obtain ⟨g0, o0, va, vs, rfl, fc0, pa0⟩ := H.out.row hkn
 rw [hf] at fc0 pa0
 have PA := Lib.hid (show PartsAt w0 f va vs from pa0)
 obtain ⟨fa, fca, fb, fcb, rfl, rfl⟩ := PA.out.form
 have FC := Lib.hid fc0
 clear hf hlk fc0 pa0 hk LK
 go_wp2_with fail
 have P2d : w1.drew.heap[w.heap.size + 1]? = _ := P2'.out
 refine wp_region_planS (KeepB w1 w.heap.size [w.heap.size]) (.take 0 (.take 0 (.take 0 (.take 0 (.take 0 (.take 0 (.take 0 (.take 0 (.take 0 (.take 0 (.take 0 (.take 0 (.take 0 (.only 0 .done)))))))))))))) (by kernel_rfl) (by kernel_rfl) KeepB.refl (fun hP => ?_)
 iterate 13 (refine wsPlan_take rfl (fun K hK => ?_); replace hK := Lib.hid hK; go_simp; first | (refine hK.out _ ?_; clear hK K) | (apply Exists.intro; refine ⟨fun w' hw => ?_, hK.out _ ?_⟩; (first | with_reducible exact rfl | (have q5 := cell_block (hw.at (by simp) P1'.out); go_simp; exact rfl) | (have fcw := FC.out.later (hB1.trans hw.1); have c0 := fcw.c0; have c1 := fcw.c1; have c2 := fcw.c2; have c3 := fcw.c3; have c4 := fcw.c4; have c5 := fcw.c5; have c6 := fcw.c6; have c7 := fcw.c7; have c8 := fcw.c8; go_simp; exact rfl)); clear hK K))
 refine ws_store rfl rfl _ _ _ rfl _ (#[.int .i64 3, .int .i64 id, .int .i64 0, .int .i64 0, .int .i64 0, .int .i64 0, .int .i64 0, .slice none 0 0, .int .i64 0, .int .i64 0, .slice none 0 0, .int .i64 f.x, .int .i64 f.y, .int .i64 f.rad, .int .i64 0, .int .i64 0]) rfl rfl _ _ P2d (by kernel_rfl) (by kernel_rfl) (by kernel_rfl) (KeepB.setRow (by exact hP) (by omega) (by simp <;> omega) _) ?_
 refine wsPlan_done ?_
 simp only [Act.put, List.setIfInBounds_toArray, List.set_cons_zero, List.set_cons_succ]
 go_wp2_with fail
 refine body_named fun WR hW => ?_
 have q4 := (congrArg (fun X : World => X.heap[w.heap.size + 1]?) hW).trans (setRow_heap _ _ _ _ _ _ P2d)
 replace q4 : WR.heap[w.heap.size + 1]? = _ := q4
 have hR : Below w.heap.size w WR := by rw [hW]; exact below_setRow hB1.drew (by omega) _
 clear hW
 have c9 := cell_block q4
 rw [BE.out]
 exact bodyPost_ret (v := .agg #[.int .i64 3, .int .i64 id, .int .i64 0, .int .i64 0, .int .i64 0, .int .i64 0, .int .i64 0, .slice none 0 0, .int .i64 0, .int .i64 0, .slice none 0 0, .int .i64 f.x, .int .i64 f.y, .int .i64 f.rad, .int .i64 0, .int .i64 0]) (by simp [results, Tryz.results84, go_sem, c9]) rfl ⟨.slice none 0 0, .slice none 0 0, rfl, PartsAt.zero _, hR⟩
set_option maxHeartbeats 4000000 in
set_option maxRecDepth 20000 in
theorem q17Back_4 (l : List Feat) (id : Int) (of : Feat) (x y rad dep sym : Int) (v0 va vs : Value) (w0 w : World) (h : Feats2 w0 w v0 l) (hp : PartsAt w0 of va vs) (hl : ∃ f, look l id = some f) :
  Calls Tryz.prog 84 #[v0, opV ⟨4, id, of, x, y, rad, dep, sym⟩ va vs] w (BackP w0 w (backE l ⟨4, id, of, x, y, rad, dep, sym⟩)) := by
 obtain ⟨ad, c, rfl, h1, hn, hc⟩ := h.form
 have H := Lib.hid h1
 have HP := Lib.hid hp
 have LK := Lib.hid hl
 obtain ⟨aa, ca, ab, cb, rfl, rfl⟩ := hp.form
 obtain ⟨n, hln⟩ : ∃ n, l.length = n := ⟨_, rfl⟩
 rw [hln] at H hn hc
 rw [hln]
 have HN := Lib.hid hln
 clear h h1 hp hln hl
 have hz : True := trivial
 go_enter Tryz.func84, Tryz.ntmps84
 go_wp2_with fail
 refine calls_named fun W hW => ?_
 obtain ⟨p1, p2, hB⟩ := box2 hW
 clear hW
 have P1 := Lib.hid p1
 have P2 := Lib.hid p2
 clear p1 p2
 (with_reducible refine (q17Index_any l _ id _ (H.out.later hB).at).mono ?_)
 rintro e w1 ⟨r, rfl, hr, hb1⟩
 have hB1 := below_step hB hb1
 have P1' := Lib.hid (block_later hb1 P1.out)
 have P2' := Lib.hid (block_later hb1 P2.out)
 have hs1 := hB1.size
 clear hb1 P1 P2
 have q1 := cell_block P1'.out
 rcases hr with ⟨rfl, hlk⟩ | ⟨k, hk, rfl, hlk⟩
 · obtain ⟨f, hf⟩ := LK.out
   rw [hlk] at hf
   cases hf
 obtain ⟨f, hf⟩ : ∃ f, l.getD k noFeat = f := ⟨_, rfl⟩
 rw [hf] at hlk
 have BE : Hid (backE l ⟨4, id, of, x, y, rad, dep, sym⟩ = ⟨4, id, noFeat, 0, 0, 0, f.dep, 0⟩) := Lib.hid (by
  unfold backE
  rw [if_neg (by simp)]
  simp only [hlk]
  rfl)
 have hkn : k < n := by rw [← HN.out]; exact hk
 obtain ⟨g0, o0, va, vs, rfl, fc0, pa0⟩ := H.out.row hkn
 rw [hf] at fc0 pa0
 have PA := Lib.hid (show PartsAt w0 f va vs from pa0)
 obtain ⟨fa, fca, fb, fcb, rfl, rfl⟩ := PA.out.form
 have FC := Lib.hid fc0
 clear hf hlk fc0 pa0 hk LK
 go_wp2_with fail
 have P2d : w1.drew.heap[w.heap.size + 1]? = _ := P2'.out
 refine wp_region_planS (KeepB w1 w.heap.size [w.heap.size]) (.take 0 (.take 0 (.take 0 (.take 0 (.take 0 (.take 0 (.take 0 (.take 0 (.only 0 .done))))))))) (by kernel_rfl) (by kernel_rfl) KeepB.refl (fun hP => ?_)
 iterate 8 (refine wsPlan_take rfl (fun K hK => ?_); replace hK := Lib.hid hK; go_simp; first | (refine hK.out _ ?_; clear hK K) | (apply Exists.intro; refine ⟨fun w' hw => ?_, hK.out _ ?_⟩; (first | with_reducible exact rfl | (have q5 := cell_block (hw.at (by simp) P1'.out); go_simp; exact rfl) | (have fcw := FC.out.later (hB1.trans hw.1); have c0 := fcw.c0; have c1 := fcw.c1; have c2 := fcw.c2; have c3 := fcw.c3; have c4 := fcw.c4; have c5 := fcw.c5; have c6 := fcw.c6; have c7 := fcw.c7; have c8 := fcw.c8; go_simp; exact rfl)); clear hK K))
 refine ws_store rfl rfl _ _ _ rfl _ (#[.int .i64 4, .int .i64 id, .int .i64 0, .int .i64 0, .int .i64 0, .int .i64 0, .int .i64 0, .slice none 0 0, .int .i64 0, .int .i64 0, .slice none 0 0, .int .i64 0, .int .i64 0, .int .i64 0, .int .i64 f.dep, .int .i64 0]) rfl rfl _ _ P2d (by kernel_rfl) (by kernel_rfl) (by kernel_rfl) (KeepB.setRow (by exact hP) (by omega) (by simp <;> omega) _) ?_
 refine wsPlan_done ?_
 simp only [Act.put, List.setIfInBounds_toArray, List.set_cons_zero, List.set_cons_succ]
 go_wp2_with fail
 refine body_named fun WR hW => ?_
 have q4 := (congrArg (fun X : World => X.heap[w.heap.size + 1]?) hW).trans (setRow_heap _ _ _ _ _ _ P2d)
 replace q4 : WR.heap[w.heap.size + 1]? = _ := q4
 have hR : Below w.heap.size w WR := by rw [hW]; exact below_setRow hB1.drew (by omega) _
 clear hW
 have c9 := cell_block q4
 rw [BE.out]
 exact bodyPost_ret (v := .agg #[.int .i64 4, .int .i64 id, .int .i64 0, .int .i64 0, .int .i64 0, .int .i64 0, .int .i64 0, .slice none 0 0, .int .i64 0, .int .i64 0, .slice none 0 0, .int .i64 0, .int .i64 0, .int .i64 0, .int .i64 f.dep, .int .i64 0]) (by simp [results, Tryz.results84, go_sem, c9]) rfl ⟨.slice none 0 0, .slice none 0 0, rfl, PartsAt.zero _, hR⟩
set_option maxHeartbeats 4000000 in
set_option maxRecDepth 20000 in
theorem q17Back_5 (l : List Feat) (id : Int) (of : Feat) (x y rad dep sym : Int) (v0 va vs : Value) (w0 w : World) (h : Feats2 w0 w v0 l) (hp : PartsAt w0 of va vs) (hl : ∃ f, look l id = some f) :
  Calls Tryz.prog 84 #[v0, opV ⟨5, id, of, x, y, rad, dep, sym⟩ va vs] w (BackP w0 w (backE l ⟨5, id, of, x, y, rad, dep, sym⟩)) := by
 obtain ⟨ad, c, rfl, h1, hn, hc⟩ := h.form
 have H := Lib.hid h1
 have HP := Lib.hid hp
 have LK := Lib.hid hl
 obtain ⟨aa, ca, ab, cb, rfl, rfl⟩ := hp.form
 obtain ⟨n, hln⟩ : ∃ n, l.length = n := ⟨_, rfl⟩
 rw [hln] at H hn hc
 rw [hln]
 have HN := Lib.hid hln
 clear h h1 hp hln hl
 have hz : True := trivial
 go_enter Tryz.func84, Tryz.ntmps84
 go_wp2_with fail
 refine calls_named fun W hW => ?_
 obtain ⟨p1, p2, hB⟩ := box2 hW
 clear hW
 have P1 := Lib.hid p1
 have P2 := Lib.hid p2
 clear p1 p2
 (with_reducible refine (q17Index_any l _ id _ (H.out.later hB).at).mono ?_)
 rintro e w1 ⟨r, rfl, hr, hb1⟩
 have hB1 := below_step hB hb1
 have P1' := Lib.hid (block_later hb1 P1.out)
 have P2' := Lib.hid (block_later hb1 P2.out)
 have hs1 := hB1.size
 clear hb1 P1 P2
 have q1 := cell_block P1'.out
 rcases hr with ⟨rfl, hlk⟩ | ⟨k, hk, rfl, hlk⟩
 · obtain ⟨f, hf⟩ := LK.out
   rw [hlk] at hf
   cases hf
 obtain ⟨f, hf⟩ : ∃ f, l.getD k noFeat = f := ⟨_, rfl⟩
 rw [hf] at hlk
 have BE : Hid (backE l ⟨5, id, of, x, y, rad, dep, sym⟩ = ⟨5, id, noFeat, 0, 0, 0, 0, f.sym⟩) := Lib.hid (by
  unfold backE
  rw [if_neg (by simp)]
  simp only [hlk]
  rfl)
 have hkn : k < n := by rw [← HN.out]; exact hk
 obtain ⟨g0, o0, va, vs, rfl, fc0, pa0⟩ := H.out.row hkn
 rw [hf] at fc0 pa0
 have PA := Lib.hid (show PartsAt w0 f va vs from pa0)
 obtain ⟨fa, fca, fb, fcb, rfl, rfl⟩ := PA.out.form
 have FC := Lib.hid fc0
 clear hf hlk fc0 pa0 hk LK
 go_wp2_with fail
 have P2d : w1.drew.heap[w.heap.size + 1]? = _ := P2'.out
 refine wp_region_planS (KeepB w1 w.heap.size [w.heap.size]) (.take 0 (.take 0 (.take 0 (.take 0 (.take 0 (.take 0 (.take 0 (.take 0 (.only 0 .done))))))))) (by kernel_rfl) (by kernel_rfl) KeepB.refl (fun hP => ?_)
 iterate 8 (refine wsPlan_take rfl (fun K hK => ?_); replace hK := Lib.hid hK; go_simp; first | (refine hK.out _ ?_; clear hK K) | (apply Exists.intro; refine ⟨fun w' hw => ?_, hK.out _ ?_⟩; (first | with_reducible exact rfl | (have q5 := cell_block (hw.at (by simp) P1'.out); go_simp; exact rfl) | (have fcw := FC.out.later (hB1.trans hw.1); have c0 := fcw.c0; have c1 := fcw.c1; have c2 := fcw.c2; have c3 := fcw.c3; have c4 := fcw.c4; have c5 := fcw.c5; have c6 := fcw.c6; have c7 := fcw.c7; have c8 := fcw.c8; go_simp; exact rfl)); clear hK K))
 refine ws_store rfl rfl _ _ _ rfl _ (#[.int .i64 5, .int .i64 id, .int .i64 0, .int .i64 0, .int .i64 0, .int .i64 0, .int .i64 0, .slice none 0 0, .int .i64 0, .int .i64 0, .slice none 0 0, .int .i64 0, .int .i64 0, .int .i64 0, .int .i64 0, .int .i64 f.sym]) rfl rfl _ _ P2d (by kernel_rfl) (by kernel_rfl) (by kernel_rfl) (KeepB.setRow (by exact hP) (by omega) (by simp <;> omega) _) ?_
 refine wsPlan_done ?_
 simp only [Act.put, List.setIfInBounds_toArray, List.set_cons_zero, List.set_cons_succ]
 go_wp2_with fail
 refine body_named fun WR hW => ?_
 have q4 := (congrArg (fun X : World => X.heap[w.heap.size + 1]?) hW).trans (setRow_heap _ _ _ _ _ _ P2d)
 replace q4 : WR.heap[w.heap.size + 1]? = _ := q4
 have hR : Below w.heap.size w WR := by rw [hW]; exact below_setRow hB1.drew (by omega) _
 clear hW
 have c9 := cell_block q4
 rw [BE.out]
 exact bodyPost_ret (v := .agg #[.int .i64 5, .int .i64 id, .int .i64 0, .int .i64 0, .int .i64 0, .int .i64 0, .int .i64 0, .slice none 0 0, .int .i64 0, .int .i64 0, .slice none 0 0, .int .i64 0, .int .i64 0, .int .i64 0, .int .i64 0, .int .i64 f.sym]) (by simp [results, Tryz.results84, go_sem, c9]) rfl ⟨.slice none 0 0, .slice none 0 0, rfl, PartsAt.zero _, hR⟩
set_option maxHeartbeats 1000000 in
theorem q17Back_any (l : List Feat) (o : Opn) (v0 va vs : Value) (w0 w : World) (h : Feats2 w0 w v0 l) (hp : PartsAt w0 o.feat va vs) (hk : 1 ≤ o.kind ∧ o.kind ≤ 5) (hl : o.kind ≠ 1 → ∃ f, look l o.id = some f) :
  Calls Tryz.prog 84 #[v0, opV o va vs] w (BackP w0 w (backE l o)) := by
 obtain ⟨kind, id, of, x, y, rad, dep, sym⟩ := o
 have hk5 : kind = 1 ∨ kind = 2 ∨ kind = 3 ∨ kind = 4 ∨ kind = 5 := by simp only at hk; omega
 rcases hk5 with rfl | rfl | rfl | rfl | rfl
 · exact q17Back_1 l id of x y rad dep sym v0 va vs w0 w h hp
 · exact q17Back_2 l id of x y rad dep sym v0 va vs w0 w h hp (hl (by simp))
 · exact q17Back_3 l id of x y rad dep sym v0 va vs w0 w h hp (hl (by simp))
 · exact q17Back_4 l id of x y rad dep sym v0 va vs w0 w h hp (hl (by simp))
 · exact q17Back_5 l id of x y rad dep sym v0 va vs w0 w h hp (hl (by simp))
theorem OwnOs.monoB {base base' : Nat} {w0 w : World} {v : Value} {l : List Opn} (h : OwnOs base w0 w v l) (hb : base' ≤ base) : OwnOs base' w0 w v l := by
 obtain ⟨items, rfl, ho, hr⟩ := h
 refine ⟨items, rfl, ⟨ho.1, ?_⟩, hr⟩
 rcases ho.2 with h | ⟨g, cap, cur, hv, hbg, hrest⟩
 · exact .inl h
 · exact .inr ⟨g, cap, cur, hv, Nat.le_trans hb hbg, hrest⟩
set_option maxHeartbeats 8000000 in
theorem q17Undo_any (l : List Feat) (ops : List Opn) (v0 v1 : Value) (w : World) (h : FeatsAt w v0 l) (h1 : OpsAt w v1 ops) {bs : List Opn} {er : Int} (hv : undoO l ops = (bs, er)) :
  Calls Tryz.prog 18 #[v0, v1] w (UndoP w bs er) := by
 obtain ⟨ad, c, rfl, g0, hn, hc⟩ := h.form
 obtain ⟨ad1, c1, rfl, g1, hn1, _⟩ := h1.form
 have H0 := Lib.hid g0
 have H1 := Lib.hid g1
 have HV := Lib.hid hv
 obtain ⟨l', i, e', ha⟩ : ∃ l' i e', applyO l ops = (l', i, e') := ⟨_, _, _, rfl⟩
 have HA := Lib.hid ha
 obtain ⟨n, hln⟩ : ∃ n, l.length = n := ⟨_, rfl⟩
 obtain ⟨n1, hln1⟩ : ∃ n, ops.length = n := ⟨_, rfl⟩
 rw [hln] at H0 hn hc
 rw [hln1] at H1 hn1
 rw [hln, hln1]
 have HN := Lib.hid hln
 have HN1 := Lib.hid hln1
 clear h h1 g0 g1 hv ha hln hln1
 go_enter Tryz.func18, Tryz.ntmps18
 go_wp2_with fail
 (with_reducible refine (q17Apply_any l ops _ _ w H0.out H1.out HA.out).mono ?_)
 rintro e w1 ⟨adx, nx, cx, _, rfl, _, hB1⟩
 by_cases hok : PatchOk l ops
 rotate_left
 · obtain ⟨rfl, rfl⟩ : bs = [] ∧ er = 1 := by
    have h := HV.out
    unfold undoO at h
    rw [if_neg hok] at h
    cases h
    exact ⟨rfl, rfl⟩
   obtain rfl : e' = 1 := by
    have h := HA.out
    unfold applyO at h
    rw [if_neg hok] at h
    cases h
    rfl
   go_wp2_with fail
   go_returns
   exact ⟨none, 0, 0, rfl, rfl, ops_nil _, hB1⟩
 have OK := Lib.hid hok
 have FORMS : Hid (∀ o ∈ ops, OpForm o) := Lib.hid fun o ho => opForm (hok.2.2 o ho)
 clear hok
 cases hru : runO l ops with
 | error r =>
   obtain ⟨j, e2⟩ := r
   obtain ⟨rfl, rfl⟩ : bs = [] ∧ er = e2 := by
    have h := HV.out
    unfold undoO at h
    rw [if_pos OK.out, hru] at h
    cases h
    exact ⟨rfl, rfl⟩
   obtain rfl : e' = er := by
    have h := HA.out
    unfold applyO at h
    rw [if_pos OK.out, hru] at h
    cases h
    rfl
   have hne := run_err hru
   have d1 : (e' != 0) = true := by simp; omega
   clear hru hne
   go_wp2_with fail
   go_returns
   exact ⟨none, 0, 0, rfl, rfl, ops_nil _, hB1⟩
 | ok r =>
 obtain ⟨lE, bE⟩ := r
 obtain ⟨rfl, rfl⟩ : bs = bE.reverse ∧ er = 0 := by
  have h := HV.out
  unfold undoO at h
  rw [if_pos OK.out, hru] at h
  cases h
  exact ⟨rfl, rfl⟩
 obtain rfl : e' = 0 := by
  have h := HA.out
  unfold applyO at h
  rw [if_pos OK.out, hru] at h
  cases h
  rfl
 have RUNE := Lib.hid hru
 clear hru HV HA
 have hn1s : n1 ≤ 100 := by rw [← HN1.out]; exact OK.out.2.1
 have F0 : Feats2 w w1 (.slice ad n c) l := H0.out.two hB1
 have hsz1 := hB1.size
 rw [← HN.out] at F0 ⊢
 go_wp2_with fail
 go_loopw [9, 10, 11] (fun s a i wr => ∃ (k : Nat) (ad' : Option Addr) (c' : Nat) (m : List Feat) (ad2 : Option Addr) (c2 : Nat) (cs : List Opn), k ≤ n1 ∧ s = .slice ad' m.length c' ∧ a = .slice ad2 cs.length c2 ∧ i = .int .i64 k ∧ Hid (runO l (ops.take k) = .ok (m, cs.reverse)) ∧ Feats2 w wr (.slice ad' m.length c') m ∧ OwnOs w.heap.size w wr (.slice ad2 cs.length c2) cs ∧ Below w.heap.size w wr) (fun _ _ i _ => n1 - cntV i)
 case atStart => exact ⟨0, ad, c, l, none, 0, [], Nat.zero_le _, rfl, rfl, rfl, Lib.hid rfl, F0, OwnOs.nil _ _ _, hB1⟩
 case round =>
  clear F0 hB1 hsz1
  obtain ⟨k, ad', c', m, ad2, c2, cs, hk, rfl, rfl, rfl, RN, hst, how, hb⟩ := hrel
  have hFM := (run_acts (ops.take k) OK.out.1 (fun o ho => FORMS.out o (List.mem_of_mem_take ho)) RN.out).1
  have FM := Lib.hid hFM
  have hml : m.length ≤ 300 := hFM.1
  have hcl : cs.length = k := by
   have h := run_okLen RN.out
   rw [List.length_reverse, List.length_take, HN1.out] at h
   omega
  have CL := Lib.hid hcl
  clear hcl
  have OW := Lib.hid how
  have ST := Lib.hid hst
  clear hFM how hst
  rcases Nat.lt_or_ge k n1 with hlt | hge
  rotate_left
  · have hkn : k = n1 := by omega
    subst hkn
    have EB : Hid (bE.reverse = cs) := Lib.hid (by
     have hr := RN.out
     rw [List.take_of_length_le (by rw [HN1.out]; exact Nat.le_refl _), RUNE.out] at hr
     cases hr
     rw [List.reverse_reverse])
    go_wp2_with fail
    go_returns
    rw [EB.out]
    exact ⟨ad2, _, c2, rfl, rfl, OW.out.ops hb (by rw [CL.out]; omega), hb⟩
  obtain ⟨g, o, va, vs, rfl, fc0⟩ := H1.out.row hlt
  obtain ⟨p, hp⟩ : ∃ p, ops.getD k noOpn = p := ⟨_, rfl⟩
  rw [hp] at fc0
  have hko : k < ops.length := by rw [HN1.out]; exact hlt
  have PF : Hid (OpForm p) := Lib.hid (FORMS.out p (by rw [← hp]; exact getD_memD hko noOpn))
  obtain ⟨m2, b, hdo⟩ : ∃ m2 b, doO m p = .ok (m2, b) := by
   cases hd : doO m p with
   | ok r => obtain ⟨m2, b⟩ := r; exact ⟨m2, b, rfl⟩
   | error e2 =>
     have := run_stop hko RN.out (by rw [hp]; exact hd)
     rw [RUNE.out] at this
     cases this
  have DE : Hid (doE m p = (m2, 0)) := Lib.hid (by unfold doE; rw [hdo])
  have BK : Hid (backE m p = b) := Lib.hid (backE_eq PF.out hdo)
  have SN : Hid (runO l (ops.take (k + 1)) = .ok (m2, (b :: cs).reverse)) := Lib.hid (by rw [List.reverse_cons]; exact run_snoc hko RN.out (by rw [hp]; exact hdo))
  have K15 : Hid (1 ≤ p.kind ∧ p.kind ≤ 5) := Lib.hid (by
   have h := PF.out
   cases h <;> simp [insO, delO, movO, depO, symO])
  have LKS : Hid (p.kind ≠ 1 → ∃ f, look m p.id = some f) := Lib.hid (fun h => by
   unfold doO at hdo
   rw [if_neg h] at hdo
   split at hdo
   · cases hdo
   · next f hf => exact ⟨f, hf⟩)
  have HPA := Lib.hid fc0.parts
  obtain ⟨aa, ca, ab, cb, rfl, rfl⟩ := fc0.parts.form
  have FC := Lib.hid fc0
  have RG := Lib.hid (fc0.later hb).range
  clear fc0 hp hko hdo RN
  go_wp2_with (first | (refine wpList_load_mid rfl _ _ rfl g (o + k * 16) rfl [.int .i64 p.kind, .int .i64 p.id, .int .i64 p.feat.id, .int .i64 p.feat.kind, .int .i64 p.feat.x, .int .i64 p.feat.y, .int .i64 p.feat.rad, .slice aa p.feat.area.length ca, .int .i64 p.feat.dep, .int .i64 p.feat.sym, .slice ab p.feat.secs.length cb, .int .i64 p.x, .int .i64 p.y, .int .i64 p.rad, .int .i64 p.dep, .int .i64 p.sym] _ RG.out Tryz.underlying34 rfl (by kernel_rfl) ?_))
  (with_reducible refine (q17Back_any m p _ _ _ w wr ST.out HPA.out K15.out LKS.out).mono ?_)
  rw [BK.out]
  rintro e w5 ⟨ua, us, rfl, hub, hb5⟩
  have hB5 := below_step hb hb5
  obtain ⟨uaa, uca, uab, ucb, rfl, rfl⟩ := hub.form
  have UB := Lib.hid hub
  have hs5 := hb5.size
  have hsr := hb.size
  obtain ⟨its, hits, hird, hisr⟩ := ops_items ((OW.out.ops hb (by rw [CL.out]; omega)).later hb5)
  obtain ⟨items, hit, hrd, hsrc⟩ : ∃ items : List OItem, items.map Prod.fst = cs ∧ OReads w items ∧ SrcAt opCells w5 ad2 items := by
   obtain ⟨is, e1, e2, e3⟩ := OW.out
   exact ⟨is, e1, e3, SrcAt.own (own_keep e2 hb5)⟩
  have IT := Lib.hid hit
  have RD := Lib.hid hrd
  have SR := Lib.hid hsrc
  clear its hits hird hisr hit hrd hsrc hub
  go_wp2_with (first | (refine wpList_appO rfl _ _ rfl w5.heap.size w _ [b] cs rfl (OwnOs.own1 (block_new _ _) (Nat.le_refl _) UB.out) _ _ _ rfl items IT.out rfl RD.out (SR.out.later ((Below.refl _ _).alloc (Nat.le_refl _) _)) (N := cs.length + 1) (by rw [List.length_singleton]; omega) (by rw [CL.out]; omega) (by simp only [World.size_alloc]; omega) ?_; intro ad6 c6 w6 how6 hgr hb6; have hB6w : Below w5.heap.size w5 w6 := ((Below.refl _ _).alloc (Nat.le_refl _) _).trans hb6; have hR6 : Below wr.heap.size wr w6 := below_step hb5 hB6w; have RG6 := Lib.hid (FC.out.later (hb.trans (hR6.mono hsr))).range; clear RG) | (refine wpList_load_mid rfl _ _ rfl g (o + k * 16) rfl [.int .i64 p.kind, .int .i64 p.id, .int .i64 p.feat.id, .int .i64 p.feat.kind, .int .i64 p.feat.x, .int .i64 p.feat.y, .int .i64 p.feat.rad, .slice aa p.feat.area.length ca, .int .i64 p.feat.dep, .int .i64 p.feat.sym, .slice ab p.feat.secs.length cb, .int .i64 p.x, .int .i64 p.y, .int .i64 p.rad, .int .i64 p.dep, .int .i64 p.sym] _ RG6.out Tryz.underlying34 rfl (by kernel_rfl) ?_))
  have hB6 := below_step hb hR6
  (with_reducible refine (q17Do_any m p _ _ _ w w6 (ST.out.later hR6) HPA.out hB6 FM.out PF.out DE.out).mono ?_)
  rintro e w7 ⟨ad7, c7, rfl, how7, hb7⟩
  have hB7 := below_step hB6 hb7
  have F7 := Lib.hid (how7.two hB7 (by have h := (run_acts (ops.take (k + 1)) OK.out.1 (fun o ho => FORMS.out o (List.mem_of_mem_take ho)) SN.out).1.1; omega))
  have O7 := Lib.hid ((OwnOs.monoB how6 (by omega : w.heap.size ≤ w5.heap.size)).keep hb7)
  clear how7 how6 hb7 hgr hb6
  go_wp2_with fail
  go_roundw
  case rel => exact ⟨k + 1, ad7, c7, m2, ad6, c6, b :: cs, by omega, rfl, rfl, by go_num, SN, F7.out, O7.out, hB7⟩
  case measure => simp [cntV]; omega
end Go.Proofs.YtdmegkkifiahdaaGreat
