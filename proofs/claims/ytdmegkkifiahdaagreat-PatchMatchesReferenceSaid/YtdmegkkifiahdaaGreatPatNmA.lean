import Derived.Test.YtdmegkkifiahdaaGreatPNP
namespace Go.Proofs.YtdmegkkifiahdaaGreat
open Go.RowKit Go.Shelf Go.Maps
attribute [local go_sem] bqOp bqAll bqUpon sqOp sqAll sqUpon ssAll
attribute [local irreducible] wpQuiet wpBQ wpPlan wsPlan
attribute [local go_sem] Oper.semAt_some
set_option linter.unusedVariables false
def OutI (ops : List Opn) (ids : List Int) (w w1 : World) (ad ad1 : Option Addr) (n c n1 c1 : Nat) (a' : Act) (wr : World) : Prop := ∃ (ds : List Deferred) (k : Nat) (a6 : Option Addr) (m6 c6 : Nat) (a7 : Option Addr) (m7 c7 : Nat), k ≤ n1 ∧ NmI ops ids w w1 k (.slice a6 m6 c6) (.slice a7 m7 c7) ds wr ∧ (slotOf a'.tmps 6 = .slice a6 m6 c6 ∧ slotOf a'.tmps 7 = .slice a7 m7 c7 ∧ slotOf a'.tmps 24 = .int .i64 k) ∧ a' = { tmps := #[.slice ad n c, undef, .pointer (some ⟨w.heap.size, 0, none⟩), .pointer (some ⟨w.heap.size + 1, 0, none⟩), .slice ad1 n1 c1, .int .i64 0, slotOf a'.tmps 6, slotOf a'.tmps 7, undef, slotOf a'.tmps 9, slotOf a'.tmps 10, undef, undef, slotOf a'.tmps 13, .tuple #[.slice ad1 n1 c1, .int .i64 0], .slice ad n c, .tuple #[.slice ad1 n1 c1, .int .i64 0], .slice ad1 n1 c1, .int .i64 0, .int .i64 0, .bool false, undef, .slice ad1 n1 c1, .int .i64 n1, slotOf a'.tmps 24, slotOf a'.tmps 25, slotOf a'.tmps 26, slotOf a'.tmps 27, slotOf a'.tmps 28, slotOf a'.tmps 29, slotOf a'.tmps 30, slotOf a'.tmps 31, slotOf a'.tmps 32, slotOf a'.tmps 33, undef, undef, undef, undef, undef, slotOf a'.tmps 39, slotOf a'.tmps 40, slotOf a'.tmps 41, slotOf a'.tmps 42, slotOf a'.tmps 43, slotOf a'.tmps 44, slotOf a'.tmps 45, slotOf a'.tmps 46, slotOf a'.tmps 47, slotOf a'.tmps 48, slotOf a'.tmps 49, slotOf a'.tmps 50, slotOf a'.tmps 51, slotOf a'.tmps 52, slotOf a'.tmps 53, slotOf a'.tmps 54, slotOf a'.tmps 55, slotOf a'.tmps 56, slotOf a'.tmps 57, slotOf a'.tmps 58, slotOf a'.tmps 59, slotOf a'.tmps 60, slotOf a'.tmps 61, slotOf a'.tmps 62, slotOf a'.tmps 63, slotOf a'.tmps 64, slotOf a'.tmps 65, slotOf a'.tmps 66, slotOf a'.tmps 67, slotOf a'.tmps 68, slotOf a'.tmps 69, slotOf a'.tmps 70, slotOf a'.tmps 71, slotOf a'.tmps 72, slotOf a'.tmps 73, slotOf a'.tmps 74, slotOf a'.tmps 75, slotOf a'.tmps 76, slotOf a'.tmps 77, slotOf a'.tmps 78, slotOf a'.tmps 79, slotOf a'.tmps 80, slotOf a'.tmps 81, slotOf a'.tmps 82, slotOf a'.tmps 83, slotOf a'.tmps 84, slotOf a'.tmps 85, slotOf a'.tmps 86, slotOf a'.tmps 87, slotOf a'.tmps 88, slotOf a'.tmps 89, slotOf a'.tmps 90, slotOf a'.tmps 91, slotOf a'.tmps 92, slotOf a'.tmps 93, slotOf a'.tmps 94, slotOf a'.tmps 95, slotOf a'.tmps 96, slotOf a'.tmps 97, slotOf a'.tmps 98, slotOf a'.tmps 99, slotOf a'.tmps 100, undef, undef, undef], defers := ds }
set_option maxHeartbeats 4000000 in
theorem paNormal_yes (ops : List Opn) (v0 : Value) (w : World) (h : OpsAt w v0 ops) (hlen : ops.length ≤ 100) (ho : ∀ o ∈ ops, OpOk o) : Calls Tryz.prog 22 #[v0] w (NormP ops w) := by
 obtain ⟨ad, c, rfl, k1, hn1, _⟩ := h.form
 obtain ⟨items, hit, hrd, hsr⟩ := ops_items k1
 have H1 := Lib.hid k1
 obtain ⟨n, hln⟩ : ∃ n, ops.length = n := ⟨_, rfl⟩
 rw [hln] at H1 hn1 hlen
 have OK := Lib.hid ho
 rw [hln]
 have HL1 := Lib.hid hln
 have IT := Lib.hid hit
 have RD := Lib.hid hrd
 have SR := Lib.hid hsr
 have IL := Lib.hid (show items.length = n by rw [← hln, ← hit, List.length_map])
 clear h k1 ho hln hit hrd hsr
 have hmm := @run_makeMap Tryz.prog
 refine (callsIn_wide (n := 6)).1 ?_
 refine callsIn_of_wp_marks Tryz.func22 rfl trivial ?_ rfl
 simp only [Tryz.ntmps22, List.append_toArray, List.cons_append, List.nil_append, List.size_toArray, List.length_cons, List.length_nil, Nat.reduceAdd, Nat.reduceSub, Array.replicate_succ, Array.replicate_zero, List.push_toArray]
 refine wpIn_wide.2 ?_
 go_wp2_with fail
 refine calls_named fun Wa hWa => ?_
 obtain ⟨b1, b2, hBa⟩ := box2 hWa
 have hsa : Wa.heap.size = w.heap.size + 2 := by subst hWa; simp
 clear hWa
 have H1a : OpsAt Wa (.slice ad n c) ops := H1.out.later hBa
 refine (paTouch_yes ops _ Wa H1a (by rw [HL1.out]; omega) OK.out).mono ?_
 rintro e w1 ⟨ad1, n1, c1, ids, hl1, ht, rfl, hint, hb1⟩
 have T0 := Lib.hid ht
 have hn9 : n1 ≤ 9223372036854775807 := by
  obtain ⟨_, _, _, _, h9, _⟩ := hint.form
  omega
 have IDS : Hid (Rows 1 w1 (.slice ad1 n1 c1) n1 (fun i _ => ids.getD i 0)) := Lib.hid (by have h := hint.rows; rwa [hl1] at h)
 have LEN := Lib.hid hl1
 have B1 := Lib.hid (block_later hb1 b1)
 have B2 := Lib.hid (block_later hb1 b2)
 have BW := Lib.hid (below_step hBa hb1)
 have hs1 := hb1.size
 clear ht hint hl1 b1 b2 hBa hb1 H1a
 go_wp2_with fail
 refine wp_loop (OutI ops ids w w1 ad ad1 n c n1 c1) (fun a' wr => n1 - cntV (slotOf a'.tmps 24)) ?_ ?_
 · refine ⟨[], 0, none, 0, 0, none, 0, 0, by omega, ⟨Below.refl _ _, OwnOs.nil _ _ _, OwnOs.nil _ _ _, fun j hj => by simp [Value.ownBlock] at hj, Colls.nil _ _, fun id hid => by simp at hid⟩, ⟨rfl, rfl, rfl⟩, rfl⟩
 · rintro a' wr ⟨ds, k, a6, m6, c6, a7, m7, c7, hk, hI, ⟨h6, h7, h24⟩, ha⟩
   obtain ⟨ts, hts⟩ : ∃ ts, ts = a'.tmps := ⟨_, rfl⟩
   rw [← hts] at ha h6 h7 h24
   rw [h6, h7, h24] at ha
   subst ha
   clear hts
   have INV := Lib.hid hI
   clear hI
   rcases Nat.lt_or_ge k n1 with hlt | hge
   rotate_left
   · obtain rfl : k = n1 := by omega
     have hbw := INV.out.1
     have hsw := hbw.size
     obtain ⟨_, l6, l7, _, cl, hall⟩ := INV.out
     have hy : SaysAll ids ops := fun id hid => hall id (by rw [List.take_of_length_le (by rw [LEN.out]; omega)]; exact hid)
     have HY := Lib.hid hy
     have L6H := l6.len
     have L7H := l7.len
     have LB := nm_len OK.out T0.out (by rw [HL1.out]; omega) k
     rw [L6H, L7H] at LB
     obtain ⟨it7, e7, ow7, rd7⟩ := l7
     have CL := Lib.hid cl
     have L6 := Lib.hid l6
     have E7 := Lib.hid e7
     have OW7 := Lib.hid ow7
     have RD7 := Lib.hid rd7
     have L6L := Lib.hid L6H
     have L7L := Lib.hid L7H
     obtain ⟨lb6, lb7⟩ := LB
     clear l6 cl hall hy e7 ow7 rd7 L6H L7H
     go_wp2_with (first
      | (refine wpList_appO_at rfl _ _ rfl w1.heap.size w _ ((ids.take k).flatMap fun id => delsS id (sayD id ops)) ((ids.take k).flatMap fun id => othersS id (sayD id ops)) rfl L6.out _ _ _ rfl it7 E7.out L7L.out RD7.out (own_src OW7.out (by rw [← L7L.out, ← E7.out, List.length_map])) (N := m6 + m7) (by rw [L6L.out]) (by omega) (by omega) ?_; intro ad5 c5 w5 how5 hgr5 hbl5 hat5
         have hb5 : Below w1.heap.size w1 w5 := hbw.trans hbl5
         have q2 := block_later (hb5.mono (Nat.le_refl _)) B1.out
         have q3 := block_later (hb5.mono (Nat.le_refl _)) B2.out
         have z0 := cell_block q2 0
         have z1 := free_block q2 0
         have z2 := cell_block q3 0
         have z3 := free_block q3 0
         have Q2 := Lib.hid q2
         have Q3 := Lib.hid q3
         have HOW := Lib.hid how5
         have HGR := Lib.hid hgr5
         have HBL := Lib.hid hb5
         clear how5 hgr5 hbl5 hat5 hb5 q2 q3))
     have hs5 := HBL.out.size
     have cs : ∀ (u : World) (b : Nat) (x : Value) (k : Nat), k ≠ b → (u.setCell ⟨b, 0, none⟩ x).heap[k]? = u.heap[k]? := fun u b x k h => Below.heap_setCell _ _ _ _ h
     refine leaves_colls (B := w1.heap.size) (ds := ds) (CL.out.same fun D hD hDd => ?_) fun w' hoff => ?_
     · rw [cs _ _ _ _ (by omega), cs _ _ _ _ (by omega)]
       exact HGR.out.block D (lt_block hDd) (fun e => by
        obtain ⟨o, h1, h2⟩ := L6.out.cells D e.symm
        rw [hDd] at h1; cases h1; cases h2)
     · have k2 := hoff.2.2 _ _ ((cs _ _ _ _ (by omega)).trans (block_set Q2.out (.slice ad5 (m6 + m7) c5))) rfl
       have k3 := hoff.2.2 _ _ (block_set ((cs _ _ (.slice ad5 (m6 + m7) c5) _ (by omega)).trans Q3.out) (.int .i64 0)) rfl
       have hc5 := cell_block k2 0
       have hc6 := cell_block k3 0
       have hbB := hoff.below (((below_step BW.out HBL.out).setCell (p := ⟨w.heap.size, 0, none⟩) (Nat.le_refl _) (.slice ad5 (m6 + m7) c5)).setCell (p := ⟨w.heap.size + 1, 0, none⟩) (by simp) (.int .i64 0)) (by omega)
       have tk : ∀ f : Int → List Opn, (ids.take k).flatMap f = ids.flatMap f := fun f => by rw [List.take_of_length_le (by rw [LEN.out]; omega)]
       have hlst := HOW.out.same (w' := w') fun j hj => by
        obtain ⟨o, h1, h2⟩ := HOW.out.cells j hj
        have h3 := HOW.out.lt j hj
        exact (hoff.2.2 j o ((cs _ _ _ _ (by omega)).trans ((cs _ _ _ _ (by omega)).trans h1)) h2).trans h1.symm
       have hln := hlst.len
       rw [tk, tk] at hlst hln
       refine ⟨.tuple #[.slice ad5 (m6 + m7) c5, .int .i64 0], by simp [results, Tryz.results22, go_sem, hc5, hc6], ids, T0.out, hbB, .inl ⟨HY.out, ad5, m6 + m7, c5, hln, rfl, hlst.ops hbB (by rw [hln]; omega)⟩⟩
   have hbw := INV.out.1
   have hsw := hbw.size
   obtain ⟨g, o, rfl, hcell⟩ := (IDS.out.later hbw).row hlt
   obtain ⟨id, hid⟩ : ∃ id, ids.getD k 0 = id := ⟨_, rfl⟩
   have hc0 := hcell 0 (by omega)
   simp only [Nat.mul_one, Nat.add_zero] at hc0
   rw [hid] at hc0
   have ID := Lib.hid hid
   clear hcell hid
   go_wp2_with fail
   refine (paof_any ad n c id _).mono ?_
   rintro e w' ⟨rfl, rfl⟩
   go_wp2_with fail
   generalize hW5 : (World.alloc _ _) = W5
   obtain ⟨p1, p2, p3, p4, p5, hB5⟩ := box5 hW5.symm
   have hs5 : W5.heap.size = wr.heap.size + 5 := by subst hW5; simp
   clear hW5
   simp only [Nat.add_assoc, Nat.reduceAdd] at p2 p3 p4 p5 ⊢
   have hbw5 : Below w.heap.size w W5 := below_step BW.out (below_step hbw hB5)
   have SD0 : Hid (HrI w W5 (wr.heap.size + 1) wr.heap.size items ([] : List (Fin n)) W5) := Lib.hid ⟨Wr2.of_below (Below.refl _ _), said0, rfl, .inr rfl, _, _, p2, PartsAt.zero _, by
    have h := FldM.made w wr said0 rfl rfl rfl
    exact h.keep (by rw [p1, block_new])⟩
   have P3 := Lib.hid p3
   have P1 := Lib.hid p1
   have HB5 := Lib.hid hB5
   have HW5 := Lib.hid hbw5
   have B15 := Lib.hid (block_later (below_step hbw hB5) B1.out)
   have B25 := Lib.hid (block_later (below_step hbw hB5) B2.out)
   clear p1 p2 p3 hB5 hbw5
   refine (wpIn_wide (n := 6)).1 ?_
   refine wpIn_rangeFunc_round (F := Fence.wide) (n := 6) rfl (by omega) (gf := 202) (lb := #[.pointer (some ⟨wr.heap.size + 3, 0, none⟩), .pointer (some ⟨wr.heap.size + 4, 0, none⟩)]) rfl trivial (enters_of Tryz.func202 (by kernel_rfl) rfl)
    (paof1_stops n c ad id items (wr.heap.size + 3) (wr.heap.size + 4) w.heap.size 5 (by omega) w W5 IL.out (by omega) RD.out SR.out HW5.out (Nat.le_refl _) (by omega) (by omega) (by omega) p4 p5)
    OfK.trans (ofK_b (by omega) (by omega) (by omega)) (Below.refl _ _) (fun _ => rfl)
    (fun pre W => HrI w W5 (wr.heap.size + 1) wr.heap.size items pre W) (fun c pre W => c = .ret ∧ HrX W5 w.heap.size (w.heap.size + 1) (wr.heap.size + 1) wr.heap.size items pre W)
    (hrI_own (Nat.le_refl _) (by omega) (by omega)) (fun c => OwnFrom.and (ownFrom_pure _ _) (hrX_own (Nat.le_refl _) (by omega) (by omega))) SD0.out ?round ?done ?stop
   case round =>
    rintro l pre x W hI
    have hsW := hI.1.size
    obtain ⟨px, hpx⟩ : ∃ px, items.getD x.1 noOItem = px := ⟨_, rfl⟩
    have hlx : x.1 < items.length := by have := IL.out; have := x.2; omega
    have hmx : px ∈ items := by rw [← hpx]; exact getD_memD hlx _
    have hx := RD.out _ hmx
    have hf := opForm (OK.out px.1 (by rw [← IT.out]; exact List.mem_map_of_mem hmx))
    obtain ⟨p, va, vs⟩ := px
    obtain ⟨fa, fc, fb, fd, hva, hvs⟩ := hx.form
    dsimp only at hva hvs hx hf
    subst hva hvs
    have HX := Lib.hid hx
    have HF := Lib.hid hf
    have HPX := Lib.hid hpx
    clear hx hf hmx hlx
    dsimp only [encO]
    rw [hpx]
    dsimp only
    clear hpx
    have HI := Lib.hid hI
    clear hI
    gi_wp2
    have hbl := (Below.refl W.heap.size W).alloc (Nat.le_refl _) (.cells #[.int .i64 p.kind, .int .i64 p.id, .int .i64 p.feat.id, .int .i64 p.feat.kind, .int .i64 p.feat.x, .int .i64 p.feat.y, .int .i64 p.feat.rad, .slice fa p.feat.area.length fc, .int .i64 p.feat.dep, .int .i64 p.feat.sym, .slice fb p.feat.secs.length fd, .int .i64 p.x, .int .i64 p.y, .int .i64 p.rad, .int .i64 p.dep, .int .i64 p.sym] 34)
    refine ⟨(KeepsOthers.alloc _ _).from _, OfK.of_below hbl (by omega) (by omega) (by omega), HI.out.later hbl, ?_⟩
    rintro l2 pre2 W2 hT hl2 hr2 hI2 hlen
    have bx := hT.cs (block_new W (.cells #[.int .i64 p.kind, .int .i64 p.id, .int .i64 p.feat.id, .int .i64 p.feat.kind, .int .i64 p.feat.x, .int .i64 p.feat.y, .int .i64 p.feat.rad, .slice fa p.feat.area.length fc, .int .i64 p.feat.dep, .int .i64 p.feat.sym, .slice fb p.feat.secs.length fd, .int .i64 p.x, .int .i64 p.y, .int .i64 p.rad, .int .i64 p.dep, .int .i64 p.sym] 34))
    obtain ⟨hw2, s, hsay, hsb, hsaid⟩ := hI2
    have hs2 := hw2.size
    have c3 := cell_block (hw2.block_ne P3.out (by omega) (by omega)) 0
    have bW2 : Below w.heap.size w W2 := HW5.out.trans (hw2.ofK (n₀ := w.heap.size) (Ba := wr.heap.size + 3) (Bi := wr.heap.size + 4) (by omega) (by omega) (by omega) (by omega) (by omega) (by omega) (by omega) (by omega) (by omega)).below
    have BX := Lib.hid bx
    have SAY := Lib.hid hsay
    have SAID := Lib.hid hsaid
    have W2R := Lib.hid hw2
    clear bx hsay hsaid hT hbl
    obtain ⟨v, hv⟩ : ∃ v, (hearS s p).2 = v := ⟨_, rfl⟩
    gi_wp2_with (first | (with_reducible refine wpListIn_load_row rfl 34 (.tmp 11) rfl W.heap.size rfl 34 _ _ _ BX.out Tryz.underlying34 rfl (by kernel_rfl) ?_))
    refine ⟨trivial, ?_⟩
    refine (CallsIn.inRound l2 (callsIn_wide.2 (pahear_any (wr.heap.size + 1) wr.heap.size pre2.length s p _ _ w W2 HF.out hsb SAID.out (by omega) HX.out bW2 (by omega)))).mono ?_
    rintro e w5 ⟨he, hsd, hwr2⟩
    rw [hv] at he
    subst he
    have V := Lib.hid hv
    have SD := Lib.hid hsd
    have WR := Lib.hid hwr2
    have hs5' := hwr2.size
    have SN : Hid (saysS ((pre2 ++ [x]).map (opAt items)) said0 = if v = true then some (hearS s p).1 else none) := Lib.hid (by
     rw [List.map_append, List.map_cons, List.map_nil, says_snoc, SAY.out, show opAt items x = p by unfold opAt; rw [HPX.out]]
     show (if (hearS s p).2 = true then some (hearS s p).1 else none) = _
     rw [V.out])
    have q2 := hwr2.block_ne (W2R.out.block_ne B15.out (by omega) (by omega)) (by omega) (by omega)
    have q3 := hwr2.block_ne (W2R.out.block_ne B25.out (by omega) (by omega)) (by omega) (by omega)
    have Q2 := Lib.hid q2
    have Q3 := Lib.hid q3
    have z0 := cell_block q2 0
    have z1 := free_block q2 0
    have z2 := cell_block q3 0
    have z3 := free_block q3 0
    clear hv hsd hwr2 q2 q3
    cases v
    · gi_wp2
      exact ⟨((WR.out.keeps (by omega) (by omega)).trans ((KeepsOthers.setCell _ _ _).from _)).trans ((KeepsOthers.setCell _ _ _).from _), rfl, hrX_mk (by rw [SN.out]; rfl) (W2R.out.trans ⟨WR.out.os, WR.out.tape, WR.out.output, WR.out.size, WR.out.block⟩) (by omega) Q2.out Q3.out⟩
    · gi_wp2
      refine ⟨WR.out.keeps (by omega) (by omega), WR.out.ofK (by omega) (by omega) (by omega) (by omega) (by omega) (by omega) (by omega) (by omega) (by omega), W2R.out.trans ?_, (hearS s p).1, SN.out, .inl (hear_begun s p), ?_⟩
      · exact ⟨WR.out.os, WR.out.tape, WR.out.output, WR.out.size, WR.out.block⟩
      · rw [List.length_append]
        exact SD.out V.out
   case done =>
    rintro D xs W hD rfl hI hdef
    obtain ⟨hw2, s, hsay, hsb, hsaid⟩ := hI
    have hop : (ofN id items n n).map (opAt items) = ofId id ops := ofN_ops id IL.out IT.out
    rw [hop] at hsay
    have hst : sayD id ops = s := by unfold sayD; rw [hsay]; rfl
    have hsW := hw2.size
    have KP : Hid (Kept s) := Lib.hid (hst ▸ sayD_kept id ops)
    have SOK : Hid ((saysS (ofId id ops) said0).isSome = true) := Lib.hid (by rw [hsay]; rfl)
    obtain ⟨va, vs, hparts, h7lt, hmd⟩ := mdI_start INV.out HB5.out hs5 P3.out hw2 hsaid hD hdef
    have ST := Lib.hid hst
    have MD := Lib.hid hmd
    have PA := Lib.hid hparts
    have LT7 := Lib.hid h7lt
    clear hop hst hsay hsb hsaid hdef hw2 hmd hparts h7lt
    have hkl : k < ids.length := by rw [LEN.out]; omega
    obtain ⟨begun, before, deleted, there, known, f, mv, dp, sy⟩ := s
    obtain ⟨fa, fc, fb, fd, hfa, hfb⟩ := PA.out.form
    subst hfa hfb
    dsimp only at PA
    obtain ⟨L6, hL6⟩ : ∃ L, L = (ids.take k).flatMap (fun id => delsS id (sayD id ops)) := ⟨_, rfl⟩
    obtain ⟨L7, hL7⟩ : ∃ L, L = (ids.take k).flatMap (fun id => othersS id (sayD id ops)) := ⟨_, rfl⟩
    have LB := nm_len OK.out T0.out (by rw [HL1.out]; omega) k
    rw [← hL6, ← hL7] at LB
    obtain ⟨lb6, lb7⟩ := LB
    rw [← hL6, ← hL7] at MD
    have L6L := Lib.hid MD.out.l6.len
    have L7L := Lib.hid MD.out.l7.len
    rw [MD.out.l6.len] at lb6
    rw [MD.out.l7.len] at lb7
    have HL6 := Lib.hid hL6
    have HL7 := Lib.hid hL7
    have LF := Lib.hid (others_len OK.out T0.out (by rw [HL1.out]; omega) id).2
    obtain ⟨nn, hnn⟩ : ∃ nn, (ofN id items n n).length = nn := ⟨_, rfl⟩
    rw [hnn] at MD
    have NN : Hid (nn ≤ 100) := Lib.hid (by rw [← hnn]; have := ofN_len id items (Nat.le_refl n); omega)
    clear hL6 hL7 hnn
    have x10 := cell_block MD.out.box 0
    have q : W.heap[wr.heap.size + 1]? = some (.cells #[.bool begun, .bool before, .bool deleted, .bool there, .bool known, .int .i64 f.id, .int .i64 f.kind, .int .i64 f.x, .int .i64 f.y, .int .i64 f.rad, .slice fa f.area.length fc, .int .i64 f.dep, .int .i64 f.sym, .slice fb f.secs.length fd, .map (some wr.heap.size)] 117 (0, 0)) := MD.out.said
    have y1 := cell_block q 1
    have y2 := cell_block q 2
    have y3 := cell_block q 3
    have y4 := cell_block q 4
    have y14 := cell_block q 14
    have rg := World.rangeAt_of_block q 5 9
    have RG : Hid (W.rangeAt (wr.heap.size + 1) 5 [.int .i64 f.id, .int .i64 f.kind, .int .i64 f.x, .int .i64 f.y, .int .i64 f.rad, .slice fa f.area.length fc, .int .i64 f.dep, .int .i64 f.sym, .slice fb f.secs.length fd]) := Lib.hid rg
    clear q rg
    cases before
    · skip
      cases there
      · skip
        go_wp2_with fail
        refine ⟨⟨_, k + 1, _, _, _, _, _, _, by omega, MD.out.end_ ID.out hkl (by rw [ST.out, dels_f, HL6.out, List.append_nil]) (by rw [ST.out, others_f, HL7.out, List.append_nil]) INV.out.2.2.2.2.2 SOK.out, ⟨rfl, rfl, by show Value.int _ _ = _; go_num⟩, rfl⟩, by simp [slotOf, cntV]; omega⟩
      · cases known
        · skip
          exact absurd (show false = true from (KP.out rfl rfl).1) (by decide)
        · skip
          go_wp2_with (first
           | (with_reducible refine wpList_load_mid rfl 32 (.tmp 69) rfl (wr.heap.size + 1) 5 rfl _ _ RG.out Tryz.underlying32 rfl (by kernel_rfl) ?_)
           | (refine wpList_appO_at rfl _ _ rfl w1.heap.size w _ L7 [⟨1, id, f, 0, 0, 0, 0, 0⟩] rfl (MD.out.later ((Below.refl W.heap.size W).alloc (Nat.le_refl _) _)).l7 _ _ _ rfl [(⟨1, id, f, 0, 0, 0, 0, 0⟩, .slice fa f.area.length fc, .slice fb f.secs.length fd)] rfl rfl (fun x hx => by obtain rfl := List.mem_singleton.1 hx; exact PA.out) (SrcAt.one (block_new W _) rfl) (N := m7 + 1) (by rw [L7L.out]) (by omega) (by simp only [World.size_alloc]; omega) ?_; intro ad7 c7' w7 how7 hgr7 hbl7 hat7; have MD7 := Lib.hid ((MD.out.later ((Below.refl W.heap.size W).alloc (Nat.le_refl _) _)).app7 how7 hgr7 hbl7 hat7); clear how7 hgr7 hbl7 hat7))
          refine ⟨⟨_, k + 1, _, _, _, _, _, _, by omega, MD7.out.end_ ID.out hkl (by rw [ST.out, dels_f, HL6.out, List.append_nil]) (by rw [ST.out, others_tt, HL7.out]) INV.out.2.2.2.2.2 SOK.out, ⟨rfl, rfl, by show Value.int _ _ = _; go_num⟩, rfl⟩, by simp [slotOf, cntV]; omega⟩
    · cases deleted
      · skip
        cases there
        · skip
          go_wp2_with fail
          refine ⟨⟨_, k + 1, _, _, _, _, _, _, by omega, MD.out.end_ ID.out hkl (by rw [ST.out, dels_tf, HL6.out, List.append_nil]) (by rw [ST.out, others_f, HL7.out, List.append_nil]) INV.out.2.2.2.2.2 SOK.out, ⟨rfl, rfl, by show Value.int _ _ = _; go_num⟩, rfl⟩, by simp [slotOf, cntV]; omega⟩
        · cases known
          · skip
            go_wp2_with fail
            refine (keysO_any _ _).mono ?_
            rintro e w' ⟨rfl, rfl⟩
            go_wp2_with fail
            obtain ⟨DD, hown, hszD, hperm⟩ := fld_keys MD.out.fld
            refine (sortedO_any wr.heap.size nn DD heldV W hown (by have := NN.out; unfold maxLen; omega) (by have := NN.out; omega)).mono ?_
            rintro e w2 ⟨v, ss, rfl, hp, hrow, hnil, hb2⟩
            have hks := hperm ss hp
            obtain ⟨F, hF1, hF2⟩ := fields_kinds ⟨begun, true, false, true, false, f, mv, dp, sy⟩
            have hmk := mem_kinds ⟨begun, true, false, true, false, f, mv, dp, sy⟩
            have hkl3 : (kindsS ⟨begun, true, false, true, false, f, mv, dp, sy⟩).length ≤ 3 := by unfold kindsS; cases mv <;> cases dp <;> cases sy <;> simp
            obtain ⟨KS, hKS⟩ : ∃ KS, kindsS ⟨begun, true, false, true, false, f, mv, dp, sy⟩ = KS := ⟨_, rfl⟩
            rw [hKS] at hks hF1 hF2 hmk hkl3
            obtain ⟨nK, hnK⟩ : ∃ nK, KS.length = nK := ⟨_, rfl⟩
            rw [hnK] at hkl3
            have hsl : ss.length = nK := by rw [← hnK, ← hks, List.length_mergeSort]
            rw [show ss.mergeSort (fun x y => decide (x ≤ y)) = KS from hks, hsl, World.size_alloc] at hrow
            have hB2 : Below W.heap.size W w2 := ((Below.refl _ _).alloc (Nat.le_refl _) _).trans (hb2.mono (by simp only [World.size_alloc]; omega))
            have hsz2 := hB2.size
            obtain ⟨adk, ck, rfl⟩ := owns_form hrow
            have HBLT : Hid (∀ j, (Value.slice adk nK ck).ownBlock = some j → j < w2.heap.size) := Lib.hid (fun j hj => by obtain ⟨o, ho, _⟩ := own_cells hrow j hj; exact lt_block ho)
            have MD2 := Lib.hid ((MD.out.later hB2).raise LT7.out (hi' := w2.heap.size) (by omega) (Nat.le_refl _))
            have KM : Hid (∀ kx ∈ KS, FldK kx ∧ fldS ⟨begun, true, false, true, false, f, mv, dp, sy⟩ kx = some (F kx)) := Lib.hid (fun kx hkx => ⟨((hmk kx).1 hkx).1, hF2 kx hkx⟩)
            have FK := Lib.hid hF1
            have KL := Lib.hid hnK
            have ROW2 := Lib.hid hrow
            clear hown hszD hperm hp hrow hnil hb2 hks hF1 hF2 hmk hKS hnK hsl hB2
            obtain ⟨wo, rfl⟩ : ∃ wo : World, wo = wr := ⟨_, rfl⟩
            go_wp2_with fail
            go_loopw [7, 86] (fun o i wq => ∃ (j : Nat) (a8 : Option Addr) (c8 : Nat), j ≤ nK ∧ i = .int .i64 j ∧ o = .slice a8 (m7 + j) c8 ∧ MdI w w1 wo.heap.size (wo.heap.size + 1) (wo.heap.size + 2) w2.heap.size nn ⟨begun, true, false, true, false, f, mv, dp, sy⟩ (.slice fa f.area.length fc) (.slice fb f.secs.length fd) L6 (L7 ++ (KS.take j).map F) (.slice a6 m6 c6) (.slice a8 (m7 + j) c8) ({ target := .collected D, args := #[] } :: ds) wq ∧ wq.ownsRow (W.heap.size + 1) 3 1 (.slice adk nK ck) nK (KS.map encZ)) (fun _ i _ => nK - cntV i)
            case atStart => exact ⟨0, _, _, by omega, rfl, rfl, by rw [List.take_zero, List.map_nil, List.append_nil]; exact MD2.out, ROW2.out⟩
            case round =>
             obtain ⟨j, a8, c8, hj, rfl, rfl, hmd, hrw⟩ := hrel
             have MR := Lib.hid hmd
             have ROW := Lib.hid hrw
             clear hmd hrw MD2 ROW2
             rcases Nat.lt_or_ge j nK with hlj | hgj
             rotate_left
             · obtain rfl : j = nK := by omega
               have TA : Hid (KS.take j = KS) := Lib.hid (List.take_of_length_le (by have := KL.out; omega))
               go_wp2_with fail
               refine ⟨⟨_, k + 1, _, _, _, _, _, _, by omega, MR.out.end_ ID.out hkl (by rw [ST.out, dels_tf, HL6.out, List.append_nil]) (by rw [ST.out, others_tf, FK.out, HL7.out, TA.out]) INV.out.2.2.2.2.2 SOK.out, ⟨rfl, rfl, by show Value.int _ _ = _; go_num⟩, rfl⟩, by simp [slotOf, cntV]; omega⟩
             have hRows := (ints_own ROW.out KL.out (by omega)).rows
             rw [KL.out] at hRows
             obtain ⟨g5, o5, rfl, hcell⟩ := hRows.row hlj
             have c5 := hcell 0 (by omega)
             rw [Nat.mul_one, Nat.add_zero] at c5
             have hlk : j < KS.length := by have := KL.out; omega
             obtain ⟨kx, hkx⟩ : ∃ kx, KS.getD j 0 = kx := ⟨_, rfl⟩
             have hkm : kx ∈ KS := by rw [← hkx]; exact getD_memD hlk _
             rw [hkx] at c5
             have KX := Lib.hid (KM.out kx hkm)
             have TK : Hid ((KS.take j).map F ++ [F kx] = (KS.take (j + 1)).map F) := Lib.hid (by rw [take_snoc 0 hlk, hkx, List.map_append]; rfl)
             have LT : Hid ((L7 ++ (KS.take j).map F).length + 1 = m7 + j + 1) := Lib.hid (by rw [List.length_append, L7L.out, List.length_map, List.length_take, Nat.min_eq_left (by omega)])
             have x10' := cell_block MR.out.box 0
             have q' : wr.heap[wo.heap.size + 1]? = some (.cells #[.bool begun, .bool true, .bool false, .bool true, .bool false, .int .i64 f.id, .int .i64 f.kind, .int .i64 f.x, .int .i64 f.y, .int .i64 f.rad, .slice fa f.area.length fc, .int .i64 f.dep, .int .i64 f.sym, .slice fb f.secs.length fd, .map (some wo.heap.size)] 117 (0, 0)) := MR.out.said
             have y14' := cell_block q' 14
             have hwr := MR.out.hhi
             clear hRows hcell hkx hkm q' hlk
             go_wp2_with (first
              | (refine wpList_fldLook rfl _ _ _ rfl Tryz.underlying115 rfl rfl MR.out.fld KX.out.1 KX.out.2 ?_; intro va2 vs2 hp2; have HP2 := Lib.hid hp2; obtain ⟨ga, gc, gb, gd, rfl, rfl⟩ := hp2.form; clear hp2)
              | (refine wpList_appO_at rfl _ _ rfl w1.heap.size w _ (L7 ++ (KS.take j).map F) [F kx] rfl (MR.out.later ((Below.refl wr.heap.size wr).alloc (Nat.le_refl _) _)).l7 _ _ _ rfl [(F kx, .slice ga (F kx).feat.area.length gc, .slice gb (F kx).feat.secs.length gd)] rfl rfl (fun x hx => by obtain rfl := List.mem_singleton.1 hx; exact HP2.out) (SrcAt.one (block_new wr _) rfl) (N := m7 + j + 1) LT.out (by omega) (by simp only [World.size_alloc]; omega) ?_; intro ad7 c7' w7 how7 hgr7 hbl7 hat7; have MD7 := Lib.hid ((MR.out.later ((Below.refl wr.heap.size wr).alloc (Nat.le_refl _) _)).app7 how7 hgr7 hbl7 hat7); have ROW7 := Lib.hid ((MR.out.later ((Below.refl wr.heap.size wr).alloc (Nat.le_refl _) _)).kinds hgr7 (row_later ROW.out ((Below.refl wr.heap.size wr).alloc (Nat.le_refl _) _)) (by omega) HBLT.out); clear how7 hgr7 hbl7 hat7))
             go_roundw
             case rel => exact ⟨j + 1, ad7, c7', by omega, by go_num, rfl, by rw [← TK.out, ← List.append_assoc]; exact MD7.out, ROW7.out⟩
             case measure => simp [cntV]; omega
          · skip
            go_wp2_with (first
             | (with_reducible refine wpList_load_mid rfl 32 (.tmp 69) rfl (wr.heap.size + 1) 5 rfl _ _ RG.out Tryz.underlying32 rfl (by kernel_rfl) ?_)
             | (refine wpList_appO_at rfl _ _ rfl w1.heap.size w _ L7 [⟨1, id, f, 0, 0, 0, 0, 0⟩] rfl (MD.out.later ((Below.refl W.heap.size W).alloc (Nat.le_refl _) _)).l7 _ _ _ rfl [(⟨1, id, f, 0, 0, 0, 0, 0⟩, .slice fa f.area.length fc, .slice fb f.secs.length fd)] rfl rfl (fun x hx => by obtain rfl := List.mem_singleton.1 hx; exact PA.out) (SrcAt.one (block_new W _) rfl) (N := m7 + 1) (by rw [L7L.out]) (by omega) (by simp only [World.size_alloc]; omega) ?_; intro ad7 c7' w7 how7 hgr7 hbl7 hat7; have MD7 := Lib.hid ((MD.out.later ((Below.refl W.heap.size W).alloc (Nat.le_refl _) _)).app7 how7 hgr7 hbl7 hat7); clear how7 hgr7 hbl7 hat7))
            refine ⟨⟨_, k + 1, _, _, _, _, _, _, by omega, MD7.out.end_ ID.out hkl (by rw [ST.out, dels_tf, HL6.out, List.append_nil]) (by rw [ST.out, others_tt, HL7.out]) INV.out.2.2.2.2.2 SOK.out, ⟨rfl, rfl, by show Value.int _ _ = _; go_num⟩, rfl⟩, by simp [slotOf, cntV]; omega⟩
      · skip
        cases there
        · skip
          go_wp2_with (first
           | (refine wpList_appO_at rfl _ _ rfl w1.heap.size w _ L6 [delO id] rfl (MD.out.later ((Below.refl W.heap.size W).alloc (Nat.le_refl _) _)).l6 _ _ _ rfl [(delO id, .slice none 0 0, .slice none 0 0)] rfl rfl (fun x hx => by obtain rfl := List.mem_singleton.1 hx; exact PartsAt.zero _) (SrcAt.one (block_new W _) rfl) (N := m6 + 1) (by rw [L6L.out]) (by omega) (by simp only [World.size_alloc]; omega) ?_; intro ad5 c5 w5 how5 hgr5 hbl5 hat5; have hb5s := hbl5.size; simp only [World.size_alloc] at hb5s; have MD5 := Lib.hid ((MD.out.later ((Below.refl W.heap.size W).alloc (Nat.le_refl _) _)).app6 how5 hgr5 hbl5 hat5); have x10' := cell_block MD5.out.box 0; have q' : w5.heap[wr.heap.size + 1]? = some (.cells #[.bool begun, .bool true, .bool true, .bool false, .bool known, .int .i64 f.id, .int .i64 f.kind, .int .i64 f.x, .int .i64 f.y, .int .i64 f.rad, .slice fa f.area.length fc, .int .i64 f.dep, .int .i64 f.sym, .slice fb f.secs.length fd, .map (some wr.heap.size)] 117 (0, 0)) := MD5.out.said; have y3' := cell_block q' 3; have y4' := cell_block q' 4; have y14' := cell_block q' 14; have rg' := World.rangeAt_of_block q' 5 9; have RG5 : Hid (w5.rangeAt (wr.heap.size + 1) 5 [.int .i64 f.id, .int .i64 f.kind, .int .i64 f.x, .int .i64 f.y, .int .i64 f.rad, .slice fa f.area.length fc, .int .i64 f.dep, .int .i64 f.sym, .slice fb f.secs.length fd]) := Lib.hid rg'; clear how5 hgr5 hbl5 hat5 q' rg'))
          refine ⟨⟨_, k + 1, _, _, _, _, _, _, by omega, MD5.out.end_ ID.out hkl (by rw [ST.out, dels_tt, HL6.out]) (by rw [ST.out, others_f, HL7.out, List.append_nil]) INV.out.2.2.2.2.2 SOK.out, ⟨rfl, rfl, by show Value.int _ _ = _; go_num⟩, rfl⟩, by simp [slotOf, cntV]; omega⟩
        · cases known
          · skip
            exact absurd (show true = false from (KP.out rfl rfl).2) (by decide)
          · skip
            go_wp2_with (first
             | (refine wpList_appO_at rfl _ _ rfl w1.heap.size w _ L6 [delO id] rfl (MD.out.later ((Below.refl W.heap.size W).alloc (Nat.le_refl _) _)).l6 _ _ _ rfl [(delO id, .slice none 0 0, .slice none 0 0)] rfl rfl (fun x hx => by obtain rfl := List.mem_singleton.1 hx; exact PartsAt.zero _) (SrcAt.one (block_new W _) rfl) (N := m6 + 1) (by rw [L6L.out]) (by omega) (by simp only [World.size_alloc]; omega) ?_; intro ad5 c5 w5 how5 hgr5 hbl5 hat5; have hb5s := hbl5.size; simp only [World.size_alloc] at hb5s; have MD5 := Lib.hid ((MD.out.later ((Below.refl W.heap.size W).alloc (Nat.le_refl _) _)).app6 how5 hgr5 hbl5 hat5); have x10' := cell_block MD5.out.box 0; have q' : w5.heap[wr.heap.size + 1]? = some (.cells #[.bool begun, .bool true, .bool true, .bool true, .bool true, .int .i64 f.id, .int .i64 f.kind, .int .i64 f.x, .int .i64 f.y, .int .i64 f.rad, .slice fa f.area.length fc, .int .i64 f.dep, .int .i64 f.sym, .slice fb f.secs.length fd, .map (some wr.heap.size)] 117 (0, 0)) := MD5.out.said; have y3' := cell_block q' 3; have y4' := cell_block q' 4; have y14' := cell_block q' 14; have rg' := World.rangeAt_of_block q' 5 9; have RG5 : Hid (w5.rangeAt (wr.heap.size + 1) 5 [.int .i64 f.id, .int .i64 f.kind, .int .i64 f.x, .int .i64 f.y, .int .i64 f.rad, .slice fa f.area.length fc, .int .i64 f.dep, .int .i64 f.sym, .slice fb f.secs.length fd]) := Lib.hid rg'; clear how5 hgr5 hbl5 hat5 q' rg')
             | (with_reducible refine wpList_load_mid rfl 32 (.tmp 69) rfl (wr.heap.size + 1) 5 rfl _ _ RG5.out Tryz.underlying32 rfl (by kernel_rfl) ?_)
             | (refine wpList_appO_at rfl _ _ rfl w1.heap.size w _ L7 [⟨1, id, f, 0, 0, 0, 0, 0⟩] rfl (MD5.out.later ((Below.refl w5.heap.size w5).alloc (Nat.le_refl _) _)).l7 _ _ _ rfl [(⟨1, id, f, 0, 0, 0, 0, 0⟩, .slice fa f.area.length fc, .slice fb f.secs.length fd)] rfl rfl (fun x hx => by obtain rfl := List.mem_singleton.1 hx; exact PA.out) (SrcAt.one (block_new w5 _) rfl) (N := m7 + 1) (by rw [L7L.out]) (by omega) (by simp only [World.size_alloc]; omega) ?_; intro ad7 c7' w7 how7 hgr7 hbl7 hat7; have MD7 := Lib.hid ((MD5.out.later ((Below.refl w5.heap.size w5).alloc (Nat.le_refl _) _)).app7 how7 hgr7 hbl7 hat7); clear how7 hgr7 hbl7 hat7))
            refine ⟨⟨_, k + 1, _, _, _, _, _, _, by omega, MD7.out.end_ ID.out hkl (by rw [ST.out, dels_tt, HL6.out]) (by rw [ST.out, others_tt, HL7.out]) INV.out.2.2.2.2.2 SOK.out, ⟨rfl, rfl, by show Value.int _ _ = _; go_num⟩, rfl⟩, by simp [slotOf, cntV]; omega⟩
   case stop =>
    rintro D cc pre W hD hpre ⟨rfl, hX⟩ hdef
    have CL := colls_stop INV.out HB5.out hs5 hX (by omega) (by omega) hD hdef
    have HX := Lib.hid hX
    clear hX hdef
    gi_wp2
    refine leaves_colls (B := w1.heap.size) CL fun w' hoff => ?_
    have hc5 := cell_block (hoff.2.2 _ _ HX.out.2.1 rfl) 0
    have hc6 := cell_block (hoff.2.2 _ _ HX.out.2.2.1 rfl) 0
    have hmem : id ∈ ids := by rw [← ID.out]; exact getD_memD (by rw [LEN.out]; omega) 0
    exact ⟨.tuple #[.slice none 0 0, .int .i64 6], by simp [results, Tryz.results22, go_sem, hc5, hc6], ids, T0.out, hoff.below (hrX_below HX.out HW5.out (by omega) (by omega) (by omega)) (by omega), .inr ⟨says_no IL.out IT.out hpre HX.out.1 hmem, rfl⟩⟩
end Go.Proofs.YtdmegkkifiahdaaGreat
