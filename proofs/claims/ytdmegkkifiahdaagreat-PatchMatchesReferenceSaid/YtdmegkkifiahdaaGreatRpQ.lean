import Derived.Test.YtdmegkkifiahdaaGreatRpO
import Derived.Test.YtdmegkkifiahdaaGreatRpN
import Derived.Test.YtdmegkkifiahdaaGreatPatDf
namespace Go.Proofs.YtdmegkkifiahdaaGreat
open Go.RowKit Go.Shelf
attribute [local go_sem] bqOp bqAll bqUpon sqOp sqAll sqUpon ssAll
attribute [local irreducible] wpQuiet wpBQ wpPlan wsPlan
set_option linter.unusedVariables false
def NewCut (a : List Feat) (f : Feat) (st : Bool) (v : Value) (n : Nat) (w : World) : Prop := (st = true → ∃ g : Feat, newF a f = fieldOps g f ∧ (fieldOps g f).length = n ∧ OpsAt w v (fieldOps g f)) ∧ (st = false → newF a f = [insO f])
set_option maxHeartbeats 16000000 in
set_option maxRecDepth 20000 in
theorem q17Diff_any (a b : List Feat) (v0 v1 : Value) (w : World) (h0 : FeatsAt w v0 a) (h1 : FeatsAt w v1 b) {os : List Opn} {er : Int} (hv : diffO a b = (os, er)) : Calls Tryz.prog 25 #[v0, v1] w (UndoP w os er) := by
 obtain ⟨ada, ca, rfl, k0, hna, _⟩ := h0.form
 obtain ⟨adb, cb, rfl, k1, hnb, _⟩ := h1.form
 have HA := Lib.hid k0
 have HB := Lib.hid k1
 have HV := Lib.hid hv
 obtain ⟨ua, hua⟩ : ∃ u, decide (FeatsOk a) = u := ⟨_, rfl⟩
 obtain ⟨ub, hub⟩ : ∃ u, decide (FeatsOk b) = u := ⟨_, rfl⟩
 have UA := Lib.hid hua
 have UB := Lib.hid hub
 obtain ⟨na, hla⟩ : ∃ n, a.length = n := ⟨_, rfl⟩
 obtain ⟨nb, hlb⟩ : ∃ n, b.length = n := ⟨_, rfl⟩
 rw [hla] at HA hna
 rw [hlb] at HB hnb
 rw [hla, hlb]
 have LA := Lib.hid hla
 have LB := Lib.hid hlb
 clear h0 h1 k0 k1 hv hua hub hla hlb
 go_enter Tryz.func25, Tryz.ntmps25
 go_wp2_with fail
 (with_reducible refine (q07List_any a _ _ HA.out UA.out).mono ?_)
 rintro e w1 ⟨rfl, hb1⟩
 go_wp2_with fail
 (with_reducible refine (q07List_any b _ _ (HB.out.later hb1) UB.out).mono ?_)
 rintro e w2 ⟨rfl, hb2⟩
 have C2 := Lib.hid (below_step hb1 hb2)
 clear hb1 hb2
 cases ua
 · have HX := Lib.hid (show ([] : List Opn) = os ∧ (1 : Int) = er by have h := HV.out; unfold diffO at h; rw [if_neg (fun h => of_decide_eq_false UA.out h.1)] at h; simp only [Prod.mk.injEq] at h; exact h)
   obtain ⟨rfl, rfl⟩ := HX.out
   go_wp2_with fail
   go_returns
   exact ⟨none, 0, 0, rfl, rfl, ops_nil _, C2.out⟩
 cases ub
 · have HX := Lib.hid (show ([] : List Opn) = os ∧ (1 : Int) = er by have h := HV.out; unfold diffO at h; rw [if_neg (fun h => of_decide_eq_false UB.out h.2)] at h; simp only [Prod.mk.injEq] at h; exact h)
   obtain ⟨rfl, rfl⟩ := HX.out
   go_wp2_with fail
   go_returns
   exact ⟨none, 0, 0, rfl, rfl, ops_nil _, C2.out⟩
 have OA := Lib.hid (of_decide_eq_true UA.out)
 have OB := Lib.hid (of_decide_eq_true UB.out)
 have HD : Hid ((if (diffL a b).length ≤ 100 then (diffL a b, (0 : Int)) else ([], 2)) = (os, er)) := Lib.hid (by have h := HV.out; unfold diffO at h; rwa [if_pos ⟨OA.out, OB.out⟩] at h)
 have DL : Hid (∀ k, ((a.take k).flatMap (goneF b)).length ≤ 300) := Lib.hid (fun k => flat_most2 (n := 1) (fun x hx => (gone_form (featsOk_mem OA.out x hx)).2) (featsOk_iff.1 OA.out).1)
 have NL : Hid (∀ k, ((b.take k).flatMap (newF a)).length ≤ 900) := Lib.hid (fun k => flat_most2 (n := 3) (fun x hx => (new_form (featsOk_mem OB.out x hx)).2) (featsOk_iff.1 OB.out).1)
 clear UA UB HV
 have hs2 := C2.out.size
 go_wp2_with fail
 go_loopw [8, 9] (fun out i wr => ∃ (k : Nat) (ad : Option Addr) (m c : Nat), k ≤ na ∧ i = .int .i64 k ∧ out = .slice ad m c ∧ Hid (((a.take k).flatMap (goneF b)).length = m) ∧ OwnOs w2.heap.size w wr (.slice ad m c) ((a.take k).flatMap (goneF b)) ∧ Below w2.heap.size w2 wr) (fun _ i _ => na - cntV i)
 case atStart => exact ⟨0, none, 0, 0, Nat.zero_le _, rfl, rfl, Lib.hid rfl, OwnOs.nil _ _ _, Below.refl _ _⟩
 case round =>
  obtain ⟨k, ad', m, c', hk, rfl, rfl, LE, how, hb⟩ := hrel
  have OW := Lib.hid how
  clear how
  rcases Nat.lt_or_ge k na with hlt | hge
  rotate_left
  · have hkn : na = k := by omega
    subst hkn
    have OW1 : Hid (OwnOs w2.heap.size w wr (.slice ad' m c') (a.flatMap (goneF b))) := Lib.hid (by have h := OW.out; rwa [List.take_of_length_le (by have := LA.out; omega)] at h)
    have LE1 : Hid ((a.flatMap (goneF b)).length = m) := Lib.hid (by have h := LE.out; rwa [List.take_of_length_le (by have := LA.out; omega)] at h)
    have DL1 : m ≤ 300 := by have h1 := LE.out; have h2 := DL.out na; omega
    clear OW LE
    go_wp2_with fail
    go_loopw [8, 12] (fun out i wr => ∃ (k : Nat) (ad : Option Addr) (m9 c : Nat), k ≤ nb ∧ i = .int .i64 k ∧ out = .slice ad m9 c ∧ Hid ((a.flatMap (goneF b) ++ (b.take k).flatMap (newF a)).length = m9) ∧ OwnOs w2.heap.size w wr (.slice ad m9 c) (a.flatMap (goneF b) ++ (b.take k).flatMap (newF a)) ∧ Below w2.heap.size w2 wr) (fun _ i _ => nb - cntV i)
    case atStart => exact ⟨0, ad', m, c', Nat.zero_le _, rfl, rfl, Lib.hid (by rw [List.take_zero, List.flatMap_nil, List.append_nil]; exact LE1.out), by rw [List.take_zero, List.flatMap_nil, List.append_nil]; exact OW1.out, hb⟩
    case round =>
     clear hk hb
     obtain ⟨k, ad9, m9, c9, hk, rfl, rfl, LE, how, hb⟩ := hrel
     have OW := Lib.hid how
     clear how
     have hm9 : m9 ≤ 1200 := by
      have h1 := LE.out
      rw [List.length_append, LE1.out] at h1
      have h2 := NL.out k
      omega
     rcases Nat.lt_or_ge k nb with hlt | hge
     rotate_left
     · obtain rfl : k = nb := by omega
       have O2 : Hid (OwnOs w2.heap.size w wr (.slice ad9 m9 c9) (diffL a b)) := Lib.hid (by have h := OW.out; rwa [List.take_of_length_le (by have := LB.out; omega)] at h)
       have DF : Hid ((diffL a b).length = m9) := Lib.hid (by have h := LE.out; rwa [List.take_of_length_le (by have := LB.out; omega)] at h)
       have hB9 := below_step C2.out hb
       have O9 : Hid (OpsAt wr (.slice ad9 m9 c9) (diffL a b)) := Lib.hid (O2.out.ops hB9 (by rw [DF.out]; omega))
       by_cases hl : m9 ≤ 100
       · have HX := Lib.hid (show diffL a b = os ∧ (0 : Int) = er by have h := HD.out; rw [if_pos (by rw [DF.out]; exact hl)] at h; simp only [Prod.mk.injEq] at h; exact h)
         obtain ⟨rfl, rfl⟩ := HX.out
         have g1 : decide ((100 : Int) < (m9 : Nat)) = false := decide_eq_false (by omega)
         go_wp2_with fail
         go_returns
         exact ⟨ad9, m9, c9, DF.out, rfl, O9.out, hB9⟩
       · have HX := Lib.hid (show ([] : List Opn) = os ∧ (2 : Int) = er by have h := HD.out; rw [if_neg (by rw [DF.out]; exact hl)] at h; simp only [Prod.mk.injEq] at h; exact h)
         obtain ⟨rfl, rfl⟩ := HX.out
         have g1 : decide ((100 : Int) < (m9 : Nat)) = true := decide_eq_true (by omega)
         go_wp2_with fail
         go_returns
         exact ⟨none, 0, 0, rfl, rfl, ops_nil _, hB9⟩
     obtain ⟨g0, o0, va, vs, rfl, fc0⟩ := HB.out.row hlt
     obtain ⟨f, hf⟩ : ∃ f, b.getD k noFeat = f := ⟨_, rfl⟩
     have hkl : k < b.length := by have := LB.out; omega
     rw [hf] at fc0
     have PF : Hid (PartsAt w f va vs) := Lib.hid ⟨fc0.area, fc0.secs⟩
     obtain ⟨fa, fca, fb, fcb, rfl, rfl⟩ := PF.out.form
     have FC := Lib.hid fc0
     have hbw := below_step C2.out hb
     have TK : Hid ((b.take (k + 1)).flatMap (newF a) = (b.take k).flatMap (newF a) ++ (newF a) f) := Lib.hid (flat_snoc hkl hf)
     have hszr := hb.size
     have c0 := (FC.out.later hbw).c0
     clear hf hkl fc0
     go_wp2_with fail
     (with_reducible refine (q17Index_any a _ f.id _ (HA.out.later hbw)).mono ?_)
     rintro e w3 ⟨r, rfl, hr, hb3⟩
     have HR := Lib.hid hr
     clear hr c0
     have hbw3 := below_step hbw hb3
     have hR3 := hb3
     go_upto_if 78 with fail
     go_cut [14, 15] from 79 to 90 (fun s14 s15 wx => ∃ (st : Bool) (adx : Option Addr) (nx cx : Nat), s14 = .bool st ∧ s15 = .slice adx nx cx ∧ Hid (NewCut a f st (.slice adx nx cx) nx wx) ∧ Below wr.heap.size wr wx)
     case first =>
      rcases HR.out with ⟨rfl, hlk⟩ | ⟨j, hj, rfl, hlk⟩
      · have E : Hid (NewCut a f false (.slice none 0 0) 0 w3) := Lib.hid ⟨fun h => (by cases h), fun _ => by unfold newF; rw [hlk]⟩
        clear hlk
        go_wp2_with fail
        go_meet
        exact ⟨false, none, 0, 0, rfl, rfl, E, hR3⟩
      · have HL := Lib.hid hlk
        have d0 : decide (0 ≤ (j : Int)) = true := decide_eq_true (by omega)
        have hjn : j < na := by have := LA.out; omega
        obtain ⟨g1, o1, ua, us, rfl, gc0⟩ := HA.out.row hjn
        obtain ⟨g, hg⟩ : ∃ g, a.getD j noFeat = g := ⟨_, rfl⟩
        rw [hg] at gc0
        have HLK : Hid (look a f.id = some g) := Lib.hid (by rw [← hg]; exact HL.out)
        have PG : Hid (PartsAt w g ua us) := Lib.hid ⟨gc0.area, gc0.secs⟩
        obtain ⟨ga, gca, gb, gcb, rfl, rfl⟩ := PG.out.form
        have GC := Lib.hid gc0
        clear hlk HL hj hg gc0
        go_wp2_with fail
        have hdr : Below w3.heap.size w3 w3.drew := (Below.refl _ _).drew
        refine wp_region_planS (Below w3.heap.size w3) (.take 0 (.take 0 (.take 0 (.take 0 (.take 0 (.take 0 (.take 0 (.take 0 (.only 0 (.take 0 (.take 0 (.take 0 (.take 0 (.take 0 .done)))))))))))))) (by kernel_rfl) (by kernel_rfl) hdr (fun hP => ?_)
        generalize hVe : w3.drew = V at hP hdr ⊢
        clear hVe
        iterate 3 (refine wsPlan_take rfl (fun K hK => ?_); replace hK := Lib.hid hK; go_simp; first | (refine hK.out _ ?_; clear hK K) | (apply Exists.intro; refine ⟨fun w' hw => ?_, hK.out _ ?_⟩; (first | with_reducible exact rfl | (skip; go_simp; exact rfl)); clear hK K))
        refine ws_loadMidT rfl rfl _ _ rfl g1 (o1 + j * 9) rfl [.int .i64 g.id, .int .i64 g.kind, .int .i64 g.x, .int .i64 g.y, .int .i64 g.rad, .slice ga g.area.length gca, .int .i64 g.dep, .int .i64 g.sym, .slice gb g.secs.length gcb] _ (fun w' hw => (GC.out.later (below_step hbw3 hw)).range) Tryz.underlying32 rfl (by kernel_rfl) ?_
        iterate 3 (refine wsPlan_take rfl (fun K hK => ?_); replace hK := Lib.hid hK; go_simp; first | (refine hK.out _ ?_; clear hK K) | (apply Exists.intro; refine ⟨fun w' hw => ?_, hK.out _ ?_⟩; (first | with_reducible exact rfl | (skip; go_simp; exact rfl)); clear hK K))
        refine ws_loadMidT rfl rfl _ _ rfl g0 (o0 + k * 9) rfl [.int .i64 f.id, .int .i64 f.kind, .int .i64 f.x, .int .i64 f.y, .int .i64 f.rad, .slice fa f.area.length fca, .int .i64 f.dep, .int .i64 f.sym, .slice fb f.secs.length fcb] _ (fun w' hw => (FC.out.later (below_step hbw3 hw)).range) Tryz.underlying32 rfl (by kernel_rfl) ?_
        refine wsPlan_only rfl (fun K hK => ?_)
        replace hK := Lib.hid hK
        go_simp
        go_at_call 100
        have hbV := below_step hbw3 hP
        (with_reducible refine (q17Fields_any g f _ _ _ _ _ (PG.out.later hbV) (PF.out.later hbV)).mono ?_)
        rintro e w5 ⟨adx, nx, cx, hb5, hd⟩
        rcases hd with ⟨ops, hdf, hnx, rfl, hops⟩ | ⟨hdf, rfl⟩
        · refine hK.out _ _ (below_step hP hb5) (fun hP => ?_)
          clear hK K
          have E : Hid (NewCut a f true (.slice adx nx cx) nx w5) := Lib.hid ⟨fun _ => ⟨g, by unfold newF; rw [HLK.out]; simp only; rw [hdf]; exact (diffF_acts hdf).1, by rw [← (diffF_acts hdf).1]; exact hnx, by rw [← (diffF_acts hdf).1]; exact hops⟩, fun h => by cases h⟩
          clear hdf hnx hops
          iterate 5 (refine wsPlan_take rfl (fun K hK => ?_); replace hK := Lib.hid hK; go_simp; first | (refine hK.out _ ?_; clear hK K) | (apply Exists.intro; refine ⟨fun w' hw => ?_, hK.out _ ?_⟩; (first | with_reducible exact rfl | (skip; go_simp; exact rfl)); clear hK K))
          refine wsPlan_done ?_
          have hR5 := below_step hR3 hP
          go_wp2_with fail
          go_meet
          exact ⟨true, adx, nx, cx, rfl, rfl, E, hR5⟩
        · refine hK.out _ _ (below_step hP hb5) (fun hP => ?_)
          clear hK K
          have E : Hid (NewCut a f false (.slice adx nx cx) nx w5) := Lib.hid ⟨fun h => (by cases h), fun _ => by unfold newF; rw [HLK.out]; simp only; rw [hdf]⟩
          clear hdf
          iterate 5 (refine wsPlan_take rfl (fun K hK => ?_); replace hK := Lib.hid hK; go_simp; first | (refine hK.out _ ?_; clear hK K) | (apply Exists.intro; refine ⟨fun w' hw => ?_, hK.out _ ?_⟩; (first | with_reducible exact rfl | (skip; go_simp; exact rfl)); clear hK K))
          refine wsPlan_done ?_
          have hR5 := below_step hR3 hP
          go_wp2_with fail
          go_meet
          exact ⟨false, adx, nx, cx, rfl, rfl, E, hR5⟩
     case rest =>
      obtain ⟨st, adx, nx, cx, rfl, rfl, NC, hR⟩ := hcut
      have hbwc := below_step hbw hR
      have hsc := hR.size
      clear hb3 hbw3 hR3 HR
      cases st
      · have NW := Lib.hid (NC.out.2 rfl)
        go_wp2_with fail
        have hdr : Below wc.heap.size wc wc.drew := (Below.refl _ _).drew
        refine wp_region_planS (Below w2.heap.size w2) (.take 0 (.take 0 (.take 0 (.take 0 (.take 0 (.take 0 (.take 0 (.take 0 (.take 0 (.take 0 (.take 0 (.only 0 (.only 0 (.take 0 .done)))))))))))))) (by kernel_rfl) (by kernel_rfl) ((hb.trans (hR.mono hszr)).drew) (fun hP => ?_)
        generalize hVe : wc.drew = V at hP hdr ⊢
        clear hVe
        have hVs := hdr.size
        iterate 5 (refine wsPlan_take rfl (fun K hK => ?_); replace hK := Lib.hid hK; go_simp; first | (refine hK.out _ ?_; clear hK K) | (apply Exists.intro; refine ⟨fun w' hw => ?_, hK.out _ ?_⟩; (first | with_reducible exact rfl | (skip; go_simp; exact rfl)); clear hK K))
        (refine wsPlan_take rfl (fun K hK => ?_); replace hK := Lib.hid hK; go_simp; first | (refine hK.out _ ?_; clear hK K) | (apply Exists.intro; refine ⟨fun w' hw => ?_, hK.out _ ?_⟩; (first | with_reducible exact rfl | (have q5 := (FC.out.later (below_step C2.out hw)).c0; go_simp; exact rfl)); clear hK K))
        iterate 3 (refine wsPlan_take rfl (fun K hK => ?_); replace hK := Lib.hid hK; go_simp; first | (refine hK.out _ ?_; clear hK K) | (apply Exists.intro; refine ⟨fun w' hw => ?_, hK.out _ ?_⟩; (first | with_reducible exact rfl | (skip; go_simp; exact rfl)); clear hK K))
        refine ws_loadMidT rfl rfl _ _ rfl g0 (o0 + k * 9) rfl [.int .i64 f.id, .int .i64 f.kind, .int .i64 f.x, .int .i64 f.y, .int .i64 f.rad, .slice fa f.area.length fca, .int .i64 f.dep, .int .i64 f.sym, .slice fb f.secs.length fcb] _ (fun w' hw => (FC.out.later (below_step C2.out hw)).range) Tryz.underlying32 rfl (by kernel_rfl) ?_
        (refine wsPlan_take rfl (fun K hK => ?_); replace hK := Lib.hid hK; go_simp; first | (refine hK.out _ ?_; clear hK K) | (apply Exists.intro; refine ⟨fun w' hw => ?_, hK.out _ ?_⟩; (first | with_reducible exact rfl | (skip; go_simp; exact rfl)); clear hK K))
        (refine wsPlan_only rfl (fun K hK => ?_); replace hK := Lib.hid hK; go_simp; refine hK.out _ _ (hP.alloc hP.size _) (fun hP => ?_); clear hK K)
        (refine wsPlan_only rfl (fun K hK => ?_); rw [if_pos (wanted_plain rfl)]; refine wp_appO_at _ _ rfl w2.heap.size w _ (a.flatMap (goneF b) ++ (b.take k).flatMap (newF a)) [insO f] (by rfl) ((OW.out.keep (below_step hR hdr)).keep ((Below.refl V.heap.size V).alloc (Nat.le_refl _) _)) _ _ _ (by rfl) [(insO f, .slice fa f.area.length fca, .slice fb f.secs.length fcb)] rfl rfl (fun z hz => by obtain rfl := List.mem_singleton.1 hz; exact PF.out) (SrcAt.one (block_new _ _) rfl) (N := m9 + 1) (by first | (rw [LE.out]; done) | (rw [LE.out]; rfl)) (by omega) (by simp only [World.size_alloc]; omega) ?_; intro ad2 c2 w8 how8 hgr8 hbl8 hat8; refine hK _ _ (hP.trans hbl8) (fun hP => ?_); clear hK K)
        (refine wsPlan_take rfl (fun K hK => ?_); replace hK := Lib.hid hK; go_simp; first | (refine hK.out _ ?_; clear hK K) | (apply Exists.intro; refine ⟨fun w' hw => ?_, hK.out _ ?_⟩; (first | with_reducible exact rfl | (skip; go_simp; exact rfl)); clear hK K))
        refine wsPlan_done ?_
        go_wp2_with fail
        go_roundw
        case rel => exact ⟨k + 1, ad2, m9 + 1, c2, by omega, by go_num, rfl, Lib.hid (by rw [TK.out, NW.out, ← List.append_assoc, List.length_append, LE.out]; rfl), by rw [TK.out, NW.out, ← List.append_assoc]; exact how8, hP⟩
        case measure => simp [cntV]; omega
      · obtain ⟨g, hnf, hnx, hops⟩ := NC.out.1 rfl
        obtain ⟨it, e2, rd2, sr2⟩ := ops_items hops
        have FE : Hid (∀ x ∈ it, PartsAt w x.1.feat x.2.1 x.2.2) := Lib.hid (fun x hx => by
         have h1 : x.1 ∈ fieldOps g f := by rw [← e2]; exact List.mem_map_of_mem hx
         have h2 := rd2 x hx
         rw [fieldOps_feat _ h1] at h2 ⊢
         exact parts_empty h2)
        have E2 := Lib.hid e2
        have S2 := Lib.hid sr2
        have N2 := Lib.hid hnx
        have NW := Lib.hid hnf
        have hn3 : nx ≤ 3 := by rw [← hnx]; exact fieldOps_len _ _
        clear e2 rd2 sr2 hnx hnf hops NC
        go_wp2_with (first | (refine wpList_appO_at rfl _ _ rfl w2.heap.size w _ (a.flatMap (goneF b) ++ (b.take k).flatMap (newF a)) (fieldOps g f) rfl (OW.out.keep hR) _ _ _ rfl it E2.out N2.out FE.out S2.out (N := m9 + nx) (by rw [LE.out]) (by omega) (by omega) ?_; intro ad2 c2 w8 how8 hgr8 hbl8 hat8))
        go_roundw
        case rel => exact ⟨k + 1, ad2, m9 + nx, c2, by omega, by go_num, rfl, Lib.hid (by rw [TK.out, NW.out, ← List.append_assoc, List.length_append, LE.out, N2.out]), by rw [TK.out, NW.out, ← List.append_assoc]; exact how8, (hb.trans (hR.mono hszr)).trans hbl8⟩
        case measure => simp [cntV]; omega
  have hm9 : m ≤ 300 := by have h1 := LE.out; have h2 := DL.out k; omega
  obtain ⟨g0, o0, va, vs, rfl, fc0⟩ := HA.out.row hlt
  obtain ⟨f, hf⟩ : ∃ f, a.getD k noFeat = f := ⟨_, rfl⟩
  have hkl : k < a.length := by have := LA.out; omega
  rw [hf] at fc0
  have PF : Hid (PartsAt w f va vs) := Lib.hid ⟨fc0.area, fc0.secs⟩
  obtain ⟨fa, fca, fb, fcb, rfl, rfl⟩ := PF.out.form
  have FC := Lib.hid fc0
  have hbw := below_step C2.out hb
  have TK : Hid ((a.take (k + 1)).flatMap (goneF b) = (a.take k).flatMap (goneF b) ++ (goneF b) f) := Lib.hid (flat_snoc hkl hf)
  have hszr := hb.size
  have c0 := (FC.out.later hbw).c0
  clear hf hkl fc0
  go_wp2_with fail
  (with_reducible refine (q17Index_any b _ f.id _ (HB.out.later hbw)).mono ?_)
  rintro e w3 ⟨r, rfl, hr, hb3⟩
  have HR := Lib.hid hr
  clear hr c0
  have hbw3 := below_step hbw hb3
  have hR3 := hb3
  go_upto_if 40 with fail
  go_cut [11] from 41 to 52 (fun s11 wx => ∃ st : Bool, s11 = .bool st ∧ Hid (goneF b f = if st = true then [] else [delO f.id]) ∧ Below wr.heap.size wr wx)
  case first =>
   rcases HR.out with ⟨rfl, hlk⟩ | ⟨j, hj, rfl, hlk⟩
   · have E : Hid (goneF b f = [delO f.id]) := Lib.hid (by unfold goneF; rw [hlk])
     clear hlk
     go_wp2_with fail
     go_meet
     exact ⟨false, rfl, Lib.hid E.out, hR3⟩
   · have HL := Lib.hid hlk
     have d0 : decide (0 ≤ (j : Int)) = true := decide_eq_true (by omega)
     have hjn : j < nb := by have := LB.out; omega
     obtain ⟨g1, o1, ua, us, rfl, gc0⟩ := HB.out.row hjn
     obtain ⟨g, hg⟩ : ∃ g, b.getD j noFeat = g := ⟨_, rfl⟩
     rw [hg] at gc0
     have HLK : Hid (look b f.id = some g) := Lib.hid (by rw [← hg]; exact HL.out)
     have PG : Hid (PartsAt w g ua us) := Lib.hid ⟨gc0.area, gc0.secs⟩
     obtain ⟨ga, gca, gb, gcb, rfl, rfl⟩ := PG.out.form
     have GC := Lib.hid gc0
     clear hlk HL hj hg gc0
     go_wp2_with fail
     have hdr : Below w3.heap.size w3 w3.drew := (Below.refl _ _).drew
     refine wp_region_planS (Below w3.heap.size w3) (.take 0 (.take 0 (.take 0 (.take 0 (.take 0 (.take 0 (.take 0 (.take 0 (.only 0 (.take 0 (.take 0 (.take 0 (.take 0 .done))))))))))))) (by kernel_rfl) (by kernel_rfl) hdr (fun hP => ?_)
     generalize hVe : w3.drew = V at hP hdr ⊢
     clear hVe
     iterate 3 (refine wsPlan_take rfl (fun K hK => ?_); replace hK := Lib.hid hK; go_simp; first | (refine hK.out _ ?_; clear hK K) | (apply Exists.intro; refine ⟨fun w' hw => ?_, hK.out _ ?_⟩; (first | with_reducible exact rfl | (skip; go_simp; exact rfl)); clear hK K))
     refine ws_loadMidT rfl rfl _ _ rfl g0 (o0 + k * 9) rfl [.int .i64 f.id, .int .i64 f.kind, .int .i64 f.x, .int .i64 f.y, .int .i64 f.rad, .slice fa f.area.length fca, .int .i64 f.dep, .int .i64 f.sym, .slice fb f.secs.length fcb] _ (fun w' hw => (FC.out.later (below_step hbw3 hw)).range) Tryz.underlying32 rfl (by kernel_rfl) ?_
     iterate 3 (refine wsPlan_take rfl (fun K hK => ?_); replace hK := Lib.hid hK; go_simp; first | (refine hK.out _ ?_; clear hK K) | (apply Exists.intro; refine ⟨fun w' hw => ?_, hK.out _ ?_⟩; (first | with_reducible exact rfl | (skip; go_simp; exact rfl)); clear hK K))
     refine ws_loadMidT rfl rfl _ _ rfl g1 (o1 + j * 9) rfl [.int .i64 g.id, .int .i64 g.kind, .int .i64 g.x, .int .i64 g.y, .int .i64 g.rad, .slice ga g.area.length gca, .int .i64 g.dep, .int .i64 g.sym, .slice gb g.secs.length gcb] _ (fun w' hw => (GC.out.later (below_step hbw3 hw)).range) Tryz.underlying32 rfl (by kernel_rfl) ?_
     refine wsPlan_only rfl (fun K hK => ?_)
     replace hK := Lib.hid hK
     go_simp
     go_at_call 100
     have hbV := below_step hbw3 hP
     (with_reducible refine (q17Fields_any f g _ _ _ _ _ (PF.out.later hbV) (PG.out.later hbV)).mono ?_)
     rintro e w5 ⟨adx, nx, cx, hb5, hd⟩
     rcases hd with ⟨ops, hdf, hnx, rfl, hops⟩ | ⟨hdf, rfl⟩
     · refine hK.out _ _ (below_step hP hb5) (fun hP => ?_)
       clear hK K
       have E : Hid (goneF b f = []) := Lib.hid (by unfold goneF; rw [HLK.out]; simp only; rw [hdf]; rfl)
       clear hdf hnx hops
       iterate 4 (refine wsPlan_take rfl (fun K hK => ?_); replace hK := Lib.hid hK; go_simp; first | (refine hK.out _ ?_; clear hK K) | (apply Exists.intro; refine ⟨fun w' hw => ?_, hK.out _ ?_⟩; (first | with_reducible exact rfl | (skip; go_simp; exact rfl)); clear hK K))
       refine wsPlan_done ?_
       have hR5 := below_step hR3 hP
       go_wp2_with fail
       go_meet
       exact ⟨true, rfl, Lib.hid E.out, hR5⟩
     · refine hK.out _ _ (below_step hP hb5) (fun hP => ?_)
       clear hK K
       have E : Hid (goneF b f = [delO f.id]) := Lib.hid (by unfold goneF; rw [HLK.out]; simp only; rw [hdf]; rfl)
       clear hdf
       iterate 4 (refine wsPlan_take rfl (fun K hK => ?_); replace hK := Lib.hid hK; go_simp; first | (refine hK.out _ ?_; clear hK K) | (apply Exists.intro; refine ⟨fun w' hw => ?_, hK.out _ ?_⟩; (first | with_reducible exact rfl | (skip; go_simp; exact rfl)); clear hK K))
       refine wsPlan_done ?_
       have hR5 := below_step hR3 hP
       go_wp2_with fail
       go_meet
       exact ⟨false, rfl, Lib.hid E.out, hR5⟩
  case rest =>
   obtain ⟨st, rfl, GE, hR⟩ := hcut
   have hbwc := below_step hbw hR
   have hsc := hR.size
   clear hb3 hbw3 hR3 HR
   cases st
   · have NW : Hid (goneF b f = [delO f.id]) := Lib.hid GE.out
     have c0 := (FC.out.later hbwc).c0
     go_wp2_with (first | (refine wpList_appO_at rfl _ _ rfl w2.heap.size w _ ((a.take k).flatMap (goneF b)) [delO f.id] rfl (OW.out.keep (hR.alloc hR.size _)) _ _ _ rfl [(delO f.id, .slice none 0 0, .slice none 0 0)] rfl rfl (fun x hx => by obtain rfl := List.mem_singleton.1 hx; exact PartsAt.zero _) (SrcAt.one (block_new _ _) rfl) (N := m + 1) (by first | (rw [LE.out]; done) | (rw [LE.out]; rfl)) (by omega) (by simp only [World.size_alloc]; omega) ?_; intro ad2 c2 w8 how8 hgr8 hbl8 hat8))
     go_roundw
     case rel => exact ⟨k + 1, ad2, m + 1, c2, by omega, by go_num, rfl, Lib.hid (by rw [TK.out, NW.out, List.length_append, LE.out]; rfl), by rw [TK.out, NW.out]; exact how8, (hb.trans ((hR.alloc hR.size _).mono hszr)).trans hbl8⟩
     case measure => simp [cntV]; omega
   · have NW : Hid (goneF b f = []) := Lib.hid GE.out
     go_wp2_with fail
     go_roundw
     case rel => exact ⟨k + 1, ad', m, c', by omega, by go_num, rfl, Lib.hid (by rw [TK.out, NW.out, List.append_nil, LE.out]), by rw [TK.out, NW.out, List.append_nil]; exact OW.out.keep hR, hb.trans (hR.mono hszr)⟩
     case measure => simp [cntV]; omega
end Go.Proofs.YtdmegkkifiahdaaGreat
