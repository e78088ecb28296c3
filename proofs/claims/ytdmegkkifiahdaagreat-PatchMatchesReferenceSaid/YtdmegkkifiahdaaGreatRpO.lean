import Derived.Test.YtdmegkkifiahdaaGreatRpAf
import Derived.Test.YtdmegkkifiahdaaGreatPatFlds
namespace Go.Proofs.YtdmegkkifiahdaaGreat
open Go.RowKit
attribute [local go_sem] bqOp bqAll bqUpon sqOp sqAll sqUpon ssAll
attribute [local irreducible] wpQuiet wpBQ wpPlan wsPlan
set_option linter.unusedVariables false
theorem fldOps_kind {f g : Feat} {p : Opn} (h : p ∈ fieldOps f g) : 3 ≤ p.kind ∧ p.kind ≤ 5 := by
 unfold fieldOps at h
 rw [List.mem_append, List.mem_append] at h
 rcases h with (h | h) | h
 · split at h
   · rw [List.mem_singleton.1 h]; exact ⟨by show (3 : Int) ≤ 3; decide, by show (3 : Int) ≤ 5; decide⟩
   · exact absurd h (by simp)
 · split at h
   · rw [List.mem_singleton.1 h]; exact ⟨by show (3 : Int) ≤ 4; decide, by show (4 : Int) ≤ 5; decide⟩
   · exact absurd h (by simp)
 · split at h
   · rw [List.mem_singleton.1 h]; exact ⟨by show (3 : Int) ≤ 5; decide, by show (5 : Int) ≤ 5; decide⟩
   · exact absurd h (by simp)
theorem fld_step {f g h h1 : Feat} {k : Nat} {p : Opn} (hk : k < (fieldOps f g).length) (hp : (fieldOps f g).getD k noOpn = p) (ha : acts ((fieldOps f g).take k) (some f) = .ok (some h)) (hc : chgF h p = some h1) : acts ((fieldOps f g).take (k + 1)) (some f) = .ok (some h1) := by
 have h2 := fldOps_kind (f := f) (g := g) (p := p) (by rw [← hp]; exact getD_memD hk noOpn)
 rw [take_snoc noOpn hk, hp]
 exact acts_chg (by omega) (by omega) ha hc
theorem fld_stop {f g h : Feat} {k : Nat} {p : Opn} (hk : k < (fieldOps f g).length) (hp : (fieldOps f g).getD k noOpn = p) (ha : acts ((fieldOps f g).take k) (some f) = .ok (some h)) (hc : chgF h p = none) : diffF f g = none := by
 have h2 := fldOps_kind (f := f) (g := g) (p := p) (by rw [← hp]; exact getD_memD hk noOpn)
 obtain ⟨e, he⟩ := acts_chg_no (b := (fieldOps f g).drop (k + 1)) (show p.kind ≠ 1 by omega) (show p.kind ≠ 2 by omega) ha hc
 have e2 : fieldOps f g = (fieldOps f g).take k ++ (p :: (fieldOps f g).drop (k + 1)) := by
  rw [← hp, List.getD_eq_getElem?_getD, List.getElem?_eq_getElem hk, Option.getD_some, ← List.drop_eq_getElem_cons hk, List.take_append_drop]
 rw [← e2] at he
 exact diff_err he
set_option maxHeartbeats 16000000 in
set_option maxRecDepth 20000 in
theorem q17Fields_any (f g : Feat) (va vs ua us : Value) (w : World) (hp : PartsAt w f va vs) (hq : PartsAt w g ua us) : Calls Tryz.prog 100 #[featV f va vs, featV g ua us] w (FieldsP f g w) := by
 have HP := Lib.hid hp
 have HQ := Lib.hid hq
 obtain ⟨fa, fca, fb, fcb, rfl, rfl⟩ := hp.form
 obtain ⟨ga, gca, gb, gcb, rfl, rfl⟩ := hq.form
 clear hp hq
 obtain ⟨nfa, hnfa⟩ : ∃ z, f.area.length = z := ⟨_, rfl⟩
 obtain ⟨nfb, hnfb⟩ : ∃ z, f.secs.length = z := ⟨_, rfl⟩
 obtain ⟨nga, hnga⟩ : ∃ z, g.area.length = z := ⟨_, rfl⟩
 obtain ⟨ngb, hngb⟩ : ∃ z, g.secs.length = z := ⟨_, rfl⟩
 rw [hnfa, hnfb] at HP ⊢
 rw [hnga, hngb] at HQ ⊢
 clear hnfa hnfb hnga hngb
 go_enter Tryz.func100, Tryz.ntmps100
 go_upto_region 2 with fail
 refine wp_named fun W hW => ?_
 obtain ⟨p2, p3, hB⟩ := box2 hW
 have HSW : Hid (W.heap.size = w.heap.size + 2) := Lib.hid (by rw [hW]; simp)
 clear hW
 have P2 := Lib.hid p2
 have P3 := Lib.hid p3
 clear p2 p3
 obtain ⟨b1, hb1⟩ : ∃ z, decide (f.x ≠ g.x ∨ f.y ≠ g.y ∨ f.rad ≠ g.rad) = z := ⟨_, rfl⟩
 obtain ⟨b2, hb2⟩ : ∃ z, decide (f.dep ≠ g.dep) = z := ⟨_, rfl⟩
 obtain ⟨b3, hb3⟩ : ∃ z, decide (f.sym ≠ g.sym) = z := ⟨_, rfl⟩
 have T1 := Lib.hid hb1
 have T2 := Lib.hid hb2
 have T3 := Lib.hid hb3
 clear hb1 hb2 hb3
 go_cut [22] from 11 to 22 (fun s22 wx => s22 = .bool b1 ∧ wx = W)
 case first =>
  have c2 := cell_block P2.out
  have c3 := cell_block P3.out
  by_cases gx : f.x = g.x
  · have dx : (f.x == g.x) = true := by simpa using gx
    by_cases gy : f.y = g.y
    · have dy : (f.y == g.y) = true := by simpa using gy
      by_cases gr : f.rad = g.rad
      · have dr : (f.rad != g.rad) = false := by simpa using gr
        have E : Hid (false = b1) := Lib.hid (by rw [← T1.out]; exact (decide_eq_false (fun h => h.elim (fun h => h gx) (fun h => h.elim (fun h => h gy) (fun h => h gr)))).symm)
        clear gx gy gr
        go_wp2_with fail
        go_meet
        exact ⟨by rw [← E.out], rfl⟩
      · have dr : (f.rad != g.rad) = true := by simpa using gr
        have E : Hid (true = b1) := Lib.hid (by rw [← T1.out]; exact (decide_eq_true (.inr (.inr gr))).symm)
        clear gx gy gr
        go_wp2_with fail
        go_meet
        exact ⟨by rw [← E.out], rfl⟩
    · have dy : (f.y == g.y) = false := by simpa using gy
      have E : Hid (true = b1) := Lib.hid (by rw [← T1.out]; exact (decide_eq_true (.inr (.inl gy))).symm)
      clear gx gy
      go_wp2_with fail
      go_meet
      exact ⟨by rw [← E.out], rfl⟩
  · have dx : (f.x == g.x) = false := by simpa using gx
    have E : Hid (true = b1) := Lib.hid (by rw [← T1.out]; exact (decide_eq_true (.inl gx)).symm)
    clear gx
    go_wp2_with fail
    go_meet
    exact ⟨by rw [← E.out], rfl⟩
 case rest =>
 obtain ⟨rfl, rfl⟩ := hcut
 generalize hWn : wc = W0 at *
 clear hWn
 have hR : Below W0.heap.size W0 W0 := Below.refl _ _
 have EM : Hid (fldPre f g 0 = []) := Lib.hid (fldPre_zero f g)
 have ML : Hid (([] : List Opn).length ≤ 3) := Lib.hid (by decide)
 have OW : Hid (OwnOs W0.heap.size w W0 (.slice none 0 0) []) := Lib.hid (OwnOs.nil _ _ _)
 go_upto_if 22 with fail
 go_cut [6] from 23 to 32 (fun s6 wx => ∃ (ad : Option Addr) (c : Nat) (M : List Opn), s6 = .slice ad M.length c ∧ Hid (fldPre f g 1 = M) ∧ OwnOs W0.heap.size w wx (.slice ad M.length c) M ∧ Below W0.heap.size W0 wx)
 case first =>
  have c2 := cell_block (block_later hR P2.out)
  have c3 := cell_block (block_later hR P3.out)
  have hsr := hR.size
  cases b1
  · have FN := fldPre_no0 (f := f) (g := g) (of_decide_eq_false T1.out)
    have FNH := Lib.hid FN
    clear FN
    go_wp2_with fail
    go_meet
    exact ⟨none, 0, [], rfl, Lib.hid (by rw [FNH.out, EM.out]), OW.out, hR⟩
  · have FY := Lib.hid (fldPre_yes0 (f := f) (g := g) (of_decide_eq_true T1.out)).1
    go_wp2_with (first | (refine wpList_appO rfl _ _ rfl W0.heap.size w _ [] [movO g.id g.x g.y g.rad] rfl (OW.out.keep ((Below.refl _ _).alloc (Nat.le_refl _) _)) _ _ _ rfl [(movO g.id g.x g.y g.rad, .slice none 0 0, .slice none 0 0)] rfl rfl (fun z hz => by obtain rfl := List.mem_singleton.1 hz; exact PartsAt.zero _) (SrcAt.one (block_new _ _) rfl) (N := (([] : List Opn).length) + 1) rfl (by have := ML.out; omega) (by simp only [World.size_alloc]; omega) ?_; intro ad2 c2' w5 how5 hgr hbl))
    go_meet
    exact ⟨ad2, c2', [] ++ [movO g.id g.x g.y g.rad], by first | rfl | (rw [List.length_append]; rfl), Lib.hid (by rw [FY.out, EM.out]), by first | exact how5 | (rw [List.length_append]; exact how5), (hR.alloc hR.size _).trans hbl⟩
 case rest =>
 clear OW EM ML hR
 obtain ⟨ad0, cc0, M0, rfl, EM, ow, hR⟩ := hcut
 have OW := Lib.hid ow
 have ML : Hid (M0.length ≤ 3) := Lib.hid (by rw [← EM.out]; exact fldPre_len f g 1)
 clear ow
 go_upto_region 4 with fail
 go_cut [37] from 33 to 37 (fun s wx => s = .bool b2 ∧ wx = wc)
 case first =>
  have c2 := cell_block (block_later hR P2.out)
  have c3 := cell_block (block_later hR P3.out)
  cases b2
  · have E := of_decide_eq_false T2.out
    have d : (f.dep != g.dep) = false := by simpa using E
    clear E
    go_wp2_with fail
    go_meet
    exact ⟨rfl, rfl⟩
  · have E := of_decide_eq_true T2.out
    have d : (f.dep != g.dep) = true := by simpa using E
    clear E
    go_wp2_with fail
    go_meet
    exact ⟨rfl, rfl⟩
 case rest =>
 obtain ⟨rfl, rfl⟩ := hcut
 go_upto_if 37 with fail
 go_cut [6] from 38 to 45 (fun s6 wx => ∃ (ad : Option Addr) (c : Nat) (M : List Opn), s6 = .slice ad M.length c ∧ Hid (fldPre f g 2 = M) ∧ OwnOs W0.heap.size w wx (.slice ad M.length c) M ∧ Below W0.heap.size W0 wx)
 case first =>
  have c2 := cell_block (block_later hR P2.out)
  have c3 := cell_block (block_later hR P3.out)
  have hsr := hR.size
  cases b2
  · have FN := fldPre_no1 (f := f) (g := g) (of_decide_eq_false T2.out)
    have FNH := Lib.hid FN
    clear FN
    go_wp2_with fail
    go_meet
    exact ⟨ad0, cc0, M0, rfl, Lib.hid (by rw [FNH.out, EM.out]), OW.out, hR⟩
  · have FY := Lib.hid (fldPre_yes1 (f := f) (g := g) (of_decide_eq_true T2.out)).1
    go_wp2_with (first | (refine wpList_appO rfl _ _ rfl W0.heap.size w _ M0 [depO g.id g.dep] rfl (OW.out.keep ((Below.refl _ _).alloc (Nat.le_refl _) _)) _ _ _ rfl [(depO g.id g.dep, .slice none 0 0, .slice none 0 0)] rfl rfl (fun z hz => by obtain rfl := List.mem_singleton.1 hz; exact PartsAt.zero _) (SrcAt.one (block_new _ _) rfl) (N := M0.length + 1) rfl (by have := ML.out; omega) (by simp only [World.size_alloc]; omega) ?_; intro ad2 c2' w5 how5 hgr hbl))
    go_meet
    exact ⟨ad2, c2', M0 ++ [depO g.id g.dep], by first | rfl | (rw [List.length_append]; rfl), Lib.hid (by rw [FY.out, EM.out]), by first | exact how5 | (rw [List.length_append]; exact how5), (hR.alloc hR.size _).trans hbl⟩
 case rest =>
 clear OW EM ML hR
 obtain ⟨ad0, cc0, M0, rfl, EM, ow, hR⟩ := hcut
 have OW := Lib.hid ow
 have ML : Hid (M0.length ≤ 3) := Lib.hid (by rw [← EM.out]; exact fldPre_len f g 2)
 clear ow
 go_upto_region 6 with fail
 go_cut [50] from 46 to 50 (fun s wx => s = .bool b3 ∧ wx = wc)
 case first =>
  have c2 := cell_block (block_later hR P2.out)
  have c3 := cell_block (block_later hR P3.out)
  cases b3
  · have E := of_decide_eq_false T3.out
    have d : (f.sym != g.sym) = false := by simpa using E
    clear E
    go_wp2_with fail
    go_meet
    exact ⟨rfl, rfl⟩
  · have E := of_decide_eq_true T3.out
    have d : (f.sym != g.sym) = true := by simpa using E
    clear E
    go_wp2_with fail
    go_meet
    exact ⟨rfl, rfl⟩
 case rest =>
 obtain ⟨rfl, rfl⟩ := hcut
 go_upto_if 50 with fail
 go_cut [6] from 51 to 58 (fun s6 wx => ∃ (ad : Option Addr) (c : Nat) (M : List Opn), s6 = .slice ad M.length c ∧ Hid (fldPre f g 3 = M) ∧ OwnOs W0.heap.size w wx (.slice ad M.length c) M ∧ Below W0.heap.size W0 wx)
 case first =>
  have c2 := cell_block (block_later hR P2.out)
  have c3 := cell_block (block_later hR P3.out)
  have hsr := hR.size
  cases b3
  · have FN := fldPre_no2 (f := f) (g := g) (of_decide_eq_false T3.out)
    have FNH := Lib.hid FN
    clear FN
    go_wp2_with fail
    go_meet
    exact ⟨ad0, cc0, M0, rfl, Lib.hid (by rw [FNH.out, EM.out]), OW.out, hR⟩
  · have FY := Lib.hid (fldPre_yes2 (f := f) (g := g) (of_decide_eq_true T3.out)).1
    go_wp2_with (first | (refine wpList_appO rfl _ _ rfl W0.heap.size w _ M0 [symO g.id g.sym] rfl (OW.out.keep ((Below.refl _ _).alloc (Nat.le_refl _) _)) _ _ _ rfl [(symO g.id g.sym, .slice none 0 0, .slice none 0 0)] rfl rfl (fun z hz => by obtain rfl := List.mem_singleton.1 hz; exact PartsAt.zero _) (SrcAt.one (block_new _ _) rfl) (N := M0.length + 1) rfl (by have := ML.out; omega) (by simp only [World.size_alloc]; omega) ?_; intro ad2 c2' w5 how5 hgr hbl))
    go_meet
    exact ⟨ad2, c2', M0 ++ [symO g.id g.sym], by first | rfl | (rw [List.length_append]; rfl), Lib.hid (by rw [FY.out, EM.out]), by first | exact how5 | (rw [List.length_append]; exact how5), (hR.alloc hR.size _).trans hbl⟩
 case rest =>
 clear OW EM ML hR
 obtain ⟨ad0, cc0, M0, rfl, EM, ow, hR⟩ := hcut
 have OW := Lib.hid ow
 have ML : Hid (M0.length ≤ 3) := Lib.hid (by rw [← EM.out]; exact fldPre_len f g 3)
 clear ow
 rw [fldPre_all] at EM
 have q2 := block_later hR P2.out
 have q3 := block_later hR P3.out
 have hbw := below_step hB hR
 have hsw : w.heap.size + 2 ≤ wc.heap.size := by have h1 := hR.size; have h2 := HSW.out; omega
 have LB : Hid (w.heap.size + 2 = W0.heap.size) := Lib.hid HSW.out.symm
 clear T1 T2 T3
 go_wp2_with fail
 go_loopw [7] (fun i wr => ∃ (k : Nat) (h : Feat), k ≤ M0.length ∧ i = .int .i64 k ∧ Hid (acts ((fieldOps f g).take k) (some f) = .ok (some h)) ∧ Hid (h.area = f.area ∧ h.secs = f.secs) ∧ wr.heap[w.heap.size]? = some (.cells #[.int .i64 h.id, .int .i64 h.kind, .int .i64 h.x, .int .i64 h.y, .int .i64 h.rad, .slice fa nfa fca, .int .i64 h.dep, .int .i64 h.sym, .slice fb nfb fcb] 32 (0, 0)) ∧ wr.heap[w.heap.size + 1]? = some (.cells #[.int .i64 g.id, .int .i64 g.kind, .int .i64 g.x, .int .i64 g.y, .int .i64 g.rad, .slice ga nga gca, .int .i64 g.dep, .int .i64 g.sym, .slice gb ngb gcb] 32 (0, 0)) ∧ OwnOs W0.heap.size w wr (.slice ad0 M0.length cc0) M0 ∧ Below w.heap.size w wr ∧ w.heap.size + 2 ≤ wr.heap.size) (fun i _ => M0.length - cntV i)
 case atStart => exact ⟨0, f, Nat.zero_le _, rfl, Lib.hid rfl, Lib.hid ⟨rfl, rfl⟩, q2, q3, OW.out, hbw, hsw⟩
 case round =>
  clear q2 q3 hbw hsw
  obtain ⟨k, h, hk, rfl, AC, AR, q2, q3, how, hb, hs⟩ := hrel
  have HPH : Hid (PartsAt w h (.slice fa nfa fca) (.slice fb nfb fcb)) := Lib.hid (by
   obtain ⟨a1, a2⟩ := HP.out
   exact ⟨by rw [AR.out.1]; exact a1, by rw [AR.out.2]; exact a2⟩)
  have Q2 := Lib.hid q2
  have Q3 := Lib.hid q3
  have OW := Lib.hid how
  clear q2 q3 how
  rcases Nat.lt_or_ge k M0.length with hlt | hge
  rotate_left
  · have AE : Hid (acts (fieldOps f g) (some f) = .ok (some h)) := Lib.hid (by
     have h1 := AC.out
     rw [List.take_of_length_le (by rw [EM.out]; exact hge)] at h1
     exact h1)
    obtain ⟨u, hu⟩ : ∃ z, decide (h = g) = z := ⟨_, rfl⟩
    have U := Lib.hid hu
    have c2 := cell_block Q2.out
    have c3 := cell_block Q3.out
    clear hu
    go_wp2_with fail
    (with_reducible refine (q07Same_any h g _ _ _ _ _ (HPH.out.later hb).p (HPH.out.later hb).s (HQ.out.later hb).p (HQ.out.later hb).s U.out).mono ?_)
    rintro e w9 ⟨rfl, hb9⟩
    have hB9 := below_step hb hb9
    have O9 := Lib.hid (OW.out.keep hb9)
    go_wp2_with fail
    go_returns
    refine ⟨ad0, M0.length, cc0, hB9, ?_⟩
    cases u with
    | true => exact .inl ⟨M0, by rw [(diff_end AE.out).1 (of_decide_eq_true U.out), EM.out], rfl, rfl, O9.out.ops hB9 (by have := ML.out; omega)⟩
    | false => exact .inr ⟨(diff_end AE.out).2 (of_decide_eq_false U.out), rfl⟩
  obtain ⟨g0, oo, ua, us, rfl, rg, hpp⟩ := (OIt.of_own OW.out).row hlt
  obtain ⟨p, hpe⟩ : ∃ p, M0.getD k noOpn = p := ⟨_, rfl⟩
  rw [hpe] at rg hpp
  have PP := Lib.hid hpp
  obtain ⟨aa, ca, ab, cb, rfl, rfl⟩ := hpp.form
  have RG := Lib.hid rg
  have HKL : Hid (k < (fieldOps f g).length) := Lib.hid (by rw [EM.out]; exact hlt)
  have HPK : Hid ((fieldOps f g).getD k noOpn = p) := Lib.hid (by rw [EM.out]; exact hpe)
  have K35 : Hid (3 ≤ p.kind ∧ p.kind ≤ 5) := Lib.hid (fldOps_kind (f := f) (g := g) (by rw [← HPK.out]; exact getD_memD HKL.out noOpn))
  obtain ⟨h1, er, hce⟩ : ∃ h1 er, chgE h p = (h1, er) := ⟨_, _, rfl⟩
  have CE := Lib.hid hce
  clear rg hpp hpe hce
  go_wp2_with fail
  have hdr : Below wr.heap.size wr wr.drew := (Below.refl _ _).drew
  refine wp_region_planS (Below wr.heap.size wr) (.take 0 (.take 0 (.take 0 (.take 0 (.take 0 (.two 0 (.take 0 (.take 0 (.take 0 (.only 0 (.only 0 (.take 0 .done)))))) 4 (.only 0 (.take 0 (.take 0 (.take 0 (.only 0 (.take 0 .done)))))))))))) (by kernel_rfl) (by kernel_rfl) hdr (fun hP => ?_)
  generalize hVe : wr.drew = V at hP hdr ⊢
  clear hVe
  refine ws_load rfl rfl _ _ rfl _ rfl _ _ _ _ (fun w' hw => block_later hw Q2.out) Tryz.underlying32 rfl (by kernel_rfl) ?_
  iterate 3 (refine wsPlan_take rfl (fun K hK => ?_); replace hK := Lib.hid hK; go_simp; first | (refine hK.out _ ?_; clear hK K) | (apply Exists.intro; refine ⟨fun w' hw => ?_, hK.out _ ?_⟩; (first | with_reducible exact rfl | (go_simp; exact rfl)); clear hK K))
  refine ws_loadMidT rfl rfl _ _ rfl g0 (oo + k * 16) rfl [.int .i64 p.kind, .int .i64 p.id, .int .i64 p.feat.id, .int .i64 p.feat.kind, .int .i64 p.feat.x, .int .i64 p.feat.y, .int .i64 p.feat.rad, .slice aa p.feat.area.length ca, .int .i64 p.feat.dep, .int .i64 p.feat.sym, .slice ab p.feat.secs.length cb, .int .i64 p.x, .int .i64 p.y, .int .i64 p.rad, .int .i64 p.dep, .int .i64 p.sym] _ (fun w' hw => range_later RG.out hw) Tryz.underlying34 rfl (by kernel_rfl) ?_
  refine wsPlan_two ?_ ?_
  · skip
    (refine wsPlan_only rfl (fun K hK => ?_); replace hK := Lib.hid hK; go_simp; go_at_call 198; (with_reducible refine (q17Changed_any h p _ _ _ _ w _ HPH.out PP.out K35.out CE.out).mono ?_); rintro z y2 ⟨rfl, hy⟩; refine hK.out _ _ (below_step hP hy) (fun hP => ?_); clear hK K)
    iterate 3 (refine wsPlan_take rfl (fun K hK => ?_); replace hK := Lib.hid hK; go_simp; first | (refine hK.out _ ?_; clear hK K) | (apply Exists.intro; refine ⟨fun w' hw => ?_, hK.out _ ?_⟩; (first | with_reducible exact rfl | (go_simp; exact rfl)); clear hK K))
    have hsz2 := hP.size
    (refine wsPlan_only rfl (fun K hK => ?_); replace hK := Lib.hid hK; go_simp; refine hK.out _ _ (hP.alloc hP.size _) (fun hP => ?_); clear hK K)
    generalize hwa : World.alloc y2 (Obj.cells #[.int .i64 0, .int .i64 0, .int .i64 0, .int .i64 0, .int .i64 0, .slice none 0 0, .int .i64 0, .int .i64 0, .slice none 0 0] 32) = y3 at hP ⊢
    obtain ⟨q7, hb7⟩ := box1 hwa.symm
    clear hwa
    refine ws_store rfl rfl _ _ _ rfl _ #[.int .i64 h1.id, .int .i64 h1.kind, .int .i64 h1.x, .int .i64 h1.y, .int .i64 h1.rad, .slice fa nfa fca, .int .i64 h1.dep, .int .i64 h1.sym, .slice fb nfb fcb] rfl rfl _ _ q7 (by kernel_rfl) (by kernel_rfl) (by kernel_rfl) (below_setRow hP (by have := hdr.size; omega) _) ?_
    (refine wsPlan_take rfl (fun K hK => ?_); replace hK := Lib.hid hK; go_simp; first | (refine hK.out _ ?_; clear hK K) | (apply Exists.intro; refine ⟨fun w' hw => ?_, hK.out _ ?_⟩; (first | with_reducible exact rfl | (go_simp; exact rfl)); clear hK K))
    refine wsPlan_done ?_
    have q8 := setRow_heap y3 y2.heap.size _ #[.int .i64 h1.id, .int .i64 h1.kind, .int .i64 h1.x, .int .i64 h1.y, .int .i64 h1.rad, .slice fa nfa fca, .int .i64 h1.dep, .int .i64 h1.sym, .slice fb nfb fcb] _ _ q7
    have hS := below_setRow hP (show wr.heap.size ≤ y2.heap.size by have := hdr.size; omega) #[.int .i64 h1.id, .int .i64 h1.kind, .int .i64 h1.x, .int .i64 h1.y, .int .i64 h1.rad, .slice fa nfa fca, .int .i64 h1.dep, .int .i64 h1.sym, .slice fb nfb fcb]
    try simp only [Act.put, List.setIfInBounds_toArray, List.set_cons_zero, List.set_cons_succ]
    generalize hws : World.setRow y3 y2.heap.size #[.int .i64 h1.id, .int .i64 h1.kind, .int .i64 h1.x, .int .i64 h1.y, .int .i64 h1.rad, .slice fa nfa fca, .int .i64 h1.dep, .int .i64 h1.sym, .slice fb nfb fcb] = y9 at q8 hS ⊢
    clear hws
    have hB9 := below_step hb hS
    have hs9 : w.heap.size + 2 ≤ y9.heap.size := by have := hS.size; omega
    have Q8 := Lib.hid q8
    have Q29 := Lib.hid (block_later hS Q2.out)
    have Q39 := Lib.hid (block_later hS Q3.out)
    have O9 := Lib.hid (OW.out.keep hS)
    clear q8 hP q7
    cases hcg : chgF h p with
    | none =>
      obtain ⟨rfl, rfl⟩ : h1 = h ∧ er = 12 := by
       have h2 := CE.out
       unfold chgE at h2
       rw [hcg] at h2
       cases h2
       exact ⟨rfl, rfl⟩
      have NO := Lib.hid (fld_stop HKL.out HPK.out AC.out hcg)
      clear hcg
      go_wp2_with fail
      go_returns
      exact ⟨none, 0, 0, hB9, .inr ⟨NO.out, rfl⟩⟩
    | some h2 =>
      obtain ⟨hh, rfl⟩ : h1 = h2 ∧ er = 0 := by
       have h3 := CE.out
       unfold chgE at h3
       rw [hcg] at h3
       cases h3
       exact ⟨rfl, rfl⟩
      subst hh
      have AN := Lib.hid (fld_step HKL.out HPK.out AC.out hcg)
      have AR2 : Hid (h1.area = f.area ∧ h1.secs = f.secs) := Lib.hid (by obtain ⟨_, _, i3, i4⟩ := chgF_id hcg; exact ⟨i3.trans AR.out.1, i4.trans AR.out.2⟩)
      have c8 := cell_block Q8.out
      have c2 := cell_block Q29.out
      have f2 := free_block Q29.out
      clear hcg
      go_upto_region 10 with fail
      refine wp_named fun W9 hWn => ?_
      have n2 := (congrArg (fun X : World => X.heap[w.heap.size]?) hWn).trans (block_set (i := 8) (block_set (i := 7) (block_set (i := 6) (block_set (i := 5) (block_set (i := 4) (block_set (i := 3) (block_set (i := 2) (block_set (i := 1) (block_set (i := 0) Q29.out (.int .i64 h1.id)) (.int .i64 h1.kind)) (.int .i64 h1.x)) (.int .i64 h1.y)) (.int .i64 h1.rad)) (.slice fa nfa fca)) (.int .i64 h1.dep)) (.int .i64 h1.sym)) (.slice fb nfb fcb))
      replace n2 : W9.heap[w.heap.size]? = _ := n2
      simp only [List.setIfInBounds_toArray, List.set_cons_zero, List.set_cons_succ] at n2
      have n3 := (congrArg (fun X : World => X.heap[w.heap.size + 1]?) hWn).trans (block_far (a := ⟨w.heap.size, 8, none⟩) (block_far (a := ⟨w.heap.size, 7, none⟩) (block_far (a := ⟨w.heap.size, 6, none⟩) (block_far (a := ⟨w.heap.size, 5, none⟩) (block_far (a := ⟨w.heap.size, 4, none⟩) (block_far (a := ⟨w.heap.size, 3, none⟩) (block_far (a := ⟨w.heap.size, 2, none⟩) (block_far (a := ⟨w.heap.size, 1, none⟩) (block_far (a := ⟨w.heap.size, 0, none⟩) Q39.out (by dsimp only; omega) (.int .i64 h1.id)) (by dsimp only; omega) (.int .i64 h1.kind)) (by dsimp only; omega) (.int .i64 h1.x)) (by dsimp only; omega) (.int .i64 h1.y)) (by dsimp only; omega) (.int .i64 h1.rad)) (by dsimp only; omega) (.slice fa nfa fca)) (by dsimp only; omega) (.int .i64 h1.dep)) (by dsimp only; omega) (.int .i64 h1.sym)) (by dsimp only; omega) (.slice fb nfb fcb))
      replace n3 : W9.heap[w.heap.size + 1]? = _ := n3
      have no : OwnOs W0.heap.size w W9 (.slice (some ⟨g0, oo, none⟩) M0.length cc0) M0 := by rw [hWn]; exact (OwnOs.farO (OwnOs.farO (OwnOs.farO (OwnOs.farO (OwnOs.farO (OwnOs.farO (OwnOs.farO (OwnOs.farO (OwnOs.farO O9.out (by have := LB.out; omega)) (by have := LB.out; omega)) (by have := LB.out; omega)) (by have := LB.out; omega)) (by have := LB.out; omega)) (by have := LB.out; omega)) (by have := LB.out; omega)) (by have := LB.out; omega)) (by have := LB.out; omega))
      have nb : Below w.heap.size w W9 := by rw [hWn]; exact (((((((((hB9.setCell (by dsimp only; omega) _).setCell (by dsimp only; omega) _).setCell (by dsimp only; omega) _).setCell (by dsimp only; omega) _).setCell (by dsimp only; omega) _).setCell (by dsimp only; omega) _).setCell (by dsimp only; omega) _).setCell (by dsimp only; omega) _).setCell (by dsimp only; omega) _)
      have ns : w.heap.size + 2 ≤ W9.heap.size := by rw [hWn]; simp only [World.size_setCell]; exact hs9
      clear hWn
      have ml3 : M0.length ≤ 3 := ML.out
      go_wp2_with fail
      go_roundw
      case rel => exact ⟨k + 1, h1, by omega, by go_num, AN, AR2, n2, n3, no, nb, ns⟩
      case measure => simp [cntV]; omega
  · skip
    (refine wsPlan_only rfl (fun K hK => ?_); replace hK := Lib.hid hK; go_simp; refine hK.out _ _ (hP.alloc hP.size _) (fun hP => ?_); clear hK K)
    generalize hwa : World.alloc V (Obj.cells #[.int .i64 0, .int .i64 0, .int .i64 0, .int .i64 0, .int .i64 0, .slice none 0 0, .int .i64 0, .int .i64 0, .slice none 0 0] 32) = y2 at hP ⊢
    obtain ⟨q7, hb7⟩ := box1 hwa.symm
    clear hwa
    (refine wsPlan_only rfl (fun K hK => ?_); replace hK := Lib.hid hK; go_simp; go_at_call 198; (with_reducible refine (q17Changed_any h p _ _ _ _ w _ HPH.out PP.out K35.out CE.out).mono ?_); rintro z y3 ⟨rfl, hy⟩; refine hK.out _ _ (below_step hP hy) (fun hP => ?_); clear hK K)
    iterate 3 (refine wsPlan_take rfl (fun K hK => ?_); replace hK := Lib.hid hK; go_simp; first | (refine hK.out _ ?_; clear hK K) | (apply Exists.intro; refine ⟨fun w' hw => ?_, hK.out _ ?_⟩; (first | with_reducible exact rfl | (go_simp; exact rfl)); clear hK K))
    have q7b := block_later hy q7
    have hsz2 := hP.size
    clear q7
    refine ws_store rfl rfl _ _ _ rfl _ #[.int .i64 h1.id, .int .i64 h1.kind, .int .i64 h1.x, .int .i64 h1.y, .int .i64 h1.rad, .slice fa nfa fca, .int .i64 h1.dep, .int .i64 h1.sym, .slice fb nfb fcb] rfl rfl _ _ q7b (by kernel_rfl) (by kernel_rfl) (by kernel_rfl) (below_setRow hP (by have := hdr.size; omega) _) ?_
    (refine wsPlan_take rfl (fun K hK => ?_); replace hK := Lib.hid hK; go_simp; first | (refine hK.out _ ?_; clear hK K) | (apply Exists.intro; refine ⟨fun w' hw => ?_, hK.out _ ?_⟩; (first | with_reducible exact rfl | (go_simp; exact rfl)); clear hK K))
    refine wsPlan_done ?_
    have q8 := setRow_heap y3 V.heap.size _ #[.int .i64 h1.id, .int .i64 h1.kind, .int .i64 h1.x, .int .i64 h1.y, .int .i64 h1.rad, .slice fa nfa fca, .int .i64 h1.dep, .int .i64 h1.sym, .slice fb nfb fcb] _ _ q7b
    have hS := below_setRow hP (show wr.heap.size ≤ V.heap.size by have := hdr.size; omega) #[.int .i64 h1.id, .int .i64 h1.kind, .int .i64 h1.x, .int .i64 h1.y, .int .i64 h1.rad, .slice fa nfa fca, .int .i64 h1.dep, .int .i64 h1.sym, .slice fb nfb fcb]
    try simp only [Act.put, List.setIfInBounds_toArray, List.set_cons_zero, List.set_cons_succ]
    generalize hws : World.setRow y3 V.heap.size #[.int .i64 h1.id, .int .i64 h1.kind, .int .i64 h1.x, .int .i64 h1.y, .int .i64 h1.rad, .slice fa nfa fca, .int .i64 h1.dep, .int .i64 h1.sym, .slice fb nfb fcb] = y9 at q8 hS ⊢
    clear hws
    have hB9 := below_step hb hS
    have hs9 : w.heap.size + 2 ≤ y9.heap.size := by have := hS.size; omega
    have Q8 := Lib.hid q8
    have Q29 := Lib.hid (block_later hS Q2.out)
    have Q39 := Lib.hid (block_later hS Q3.out)
    have O9 := Lib.hid (OW.out.keep hS)
    clear q8 hP q7b
    cases hcg : chgF h p with
    | none =>
      obtain ⟨rfl, rfl⟩ : h1 = h ∧ er = 12 := by
       have h2 := CE.out
       unfold chgE at h2
       rw [hcg] at h2
       cases h2
       exact ⟨rfl, rfl⟩
      have NO := Lib.hid (fld_stop HKL.out HPK.out AC.out hcg)
      clear hcg
      go_wp2_with fail
      go_returns
      exact ⟨none, 0, 0, hB9, .inr ⟨NO.out, rfl⟩⟩
    | some h2 =>
      obtain ⟨hh, rfl⟩ : h1 = h2 ∧ er = 0 := by
       have h3 := CE.out
       unfold chgE at h3
       rw [hcg] at h3
       cases h3
       exact ⟨rfl, rfl⟩
      subst hh
      have AN := Lib.hid (fld_step HKL.out HPK.out AC.out hcg)
      have AR2 : Hid (h1.area = f.area ∧ h1.secs = f.secs) := Lib.hid (by obtain ⟨_, _, i3, i4⟩ := chgF_id hcg; exact ⟨i3.trans AR.out.1, i4.trans AR.out.2⟩)
      have c8 := cell_block Q8.out
      have c2 := cell_block Q29.out
      have f2 := free_block Q29.out
      clear hcg
      go_upto_region 10 with fail
      refine wp_named fun W9 hWn => ?_
      have n2 := (congrArg (fun X : World => X.heap[w.heap.size]?) hWn).trans (block_set (i := 8) (block_set (i := 7) (block_set (i := 6) (block_set (i := 5) (block_set (i := 4) (block_set (i := 3) (block_set (i := 2) (block_set (i := 1) (block_set (i := 0) Q29.out (.int .i64 h1.id)) (.int .i64 h1.kind)) (.int .i64 h1.x)) (.int .i64 h1.y)) (.int .i64 h1.rad)) (.slice fa nfa fca)) (.int .i64 h1.dep)) (.int .i64 h1.sym)) (.slice fb nfb fcb))
      replace n2 : W9.heap[w.heap.size]? = _ := n2
      simp only [List.setIfInBounds_toArray, List.set_cons_zero, List.set_cons_succ] at n2
      have n3 := (congrArg (fun X : World => X.heap[w.heap.size + 1]?) hWn).trans (block_far (a := ⟨w.heap.size, 8, none⟩) (block_far (a := ⟨w.heap.size, 7, none⟩) (block_far (a := ⟨w.heap.size, 6, none⟩) (block_far (a := ⟨w.heap.size, 5, none⟩) (block_far (a := ⟨w.heap.size, 4, none⟩) (block_far (a := ⟨w.heap.size, 3, none⟩) (block_far (a := ⟨w.heap.size, 2, none⟩) (block_far (a := ⟨w.heap.size, 1, none⟩) (block_far (a := ⟨w.heap.size, 0, none⟩) Q39.out (by dsimp only; omega) (.int .i64 h1.id)) (by dsimp only; omega) (.int .i64 h1.kind)) (by dsimp only; omega) (.int .i64 h1.x)) (by dsimp only; omega) (.int .i64 h1.y)) (by dsimp only; omega) (.int .i64 h1.rad)) (by dsimp only; omega) (.slice fa nfa fca)) (by dsimp only; omega) (.int .i64 h1.dep)) (by dsimp only; omega) (.int .i64 h1.sym)) (by dsimp only; omega) (.slice fb nfb fcb))
      replace n3 : W9.heap[w.heap.size + 1]? = _ := n3
      have no : OwnOs W0.heap.size w W9 (.slice (some ⟨g0, oo, none⟩) M0.length cc0) M0 := by rw [hWn]; exact (OwnOs.farO (OwnOs.farO (OwnOs.farO (OwnOs.farO (OwnOs.farO (OwnOs.farO (OwnOs.farO (OwnOs.farO (OwnOs.farO O9.out (by have := LB.out; omega)) (by have := LB.out; omega)) (by have := LB.out; omega)) (by have := LB.out; omega)) (by have := LB.out; omega)) (by have := LB.out; omega)) (by have := LB.out; omega)) (by have := LB.out; omega)) (by have := LB.out; omega))
      have nb : Below w.heap.size w W9 := by rw [hWn]; exact (((((((((hB9.setCell (by dsimp only; omega) _).setCell (by dsimp only; omega) _).setCell (by dsimp only; omega) _).setCell (by dsimp only; omega) _).setCell (by dsimp only; omega) _).setCell (by dsimp only; omega) _).setCell (by dsimp only; omega) _).setCell (by dsimp only; omega) _).setCell (by dsimp only; omega) _)
      have ns : w.heap.size + 2 ≤ W9.heap.size := by rw [hWn]; simp only [World.size_setCell]; exact hs9
      clear hWn
      have ml3 : M0.length ≤ 3 := ML.out
      go_wp2_with fail
      go_roundw
      case rel => exact ⟨k + 1, h1, by omega, by go_num, AN, AR2, n2, n3, no, nb, ns⟩
      case measure => simp [cntV]; omega
end Go.Proofs.YtdmegkkifiahdaaGreat
