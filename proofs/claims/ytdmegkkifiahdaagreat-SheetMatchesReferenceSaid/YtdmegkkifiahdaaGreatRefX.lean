/- The walk of the reference's Differ. -/
import Derived.Test.YtdmegkkifiahdaaGreatKR
import Derived.Test.YtdmegkkifiahdaaGreatShtH
namespace Go.Proofs.YtdmegkkifiahdaaGreat
open Go.RowKit
attribute [local go_sem] bqOp bqAll bqUpon sqOp sqAll sqUpon ssOp ssAll
attribute [local irreducible] wpQuiet wpBQ wpPlan wsPlan
set_option linter.unusedVariables false
/-- What the reference finds in two lists whose IDs rise. -/
def mergeD : List Feat → List Feat → List Int
  | [], [] => []
  | f :: a, [] => f.id :: mergeD a []
  | [], g :: b => g.id :: mergeD [] b
  | f :: a, g :: b => if f.id < g.id then f.id :: mergeD a (g :: b) else if g.id < f.id then g.id :: mergeD (f :: a) b else (if f = g then [] else [f.id]) ++ mergeD a b
termination_by a b => a.length + b.length
theorem look_consF (g : Feat) (l : List Feat) (id : Int) : look (g :: l) id = if g.id = id then some g else look l id := by
  unfold look
  rw [List.find?_cons]
  by_cases h : g.id = id <;> simp [h]
theorem look_offF {l : List Feat} {id : Int} (h : ∀ f ∈ l, f.id ≠ id) : look l id = none := by
  unfold look
  rw [List.find?_eq_none]
  intro f hf
  simpa using h f hf
theorem merge_mem : ∀ (a b : List Feat), idsUp a → idsUp b → ∀ id, id ∈ mergeD a b ↔ look a id ≠ look b id
  | [], [], _, _, id => by
    rw [mergeD]
    simp
  | f :: a, [], ha, hb, id => by
    obtain ⟨h1, h2⟩ := List.pairwise_cons.1 ha
    rw [mergeD, List.mem_cons, merge_mem a [] h2 hb id, look_consF]
    by_cases h : f.id = id
    · rw [if_pos h]
      exact ⟨fun _ => by simp [look], fun _ => .inl h.symm⟩
    · rw [if_neg h]
      exact ⟨fun g => g.resolve_left (fun e => h e.symm), fun g => .inr g⟩
  | [], g :: b, ha, hb, id => by
    obtain ⟨h1, h2⟩ := List.pairwise_cons.1 hb
    rw [mergeD, List.mem_cons, merge_mem [] b ha h2 id, look_consF]
    by_cases h : g.id = id
    · rw [if_pos h]
      exact ⟨fun _ => by simp [look], fun _ => .inl h.symm⟩
    · rw [if_neg h]
      exact ⟨fun e => e.resolve_left (fun e => h e.symm), fun e => .inr e⟩
  | f :: a, g :: b, ha, hb, id => by
    obtain ⟨h1, h2⟩ := List.pairwise_cons.1 ha
    obtain ⟨g1, g2⟩ := List.pairwise_cons.1 hb
    rw [mergeD]
    by_cases hlt : f.id < g.id
    · rw [if_pos hlt, List.mem_cons, merge_mem a (g :: b) h2 hb id, look_consF f]
      by_cases h : f.id = id
      · rw [if_pos h]
        have hn : look (g :: b) id = none := look_offF fun x hx => by
          rcases List.mem_cons.1 hx with rfl | hx
          · omega
          · have := g1 x hx
            omega
        rw [hn]
        exact ⟨fun _ => by simp, fun _ => .inl h.symm⟩
      · rw [if_neg h]
        exact ⟨fun e => e.resolve_left (fun e => h e.symm), fun e => .inr e⟩
    · rw [if_neg hlt]
      by_cases hgt : g.id < f.id
      · rw [if_pos hgt, List.mem_cons, merge_mem (f :: a) b ha g2 id, look_consF g]
        by_cases h : g.id = id
        · rw [if_pos h]
          have hn : look (f :: a) id = none := look_offF fun x hx => by
            rcases List.mem_cons.1 hx with rfl | hx
            · omega
            · have := h1 x hx
              omega
          rw [hn]
          exact ⟨fun _ => by simp, fun _ => .inl h.symm⟩
        · rw [if_neg h]
          exact ⟨fun e => e.resolve_left (fun e => h e.symm), fun e => .inr e⟩
      · rw [if_neg hgt, List.mem_append, merge_mem a b h2 g2 id, look_consF f, look_consF g]
        have he : f.id = g.id := by omega
        by_cases h : f.id = id
        · rw [if_pos h, if_pos (he.symm.trans h)]
          have hn : look a id = none := look_offF fun x hx => by have := h1 x hx; omega
          have hm : look b id = none := look_offF fun x hx => by have := g1 x hx; omega
          rw [hn, hm]
          by_cases hfg : f = g
          · rw [if_pos hfg]
            simp [hfg]
          · rw [if_neg hfg]
            exact ⟨fun _ e => hfg (Option.some.inj e), fun _ => .inl (by simp [h])⟩
        · rw [if_neg h, if_neg (fun e => h (he.trans e))]
          refine ⟨fun e => e.resolve_left fun e => ?_, fun e => .inr e⟩
          split at e
          · simp at e
          · exact h (List.mem_singleton.1 e).symm
termination_by a b => a.length + b.length
theorem look_ids {a b : List Feat} {x : Int} (h : look a x ≠ look b x) : (∃ f ∈ a, f.id = x) ∨ ∃ f ∈ b, f.id = x := by
  cases ha : look a x with
  | some f => exact .inl ⟨f, look_some ha⟩
  | none =>
    cases hb : look b x with
    | some f => exact .inr ⟨f, look_some hb⟩
    | none => rw [ha, hb] at h; exact absurd rfl h
theorem merge_rise : ∀ (a b : List Feat), idsUp a → idsUp b → (mergeD a b).Pairwise (· < ·)
  | [], [], _, _ => by
    rw [mergeD]
    exact .nil
  | f :: a, [], ha, hb => by
    obtain ⟨h1, h2⟩ := List.pairwise_cons.1 ha
    rw [mergeD]
    refine List.pairwise_cons.2 ⟨fun x hx => ?_, merge_rise a [] h2 hb⟩
    rcases look_ids ((merge_mem a [] h2 hb x).1 hx) with ⟨y, hy, rfl⟩ | ⟨y, hy, _⟩
    · exact h1 y hy
    · simp at hy
  | [], g :: b, ha, hb => by
    obtain ⟨h1, h2⟩ := List.pairwise_cons.1 hb
    rw [mergeD]
    refine List.pairwise_cons.2 ⟨fun x hx => ?_, merge_rise [] b ha h2⟩
    rcases look_ids ((merge_mem [] b ha h2 x).1 hx) with ⟨y, hy, _⟩ | ⟨y, hy, rfl⟩
    · simp at hy
    · exact h1 y hy
  | f :: a, g :: b, ha, hb => by
    obtain ⟨h1, h2⟩ := List.pairwise_cons.1 ha
    obtain ⟨g1, g2⟩ := List.pairwise_cons.1 hb
    rw [mergeD]
    by_cases hlt : f.id < g.id
    · rw [if_pos hlt]
      refine List.pairwise_cons.2 ⟨fun x hx => ?_, merge_rise a (g :: b) h2 hb⟩
      rcases look_ids ((merge_mem a (g :: b) h2 hb x).1 hx) with ⟨y, hy, rfl⟩ | ⟨y, hy, rfl⟩
      · exact h1 y hy
      · rcases List.mem_cons.1 hy with rfl | hy
        · exact hlt
        · have := g1 y hy
          omega
    · rw [if_neg hlt]
      by_cases hgt : g.id < f.id
      · rw [if_pos hgt]
        refine List.pairwise_cons.2 ⟨fun x hx => ?_, merge_rise (f :: a) b ha g2⟩
        rcases look_ids ((merge_mem (f :: a) b ha g2 x).1 hx) with ⟨y, hy, rfl⟩ | ⟨y, hy, rfl⟩
        · rcases List.mem_cons.1 hy with rfl | hy
          · exact hgt
          · have := h1 y hy
            omega
        · exact g1 y hy
      · rw [if_neg hgt]
        have hr := merge_rise a b h2 g2
        by_cases hfg : f = g
        · rw [if_pos hfg]
          exact hr
        · rw [if_neg hfg]
          refine List.pairwise_cons.2 ⟨fun x hx => ?_, hr⟩
          rcases look_ids ((merge_mem a b h2 g2 x).1 hx) with ⟨y, hy, rfl⟩ | ⟨y, hy, rfl⟩
          · exact h1 y hy
          · have := g1 y hy
            omega
termination_by a b => a.length + b.length
theorem merge_diff {a b : List Feat} (ha : FeatsOk a) (hb : FeatsOk b) : DiffL a b (mergeD a b) := ⟨merge_rise a b (idsUp_of ha) (idsUp_of hb), merge_mem a b (idsUp_of ha) (idsUp_of hb)⟩
theorem merge_len : ∀ (a b : List Feat), (mergeD a b).length ≤ a.length + b.length
  | [], [] => by
    rw [mergeD]
    exact Nat.le_refl _
  | f :: a, [] => by
    have := merge_len a []
    rw [mergeD]
    simp only [List.length_cons, List.length_nil] at this ⊢
    omega
  | [], g :: b => by
    have := merge_len [] b
    rw [mergeD]
    simp only [List.length_cons, List.length_nil] at this ⊢
    omega
  | f :: a, g :: b => by
    have h1 := merge_len a (g :: b)
    have h2 := merge_len (f :: a) b
    have h3 := merge_len a b
    rw [mergeD]
    simp only [List.length_cons] at h1 h2 ⊢
    split
    · simp only [List.length_cons]; omega
    · split
      · simp only [List.length_cons]; omega
      · rw [List.length_append]
        split <;> simp only [List.length_cons, List.length_nil] <;> omega
termination_by a b => a.length + b.length
theorem drop_at {l : List Feat} {i : Nat} (h : i < l.length) : l.drop i = l.getD i noFeat :: l.drop (i + 1) := by
  rw [List.getD_eq_getElem?_getD, List.getElem?_eq_getElem h]
  exact List.drop_eq_getElem_cons h
def Diff14 (s t : Sht) (o : Bool) (w : World) (e : Ending) (w' : World) : Prop := ∃ ad c n er, e = .returned (.tuple #[.slice ad n c, .int .i64 er]) ∧ (o = true → er = 0 ∧ n = (mergeD s.feats t.feats).length ∧ IntsAt w' (.slice ad n c) (mergeD s.feats t.feats)) ∧ (o = false → er = 1 ∧ n = 0) ∧ Below w.heap.size w w'
set_option maxHeartbeats 16000000 in
set_option maxRecDepth 20000 in
theorem q14Differ_any (s t : Sht) (vd vf vd' vf' : Value) (w : World) (hd : IntsAt w vd s.don) (hf : FeatsAt w vf s.feats) (kd : IntsAt w vd' t.don) (kf : FeatsAt w vf' t.feats) {o : Bool} (ho : decide (ShtOk s ∧ ShtOk t) = o) :
    Calls Tryz.prog 47 #[shtV s vd vf, shtV t vd' vf'] w (Diff14 s t o w) := by
  obtain ⟨ad, cd, rfl, g1, _, _⟩ := Lists.form hd
  obtain ⟨af, cf, rfl, g2, _, _⟩ := hf.form
  obtain ⟨ad', cd', rfl, g3, _, _⟩ := Lists.form kd
  obtain ⟨af', cf', rfl, g4, _, _⟩ := kf.form
  obtain ⟨u1, hu1⟩ : ∃ z, decide (ShtOk s) = z := ⟨_, rfl⟩
  obtain ⟨u2, hu2⟩ : ∃ z, decide (ShtOk t) = z := ⟨_, rfl⟩
  have HO : Hid (o = (u1 && u2)) := Lib.hid (by rw [← ho, ← hu1, ← hu2, Bool.decide_and])
  have U1 := Lib.hid hu1
  have U2 := Lib.hid hu2
  have HD := Lib.hid hd
  have HF := Lib.hid hf
  have KD := Lib.hid kd
  have KF := Lib.hid kf
  clear hd hf kd kf g1 g2 g3 g4 hu1 hu2 ho
  go_enter Tryz.func47, Tryz.ntmps47
  go_wp2_with fail
  refine calls_named fun W hW => ?_
  obtain ⟨p1, p2, hB⟩ := box2 hW
  have hsW : w.heap.size + 2 ≤ W.heap.size := by rw [hW]; simp
  clear hW
  (with_reducible refine (q14Valid_any s _ _ _ (intsL HD.out hB) (HF.out.later hB) U1.out).mono ?_)
  rintro e w1 ⟨rfl, hb1⟩
  have hB1 := below_step hB hb1
  have p3 := block_later hb1 p1
  have p4 := block_later hb1 p2
  have hs1 := hb1.size
  clear p1 p2 hb1 hB
  have q1 := cell_block p3
  have q2 := cell_block p4
  go_wp2_with fail
  clear q1 q2
  (with_reducible refine (q14Valid_any t _ _ _ (intsL KD.out hB1) (KF.out.later hB1) U2.out).mono ?_)
  rintro e w2 ⟨rfl, hb2⟩
  have hB2 := below_step hB1 hb2
  have P1 := Lib.hid (block_later hb2 p3)
  have P2 := Lib.hid (block_later hb2 p4)
  have hs2 := hb2.size
  clear p3 p4 hb2 hB1
  have NO : Hid ((u1 && u2) = false → Diff14 s t o w (.returned (.tuple #[.slice none 0 0, .int .i64 1])) w2) := Lib.hid (fun h => ⟨none, 0, 0, 1, rfl, fun e => (by rw [HO.out, h] at e; cases e), fun _ => ⟨rfl, rfl⟩, hB2⟩)
  cases u1
  · go_wp2_with fail
    go_returns
    exact NO.out rfl
  cases u2
  · go_wp2_with fail
    go_returns
    exact NO.out rfl
  obtain rfl : o = true := HO.out
  have SO := Lib.hid (of_decide_eq_true U1.out).2.2.2.2.2.2.2
  have TO := Lib.hid (of_decide_eq_true U2.out).2.2.2.2.2.2.2
  have hs300 : s.feats.length ≤ 300 := SO.out.1
  have ht300 : t.feats.length ≤ 300 := TO.out.1
  clear NO U1 U2 HO
  go_wp2_with fail
  go_loopw [8, 9, 10] (fun v i j wr => ∃ (a b m : Nat) (x : Option Addr) (c : Nat) (D : List Int), a ≤ s.feats.length ∧ b ≤ t.feats.length ∧ v = .slice x m c ∧ i = .int .i64 a ∧ j = .int .i64 b ∧ Below w.heap.size w wr ∧ w.heap.size + 2 ≤ wr.heap.size ∧ wr.heap[w.heap.size]? = some (.cells #[.int .i64 s.chart, .int .i64 s.scale, .int .i64 s.edition, .int .i64 s.dat.a, .int .i64 s.dat.b, .int .i64 s.dat.c, .int .i64 s.dat.d, .int .i64 s.dat.e, .int .i64 s.dat.f, .int .i64 s.dat.r, .int .i64 s.cap, .slice ad s.don.length cd, .slice af s.feats.length cf] 54) ∧ wr.heap[w.heap.size + 1]? = some (.cells #[.int .i64 t.chart, .int .i64 t.scale, .int .i64 t.edition, .int .i64 t.dat.a, .int .i64 t.dat.b, .int .i64 t.dat.c, .int .i64 t.dat.d, .int .i64 t.dat.e, .int .i64 t.dat.f, .int .i64 t.dat.r, .int .i64 t.cap, .slice ad' t.don.length cd', .slice af' t.feats.length cf'] 54) ∧ OwnI (w.heap.size + 2) wr (.slice x m c) D ∧ D ++ mergeD (s.feats.drop a) (t.feats.drop b) = mergeD s.feats t.feats) (fun _ i j _ => (s.feats.length - (intOf i).toNat) + (t.feats.length - (intOf j).toNat))
  case atStart => exact ⟨0, 0, 0, none, 0, [], by omega, by omega, rfl, rfl, rfl, hB2, by omega, P1.out, P2.out, OwnI.nil _ _, by simp⟩
  case round =>
    obtain ⟨a, b, m, x, c, D, ha, hb, rfl, rfl, rfl, hB, hsz, h1, h2, how, hme⟩ := hrel
    have OW := Lib.hid how
    have ME := Lib.hid hme
    have Q1 := Lib.hid h1
    have Q2 := Lib.hid h2
    clear how hme h1 h2 P1 P2 hB2 hs1 hs2
    have hm : m = D.length := by
      obtain ⟨ad', c', e'⟩ := OW.out.form
      cases e'
      rfl
    subst hm
    have hml : D.length ≤ 600 := by
      have h3 := merge_len s.feats t.feats
      rw [← ME.out, List.length_append] at h3
      omega
    have q1 := cell_block Q1.out
    have q2 := cell_block Q2.out
    rcases Nat.lt_or_ge a s.feats.length with alt | age
    rotate_left
    · have ea : a = s.feats.length := by omega
      have EA := Lib.hid ea
      have da : decide (a < s.feats.length) = false := by simp; omega
      have da2 : (a == s.feats.length) = true := by simp; omega
      have da3 : ((a : Int) == (s.feats.length : Int)) = true := by simp; omega
      clear ea
      rcases Nat.lt_or_ge b t.feats.length with blt | bge
      rotate_left
      · have E : Hid (D = mergeD s.feats t.feats) := Lib.hid (by
          rw [← ME.out, List.drop_eq_nil_of_le (by omega), List.drop_eq_nil_of_le (by omega), mergeD, List.append_nil])
        have db : decide (b < t.feats.length) = false := by simp; omega
        go_wp2_with fail
        go_returns
        obtain rfl := E.out
        exact ⟨x, c, _, 0, rfl, fun _ => ⟨rfl, rfl, OW.out.ints (by omega)⟩, fun h => (nomatch h), hB⟩
      have db : decide (b < t.feats.length) = true := by simp; omega
      have db2 : (b == t.feats.length) = false := by simp; omega
      have db3 : ((b : Int) == (t.feats.length : Int)) = false := by simp; omega
      obtain ⟨gg, og, vag, vsg, eg, fcg⟩ := KF.out.row blt
      subst eg
      have EDg := Lib.hid (drop_at blt)
      obtain ⟨g, hg⟩ : ∃ z, t.feats.getD b noFeat = z := ⟨_, rfl⟩
      rw [hg] at fcg EDg
      clear hg
      obtain ⟨cg0, cg1, cg2, cg3, cg4, cg5, cg6, cg7, cg8, PAg, SAg⟩ := fcg
      obtain ⟨aag, cag, rfl, _, _, _⟩ := Lists.form PAg
      obtain ⟨abg, cbg, rfl, _, _, _⟩ := Lists.form SAg
      have PAg' := Lib.hid PAg
      have SAg' := Lib.hid SAg
      clear PAg SAg
      replace cg0 := cell_later hB cg0
      replace cg1 := cell_later hB cg1
      replace cg2 := cell_later hB cg2
      replace cg3 := cell_later hB cg3
      replace cg4 := cell_later hB cg4
      replace cg5 := cell_later hB cg5
      replace cg6 := cell_later hB cg6
      replace cg7 := cell_later hB cg7
      replace cg8 := cell_later hB cg8
      have rg0 := fun d os => cell_later (below_regrown wr d os) cg0
      have z1 := cellsR Q1.out
      have z2 := cellsR Q2.out
      go_wp2_with fail
      refine wp_region_plan (.take 0 (.take 0 (.take 0 (.take 0 (.take 0 (.take 0 (.take 0 (.take 0 (.take 0 (.take 0 (.take 0 (.take 0 (.take 0 (.take 0 (.take 0 (.take 0 (.take 0 (.take 0 (.take 0 (.take 0 (.take 0 (.take 0 (.take 0 (.take 0 (.take 0 (.take 0 (.take 0 (.done)))))))))))))))))))))))))))) (by kernel_rfl) (by kernel_rfl) (fun hP => ?_)
      repeat' (first
        | (refine wpPlan_two ?_ ?_)
        | (refine wpPlan_three ?_ ?_ ?_)
        | (refine wpPlan_take rfl (fun K hK => ?_); replace hK := Lib.hid hK; go_simp; first | (refine hK.out _ ?_; clear hK K) | (apply Exists.intro; refine ⟨fun _ => ?_, hK.out _ ?_⟩; (first | with_reducible exact rfl | skip); clear hK K))
        | (refine wpPlan_only rfl (fun K hK => ?_); replace hK := Lib.hid hK; (first | (go_simp; first | skip)); refine hK.out _ _ (by first | assumption | exact below_step hP hbx | exact hP.drew | exact hP.alloc hP.size _) (fun hP => ?_); clear hK K))
      all_goals refine wpPlan_done ?_
      generalize hdr : wr.drew = v1 at hP ⊢
      clear hdr
      clear z1 z2 rg0
      have hB_1 := below_step hB hP
      have OW_1 := Lib.hid (OW.out.keep hP)
      have Q1_1 := Lib.hid (block_later hP Q1.out)
      have Q2_1 := Lib.hid (block_later hP Q2.out)
      have hs_1 := hP.size
      have cg0_1 := cell_later hP cg0
      have cg1_1 := cell_later hP cg1
      have cg2_1 := cell_later hP cg2
      have cg3_1 := cell_later hP cg3
      have cg4_1 := cell_later hP cg4
      have cg5_1 := cell_later hP cg5
      have cg6_1 := cell_later hP cg6
      have cg7_1 := cell_later hP cg7
      have cg8_1 := cell_later hP cg8
      clear cg0 cg1 cg2 cg3 cg4 cg5 cg6 cg7 cg8
      clear hP
      have rg0 := fun d os => cell_later (below_regrown v1 d os) cg0_1
      have z1 := cellsR Q1_1.out
      have z2 := cellsR Q2_1.out
      go_wp2_with fail
      refine wp_region_plan (.take 0 (.take 0 (.take 0 (.take 0 (.take 0 (.take 0 (.take 0 (.take 0 (.take 0 (.take 0 (.take 0 (.take 0 (.take 0 (.take 0 (.take 0 (.take 0 (.take 0 (.take 0 (.take 0 (.take 0 (.done))))))))))))))))))))) (by kernel_rfl) (by kernel_rfl) (fun hP => ?_)
      repeat' (first
        | (refine wpPlan_two ?_ ?_)
        | (refine wpPlan_three ?_ ?_ ?_)
        | (refine wpPlan_take rfl (fun K hK => ?_); replace hK := Lib.hid hK; go_simp; first | (refine hK.out _ ?_; clear hK K) | (apply Exists.intro; refine ⟨fun _ => ?_, hK.out _ ?_⟩; (first | with_reducible exact rfl | skip); clear hK K))
        | (refine wpPlan_only rfl (fun K hK => ?_); replace hK := Lib.hid hK; (first | (go_simp; first | skip)); refine hK.out _ _ (by first | assumption | exact below_step hP hbx | exact hP.drew | exact hP.alloc hP.size _) (fun hP => ?_); clear hK K))
      all_goals refine wpPlan_done ?_
      generalize hdr : v1.drew = v2 at hP ⊢
      clear hdr
      clear z1 z2 rg0
      have hB_2 := below_step hB_1 hP
      have OW_2 := Lib.hid (OW_1.out.keep hP)
      have Q1_2 := Lib.hid (block_later hP Q1_1.out)
      have Q2_2 := Lib.hid (block_later hP Q2_1.out)
      have hs_2 := hP.size
      have cg0_2 := cell_later hP cg0_1
      have cg1_2 := cell_later hP cg1_1
      have cg2_2 := cell_later hP cg2_1
      have cg3_2 := cell_later hP cg3_1
      have cg4_2 := cell_later hP cg4_1
      have cg5_2 := cell_later hP cg5_1
      have cg6_2 := cell_later hP cg6_1
      have cg7_2 := cell_later hP cg7_1
      have cg8_2 := cell_later hP cg8_1
      clear cg0_1 cg1_1 cg2_1 cg3_1 cg4_1 cg5_1 cg6_1 cg7_1 cg8_1
      clear hP
      have k1 := cell_block Q1_2.out
      have k2 := cell_block Q2_2.out
      have O2 := Lib.hid (OW_2.out.keep ((Below.refl v2.heap.size v2).alloc (Nat.le_refl _) (.cells #[.int .i64 g.id] 3)))
      go_wp2_with (at_builtin; refine wpList_app rfl _ _ rfl (w.heap.size + 2) _ D [g.id] rfl O2.out _ 1 _ rfl rfl (lit_ints [g.id] rfl rfl rfl (by unfold maxLen; simp)) (by omega) (by simp; omega) ?_; intro x5 c5 w5 hown5 hb5)
      have hB5 : Below w.heap.size w w5 := (hB_2.trans ((Below.refl w.heap.size v2).alloc (by omega) _)).trans (hb5.mono (by omega))
      have Q15 := Lib.hid ((hb5.block w.heap.size (by omega)).trans (block_alloc Q1_2.out))
      have Q25 := Lib.hid ((hb5.block (w.heap.size + 1) (by omega)).trans (block_alloc Q2_2.out))
      have hs5 : w.heap.size + 2 ≤ w5.heap.size := by have := hb5.size; simp at this; omega
      have O5 := Lib.hid hown5
      have ME5 : Hid ((D ++ [g.id]) ++ mergeD (s.feats.drop (a)) (t.feats.drop (b + 1)) = mergeD s.feats t.feats) := Lib.hid (by
        rw [← ME.out, List.append_assoc]
        rw [show a = s.feats.length from EA.out, List.drop_length, EDg.out]
        conv => rhs; rw [mergeD]
        rfl)
      clear hown5 hb5 k1 k2 O2
      go_wp2_with fail
      go_roundw
      case rel => exact ⟨a, b + 1, D.length + 1, x5, c5, D ++ [g.id], by omega, by omega, rfl, by go_num, by go_num, hB5, hs5, Q15.out, Q25.out, O5.out, ME5.out⟩
      case measure => simp [intOf]; omega
    rcases Nat.lt_or_ge b t.feats.length with blt | bge
    rotate_left
    · have eb : b = t.feats.length := by omega
      have EB := Lib.hid eb
      clear eb
      have da : decide (a < s.feats.length) = true := by simp; omega
      have da2 : (a == s.feats.length) = false := by simp; omega
      have da3 : ((a : Int) == (s.feats.length : Int)) = false := by simp; omega
      have db : decide (b < t.feats.length) = false := by simp; omega
      have db2 : (b == t.feats.length) = true := by simp; omega
      have db3 : ((b : Int) == (t.feats.length : Int)) = true := by simp; omega
      obtain ⟨gf, of, vaf, vsf, ef, fcf⟩ := HF.out.row alt
      subst ef
      have EDf := Lib.hid (drop_at alt)
      obtain ⟨f, hf⟩ : ∃ z, s.feats.getD a noFeat = z := ⟨_, rfl⟩
      rw [hf] at fcf EDf
      clear hf
      obtain ⟨cf0, cf1, cf2, cf3, cf4, cf5, cf6, cf7, cf8, PAf, SAf⟩ := fcf
      obtain ⟨aaf, caf, rfl, _, _, _⟩ := Lists.form PAf
      obtain ⟨abf, cbf, rfl, _, _, _⟩ := Lists.form SAf
      have PAf' := Lib.hid PAf
      have SAf' := Lib.hid SAf
      clear PAf SAf
      replace cf0 := cell_later hB cf0
      replace cf1 := cell_later hB cf1
      replace cf2 := cell_later hB cf2
      replace cf3 := cell_later hB cf3
      replace cf4 := cell_later hB cf4
      replace cf5 := cell_later hB cf5
      replace cf6 := cell_later hB cf6
      replace cf7 := cell_later hB cf7
      replace cf8 := cell_later hB cf8
      have rf0 := fun d os => cell_later (below_regrown wr d os) cf0
      have z1 := cellsR Q1.out
      have z2 := cellsR Q2.out
      go_wp2_with fail
      refine wp_region_plan (.take 0 (.take 0 (.take 0 (.take 0 (.take 0 (.take 0 (.take 0 (.take 0 (.take 0 (.take 0 (.take 0 (.take 0 (.take 0 (.take 0 (.take 0 (.take 0 (.take 0 (.take 0 (.take 0 (.take 0 (.take 0 (.take 0 (.take 0 (.take 0 (.take 0 (.take 0 (.take 0 (.done)))))))))))))))))))))))))))) (by kernel_rfl) (by kernel_rfl) (fun hP => ?_)
      repeat' (first
        | (refine wpPlan_two ?_ ?_)
        | (refine wpPlan_three ?_ ?_ ?_)
        | (refine wpPlan_take rfl (fun K hK => ?_); replace hK := Lib.hid hK; go_simp; first | (refine hK.out _ ?_; clear hK K) | (apply Exists.intro; refine ⟨fun _ => ?_, hK.out _ ?_⟩; (first | with_reducible exact rfl | skip); clear hK K))
        | (refine wpPlan_only rfl (fun K hK => ?_); replace hK := Lib.hid hK; (first | (go_simp; first | skip)); refine hK.out _ _ (by first | assumption | exact below_step hP hbx | exact hP.drew | exact hP.alloc hP.size _) (fun hP => ?_); clear hK K))
      all_goals refine wpPlan_done ?_
      generalize hdr : wr.drew = v3 at hP ⊢
      clear hdr
      clear z1 z2 rf0
      have hB_3 := below_step hB hP
      have OW_3 := Lib.hid (OW.out.keep hP)
      have Q1_3 := Lib.hid (block_later hP Q1.out)
      have Q2_3 := Lib.hid (block_later hP Q2.out)
      have hs_3 := hP.size
      have cf0_3 := cell_later hP cf0
      have cf1_3 := cell_later hP cf1
      have cf2_3 := cell_later hP cf2
      have cf3_3 := cell_later hP cf3
      have cf4_3 := cell_later hP cf4
      have cf5_3 := cell_later hP cf5
      have cf6_3 := cell_later hP cf6
      have cf7_3 := cell_later hP cf7
      have cf8_3 := cell_later hP cf8
      clear cf0 cf1 cf2 cf3 cf4 cf5 cf6 cf7 cf8
      clear hP
      have k1 := cell_block Q1_3.out
      have k2 := cell_block Q2_3.out
      have O2 := Lib.hid (OW_3.out.keep ((Below.refl v3.heap.size v3).alloc (Nat.le_refl _) (.cells #[.int .i64 f.id] 3)))
      go_wp2_with (at_builtin; refine wpList_app rfl _ _ rfl (w.heap.size + 2) _ D [f.id] rfl O2.out _ 1 _ rfl rfl (lit_ints [f.id] rfl rfl rfl (by unfold maxLen; simp)) (by omega) (by simp; omega) ?_; intro x5 c5 w5 hown5 hb5)
      have hB5 : Below w.heap.size w w5 := (hB_3.trans ((Below.refl w.heap.size v3).alloc (by omega) _)).trans (hb5.mono (by omega))
      have Q15 := Lib.hid ((hb5.block w.heap.size (by omega)).trans (block_alloc Q1_3.out))
      have Q25 := Lib.hid ((hb5.block (w.heap.size + 1) (by omega)).trans (block_alloc Q2_3.out))
      have hs5 : w.heap.size + 2 ≤ w5.heap.size := by have := hb5.size; simp at this; omega
      have O5 := Lib.hid hown5
      have ME5 : Hid ((D ++ [f.id]) ++ mergeD (s.feats.drop (a + 1)) (t.feats.drop (b)) = mergeD s.feats t.feats) := Lib.hid (by
        rw [← ME.out, List.append_assoc]
        rw [show b = t.feats.length from EB.out, List.drop_length, EDf.out]
        conv => rhs; rw [mergeD]
        rfl)
      clear hown5 hb5 k1 k2 O2
      go_wp2_with fail
      go_roundw
      case rel => exact ⟨a + 1, b, D.length + 1, x5, c5, D ++ [f.id], by omega, by omega, rfl, by go_num, by go_num, hB5, hs5, Q15.out, Q25.out, O5.out, ME5.out⟩
      case measure => simp [intOf]; omega
    have da : decide (a < s.feats.length) = true := by simp; omega
    have da2 : (a == s.feats.length) = false := by simp; omega
    have da3 : ((a : Int) == (s.feats.length : Int)) = false := by simp; omega
    have db : decide (b < t.feats.length) = true := by simp; omega
    have db2 : (b == t.feats.length) = false := by simp; omega
    have db3 : ((b : Int) == (t.feats.length : Int)) = false := by simp; omega
    obtain ⟨gf, of, vaf, vsf, ef, fcf⟩ := HF.out.row alt
    subst ef
    have EDf := Lib.hid (drop_at alt)
    obtain ⟨f, hf⟩ : ∃ z, s.feats.getD a noFeat = z := ⟨_, rfl⟩
    rw [hf] at fcf EDf
    clear hf
    obtain ⟨cf0, cf1, cf2, cf3, cf4, cf5, cf6, cf7, cf8, PAf, SAf⟩ := fcf
    obtain ⟨aaf, caf, rfl, _, _, _⟩ := Lists.form PAf
    obtain ⟨abf, cbf, rfl, _, _, _⟩ := Lists.form SAf
    have PAf' := Lib.hid PAf
    have SAf' := Lib.hid SAf
    clear PAf SAf
    replace cf0 := cell_later hB cf0
    replace cf1 := cell_later hB cf1
    replace cf2 := cell_later hB cf2
    replace cf3 := cell_later hB cf3
    replace cf4 := cell_later hB cf4
    replace cf5 := cell_later hB cf5
    replace cf6 := cell_later hB cf6
    replace cf7 := cell_later hB cf7
    replace cf8 := cell_later hB cf8
    obtain ⟨gg, og, vag, vsg, eg, fcg⟩ := KF.out.row blt
    subst eg
    have EDg := Lib.hid (drop_at blt)
    obtain ⟨g, hg⟩ : ∃ z, t.feats.getD b noFeat = z := ⟨_, rfl⟩
    rw [hg] at fcg EDg
    clear hg
    obtain ⟨cg0, cg1, cg2, cg3, cg4, cg5, cg6, cg7, cg8, PAg, SAg⟩ := fcg
    obtain ⟨aag, cag, rfl, _, _, _⟩ := Lists.form PAg
    obtain ⟨abg, cbg, rfl, _, _, _⟩ := Lists.form SAg
    have PAg' := Lib.hid PAg
    have SAg' := Lib.hid SAg
    clear PAg SAg
    replace cg0 := cell_later hB cg0
    replace cg1 := cell_later hB cg1
    replace cg2 := cell_later hB cg2
    replace cg3 := cell_later hB cg3
    replace cg4 := cell_later hB cg4
    replace cg5 := cell_later hB cg5
    replace cg6 := cell_later hB cg6
    replace cg7 := cell_later hB cg7
    replace cg8 := cell_later hB cg8
    rcases Int.lt_trichotomy f.id g.id with hlt | heq | hgt
    · have e1 : decide (f.id < g.id) = true := decide_eq_true hlt
      have HLT := Lib.hid hlt
      clear hlt
      have rf0 := fun d os => cell_later (below_regrown wr d os) cf0
      have rg0 := fun d os => cell_later (below_regrown wr d os) cg0
      have z1 := cellsR Q1.out
      have z2 := cellsR Q2.out
      go_wp2_with fail
      refine wp_region_plan (.take 0 (.take 0 (.take 0 (.take 0 (.take 0 (.take 0 (.take 0 (.take 0 (.take 0 (.take 0 (.take 0 (.take 0 (.take 0 (.take 0 (.take 0 (.take 0 (.take 0 (.take 0 (.take 0 (.take 0 (.take 0 (.take 0 (.take 0 (.take 0 (.take 0 (.take 0 (.take 0 (.done)))))))))))))))))))))))))))) (by kernel_rfl) (by kernel_rfl) (fun hP => ?_)
      repeat' (first
        | (refine wpPlan_two ?_ ?_)
        | (refine wpPlan_three ?_ ?_ ?_)
        | (refine wpPlan_take rfl (fun K hK => ?_); replace hK := Lib.hid hK; go_simp; first | (refine hK.out _ ?_; clear hK K) | (apply Exists.intro; refine ⟨fun _ => ?_, hK.out _ ?_⟩; (first | with_reducible exact rfl | skip); clear hK K))
        | (refine wpPlan_only rfl (fun K hK => ?_); replace hK := Lib.hid hK; (first | (go_simp; first | skip)); refine hK.out _ _ (by first | assumption | exact below_step hP hbx | exact hP.drew | exact hP.alloc hP.size _) (fun hP => ?_); clear hK K))
      all_goals refine wpPlan_done ?_
      generalize hdr : wr.drew = v4 at hP ⊢
      clear hdr
      clear z1 z2 rf0 rg0
      have hB_4 := below_step hB hP
      have OW_4 := Lib.hid (OW.out.keep hP)
      have Q1_4 := Lib.hid (block_later hP Q1.out)
      have Q2_4 := Lib.hid (block_later hP Q2.out)
      have hs_4 := hP.size
      have cf0_4 := cell_later hP cf0
      have cf1_4 := cell_later hP cf1
      have cf2_4 := cell_later hP cf2
      have cf3_4 := cell_later hP cf3
      have cf4_4 := cell_later hP cf4
      have cf5_4 := cell_later hP cf5
      have cf6_4 := cell_later hP cf6
      have cf7_4 := cell_later hP cf7
      have cf8_4 := cell_later hP cf8
      clear cf0 cf1 cf2 cf3 cf4 cf5 cf6 cf7 cf8
      have cg0_4 := cell_later hP cg0
      have cg1_4 := cell_later hP cg1
      have cg2_4 := cell_later hP cg2
      have cg3_4 := cell_later hP cg3
      have cg4_4 := cell_later hP cg4
      have cg5_4 := cell_later hP cg5
      have cg6_4 := cell_later hP cg6
      have cg7_4 := cell_later hP cg7
      have cg8_4 := cell_later hP cg8
      clear cg0 cg1 cg2 cg3 cg4 cg5 cg6 cg7 cg8
      clear hP
      have k1 := cell_block Q1_4.out
      have k2 := cell_block Q2_4.out
      have O2 := Lib.hid (OW_4.out.keep ((Below.refl v4.heap.size v4).alloc (Nat.le_refl _) (.cells #[.int .i64 f.id] 3)))
      go_wp2_with (at_builtin; refine wpList_app rfl _ _ rfl (w.heap.size + 2) _ D [f.id] rfl O2.out _ 1 _ rfl rfl (lit_ints [f.id] rfl rfl rfl (by unfold maxLen; simp)) (by omega) (by simp; omega) ?_; intro x5 c5 w5 hown5 hb5)
      have hB5 : Below w.heap.size w w5 := (hB_4.trans ((Below.refl w.heap.size v4).alloc (by omega) _)).trans (hb5.mono (by omega))
      have Q15 := Lib.hid ((hb5.block w.heap.size (by omega)).trans (block_alloc Q1_4.out))
      have Q25 := Lib.hid ((hb5.block (w.heap.size + 1) (by omega)).trans (block_alloc Q2_4.out))
      have hs5 : w.heap.size + 2 ≤ w5.heap.size := by have := hb5.size; simp at this; omega
      have O5 := Lib.hid hown5
      have ME5 : Hid ((D ++ [f.id]) ++ mergeD (s.feats.drop (a + 1)) (t.feats.drop (b)) = mergeD s.feats t.feats) := Lib.hid (by
        rw [← ME.out, List.append_assoc]
        rw [EDf.out, EDg.out]
        conv => rhs; rw [mergeD, if_pos HLT.out]
        rfl)
      clear hown5 hb5 k1 k2 O2
      go_wp2_with fail
      go_roundw
      case rel => exact ⟨a + 1, b, D.length + 1, x5, c5, D ++ [f.id], by omega, by omega, rfl, by go_num, by go_num, hB5, hs5, Q15.out, Q25.out, O5.out, ME5.out⟩
      case measure => simp [intOf]; omega
    · have e1 : decide (f.id < g.id) = false := decide_eq_false (by omega)
      have e2 : decide (g.id < f.id) = false := decide_eq_false (by omega)
      have HEQ := Lib.hid heq
      clear heq
      have rf0 := fun d os => cell_later (below_regrown wr d os) cf0
      have rg0 := fun d os => cell_later (below_regrown wr d os) cg0
      have z1 := cellsR Q1.out
      have z2 := cellsR Q2.out
      go_wp2_with fail
      refine wp_region_plan (.take 0 (.take 0 (.take 0 (.take 0 (.take 0 (.take 0 (.take 0 (.take 0 (.take 0 (.take 0 (.take 0 (.take 0 (.take 0 (.take 0 (.take 0 (.take 0 (.take 0 (.take 0 (.take 0 (.take 0 (.take 0 (.take 0 (.take 0 (.take 0 (.take 0 (.take 0 (.take 0 (.done)))))))))))))))))))))))))))) (by kernel_rfl) (by kernel_rfl) (fun hP => ?_)
      repeat' (first
        | (refine wpPlan_two ?_ ?_)
        | (refine wpPlan_three ?_ ?_ ?_)
        | (refine wpPlan_take rfl (fun K hK => ?_); replace hK := Lib.hid hK; go_simp; first | (refine hK.out _ ?_; clear hK K) | (apply Exists.intro; refine ⟨fun _ => ?_, hK.out _ ?_⟩; (first | with_reducible exact rfl | skip); clear hK K))
        | (refine wpPlan_only rfl (fun K hK => ?_); replace hK := Lib.hid hK; (first | (go_simp; first | skip)); refine hK.out _ _ (by first | assumption | exact below_step hP hbx | exact hP.drew | exact hP.alloc hP.size _) (fun hP => ?_); clear hK K))
      all_goals refine wpPlan_done ?_
      generalize hdr : wr.drew = v5 at hP ⊢
      clear hdr
      clear z1 z2 rf0 rg0
      have hB_5 := below_step hB hP
      have OW_5 := Lib.hid (OW.out.keep hP)
      have Q1_5 := Lib.hid (block_later hP Q1.out)
      have Q2_5 := Lib.hid (block_later hP Q2.out)
      have hs_5 := hP.size
      have cf0_5 := cell_later hP cf0
      have cf1_5 := cell_later hP cf1
      have cf2_5 := cell_later hP cf2
      have cf3_5 := cell_later hP cf3
      have cf4_5 := cell_later hP cf4
      have cf5_5 := cell_later hP cf5
      have cf6_5 := cell_later hP cf6
      have cf7_5 := cell_later hP cf7
      have cf8_5 := cell_later hP cf8
      clear cf0 cf1 cf2 cf3 cf4 cf5 cf6 cf7 cf8
      have cg0_5 := cell_later hP cg0
      have cg1_5 := cell_later hP cg1
      have cg2_5 := cell_later hP cg2
      have cg3_5 := cell_later hP cg3
      have cg4_5 := cell_later hP cg4
      have cg5_5 := cell_later hP cg5
      have cg6_5 := cell_later hP cg6
      have cg7_5 := cell_later hP cg7
      have cg8_5 := cell_later hP cg8
      clear cg0 cg1 cg2 cg3 cg4 cg5 cg6 cg7 cg8
      clear hP
      have rf0 := fun d os => cell_later (below_regrown v5 d os) cf0_5
      have rg0 := fun d os => cell_later (below_regrown v5 d os) cg0_5
      have z1 := cellsR Q1_5.out
      have z2 := cellsR Q2_5.out
      go_wp2_with fail
      refine wp_region_plan (.take 0 (.take 0 (.take 0 (.take 0 (.take 0 (.take 0 (.take 0 (.take 0 (.take 0 (.take 0 (.take 0 (.take 0 (.take 0 (.take 0 (.take 0 (.take 0 (.take 0 (.take 0 (.take 0 (.take 0 (.done))))))))))))))))))))) (by kernel_rfl) (by kernel_rfl) (fun hP => ?_)
      repeat' (first
        | (refine wpPlan_two ?_ ?_)
        | (refine wpPlan_three ?_ ?_ ?_)
        | (refine wpPlan_take rfl (fun K hK => ?_); replace hK := Lib.hid hK; go_simp; first | (refine hK.out _ ?_; clear hK K) | (apply Exists.intro; refine ⟨fun _ => ?_, hK.out _ ?_⟩; (first | with_reducible exact rfl | skip); clear hK K))
        | (refine wpPlan_only rfl (fun K hK => ?_); replace hK := Lib.hid hK; (first | (go_simp; first | skip)); refine hK.out _ _ (by first | assumption | exact below_step hP hbx | exact hP.drew | exact hP.alloc hP.size _) (fun hP => ?_); clear hK K))
      all_goals refine wpPlan_done ?_
      generalize hdr : v5.drew = v6 at hP ⊢
      clear hdr
      clear z1 z2 rf0 rg0
      have hB_6 := below_step hB_5 hP
      have OW_6 := Lib.hid (OW_5.out.keep hP)
      have Q1_6 := Lib.hid (block_later hP Q1_5.out)
      have Q2_6 := Lib.hid (block_later hP Q2_5.out)
      have hs_6 := hP.size
      have cf0_6 := cell_later hP cf0_5
      have cf1_6 := cell_later hP cf1_5
      have cf2_6 := cell_later hP cf2_5
      have cf3_6 := cell_later hP cf3_5
      have cf4_6 := cell_later hP cf4_5
      have cf5_6 := cell_later hP cf5_5
      have cf6_6 := cell_later hP cf6_5
      have cf7_6 := cell_later hP cf7_5
      have cf8_6 := cell_later hP cf8_5
      clear cf0_5 cf1_5 cf2_5 cf3_5 cf4_5 cf5_5 cf6_5 cf7_5 cf8_5
      have cg0_6 := cell_later hP cg0_5
      have cg1_6 := cell_later hP cg1_5
      have cg2_6 := cell_later hP cg2_5
      have cg3_6 := cell_later hP cg3_5
      have cg4_6 := cell_later hP cg4_5
      have cg5_6 := cell_later hP cg5_5
      have cg6_6 := cell_later hP cg6_5
      have cg7_6 := cell_later hP cg7_5
      have cg8_6 := cell_later hP cg8_5
      clear cg0_5 cg1_5 cg2_5 cg3_5 cg4_5 cg5_5 cg6_5 cg7_5 cg8_5
      clear hP
      obtain ⟨sm, hsm⟩ : ∃ z, decide (f = g) = z := ⟨_, rfl⟩
      have SM := Lib.hid hsm
      clear hsm
      have rf0 := fun d os => cell_later (below_regrown v6 d os) cf0_6
      have rf1 := fun d os => cell_later (below_regrown v6 d os) cf1_6
      have rf2 := fun d os => cell_later (below_regrown v6 d os) cf2_6
      have rf3 := fun d os => cell_later (below_regrown v6 d os) cf3_6
      have rf4 := fun d os => cell_later (below_regrown v6 d os) cf4_6
      have rf5 := fun d os => cell_later (below_regrown v6 d os) cf5_6
      have rf6 := fun d os => cell_later (below_regrown v6 d os) cf6_6
      have rf7 := fun d os => cell_later (below_regrown v6 d os) cf7_6
      have rf8 := fun d os => cell_later (below_regrown v6 d os) cf8_6
      have rg0 := fun d os => cell_later (below_regrown v6 d os) cg0_6
      have rg1 := fun d os => cell_later (below_regrown v6 d os) cg1_6
      have rg2 := fun d os => cell_later (below_regrown v6 d os) cg2_6
      have rg3 := fun d os => cell_later (below_regrown v6 d os) cg3_6
      have rg4 := fun d os => cell_later (below_regrown v6 d os) cg4_6
      have rg5 := fun d os => cell_later (below_regrown v6 d os) cg5_6
      have rg6 := fun d os => cell_later (below_regrown v6 d os) cg6_6
      have rg7 := fun d os => cell_later (below_regrown v6 d os) cg7_6
      have rg8 := fun d os => cell_later (below_regrown v6 d os) cg8_6
      have z1 := cellsR Q1_6.out
      have z2 := cellsR Q2_6.out
      go_wp2_with fail
      refine wp_region_plan (.take 0 (.take 0 (.take 0 (.take 0 (.take 0 (.take 0 (.take 0 (.take 0 (.take 0 (.take 0 (.only 0 (.take 0 .done)))))))))))) (by kernel_rfl) (by kernel_rfl) (fun hP => ?_)
      repeat' (first
        | (refine wpPlan_two ?_ ?_)
        | (refine wpPlan_three ?_ ?_ ?_)
        | (refine wpPlan_take rfl (fun K hK => ?_); replace hK := Lib.hid hK; go_simp; first | (refine hK.out _ ?_; clear hK K) | (apply Exists.intro; refine ⟨fun _ => ?_, hK.out _ ?_⟩; (first | with_reducible exact rfl | skip); clear hK K))
        | (refine wpPlan_only rfl (fun K hK => ?_); replace hK := Lib.hid hK; (first | (go_simp; first | (go_at_call 43; (with_reducible refine (q07Same_any f g _ _ _ _ _ (ptsL PAf'.out (below_step hB_6 hP)) (secsL SAf'.out (below_step hB_6 hP)) (ptsL PAg'.out (below_step hB_6 hP)) (secsL SAg'.out (below_step hB_6 hP)) SM.out).mono ?_); rintro e w2 ⟨rfl, hbx⟩) | skip)); refine hK.out _ _ (by first | assumption | exact below_step hP hbx | exact hP.drew | exact hP.alloc hP.size _) (fun hP => ?_); clear hK K))
      all_goals refine wpPlan_done ?_
      clear z1 z2 rf0 rf1 rf2 rf3 rf4 rf5 rf6 rf7 rf8 rg0 rg1 rg2 rg3 rg4 rg5 rg6 rg7 rg8
      have hB_7 := below_step hB_6 hP
      have OW_7 := Lib.hid (OW_6.out.keep hP)
      have Q1_7 := Lib.hid (block_later hP Q1_6.out)
      have Q2_7 := Lib.hid (block_later hP Q2_6.out)
      have hs_7 := hP.size
      have cf0_7 := cell_later hP cf0_6
      have cf1_7 := cell_later hP cf1_6
      have cf2_7 := cell_later hP cf2_6
      have cf3_7 := cell_later hP cf3_6
      have cf4_7 := cell_later hP cf4_6
      have cf5_7 := cell_later hP cf5_6
      have cf6_7 := cell_later hP cf6_6
      have cf7_7 := cell_later hP cf7_6
      have cf8_7 := cell_later hP cf8_6
      clear cf0_6 cf1_6 cf2_6 cf3_6 cf4_6 cf5_6 cf6_6 cf7_6 cf8_6
      have cg0_7 := cell_later hP cg0_6
      have cg1_7 := cell_later hP cg1_6
      have cg2_7 := cell_later hP cg2_6
      have cg3_7 := cell_later hP cg3_6
      have cg4_7 := cell_later hP cg4_6
      have cg5_7 := cell_later hP cg5_6
      have cg6_7 := cell_later hP cg6_6
      have cg7_7 := cell_later hP cg7_6
      have cg8_7 := cell_later hP cg8_6
      clear cg0_6 cg1_6 cg2_6 cg3_6 cg4_6 cg5_6 cg6_6 cg7_6 cg8_6
      clear hP
      cases sm
      · skip
        have k1 := cell_block Q1_7.out
        have k2 := cell_block Q2_7.out
        have O2 := Lib.hid (OW_7.out.keep ((Below.refl w2.heap.size w2).alloc (Nat.le_refl _) (.cells #[.int .i64 f.id] 3)))
        go_wp2_with (at_builtin; refine wpList_app rfl _ _ rfl (w.heap.size + 2) _ D [f.id] rfl O2.out _ 1 _ rfl rfl (lit_ints [f.id] rfl rfl rfl (by unfold maxLen; simp)) (by omega) (by simp; omega) ?_; intro x5 c5 w5 hown5 hb5)
        have hB5 : Below w.heap.size w w5 := (hB_7.trans ((Below.refl w.heap.size w2).alloc (by omega) _)).trans (hb5.mono (by omega))
        have Q15 := Lib.hid ((hb5.block w.heap.size (by omega)).trans (block_alloc Q1_7.out))
        have Q25 := Lib.hid ((hb5.block (w.heap.size + 1) (by omega)).trans (block_alloc Q2_7.out))
        have hs5 : w.heap.size + 2 ≤ w5.heap.size := by have := hb5.size; simp at this; omega
        have O5 := Lib.hid hown5
        have ME5 : Hid ((D ++ [f.id]) ++ mergeD (s.feats.drop (a + 1)) (t.feats.drop (b + 1)) = mergeD s.feats t.feats) := Lib.hid (by
          rw [← ME.out, List.append_assoc]
          rw [EDf.out, EDg.out]
          conv => rhs; rw [mergeD, if_neg (by have := HEQ.out; omega), if_neg (by have := HEQ.out; omega), if_neg (of_decide_eq_false SM.out)])
        clear hown5 hb5 k1 k2 O2
        go_wp2_with fail
        go_roundw
        case rel => exact ⟨a + 1, b + 1, D.length + 1, x5, c5, D ++ [f.id], by omega, by omega, rfl, by go_num, by go_num, hB5, hs5, Q15.out, Q25.out, O5.out, ME5.out⟩
        case measure => simp [intOf]; omega
      have ME5 : Hid (D ++ mergeD (s.feats.drop (a + 1)) (t.feats.drop (b + 1)) = mergeD s.feats t.feats) := Lib.hid (by
        rw [← ME.out, EDf.out, EDg.out]
        conv => rhs; rw [mergeD, if_neg (by have := HEQ.out; omega), if_neg (by have := HEQ.out; omega), if_pos (of_decide_eq_true SM.out), List.nil_append])
      go_wp2_with fail
      go_roundw
      case rel => exact ⟨a + 1, b + 1, D.length, x, c, D, by omega, by omega, rfl, by go_num, by go_num, hB_7, by omega, Q1_7.out, Q2_7.out, OW_7.out, ME5.out⟩
      case measure => simp [intOf]; omega
    · have e1 : decide (f.id < g.id) = false := decide_eq_false (by omega)
      have e2 : decide (g.id < f.id) = true := decide_eq_true hgt
      have HGT := Lib.hid hgt
      clear hgt
      have rf0 := fun d os => cell_later (below_regrown wr d os) cf0
      have rg0 := fun d os => cell_later (below_regrown wr d os) cg0
      have z1 := cellsR Q1.out
      have z2 := cellsR Q2.out
      go_wp2_with fail
      refine wp_region_plan (.take 0 (.take 0 (.take 0 (.take 0 (.take 0 (.take 0 (.take 0 (.take 0 (.take 0 (.take 0 (.take 0 (.take 0 (.take 0 (.take 0 (.take 0 (.take 0 (.take 0 (.take 0 (.take 0 (.take 0 (.take 0 (.take 0 (.take 0 (.take 0 (.take 0 (.take 0 (.take 0 (.done)))))))))))))))))))))))))))) (by kernel_rfl) (by kernel_rfl) (fun hP => ?_)
      repeat' (first
        | (refine wpPlan_two ?_ ?_)
        | (refine wpPlan_three ?_ ?_ ?_)
        | (refine wpPlan_take rfl (fun K hK => ?_); replace hK := Lib.hid hK; go_simp; first | (refine hK.out _ ?_; clear hK K) | (apply Exists.intro; refine ⟨fun _ => ?_, hK.out _ ?_⟩; (first | with_reducible exact rfl | skip); clear hK K))
        | (refine wpPlan_only rfl (fun K hK => ?_); replace hK := Lib.hid hK; (first | (go_simp; first | skip)); refine hK.out _ _ (by first | assumption | exact below_step hP hbx | exact hP.drew | exact hP.alloc hP.size _) (fun hP => ?_); clear hK K))
      all_goals refine wpPlan_done ?_
      generalize hdr : wr.drew = v8 at hP ⊢
      clear hdr
      clear z1 z2 rf0 rg0
      have hB_8 := below_step hB hP
      have OW_8 := Lib.hid (OW.out.keep hP)
      have Q1_8 := Lib.hid (block_later hP Q1.out)
      have Q2_8 := Lib.hid (block_later hP Q2.out)
      have hs_8 := hP.size
      have cf0_8 := cell_later hP cf0
      have cf1_8 := cell_later hP cf1
      have cf2_8 := cell_later hP cf2
      have cf3_8 := cell_later hP cf3
      have cf4_8 := cell_later hP cf4
      have cf5_8 := cell_later hP cf5
      have cf6_8 := cell_later hP cf6
      have cf7_8 := cell_later hP cf7
      have cf8_8 := cell_later hP cf8
      clear cf0 cf1 cf2 cf3 cf4 cf5 cf6 cf7 cf8
      have cg0_8 := cell_later hP cg0
      have cg1_8 := cell_later hP cg1
      have cg2_8 := cell_later hP cg2
      have cg3_8 := cell_later hP cg3
      have cg4_8 := cell_later hP cg4
      have cg5_8 := cell_later hP cg5
      have cg6_8 := cell_later hP cg6
      have cg7_8 := cell_later hP cg7
      have cg8_8 := cell_later hP cg8
      clear cg0 cg1 cg2 cg3 cg4 cg5 cg6 cg7 cg8
      clear hP
      have rf0 := fun d os => cell_later (below_regrown v8 d os) cf0_8
      have rg0 := fun d os => cell_later (below_regrown v8 d os) cg0_8
      have z1 := cellsR Q1_8.out
      have z2 := cellsR Q2_8.out
      go_wp2_with fail
      refine wp_region_plan (.take 0 (.take 0 (.take 0 (.take 0 (.take 0 (.take 0 (.take 0 (.take 0 (.take 0 (.take 0 (.take 0 (.take 0 (.take 0 (.take 0 (.take 0 (.take 0 (.take 0 (.take 0 (.take 0 (.take 0 (.done))))))))))))))))))))) (by kernel_rfl) (by kernel_rfl) (fun hP => ?_)
      repeat' (first
        | (refine wpPlan_two ?_ ?_)
        | (refine wpPlan_three ?_ ?_ ?_)
        | (refine wpPlan_take rfl (fun K hK => ?_); replace hK := Lib.hid hK; go_simp; first | (refine hK.out _ ?_; clear hK K) | (apply Exists.intro; refine ⟨fun _ => ?_, hK.out _ ?_⟩; (first | with_reducible exact rfl | skip); clear hK K))
        | (refine wpPlan_only rfl (fun K hK => ?_); replace hK := Lib.hid hK; (first | (go_simp; first | skip)); refine hK.out _ _ (by first | assumption | exact below_step hP hbx | exact hP.drew | exact hP.alloc hP.size _) (fun hP => ?_); clear hK K))
      all_goals refine wpPlan_done ?_
      generalize hdr : v8.drew = v9 at hP ⊢
      clear hdr
      clear z1 z2 rf0 rg0
      have hB_9 := below_step hB_8 hP
      have OW_9 := Lib.hid (OW_8.out.keep hP)
      have Q1_9 := Lib.hid (block_later hP Q1_8.out)
      have Q2_9 := Lib.hid (block_later hP Q2_8.out)
      have hs_9 := hP.size
      have cf0_9 := cell_later hP cf0_8
      have cf1_9 := cell_later hP cf1_8
      have cf2_9 := cell_later hP cf2_8
      have cf3_9 := cell_later hP cf3_8
      have cf4_9 := cell_later hP cf4_8
      have cf5_9 := cell_later hP cf5_8
      have cf6_9 := cell_later hP cf6_8
      have cf7_9 := cell_later hP cf7_8
      have cf8_9 := cell_later hP cf8_8
      clear cf0_8 cf1_8 cf2_8 cf3_8 cf4_8 cf5_8 cf6_8 cf7_8 cf8_8
      have cg0_9 := cell_later hP cg0_8
      have cg1_9 := cell_later hP cg1_8
      have cg2_9 := cell_later hP cg2_8
      have cg3_9 := cell_later hP cg3_8
      have cg4_9 := cell_later hP cg4_8
      have cg5_9 := cell_later hP cg5_8
      have cg6_9 := cell_later hP cg6_8
      have cg7_9 := cell_later hP cg7_8
      have cg8_9 := cell_later hP cg8_8
      clear cg0_8 cg1_8 cg2_8 cg3_8 cg4_8 cg5_8 cg6_8 cg7_8 cg8_8
      clear hP
      have k1 := cell_block Q1_9.out
      have k2 := cell_block Q2_9.out
      have O2 := Lib.hid (OW_9.out.keep ((Below.refl v9.heap.size v9).alloc (Nat.le_refl _) (.cells #[.int .i64 g.id] 3)))
      go_wp2_with (at_builtin; refine wpList_app rfl _ _ rfl (w.heap.size + 2) _ D [g.id] rfl O2.out _ 1 _ rfl rfl (lit_ints [g.id] rfl rfl rfl (by unfold maxLen; simp)) (by omega) (by simp; omega) ?_; intro x5 c5 w5 hown5 hb5)
      have hB5 : Below w.heap.size w w5 := (hB_9.trans ((Below.refl w.heap.size v9).alloc (by omega) _)).trans (hb5.mono (by omega))
      have Q15 := Lib.hid ((hb5.block w.heap.size (by omega)).trans (block_alloc Q1_9.out))
      have Q25 := Lib.hid ((hb5.block (w.heap.size + 1) (by omega)).trans (block_alloc Q2_9.out))
      have hs5 : w.heap.size + 2 ≤ w5.heap.size := by have := hb5.size; simp at this; omega
      have O5 := Lib.hid hown5
      have ME5 : Hid ((D ++ [g.id]) ++ mergeD (s.feats.drop (a)) (t.feats.drop (b + 1)) = mergeD s.feats t.feats) := Lib.hid (by
        rw [← ME.out, List.append_assoc]
        rw [EDf.out, EDg.out]
        conv => rhs; rw [mergeD, if_neg (by have := HGT.out; omega), if_pos HGT.out]
        rfl)
      clear hown5 hb5 k1 k2 O2
      go_wp2_with fail
      go_roundw
      case rel => exact ⟨a, b + 1, D.length + 1, x5, c5, D ++ [g.id], by omega, by omega, rfl, by go_num, by go_num, hB5, hs5, Q15.out, Q25.out, O5.out, ME5.out⟩
      case measure => simp [intOf]; omega
end Go.Proofs.YtdmegkkifiahdaaGreat
