/- The walks of the reference: an integer of a list, and a feature read from it. -/
import Derived.Test.YtdmegkkifiahdaaGreatKR
import Derived.Test.YtdmegkkifiahdaaGreatGetF
namespace Go.Proofs.YtdmegkkifiahdaaGreat
open Go.RowKit
attribute [local go_sem] bqOp bqAll bqUpon sqOp sqAll sqUpon ssOp ssAll
attribute [local irreducible] wpQuiet wpBQ wpPlan wsPlan
set_option linter.unusedVariables false
theorem q14At_any (l : List Int) (ad : Option Addr) (c : Nat) (x : Int) (n : Nat) (w : World) (h : IntsAt w (.slice ad l.length c) l) (hx : x = (n : Int)) {v : Int} (hv : l.getD n 0 = v) :
    Calls Tryz.prog 122 #[.slice ad l.length c, .int .i64 x] w fun e w' => e = .returned (.int .i64 v) ∧ w' = w := by
  subst hx
  have HR := Lib.hid h.rows
  have HV := Lib.hid hv
  obtain ⟨m, hm⟩ : ∃ m, l.length = m := ⟨_, rfl⟩
  have HM := Lib.hid hm
  rw [hm] at HR
  rw [hm]
  clear h hv hm
  have d1 : decide ((n : Int) < 0) = false := decide_eq_false (by omega)
  rcases Nat.lt_or_ge n m with hlt | hge
  · obtain ⟨g, o, rfl, hc⟩ := HR.out.row hlt
    have c0 := hc 0 (by omega)
    simp only [Nat.add_zero, Nat.mul_one] at c0
    rw [HV.out] at c0
    have d2 : decide (m ≤ n) = false := by simp; omega
    have d3 : decide ((m : Int) ≤ (n : Int)) = false := by simp; omega
    clear hc
    go_enter Tryz.func122, Tryz.ntmps122
    go_wp2_with fail
    go_returns
    exact ⟨rfl, rfl⟩
  · have HZ : Hid ((0 : Int) = v) := Lib.hid (by
      rw [← HV.out, List.getD_eq_getElem?_getD, List.getElem?_eq_none (by rw [HM.out]; exact hge)]
      rfl)
    have d2 : decide (m ≤ n) = true := by simp; omega
    have d3 : decide ((m : Int) ≤ (n : Int)) = true := by simp; omega
    go_enter Tryz.func122, Tryz.ntmps122
    go_wp2_with fail
    go_returns
    exact ⟨ret_int HZ.out, rfl⟩
/-- How many items are read. -/
def cntQ (n : Int) (most : Nat) : Nat := min n.toNat (most + 1)
theorem cnt_lt {n : Int} {most k : Nat} : k < cntQ n most ↔ (k : Int) < n ∧ k ≤ most := by unfold cntQ; omega
def secQ (l : List Int) (p : Nat) : Sec := ⟨l.getD p 0, l.getD (p + 1) 0, l.getD (p + 2) 0, l.getD (p + 3) 0, l.getD (p + 4) 0, l.getD (p + 5) 0⟩
def ptQ (l : List Int) (p : Nat) : Int × Int := (l.getD p 0, l.getD (p + 1) 0)
def secsQ (l : List Int) (p k : Nat) : List Sec := (List.range k).map fun i => secQ l (p + 6 * i)
def ptsQ (l : List Int) (p k : Nat) : List (Int × Int) := (List.range k).map fun i => ptQ l (p + 2 * i)
theorem secsQ_succ (l : List Int) (p k : Nat) : secsQ l p (k + 1) = secsQ l p k ++ [secQ l (p + 6 * k)] := by unfold secsQ; rw [List.range_succ, List.map_append]; rfl
theorem ptsQ_succ (l : List Int) (p k : Nat) : ptsQ l p (k + 1) = ptsQ l p k ++ [ptQ l (p + 2 * k)] := by unfold ptsQ; rw [List.range_succ, List.map_append]; rfl
theorem secsQ_len (l : List Int) (p k : Nat) : (secsQ l p k).length = k := by simp [secsQ]
theorem ptsQ_len (l : List Int) (p k : Nat) : (ptsQ l p k).length = k := by simp [ptsQ]
def readF (l : List Int) (p : Nat) : Feat × Nat :=
  if DiscK (l.getD (p + 1) 0) then (⟨l.getD p 0, l.getD (p + 1) 0, l.getD (p + 3) 0, l.getD (p + 4) 0, l.getD (p + 5) 0, [], l.getD (p + 6) 0, l.getD (p + 2) 0, []⟩, p + 7)
  else if l.getD (p + 1) 0 = 4 then (⟨l.getD p 0, l.getD (p + 1) 0, l.getD (p + 3) 0, l.getD (p + 4) 0, 0, [], 0, l.getD (p + 2) 0, secsQ l (p + 6) (cntQ (l.getD (p + 5) 0) 12)⟩, p + 6 + 6 * cntQ (l.getD (p + 5) 0) 12)
  else (⟨l.getD p 0, l.getD (p + 1) 0, 0, 0, 0, ptsQ l (p + 5) (cntQ (l.getD (p + 4) 0) 24), l.getD (p + 3) 0, l.getD (p + 2) 0, []⟩, p + 5 + 2 * cntQ (l.getD (p + 4) 0) 24)
def ReadE (f : Feat) (p : Nat) (w : World) (e : Ending) (w' : World) : Prop := ∃ va vs, e = .returned (.agg #[.int .i64 f.id, .int .i64 f.kind, .int .i64 f.x, .int .i64 f.y, .int .i64 f.rad, va, .int .i64 f.dep, .int .i64 f.sym, vs, .int .i64 p]) ∧ OwnP w.heap.size w' va f.area ∧ OwnS w.heap.size w' vs f.secs ∧ Below w.heap.size w w'
/-- append of one struct, in a drawn region. -/
theorem step_app1 {ops : Array Oper} {o : Oper} {a : Act} {K : Act → World → Prop} {Q : Exit → Act → World → Prop} {E : Prop} {w : World} (hgd : o.guard = none) (s x : Operand) (t e : TypeId) (k bytes : Nat) (z : Value)
    (ho : o.op = .call { callee := .builtin .append, args := #[s, x], argTypes := #[t, t] }) (ht : Tryz.prog.underlying t = some (.slice e))
    (hi : (Tryz.prog.info? e).map (fun i => (i.zero, i.size, i.bytes)) = some (some z, k, bytes)) (hzs : z.cells.size = k) (hk : 0 < k)
    (base : Nat) (v : Value) (n : Nat) (xs : List Value) (hs : a.eval s = v) (hown : w.ownsRow base e k v n xs)
    (b : Nat) (news : List Value) (hx : a.eval x = .slice (some ⟨b, 0, none⟩) 1 1) (hb : w.heap[b]? = some (.cells news.toArray e (0, 0))) (hl : news.length = k) (h1 : ∀ u ∈ news, u.oneCell' = true)
    (hsz : n + 1 ≤ maxLen) (hby : (n + 1) * bytes ≤ 140737488355328) (hbase : base ≤ w.heap.size)
    (h : ∀ ad' c' w', w'.ownsRow base e k (.slice ad' (n + 1) c') (n + 1) (xs ++ news) → w.grownBy w' v.ownBlock → Below base w w' → K (a.put o.dst (.slice ad' (n + 1) c')) w') :
    if Region.wanted o (yielded ops a.tmps) = true then Oper.wp Tryz.prog o a w K Q else E := by
  have hw : Region.wanted o (yielded ops a.tmps) = true := by simp [Region.wanted, hgd]
  rw [if_pos hw]
  obtain ⟨i0, hi0, hz0, hz1, hz2⟩ := info_parts hi
  obtain ⟨v', w', hr, h2, h3, _⟩ := run_append_own (P := Tryz.prog) w base t o.type e i0 z k bytes ht hi0 hz0 hz1 hz2 hzs hk v n xs hown ⟨b, 0, none⟩ 1 1 news (by rw [hl, Nat.one_mul]) (fun j u hu => by
    have hadd : (⟨b, 0, none⟩ : Addr).add j = ⟨b, j, none⟩ := by unfold Addr.add; split <;> simp_all
    rw [hadd, cell_block hb, ← hu]
    simp) h1 hsz hby hbase
  obtain ⟨ad', c', rfl⟩ := owns_form h2
  unfold Oper.wp execOp
  simp only [ho, resolve, invoke, builtin, Sem.run_bind, Sem.run_pure, Result.andThen_ok, List.map_toArray, List.map_cons, List.map_nil, hs, hx, hr]
  exact h ad' c' w' h2 h3 ((Below.refl base w).grown h3 hbase (own_block hown))
theorem own_other {base k n b : Nat} {w : World} {e e' : TypeId} {v : Value} {xs : List Value} {cs : Array Value} (h : w.ownsRow base e k v n xs) (hb : w.heap[b]? = some (.cells cs e' (0, 0))) (hne : e' ≠ e) : v.ownBlock ≠ some b := by
  intro hv
  rcases h.2 with ⟨rfl, _⟩ | ⟨g, cap, cur, rfl, _, hg, _⟩
  · simp [Value.ownBlock] at hv
  · simp only [Value.ownBlock, Option.some.injEq] at hv
    subst hv
    rw [hg] at hb
    cases hb
    exact hne rfl
theorem own_far {base k n b i : Nat} {w : World} {e : TypeId} {v u : Value} {xs : List Value} (h : w.ownsRow base e k v n xs) (hlt : b < base) : (w.setCell ⟨b, i, none⟩ u).ownsRow base e k v n xs := by
  refine ⟨h.1, ?_⟩
  rcases h.2 with h | ⟨g, cap, cur, hv, hbg, hg', rest⟩
  · exact .inl h
  · refine .inr ⟨g, cap, cur, hv, hbg, ?_, rest⟩
    rw [Below.heap_setCell _ _ _ _ (show g ≠ b by omega)]
    exact hg'
theorem own_less {base base' k n : Nat} {w : World} {e : TypeId} {v : Value} {xs : List Value} (h : w.ownsRow base' e k v n xs) (hle : base ≤ base') : w.ownsRow base e k v n xs := by
  refine ⟨h.1, ?_⟩
  rcases h.2 with h | ⟨g, cap, cur, hv, hbg, rest⟩
  · exact .inl h
  · exact .inr ⟨g, cap, cur, hv, by omega, rest⟩
theorem info_ptY : (Tryz.prog.info? 28).map (fun i => (i.zero, i.size, i.bytes)) = some (some (.agg #[.int .i64 0, .int .i64 0]), 2, 16) := by kernel_rfl
theorem info_secY : (Tryz.prog.info? 151).map (fun i => (i.zero, i.size, i.bytes)) = some (some (.agg #[.int .i64 0, .int .i64 0, .int .i64 0, .int .i64 0, .int .i64 0, .int .i64 0]), 6, 48) := by kernel_rfl
/-- What stays in a drawn region that reads two boxes. -/
def KeepB (lo b9 b10 : Nat) (o9 o10 : Obj) (V w' : World) : Prop := Below lo V w' ∧ w'.heap[b9]? = some o9 ∧ w'.heap[b10]? = some o10
theorem KeepB.b {lo b9 b10 : Nat} {o9 o10 : Obj} {V w' : World} (h : KeepB lo b9 b10 o9 o10 V w') : Below lo V w' := h.1
set_option maxHeartbeats 32000000 in
set_option maxRecDepth 20000 in
theorem q14read_any (l : List Int) (ad : Option Addr) (c p : Nat) (w : World) (h : IntsAt w (.slice ad l.length c) l) (hp : p ≤ 40000) {f : Feat} {e : Nat} (hr : readF l p = (f, e)) :
    Calls Tryz.prog 123 #[.slice ad l.length c, .int .i64 p] w (ReadE f e w) := by
  have HL := Lib.hid h
  obtain ⟨v0, h0⟩ : ∃ v, l.getD p 0 = v := ⟨_, rfl⟩
  obtain ⟨v1, h1⟩ : ∃ v, l.getD (p + 1) 0 = v := ⟨_, rfl⟩
  obtain ⟨v2, h2⟩ : ∃ v, l.getD (p + 2) 0 = v := ⟨_, rfl⟩
  obtain ⟨v3, h3⟩ : ∃ v, l.getD (p + 3) 0 = v := ⟨_, rfl⟩
  obtain ⟨v4, h4⟩ : ∃ v, l.getD (p + 4) 0 = v := ⟨_, rfl⟩
  obtain ⟨v5, h5⟩ : ∃ v, l.getD (p + 5) 0 = v := ⟨_, rfl⟩
  obtain ⟨v6, h6⟩ : ∃ v, l.getD (p + 6) 0 = v := ⟨_, rfl⟩
  unfold readF at hr
  rw [h0, h1, h2, h3, h4, h5, h6] at hr
  have HR := Lib.hid hr
  have V0 := Lib.hid h0
  have V1 := Lib.hid h1
  have V2 := Lib.hid h2
  have V3 := Lib.hid h3
  have V4 := Lib.hid h4
  have V5 := Lib.hid h5
  have V6 := Lib.hid h6
  clear h hr h0 h1 h2 h3 h4 h5 h6
  obtain ⟨u, hu⟩ : ∃ z, decide (DiscK v1) = z := ⟨_, rfl⟩
  have HU := Lib.hid hu
  clear hu
  go_enter Tryz.func123, Tryz.ntmps123
  go_wp2_with fail
  refine calls_named fun W0 hW => ?_
  obtain ⟨q4, hB0⟩ := box1 hW
  have hs0 : W0.heap.size = w.heap.size + 1 := by rw [hW]; simp
  clear hW
  (with_reducible refine (q14At_any l ad c _ (p) _ (intsL HL.out hB0) (by omega) V0.out).mono ?_)
  rintro e1 z1 ⟨rfl, rfl⟩
  go_wp2_with fail
  (with_reducible refine (q14At_any l ad c _ (p + 1) _ (intsL HL.out hB0) (by omega) V1.out).mono ?_)
  rintro e1 z1 ⟨rfl, rfl⟩
  go_wp2_with fail
  (with_reducible refine (q14At_any l ad c _ (p + 2) _ (intsL HL.out hB0) (by omega) V2.out).mono ?_)
  rintro e1 z1 ⟨rfl, rfl⟩
  go_wp2_with fail
  refine calls_named fun W hW => ?_
  obtain ⟨q5, hB1⟩ := box1 hW
  have hsW : W.heap.size = w.heap.size + 2 := by rw [hW]; simp; omega
  rw [hs0] at q5
  have q4' := block_later hB1 q4
  have hB := below_step hB0 hB1
  clear hW hB0 hB1 q4 hs0
  (with_reducible refine (q07Disc_any _ _ HU.out).mono ?_)
  rintro e1 w1 ⟨rfl, hb1⟩
  have q4 := block_later hb1 q4'
  have q5' := block_later hb1 q5
  have hB1 := below_step hB hb1
  have hs1 : w.heap.size + 2 ≤ w1.heap.size := by have := hb1.size; omega
  clear q4' q5 hb1 hB hsW
  have q5 := q5'
  clear q5'
  cases u
  rotate_left
  · have E : Hid (f = ⟨v0, v1, v3, v4, v5, [], v6, v2, []⟩ ∧ e = p + 7) := Lib.hid (by
      have := HR.out
      rw [if_pos (of_decide_eq_true HU.out)] at this
      cases this
      exact ⟨rfl, rfl⟩)
    obtain ⟨rfl, rfl⟩ := E.out
    clear HR HU E
    have k5 := cell_block q5
    have f5 := free_block q5
    go_wp2_with fail
    (with_reducible refine (q14At_any l ad c _ (p + 3) _ (intsL HL.out hB1) (by omega) V3.out).mono ?_)
    rintro e1 z1 ⟨rfl, rfl⟩
    go_wp2_with fail
    (with_reducible refine (q14At_any l ad c _ (p + 4) _ (intsL HL.out hB1) (by omega) V4.out).mono ?_)
    rintro e1 z1 ⟨rfl, rfl⟩
    go_wp2_with fail
    refine calls_named fun W2 hW => ?_
    have q5n := (block_set (i := 3) (block_set (i := 2) q5 (.int .i64 v3)) (.int .i64 v4))
    have q4n := (block_far (a := ⟨w.heap.size + 1, 3, none⟩) (block_far (a := ⟨w.heap.size + 1, 2, none⟩) q4 (by dsimp only; omega) (.int .i64 v3)) (by dsimp only; omega) (.int .i64 v4))
    have hB2 := ((hB1.setCell (p := ⟨w.heap.size + 1, 2, none⟩) (by dsimp only; omega) (.int .i64 v3)).setCell (p := ⟨w.heap.size + 1, 3, none⟩) (by dsimp only; omega) (.int .i64 v4))
    have hsz2 : w.heap.size + 2 ≤ W2.heap.size := by rw [hW]; simp only [World.size_setCell]; omega
    rw [← hW] at q5n q4n hB2
    simp only [Array.setIfInBounds, List.size_toArray, List.length_cons, List.length_nil, Nat.reduceAdd, Nat.reduceLT, dite_true, List.set_toArray, List.set_cons_succ, List.set_cons_zero] at q5n
    clear hW q5 q4 k5 f5
    have q5 := q5n
    have q4 := q4n
    clear q5n q4n
    have k5 := cell_block q5
    have f5 := free_block q5
    (with_reducible refine (q14At_any l ad c _ (p + 5) _ (intsL HL.out hB2) (by omega) V5.out).mono ?_)
    rintro e1 z1 ⟨rfl, rfl⟩
    go_wp2_with fail
    refine calls_named fun W3 hW => ?_
    have q5n := (block_set (i := 4) q5 (.int .i64 v5))
    have q4n := (block_far (a := ⟨w.heap.size + 1, 4, none⟩) q4 (by dsimp only; omega) (.int .i64 v5))
    have hB3 := (hB2.setCell (p := ⟨w.heap.size + 1, 4, none⟩) (by dsimp only; omega) (.int .i64 v5))
    have hsz3 : w.heap.size + 2 ≤ W3.heap.size := by rw [hW]; simp only [World.size_setCell]; omega
    rw [← hW] at q5n q4n hB3
    simp only [Array.setIfInBounds, List.size_toArray, List.length_cons, List.length_nil, Nat.reduceAdd, Nat.reduceLT, dite_true, List.set_toArray, List.set_cons_succ, List.set_cons_zero] at q5n
    clear hW q5 q4 k5 f5
    have q5 := q5n
    have q4 := q4n
    clear q5n q4n
    have k5 := cell_block q5
    have f5 := free_block q5
    (with_reducible refine (q14At_any l ad c _ (p + 6) _ (intsL HL.out hB3) (by omega) V6.out).mono ?_)
    rintro e1 z1 ⟨rfl, rfl⟩
    have q5s := block_set (i := 6) q5 (.int .i64 v6)
    have q4s := block_far (a := ⟨w.heap.size + 1, 6, none⟩) q4 (by dsimp only; omega) (.int .i64 v6)
    simp only [Array.setIfInBounds, List.size_toArray, List.length_cons, List.length_nil, Nat.reduceAdd, Nat.reduceLT, dite_true, List.set_toArray, List.set_cons_succ, List.set_cons_zero] at q5s
    have k6 := cell_block q5s
    have f4 := free_block q4s
    have k4 := cell_block q4s
    have Q4 := Lib.hid q4s
    clear q5s q4s
    go_wp2_with fail
    have k9 := cell_block (block_set (i := 9) (block_set (i := 8) (block_set (i := 7) (block_set (i := 6) (block_set (i := 5) (block_set (i := 4) (block_set (i := 3) (block_set (i := 2) (block_set (i := 1) (block_set (i := 0) Q4.out (.int .i64 v0)) (.int .i64 v1)) (.int .i64 v3)) (.int .i64 v4)) (.int .i64 v5)) (.slice none 0 0)) (.int .i64 v6)) (.int .i64 v2)) (.slice none 0 0)) (.int .i64 ((p : Int) + 3 + 4)))
    exact bodyPost_ret (v := .agg #[.int .i64 v0, .int .i64 v1, .int .i64 v3, .int .i64 v4, .int .i64 v5, .slice none 0 0, .int .i64 v6, .int .i64 v2, .slice none 0 0, .int .i64 ((p : Int) + 3 + 4)]) (by simp [results, Tryz.results123, go_sem, k9]) rfl ⟨.slice none 0 0, .slice none 0 0, by rw [show ((p + 7 : Nat) : Int) = (p : Int) + 3 + 4 by omega], own_less (base' := w.heap.size + 2) (own_far (own_far (own_far (own_far (own_far (own_far (own_far (own_far (own_far (own_far (own_far (own_nil (w.heap.size + 2) _ 28 2) (by omega)) (by omega)) (by omega)) (by omega)) (by omega)) (by omega)) (by omega)) (by omega)) (by omega)) (by omega)) (by omega)) (by omega), own_less (base' := w.heap.size + 2) (own_far (own_far (own_far (own_far (own_far (own_far (own_far (own_far (own_far (own_far (own_far (own_nil (w.heap.size + 2) _ 151 6) (by omega)) (by omega)) (by omega)) (by omega)) (by omega)) (by omega)) (by omega)) (by omega)) (by omega)) (by omega)) (by omega)) (by omega), (((((((((((hB3.setCell (by dsimp only; omega) _).setCell (by dsimp only; omega) _).setCell (by dsimp only; omega) _).setCell (by dsimp only; omega) _).setCell (by dsimp only; omega) _).setCell (by dsimp only; omega) _).setCell (by dsimp only; omega) _).setCell (by dsimp only; omega) _).setCell (by dsimp only; omega) _).setCell (by dsimp only; omega) _).setCell (by dsimp only; omega) _)⟩
  have ND := Lib.hid (of_decide_eq_false HU.out)
  clear HU
  have k5 := cell_block q5
  have f5 := free_block q5
  by_cases h4 : v1 = 4
  · have E : Hid (f = ⟨v0, v1, v3, v4, 0, [], 0, v2, secsQ l (p + 6) (cntQ v5 12)⟩ ∧ e = p + 6 + 6 * cntQ v5 12) := Lib.hid (by
      have := HR.out
      rw [if_neg ND.out, if_pos h4] at this
      cases this
      exact ⟨rfl, rfl⟩)
    obtain ⟨rfl, rfl⟩ := E.out
    have d4 : (v1 == 4) = true := by simp [h4]
    clear HR E h4
    go_wp2_with fail
    (with_reducible refine (q14At_any l ad c _ (p + 3) _ (intsL HL.out hB1) (by omega) V3.out).mono ?_)
    rintro e1 z1 ⟨rfl, rfl⟩
    go_wp2_with fail
    (with_reducible refine (q14At_any l ad c _ (p + 4) _ (intsL HL.out hB1) (by omega) V4.out).mono ?_)
    rintro e1 z1 ⟨rfl, rfl⟩
    go_wp2_with fail
    refine calls_named fun W2 hW => ?_
    have q5n := (block_set (i := 3) (block_set (i := 2) q5 (.int .i64 v3)) (.int .i64 v4))
    have q4n := (block_far (a := ⟨w.heap.size + 1, 3, none⟩) (block_far (a := ⟨w.heap.size + 1, 2, none⟩) q4 (by dsimp only; omega) (.int .i64 v3)) (by dsimp only; omega) (.int .i64 v4))
    have hB2 := ((hB1.setCell (p := ⟨w.heap.size + 1, 2, none⟩) (by dsimp only; omega) (.int .i64 v3)).setCell (p := ⟨w.heap.size + 1, 3, none⟩) (by dsimp only; omega) (.int .i64 v4))
    have hsz2 : w.heap.size + 2 ≤ W2.heap.size := by rw [hW]; simp only [World.size_setCell]; omega
    rw [← hW] at q5n q4n hB2
    simp only [Array.setIfInBounds, List.size_toArray, List.length_cons, List.length_nil, Nat.reduceAdd, Nat.reduceLT, dite_true, List.set_toArray, List.set_cons_succ, List.set_cons_zero] at q5n
    clear hW q5 q4 k5 f5
    have q5 := q5n
    have q4 := q4n
    clear q5n q4n
    (with_reducible refine (q14At_any l ad c _ (p + 5) _ (intsL HL.out hB2) (by omega) V5.out).mono ?_)
    rintro e1 z1 ⟨rfl, rfl⟩
    go_wp2_with fail
    go_loopw [1, 8] (fun a i wr => ∃ (k : Nat) (x : Option Addr) (c2 : Nat), k ≤ cntQ v5 12 ∧ a = .int .i64 ((p + 6 + 6 * k : Nat) : Int) ∧ i = .int .i64 k ∧ Below w.heap.size w wr ∧ w.heap.size + 2 ≤ wr.heap.size ∧ wr.heap[w.heap.size]? = some (.cells #[.int .i64 0, .int .i64 0, .int .i64 0, .int .i64 0, .int .i64 0, .slice none 0 0, .int .i64 0, .int .i64 0, .slice none 0 0, .int .i64 0] 157) ∧ wr.heap[w.heap.size + 1]? = some (.cells #[.int .i64 v0, .int .i64 v1, .int .i64 v3, .int .i64 v4, .int .i64 0, .slice none 0 0, .int .i64 0, .int .i64 v2, .slice x k c2] 32) ∧ wr.ownsRow (w.heap.size + 2) 151 6 (.slice x k c2) k ((secsQ l (p + 6) k).flatMap secCells)) (fun _ i _ => cntQ v5 12 - (intOf i).toNat)
    case atStart => exact ⟨0, none, 0, Nat.zero_le _, by rw [show ((p + 6 + 6 * 0 : Nat) : Int) = (p : Int) + 3 + 3 by omega], rfl, hB2, hsz2, q4, q5, own_nil _ _ _ _⟩
    case round =>
      obtain ⟨k, x, c2, hk, rfl, rfl, hb, hsz, hq4, hq5, how⟩ := hrel
      have CN : Hid (cntQ v5 12 ≤ 13) := Lib.hid (by unfold cntQ; omega)
      have CL : Hid (k < cntQ v5 12 ↔ (k : Int) < v5 ∧ k ≤ 12) := Lib.hid cnt_lt
      obtain ⟨q, hq⟩ : ∃ q, p + 6 + 6 * k = q := ⟨_, rfl⟩
      have HQ := Lib.hid hq
      have hqb : q ≤ 40200 := by have := CN.out; omega
      rw [hq]
      clear q4 q5 hB2 hsz2 hq
      by_cases hlt : k < cntQ v5 12
      rotate_left
      · have EK : Hid (k = cntQ v5 12) := Lib.hid (by omega)
        have q4 := hq4
        have q5 := hq5
        have OW := Lib.hid how
        clear hq4 hq5 how
        by_cases h1 : (k : Int) < v5
        · have d1 : decide ((k : Int) < v5) = true := decide_eq_true h1
          have h2 : ¬ k ≤ 12 := fun h => hlt (CL.out.2 ⟨h1, h⟩)
          have d2 : decide (k ≤ 12) = false := decide_eq_false h2
          have d3 : decide ((k : Int) ≤ 12) = false := decide_eq_false (by omega)
          clear h1 h2 hlt
          have k5 := cell_block q5
          have f4 := free_block q4
          have k4 := cell_block q4
          have Q4 := Lib.hid q4
          clear q4 q5
          go_wp2_with fail
          have k9 := cell_block (block_set (i := 9) (block_set (i := 8) (block_set (i := 7) (block_set (i := 6) (block_set (i := 5) (block_set (i := 4) (block_set (i := 3) (block_set (i := 2) (block_set (i := 1) (block_set (i := 0) Q4.out (.int .i64 v0)) (.int .i64 v1)) (.int .i64 v3)) (.int .i64 v4)) (.int .i64 0)) (.slice none 0 0)) (.int .i64 0)) (.int .i64 v2)) (.slice x k c2)) (.int .i64 q))
          exact bodyPost_ret (v := .agg #[.int .i64 v0, .int .i64 v1, .int .i64 v3, .int .i64 v4, .int .i64 0, .slice none 0 0, .int .i64 0, .int .i64 v2, .slice x k c2, .int .i64 q]) (by simp [results, Tryz.results123, go_sem, k9]) rfl ⟨.slice none 0 0, .slice x k c2, by rw [← EK.out, HQ.out], own_less (base' := w.heap.size + 2) (own_far (own_far (own_far (own_far (own_far (own_far (own_far (own_far (own_far (own_far (own_nil (w.heap.size + 2) _ 28 2) (by omega)) (by omega)) (by omega)) (by omega)) (by omega)) (by omega)) (by omega)) (by omega)) (by omega)) (by omega)) (by omega), by rw [← EK.out]; unfold OwnS; rw [secsQ_len]; exact own_less (base' := w.heap.size + 2) (own_far (own_far (own_far (own_far (own_far (own_far (own_far (own_far (own_far (own_far OW.out (by omega)) (by omega)) (by omega)) (by omega)) (by omega)) (by omega)) (by omega)) (by omega)) (by omega)) (by omega)) (by omega), ((((((((((hb.setCell (by dsimp only; omega) _).setCell (by dsimp only; omega) _).setCell (by dsimp only; omega) _).setCell (by dsimp only; omega) _).setCell (by dsimp only; omega) _).setCell (by dsimp only; omega) _).setCell (by dsimp only; omega) _).setCell (by dsimp only; omega) _).setCell (by dsimp only; omega) _).setCell (by dsimp only; omega) _)⟩
        · have d1 : decide ((k : Int) < v5) = false := decide_eq_false h1
          clear h1 hlt
          have k5 := cell_block q5
          have f4 := free_block q4
          have k4 := cell_block q4
          have Q4 := Lib.hid q4
          clear q4 q5
          go_wp2_with fail
          have k9 := cell_block (block_set (i := 9) (block_set (i := 8) (block_set (i := 7) (block_set (i := 6) (block_set (i := 5) (block_set (i := 4) (block_set (i := 3) (block_set (i := 2) (block_set (i := 1) (block_set (i := 0) Q4.out (.int .i64 v0)) (.int .i64 v1)) (.int .i64 v3)) (.int .i64 v4)) (.int .i64 0)) (.slice none 0 0)) (.int .i64 0)) (.int .i64 v2)) (.slice x k c2)) (.int .i64 q))
          exact bodyPost_ret (v := .agg #[.int .i64 v0, .int .i64 v1, .int .i64 v3, .int .i64 v4, .int .i64 0, .slice none 0 0, .int .i64 0, .int .i64 v2, .slice x k c2, .int .i64 q]) (by simp [results, Tryz.results123, go_sem, k9]) rfl ⟨.slice none 0 0, .slice x k c2, by rw [← EK.out, HQ.out], own_less (base' := w.heap.size + 2) (own_far (own_far (own_far (own_far (own_far (own_far (own_far (own_far (own_far (own_far (own_nil (w.heap.size + 2) _ 28 2) (by omega)) (by omega)) (by omega)) (by omega)) (by omega)) (by omega)) (by omega)) (by omega)) (by omega)) (by omega)) (by omega), by rw [← EK.out]; unfold OwnS; rw [secsQ_len]; exact own_less (base' := w.heap.size + 2) (own_far (own_far (own_far (own_far (own_far (own_far (own_far (own_far (own_far (own_far OW.out (by omega)) (by omega)) (by omega)) (by omega)) (by omega)) (by omega)) (by omega)) (by omega)) (by omega)) (by omega)) (by omega), ((((((((((hb.setCell (by dsimp only; omega) _).setCell (by dsimp only; omega) _).setCell (by dsimp only; omega) _).setCell (by dsimp only; omega) _).setCell (by dsimp only; omega) _).setCell (by dsimp only; omega) _).setCell (by dsimp only; omega) _).setCell (by dsimp only; omega) _).setCell (by dsimp only; omega) _).setCell (by dsimp only; omega) _)⟩
      obtain ⟨hn1, hn2⟩ := CL.out.1 hlt
      have d1 : decide ((k : Int) < v5) = true := decide_eq_true hn1
      have d2 : decide (k ≤ 12) = true := decide_eq_true hn2
      have d3 : decide ((k : Int) ≤ 12) = true := decide_eq_true (by omega)
      clear hn1
      obtain ⟨y0, hy0⟩ : ∃ v, l.getD (q + 0) 0 = v := ⟨_, rfl⟩
      have X0 := Lib.hid hy0
      clear hy0
      obtain ⟨y1, hy1⟩ : ∃ v, l.getD (q + 1) 0 = v := ⟨_, rfl⟩
      have X1 := Lib.hid hy1
      clear hy1
      obtain ⟨y2, hy2⟩ : ∃ v, l.getD (q + 2) 0 = v := ⟨_, rfl⟩
      have X2 := Lib.hid hy2
      clear hy2
      obtain ⟨y3, hy3⟩ : ∃ v, l.getD (q + 3) 0 = v := ⟨_, rfl⟩
      have X3 := Lib.hid hy3
      clear hy3
      obtain ⟨y4, hy4⟩ : ∃ v, l.getD (q + 4) 0 = v := ⟨_, rfl⟩
      have X4 := Lib.hid hy4
      clear hy4
      obtain ⟨y5, hy5⟩ : ∃ v, l.getD (q + 5) 0 = v := ⟨_, rfl⟩
      have X5 := Lib.hid hy5
      clear hy5
      have SU : Hid (secsQ l (p + 6) (k + 1) = secsQ l (p + 6) k ++ [⟨y0, y1, y2, y3, y4, y5⟩]) := Lib.hid (by rw [secsQ_succ, show p + 6 + 6 * k = q from HQ.out, ← X0.out, ← X1.out, ← X2.out, ← X3.out, ← X4.out, ← X5.out]; rfl)
      go_wp2_with fail
      (with_reducible refine (q14At_any l ad c _ (q + 0) _ (intsL HL.out hb) (by omega) X0.out).mono ?_)
      rintro e1 z1 ⟨rfl, rfl⟩
      go_wp2_with fail
      (with_reducible refine (q14At_any l ad c _ (q + 1) _ (intsL HL.out hb) (by omega) X1.out).mono ?_)
      rintro e1 z1 ⟨rfl, rfl⟩
      go_wp2_with fail
      refine calls_named fun V1 hW => ?_
      obtain ⟨q9, hb9⟩ := box1 hW
      clear hW
      obtain ⟨b9, hb9e⟩ : ∃ b, b = z1.heap.size := ⟨_, rfl⟩
      rw [← hb9e] at q9 ⊢
      have hV1 := below_step hb hb9
      have hq4' := block_later hb9 hq4
      have hq5' := block_later hb9 hq5
      have how' := own_keep how hb9
      have hsz1 : w.heap.size + 2 ≤ V1.heap.size := by have := hb9.size; omega
      have hb9l : w.heap.size + 2 ≤ b9 := by omega
      clear hb9 hb9e hb hsz hq4 hq5 how
      (with_reducible refine (q14At_any l ad c _ (q + 2) _ (intsL HL.out hV1) (by omega) X2.out).mono ?_)
      rintro e1 z2 ⟨rfl, rfl⟩
      go_wp2_with fail
      (with_reducible refine (q14At_any l ad c _ (q + 3) _ (intsL HL.out hV1) (by omega) X3.out).mono ?_)
      rintro e1 z2 ⟨rfl, rfl⟩
      go_wp2_with fail
      refine wp_named fun V hW => ?_
      obtain ⟨q10, hb10⟩ := box1 hW
      clear hW
      obtain ⟨b10, hb10e⟩ : ∃ b, b = z2.heap.size := ⟨_, rfl⟩
      rw [← hb10e] at q10 ⊢
      have hV := below_step hV1 hb10
      have hdr : Below V.heap.size V V.drew := (Below.refl _ _).drew
      have q4 := block_later hdr (block_later hb10 hq4')
      have q5 := block_later hdr (block_later hb10 hq5')
      have ow := own_keep (own_keep how' hb10) hdr
      have q9' := block_later hb10 q9
      have hs0 : w.heap.size + 2 ≤ V.drew.heap.size := by have := hb10.size; have := hdr.size; omega
      have hb10l : w.heap.size + 2 ≤ b10 := by omega
      have hs1V : w.heap.size + 2 ≤ V.heap.size := by have := hb10.size; omega
      have jq1 : IntKind.i64.wrap ((q : Int) + 4) = (q : Int) + 4 := IntWalk.i64_in _ (by omega)
      have jq2 : IntKind.i64.wrap ((q : Int) + 5) = (q : Int) + 5 := IntWalk.i64_in _ (by omega)
      clear hb10 hb10e hV1 hq4' hq5' how' hsz1 q9
      refine wp_region_planS (KeepB (w.heap.size + 1) b9 b10 (.cells #[.int .i64 y0, .int .i64 y1] 28) (.cells #[.int .i64 y2, .int .i64 y3] 28) V) (.take 0 (.take 1 (.take 1 (.take 1 (.take 1 (.take 1 (.take 2 (.take 2 (.take 2 (.two 0 (.only 0 (.only 0 (.take 0 (.only 0 (.only 0 (.take 0 (.only 0 .done))))))) 1 (.two 0 (.only 0 (.take 0 (.only 0 (.only 0 (.take 0 (.only 0 .done)))))) 1 (.take 1 (.two 0 (.only 0 (.only 0 (.take 0 (.only 0 .done)))) 1 (.only 0 (.only 0 (.take 0 (.only 0 .done))))))))))))))))) (by kernel_rfl) (by kernel_rfl) ⟨((Below.refl V.heap.size V).drew).mono (by omega), block_later hdr q9', block_later hdr q10⟩ (fun hP => ?_)
      generalize hdr : V.drew = y0 at hP q4 q5 ow ⊢
      clear hdr
      (refine wsPlan_take rfl (fun K hK => ?_); replace hK := Lib.hid hK; go_simp; first | (refine hK.out _ ?_; clear hK K) | (apply Exists.intro; refine ⟨fun w' hw => ?_, hK.out _ ?_⟩; (first | with_reducible exact rfl | (have z9 := cell_block hw.2.1; have z10 := cell_block hw.2.2; go_simp; exact rfl)); clear hK K))
      (refine wsPlan_take rfl (fun K hK => ?_); replace hK := Lib.hid hK; go_simp; first | (refine hK.out _ ?_; clear hK K) | (apply Exists.intro; refine ⟨fun w' hw => ?_, hK.out _ ?_⟩; (first | with_reducible exact rfl | (have z9 := cell_block hw.2.1; have z10 := cell_block hw.2.2; go_simp; exact rfl)); clear hK K))
      (refine wsPlan_take rfl (fun K hK => ?_); replace hK := Lib.hid hK; go_simp; first | (refine hK.out _ ?_; clear hK K) | (apply Exists.intro; refine ⟨fun w' hw => ?_, hK.out _ ?_⟩; (first | with_reducible exact rfl | (have z9 := cell_block hw.2.1; have z10 := cell_block hw.2.2; go_simp; exact rfl)); clear hK K))
      (refine wsPlan_take rfl (fun K hK => ?_); replace hK := Lib.hid hK; go_simp; first | (refine hK.out _ ?_; clear hK K) | (apply Exists.intro; refine ⟨fun w' hw => ?_, hK.out _ ?_⟩; (first | with_reducible exact rfl | (have z9 := cell_block hw.2.1; have z10 := cell_block hw.2.2; go_simp; exact rfl)); clear hK K))
      (refine wsPlan_take rfl (fun K hK => ?_); replace hK := Lib.hid hK; go_simp; first | (refine hK.out _ ?_; clear hK K) | (apply Exists.intro; refine ⟨fun w' hw => ?_, hK.out _ ?_⟩; (first | with_reducible exact rfl | (have z9 := cell_block hw.2.1; have z10 := cell_block hw.2.2; go_simp; exact rfl)); clear hK K))
      (refine wsPlan_take rfl (fun K hK => ?_); replace hK := Lib.hid hK; go_simp; first | (refine hK.out _ ?_; clear hK K) | (apply Exists.intro; refine ⟨fun w' hw => ?_, hK.out _ ?_⟩; (first | with_reducible exact rfl | (have z9 := cell_block hw.2.1; have z10 := cell_block hw.2.2; go_simp; exact rfl)); clear hK K))
      (refine wsPlan_take rfl (fun K hK => ?_); replace hK := Lib.hid hK; go_simp; first | (refine hK.out _ ?_; clear hK K) | (apply Exists.intro; refine ⟨fun w' hw => ?_, hK.out _ ?_⟩; (first | with_reducible exact rfl | (have z9 := cell_block hw.2.1; have z10 := cell_block hw.2.2; go_simp; exact rfl)); clear hK K))
      (refine wsPlan_take rfl (fun K hK => ?_); replace hK := Lib.hid hK; go_simp; first | (refine hK.out _ ?_; clear hK K) | (apply Exists.intro; refine ⟨fun w' hw => ?_, hK.out _ ?_⟩; (first | with_reducible exact rfl | (have z9 := cell_block hw.2.1; have z10 := cell_block hw.2.2; go_simp; exact rfl)); clear hK K))
      (refine wsPlan_take rfl (fun K hK => ?_); replace hK := Lib.hid hK; go_simp; first | (refine hK.out _ ?_; clear hK K) | (apply Exists.intro; refine ⟨fun w' hw => ?_, hK.out _ ?_⟩; (first | with_reducible exact rfl | (have z9 := cell_block hw.2.1; have z10 := cell_block hw.2.2; go_simp; exact rfl)); clear hK K))
      refine wsPlan_two ?_ ?_
      · skip
        have k5 := cell_block q5
        (refine wsPlan_only rfl (fun K hK => ?_); replace hK := Lib.hid hK; go_simp; refine hK.out _ _ hP (fun hP => ?_); clear hK K k5)
        (refine wsPlan_only rfl (fun K hK => ?_); replace hK := Lib.hid hK; go_simp; go_at_call 122; (with_reducible refine (q14At_any l ad c _ (q + 4) _ (intsL HL.out (hV.trans (hP.b.mono (by omega)))) (by omega) X4.out).mono ?_); rintro z v102 ⟨rfl, rfl⟩; refine hK.out _ _ hP (fun hP => ?_); clear hK K)
        (refine wsPlan_only rfl (fun K hK => ?_); replace hK := Lib.hid hK; go_simp; go_at_call 122; (with_reducible refine (q14At_any l ad c _ (q + 5) _ (intsL HL.out (hV.trans (hP.b.mono (by omega)))) (by omega) X5.out).mono ?_); rintro z v103 ⟨rfl, rfl⟩; refine hK.out _ _ hP (fun hP => ?_); clear hK K)
        (refine wsPlan_take rfl (fun K hK => ?_); replace hK := Lib.hid hK; go_simp; first | (refine hK.out _ ?_; clear hK K) | (apply Exists.intro; refine ⟨fun w' hw => ?_, hK.out _ ?_⟩; (first | with_reducible exact rfl | (have z9 := cell_block hw.2.1; have z10 := cell_block hw.2.2; go_simp; exact rfl)); clear hK K))
        have hq105 := lt_block q5
        (refine wsPlan_only rfl (fun K hK => ?_); replace hK := Lib.hid hK; go_simp; refine hK.out _ _ ⟨hP.1.alloc (by have := hP.1.size; omega) _, block_alloc hP.2.1, block_alloc hP.2.2⟩ (fun hP => ?_); clear hK K)
        generalize hw105 : World.alloc v103 (Obj.cells #[.int .i64 y0, .int .i64 y1, .int .i64 y2, .int .i64 y3, .int .i64 y4, .int .i64 y5] 151) = v105 at hP ⊢
        obtain ⟨qn, hb105⟩ := box1 hw105.symm
        clear hw105
        have q5_105 := block_later hb105 q5
        have q4_105 := block_later hb105 q4
        have ow_105 := own_keep ow hb105
        have hs_105 : w.heap.size + 2 ≤ v105.heap.size := by have := hb105.size; have := hP.b.size; omega
        (refine wsPlan_only rfl (fun K hK => ?_); replace hK := Lib.hid hK; refine step_app1 (by rfl) _ _ 30 151 6 48 (.agg #[.int .i64 0, .int .i64 0, .int .i64 0, .int .i64 0, .int .i64 0, .int .i64 0]) (by rfl) Tryz.underlying30 info_secY (by decide) (by decide) (w.heap.size + 2) _ k ((secsQ l (p + 6) k).flatMap secCells) (by rfl) ow_105 _ [.int .i64 y0, .int .i64 y1, .int .i64 y2, .int .i64 y3, .int .i64 y4, .int .i64 y5] (by rfl) qn (by rfl) (fun u hu => by simp only [List.mem_cons, List.not_mem_nil, or_false] at hu; rcases hu with rfl | rfl | rfl | rfl | rfl | rfl <;> rfl) (by unfold maxLen; omega) (by omega) hs_105 ?_; intro x106 c106 w106 hown hg hb; refine hK.out _ _ ⟨hP.1.trans (hb.mono (by omega)), grow_keep hg hP.2.1 (own_other ow_105 hP.2.1 (by decide)), grow_keep hg hP.2.2 (own_other ow_105 hP.2.2 (by decide))⟩ (fun hP => ?_); clear hK K)
        have q5_106 := (hb.block (w.heap.size + 1) (by omega)).trans q5_105
        have q4_106 := (hb.block w.heap.size (by omega)).trans q4_105
        have hs_106 : w.heap.size + 2 ≤ w106.heap.size := by have := hb.size; have := hs_105; omega
        clear qn hg hb
        (refine wsPlan_take rfl (fun K hK => ?_); replace hK := Lib.hid hK; go_simp; first | (refine hK.out _ ?_; clear hK K) | (apply Exists.intro; refine ⟨fun w' hw => ?_, hK.out _ ?_⟩; (first | with_reducible exact rfl | (have z9 := cell_block hw.2.1; have z10 := cell_block hw.2.2; go_simp; exact rfl)); clear hK K))
        have f5 := free_block q5_106
        have k5 := cell_block q5_106
        (refine wsPlan_only rfl (fun K hK => ?_); replace hK := Lib.hid hK; go_simp; refine hK.out _ _ ⟨hP.1.setCell (p := ⟨w.heap.size + 1, 8, none⟩) (Nat.le_refl _) _, block_far hP.2.1 (by dsimp only; omega) _, block_far hP.2.2 (by dsimp only; omega) _⟩ (fun hP => ?_); clear hK K f5 k5)
        have q5_108 := block_set (i := 8) q5_106 (.slice x106 (k + 1) c106)
        have q4_108 := block_far (a := ⟨w.heap.size + 1, 8, none⟩) q4_106 (by dsimp only; omega) (.slice x106 (k + 1) c106)
        have ow_108 := own_far (i := 8) (u := .slice x106 (k + 1) c106) hown (show w.heap.size + 1 < w.heap.size + 2 by omega)
        simp only [Array.setIfInBounds, List.size_toArray, List.length_cons, List.length_nil, Nat.reduceAdd, Nat.reduceLT, dite_true, List.set_toArray, List.set_cons_succ, List.set_cons_zero] at q5_108
        have hs_108 : w.heap.size + 2 ≤ (World.setCell w106 ⟨w.heap.size + 1, 8, none⟩ (.slice x106 (k + 1) c106)).heap.size := by simp only [World.size_setCell]; exact hs_106
        generalize hw108 : World.setCell w106 ⟨w.heap.size + 1, 8, none⟩ (.slice x106 (k + 1) c106) = v108 at hP q5_108 q4_108 ow_108 hs_108 ⊢
        clear hw108
        refine wsPlan_done ?_
        have hBE := hV.trans (hP.b.mono (show w.heap.size ≤ w.heap.size + 1 by omega))
        go_wp2_with fail
        go_roundw
        case rel => exact ⟨k + 1, x106, c106, by omega, by rw [show ((p + 6 + 6 * (k + 1) : Nat) : Int) = (q : Int) + 6 by have := HQ.out; omega], by go_num, hBE, hs_108, q4_108, q5_108, by rw [SU.out, List.flatMap_append]; simpa [secCells] using ow_108⟩
        case measure => simp [intOf]; omega
      · skip
        (refine wsPlan_only rfl (fun K hK => ?_); replace hK := Lib.hid hK; go_simp; go_at_call 122; (with_reducible refine (q14At_any l ad c _ (q + 4) _ (intsL HL.out (hV.trans (hP.b.mono (by omega)))) (by omega) X4.out).mono ?_); rintro z v109 ⟨rfl, rfl⟩; refine hK.out _ _ hP (fun hP => ?_); clear hK K)
        refine wsPlan_two ?_ ?_
        · skip
          have k5 := cell_block q5
          (refine wsPlan_only rfl (fun K hK => ?_); replace hK := Lib.hid hK; go_simp; refine hK.out _ _ hP (fun hP => ?_); clear hK K k5)
          (refine wsPlan_only rfl (fun K hK => ?_); replace hK := Lib.hid hK; go_simp; go_at_call 122; (with_reducible refine (q14At_any l ad c _ (q + 5) _ (intsL HL.out (hV.trans (hP.b.mono (by omega)))) (by omega) X5.out).mono ?_); rintro z v111 ⟨rfl, rfl⟩; refine hK.out _ _ hP (fun hP => ?_); clear hK K)
          (refine wsPlan_take rfl (fun K hK => ?_); replace hK := Lib.hid hK; go_simp; first | (refine hK.out _ ?_; clear hK K) | (apply Exists.intro; refine ⟨fun w' hw => ?_, hK.out _ ?_⟩; (first | with_reducible exact rfl | (have z9 := cell_block hw.2.1; have z10 := cell_block hw.2.2; go_simp; exact rfl)); clear hK K))
          have hq113 := lt_block q5
          (refine wsPlan_only rfl (fun K hK => ?_); replace hK := Lib.hid hK; go_simp; refine hK.out _ _ ⟨hP.1.alloc (by have := hP.1.size; omega) _, block_alloc hP.2.1, block_alloc hP.2.2⟩ (fun hP => ?_); clear hK K)
          generalize hw113 : World.alloc v111 (Obj.cells #[.int .i64 y0, .int .i64 y1, .int .i64 y2, .int .i64 y3, .int .i64 y4, .int .i64 y5] 151) = v113 at hP ⊢
          obtain ⟨qn, hb113⟩ := box1 hw113.symm
          clear hw113
          have q5_113 := block_later hb113 q5
          have q4_113 := block_later hb113 q4
          have ow_113 := own_keep ow hb113
          have hs_113 : w.heap.size + 2 ≤ v113.heap.size := by have := hb113.size; have := hP.b.size; omega
          (refine wsPlan_only rfl (fun K hK => ?_); replace hK := Lib.hid hK; refine step_app1 (by rfl) _ _ 30 151 6 48 (.agg #[.int .i64 0, .int .i64 0, .int .i64 0, .int .i64 0, .int .i64 0, .int .i64 0]) (by rfl) Tryz.underlying30 info_secY (by decide) (by decide) (w.heap.size + 2) _ k ((secsQ l (p + 6) k).flatMap secCells) (by rfl) ow_113 _ [.int .i64 y0, .int .i64 y1, .int .i64 y2, .int .i64 y3, .int .i64 y4, .int .i64 y5] (by rfl) qn (by rfl) (fun u hu => by simp only [List.mem_cons, List.not_mem_nil, or_false] at hu; rcases hu with rfl | rfl | rfl | rfl | rfl | rfl <;> rfl) (by unfold maxLen; omega) (by omega) hs_113 ?_; intro x114 c114 w114 hown hg hb; refine hK.out _ _ ⟨hP.1.trans (hb.mono (by omega)), grow_keep hg hP.2.1 (own_other ow_113 hP.2.1 (by decide)), grow_keep hg hP.2.2 (own_other ow_113 hP.2.2 (by decide))⟩ (fun hP => ?_); clear hK K)
          have q5_114 := (hb.block (w.heap.size + 1) (by omega)).trans q5_113
          have q4_114 := (hb.block w.heap.size (by omega)).trans q4_113
          have hs_114 : w.heap.size + 2 ≤ w114.heap.size := by have := hb.size; have := hs_113; omega
          clear qn hg hb
          (refine wsPlan_take rfl (fun K hK => ?_); replace hK := Lib.hid hK; go_simp; first | (refine hK.out _ ?_; clear hK K) | (apply Exists.intro; refine ⟨fun w' hw => ?_, hK.out _ ?_⟩; (first | with_reducible exact rfl | (have z9 := cell_block hw.2.1; have z10 := cell_block hw.2.2; go_simp; exact rfl)); clear hK K))
          have f5 := free_block q5_114
          have k5 := cell_block q5_114
          (refine wsPlan_only rfl (fun K hK => ?_); replace hK := Lib.hid hK; go_simp; refine hK.out _ _ ⟨hP.1.setCell (p := ⟨w.heap.size + 1, 8, none⟩) (Nat.le_refl _) _, block_far hP.2.1 (by dsimp only; omega) _, block_far hP.2.2 (by dsimp only; omega) _⟩ (fun hP => ?_); clear hK K f5 k5)
          have q5_116 := block_set (i := 8) q5_114 (.slice x114 (k + 1) c114)
          have q4_116 := block_far (a := ⟨w.heap.size + 1, 8, none⟩) q4_114 (by dsimp only; omega) (.slice x114 (k + 1) c114)
          have ow_116 := own_far (i := 8) (u := .slice x114 (k + 1) c114) hown (show w.heap.size + 1 < w.heap.size + 2 by omega)
          simp only [Array.setIfInBounds, List.size_toArray, List.length_cons, List.length_nil, Nat.reduceAdd, Nat.reduceLT, dite_true, List.set_toArray, List.set_cons_succ, List.set_cons_zero] at q5_116
          have hs_116 : w.heap.size + 2 ≤ (World.setCell w114 ⟨w.heap.size + 1, 8, none⟩ (.slice x114 (k + 1) c114)).heap.size := by simp only [World.size_setCell]; exact hs_114
          generalize hw116 : World.setCell w114 ⟨w.heap.size + 1, 8, none⟩ (.slice x114 (k + 1) c114) = v116 at hP q5_116 q4_116 ow_116 hs_116 ⊢
          clear hw116
          refine wsPlan_done ?_
          have hBE := hV.trans (hP.b.mono (show w.heap.size ≤ w.heap.size + 1 by omega))
          go_wp2_with fail
          go_roundw
          case rel => exact ⟨k + 1, x114, c114, by omega, by rw [show ((p + 6 + 6 * (k + 1) : Nat) : Int) = (q : Int) + 6 by have := HQ.out; omega], by go_num, hBE, hs_116, q4_116, q5_116, by rw [SU.out, List.flatMap_append]; simpa [secCells] using ow_116⟩
          case measure => simp [intOf]; omega
        · skip
          (refine wsPlan_only rfl (fun K hK => ?_); replace hK := Lib.hid hK; go_simp; go_at_call 122; (with_reducible refine (q14At_any l ad c _ (q + 5) _ (intsL HL.out (hV.trans (hP.b.mono (by omega)))) (by omega) X5.out).mono ?_); rintro z v117 ⟨rfl, rfl⟩; refine hK.out _ _ hP (fun hP => ?_); clear hK K)
          (refine wsPlan_take rfl (fun K hK => ?_); replace hK := Lib.hid hK; go_simp; first | (refine hK.out _ ?_; clear hK K) | (apply Exists.intro; refine ⟨fun w' hw => ?_, hK.out _ ?_⟩; (first | with_reducible exact rfl | (have z9 := cell_block hw.2.1; have z10 := cell_block hw.2.2; go_simp; exact rfl)); clear hK K))
          refine wsPlan_two ?_ ?_
          · skip
            have k5 := cell_block q5
            (refine wsPlan_only rfl (fun K hK => ?_); replace hK := Lib.hid hK; go_simp; refine hK.out _ _ hP (fun hP => ?_); clear hK K k5)
            have hq120 := lt_block q5
            (refine wsPlan_only rfl (fun K hK => ?_); replace hK := Lib.hid hK; go_simp; refine hK.out _ _ ⟨hP.1.alloc (by have := hP.1.size; omega) _, block_alloc hP.2.1, block_alloc hP.2.2⟩ (fun hP => ?_); clear hK K)
            generalize hw120 : World.alloc v117 (Obj.cells #[.int .i64 y0, .int .i64 y1, .int .i64 y2, .int .i64 y3, .int .i64 y4, .int .i64 y5] 151) = v120 at hP ⊢
            obtain ⟨qn, hb120⟩ := box1 hw120.symm
            clear hw120
            have q5_120 := block_later hb120 q5
            have q4_120 := block_later hb120 q4
            have ow_120 := own_keep ow hb120
            have hs_120 : w.heap.size + 2 ≤ v120.heap.size := by have := hb120.size; have := hP.b.size; omega
            (refine wsPlan_only rfl (fun K hK => ?_); replace hK := Lib.hid hK; refine step_app1 (by rfl) _ _ 30 151 6 48 (.agg #[.int .i64 0, .int .i64 0, .int .i64 0, .int .i64 0, .int .i64 0, .int .i64 0]) (by rfl) Tryz.underlying30 info_secY (by decide) (by decide) (w.heap.size + 2) _ k ((secsQ l (p + 6) k).flatMap secCells) (by rfl) ow_120 _ [.int .i64 y0, .int .i64 y1, .int .i64 y2, .int .i64 y3, .int .i64 y4, .int .i64 y5] (by rfl) qn (by rfl) (fun u hu => by simp only [List.mem_cons, List.not_mem_nil, or_false] at hu; rcases hu with rfl | rfl | rfl | rfl | rfl | rfl <;> rfl) (by unfold maxLen; omega) (by omega) hs_120 ?_; intro x121 c121 w121 hown hg hb; refine hK.out _ _ ⟨hP.1.trans (hb.mono (by omega)), grow_keep hg hP.2.1 (own_other ow_120 hP.2.1 (by decide)), grow_keep hg hP.2.2 (own_other ow_120 hP.2.2 (by decide))⟩ (fun hP => ?_); clear hK K)
            have q5_121 := (hb.block (w.heap.size + 1) (by omega)).trans q5_120
            have q4_121 := (hb.block w.heap.size (by omega)).trans q4_120
            have hs_121 : w.heap.size + 2 ≤ w121.heap.size := by have := hb.size; have := hs_120; omega
            clear qn hg hb
            (refine wsPlan_take rfl (fun K hK => ?_); replace hK := Lib.hid hK; go_simp; first | (refine hK.out _ ?_; clear hK K) | (apply Exists.intro; refine ⟨fun w' hw => ?_, hK.out _ ?_⟩; (first | with_reducible exact rfl | (have z9 := cell_block hw.2.1; have z10 := cell_block hw.2.2; go_simp; exact rfl)); clear hK K))
            have f5 := free_block q5_121
            have k5 := cell_block q5_121
            (refine wsPlan_only rfl (fun K hK => ?_); replace hK := Lib.hid hK; go_simp; refine hK.out _ _ ⟨hP.1.setCell (p := ⟨w.heap.size + 1, 8, none⟩) (Nat.le_refl _) _, block_far hP.2.1 (by dsimp only; omega) _, block_far hP.2.2 (by dsimp only; omega) _⟩ (fun hP => ?_); clear hK K f5 k5)
            have q5_123 := block_set (i := 8) q5_121 (.slice x121 (k + 1) c121)
            have q4_123 := block_far (a := ⟨w.heap.size + 1, 8, none⟩) q4_121 (by dsimp only; omega) (.slice x121 (k + 1) c121)
            have ow_123 := own_far (i := 8) (u := .slice x121 (k + 1) c121) hown (show w.heap.size + 1 < w.heap.size + 2 by omega)
            simp only [Array.setIfInBounds, List.size_toArray, List.length_cons, List.length_nil, Nat.reduceAdd, Nat.reduceLT, dite_true, List.set_toArray, List.set_cons_succ, List.set_cons_zero] at q5_123
            have hs_123 : w.heap.size + 2 ≤ (World.setCell w121 ⟨w.heap.size + 1, 8, none⟩ (.slice x121 (k + 1) c121)).heap.size := by simp only [World.size_setCell]; exact hs_121
            generalize hw123 : World.setCell w121 ⟨w.heap.size + 1, 8, none⟩ (.slice x121 (k + 1) c121) = v123 at hP q5_123 q4_123 ow_123 hs_123 ⊢
            clear hw123
            refine wsPlan_done ?_
            have hBE := hV.trans (hP.b.mono (show w.heap.size ≤ w.heap.size + 1 by omega))
            go_wp2_with fail
            go_roundw
            case rel => exact ⟨k + 1, x121, c121, by omega, by rw [show ((p + 6 + 6 * (k + 1) : Nat) : Int) = (q : Int) + 6 by have := HQ.out; omega], by go_num, hBE, hs_123, q4_123, q5_123, by rw [SU.out, List.flatMap_append]; simpa [secCells] using ow_123⟩
            case measure => simp [intOf]; omega
          · skip
            have hq124 := lt_block q5
            (refine wsPlan_only rfl (fun K hK => ?_); replace hK := Lib.hid hK; go_simp; refine hK.out _ _ ⟨hP.1.alloc (by have := hP.1.size; omega) _, block_alloc hP.2.1, block_alloc hP.2.2⟩ (fun hP => ?_); clear hK K)
            generalize hw124 : World.alloc v117 (Obj.cells #[.int .i64 y0, .int .i64 y1, .int .i64 y2, .int .i64 y3, .int .i64 y4, .int .i64 y5] 151) = v124 at hP ⊢
            obtain ⟨qn, hb124⟩ := box1 hw124.symm
            clear hw124
            have q5_124 := block_later hb124 q5
            have q4_124 := block_later hb124 q4
            have ow_124 := own_keep ow hb124
            have hs_124 : w.heap.size + 2 ≤ v124.heap.size := by have := hb124.size; have := hP.b.size; omega
            have k5 := cell_block q5_124
            (refine wsPlan_only rfl (fun K hK => ?_); replace hK := Lib.hid hK; go_simp; refine hK.out _ _ hP (fun hP => ?_); clear hK K k5)
            (refine wsPlan_only rfl (fun K hK => ?_); replace hK := Lib.hid hK; refine step_app1 (by rfl) _ _ 30 151 6 48 (.agg #[.int .i64 0, .int .i64 0, .int .i64 0, .int .i64 0, .int .i64 0, .int .i64 0]) (by rfl) Tryz.underlying30 info_secY (by decide) (by decide) (w.heap.size + 2) _ k ((secsQ l (p + 6) k).flatMap secCells) (by rfl) ow_124 _ [.int .i64 y0, .int .i64 y1, .int .i64 y2, .int .i64 y3, .int .i64 y4, .int .i64 y5] (by rfl) qn (by rfl) (fun u hu => by simp only [List.mem_cons, List.not_mem_nil, or_false] at hu; rcases hu with rfl | rfl | rfl | rfl | rfl | rfl <;> rfl) (by unfold maxLen; omega) (by omega) hs_124 ?_; intro x126 c126 w126 hown hg hb; refine hK.out _ _ ⟨hP.1.trans (hb.mono (by omega)), grow_keep hg hP.2.1 (own_other ow_124 hP.2.1 (by decide)), grow_keep hg hP.2.2 (own_other ow_124 hP.2.2 (by decide))⟩ (fun hP => ?_); clear hK K)
            have q5_126 := (hb.block (w.heap.size + 1) (by omega)).trans q5_124
            have q4_126 := (hb.block w.heap.size (by omega)).trans q4_124
            have hs_126 : w.heap.size + 2 ≤ w126.heap.size := by have := hb.size; have := hs_124; omega
            clear qn hg hb
            (refine wsPlan_take rfl (fun K hK => ?_); replace hK := Lib.hid hK; go_simp; first | (refine hK.out _ ?_; clear hK K) | (apply Exists.intro; refine ⟨fun w' hw => ?_, hK.out _ ?_⟩; (first | with_reducible exact rfl | (have z9 := cell_block hw.2.1; have z10 := cell_block hw.2.2; go_simp; exact rfl)); clear hK K))
            have f5 := free_block q5_126
            have k5 := cell_block q5_126
            (refine wsPlan_only rfl (fun K hK => ?_); replace hK := Lib.hid hK; go_simp; refine hK.out _ _ ⟨hP.1.setCell (p := ⟨w.heap.size + 1, 8, none⟩) (Nat.le_refl _) _, block_far hP.2.1 (by dsimp only; omega) _, block_far hP.2.2 (by dsimp only; omega) _⟩ (fun hP => ?_); clear hK K f5 k5)
            have q5_128 := block_set (i := 8) q5_126 (.slice x126 (k + 1) c126)
            have q4_128 := block_far (a := ⟨w.heap.size + 1, 8, none⟩) q4_126 (by dsimp only; omega) (.slice x126 (k + 1) c126)
            have ow_128 := own_far (i := 8) (u := .slice x126 (k + 1) c126) hown (show w.heap.size + 1 < w.heap.size + 2 by omega)
            simp only [Array.setIfInBounds, List.size_toArray, List.length_cons, List.length_nil, Nat.reduceAdd, Nat.reduceLT, dite_true, List.set_toArray, List.set_cons_succ, List.set_cons_zero] at q5_128
            have hs_128 : w.heap.size + 2 ≤ (World.setCell w126 ⟨w.heap.size + 1, 8, none⟩ (.slice x126 (k + 1) c126)).heap.size := by simp only [World.size_setCell]; exact hs_126
            generalize hw128 : World.setCell w126 ⟨w.heap.size + 1, 8, none⟩ (.slice x126 (k + 1) c126) = v128 at hP q5_128 q4_128 ow_128 hs_128 ⊢
            clear hw128
            refine wsPlan_done ?_
            have hBE := hV.trans (hP.b.mono (show w.heap.size ≤ w.heap.size + 1 by omega))
            go_wp2_with fail
            go_roundw
            case rel => exact ⟨k + 1, x126, c126, by omega, by rw [show ((p + 6 + 6 * (k + 1) : Nat) : Int) = (q : Int) + 6 by have := HQ.out; omega], by go_num, hBE, hs_128, q4_128, q5_128, by rw [SU.out, List.flatMap_append]; simpa [secCells] using ow_128⟩
            case measure => simp [intOf]; omega
  have E : Hid (f = ⟨v0, v1, 0, 0, 0, ptsQ l (p + 5) (cntQ v4 24), v3, v2, []⟩ ∧ e = p + 5 + 2 * cntQ v4 24) := Lib.hid (by
    have := HR.out
    rw [if_neg ND.out, if_neg h4] at this
    cases this
    exact ⟨rfl, rfl⟩)
  obtain ⟨rfl, rfl⟩ := E.out
  have d4 : (v1 == 4) = false := by simpa using h4
  clear HR E h4
  go_wp2_with fail
  (with_reducible refine (q14At_any l ad c _ (p + 3) _ (intsL HL.out hB1) (by omega) V3.out).mono ?_)
  rintro e1 z1 ⟨rfl, rfl⟩
  go_wp2_with fail
  refine calls_named fun W2 hW => ?_
  have q5n := (block_set (i := 6) q5 (.int .i64 v3))
  have q4n := (block_far (a := ⟨w.heap.size + 1, 6, none⟩) q4 (by dsimp only; omega) (.int .i64 v3))
  have hB2 := (hB1.setCell (p := ⟨w.heap.size + 1, 6, none⟩) (by dsimp only; omega) (.int .i64 v3))
  have hsz2 : w.heap.size + 2 ≤ W2.heap.size := by rw [hW]; simp only [World.size_setCell]; omega
  rw [← hW] at q5n q4n hB2
  simp only [Array.setIfInBounds, List.size_toArray, List.length_cons, List.length_nil, Nat.reduceAdd, Nat.reduceLT, dite_true, List.set_toArray, List.set_cons_succ, List.set_cons_zero] at q5n
  clear hW q5 q4 k5 f5
  have q5 := q5n
  have q4 := q4n
  clear q5n q4n
  (with_reducible refine (q14At_any l ad c _ (p + 4) _ (intsL HL.out hB2) (by omega) V4.out).mono ?_)
  rintro e1 z1 ⟨rfl, rfl⟩
  go_wp2_with fail
  go_loopw [1, 12] (fun a i wr => ∃ (k : Nat) (x : Option Addr) (c2 : Nat), k ≤ cntQ v4 24 ∧ a = .int .i64 ((p + 5 + 2 * k : Nat) : Int) ∧ i = .int .i64 k ∧ Below w.heap.size w wr ∧ w.heap.size + 2 ≤ wr.heap.size ∧ wr.heap[w.heap.size]? = some (.cells #[.int .i64 0, .int .i64 0, .int .i64 0, .int .i64 0, .int .i64 0, .slice none 0 0, .int .i64 0, .int .i64 0, .slice none 0 0, .int .i64 0] 157) ∧ wr.heap[w.heap.size + 1]? = some (.cells #[.int .i64 v0, .int .i64 v1, .int .i64 0, .int .i64 0, .int .i64 0, .slice x k c2, .int .i64 v3, .int .i64 v2, .slice none 0 0] 32) ∧ wr.ownsRow (w.heap.size + 2) 28 2 (.slice x k c2) k ((ptsQ l (p + 5) k).flatMap ptCells)) (fun _ i _ => cntQ v4 24 - (intOf i).toNat)
  case atStart => exact ⟨0, none, 0, Nat.zero_le _, by rw [show ((p + 5 + 2 * 0 : Nat) : Int) = (p : Int) + 3 + 2 by omega], rfl, hB2, hsz2, q4, q5, own_nil _ _ _ _⟩
  case round =>
    obtain ⟨k, x, c2, hk, rfl, rfl, hb, hsz, hq4, hq5, how⟩ := hrel
    have CN : Hid (cntQ v4 24 ≤ 25) := Lib.hid (by unfold cntQ; omega)
    have CL : Hid (k < cntQ v4 24 ↔ (k : Int) < v4 ∧ k ≤ 24) := Lib.hid cnt_lt
    obtain ⟨q, hq⟩ : ∃ q, p + 5 + 2 * k = q := ⟨_, rfl⟩
    have HQ := Lib.hid hq
    have hqb : q ≤ 40200 := by have := CN.out; omega
    rw [hq]
    clear q4 q5 hB2 hsz2 hq
    by_cases hlt : k < cntQ v4 24
    rotate_left
    · have EK : Hid (k = cntQ v4 24) := Lib.hid (by omega)
      have q4 := hq4
      have q5 := hq5
      have OW := Lib.hid how
      clear hq4 hq5 how
      by_cases h1 : (k : Int) < v4
      · have d1 : decide ((k : Int) < v4) = true := decide_eq_true h1
        have h2 : ¬ k ≤ 24 := fun h => hlt (CL.out.2 ⟨h1, h⟩)
        have d2 : decide (k ≤ 24) = false := decide_eq_false h2
        have d3 : decide ((k : Int) ≤ 24) = false := decide_eq_false (by omega)
        clear h1 h2 hlt
        have k5 := cell_block q5
        have f4 := free_block q4
        have k4 := cell_block q4
        have Q4 := Lib.hid q4
        clear q4 q5
        go_wp2_with fail
        have k9 := cell_block (block_set (i := 9) (block_set (i := 8) (block_set (i := 7) (block_set (i := 6) (block_set (i := 5) (block_set (i := 4) (block_set (i := 3) (block_set (i := 2) (block_set (i := 1) (block_set (i := 0) Q4.out (.int .i64 v0)) (.int .i64 v1)) (.int .i64 0)) (.int .i64 0)) (.int .i64 0)) (.slice x k c2)) (.int .i64 v3)) (.int .i64 v2)) (.slice none 0 0)) (.int .i64 q))
        exact bodyPost_ret (v := .agg #[.int .i64 v0, .int .i64 v1, .int .i64 0, .int .i64 0, .int .i64 0, .slice x k c2, .int .i64 v3, .int .i64 v2, .slice none 0 0, .int .i64 q]) (by simp [results, Tryz.results123, go_sem, k9]) rfl ⟨.slice x k c2, .slice none 0 0, by rw [← EK.out, HQ.out], by rw [← EK.out]; unfold OwnP; rw [ptsQ_len]; exact own_less (base' := w.heap.size + 2) (own_far (own_far (own_far (own_far (own_far (own_far (own_far (own_far (own_far (own_far OW.out (by omega)) (by omega)) (by omega)) (by omega)) (by omega)) (by omega)) (by omega)) (by omega)) (by omega)) (by omega)) (by omega), own_less (base' := w.heap.size + 2) (own_far (own_far (own_far (own_far (own_far (own_far (own_far (own_far (own_far (own_far (own_nil (w.heap.size + 2) _ 151 6) (by omega)) (by omega)) (by omega)) (by omega)) (by omega)) (by omega)) (by omega)) (by omega)) (by omega)) (by omega)) (by omega), ((((((((((hb.setCell (by dsimp only; omega) _).setCell (by dsimp only; omega) _).setCell (by dsimp only; omega) _).setCell (by dsimp only; omega) _).setCell (by dsimp only; omega) _).setCell (by dsimp only; omega) _).setCell (by dsimp only; omega) _).setCell (by dsimp only; omega) _).setCell (by dsimp only; omega) _).setCell (by dsimp only; omega) _)⟩
      · have d1 : decide ((k : Int) < v4) = false := decide_eq_false h1
        clear h1 hlt
        have k5 := cell_block q5
        have f4 := free_block q4
        have k4 := cell_block q4
        have Q4 := Lib.hid q4
        clear q4 q5
        go_wp2_with fail
        have k9 := cell_block (block_set (i := 9) (block_set (i := 8) (block_set (i := 7) (block_set (i := 6) (block_set (i := 5) (block_set (i := 4) (block_set (i := 3) (block_set (i := 2) (block_set (i := 1) (block_set (i := 0) Q4.out (.int .i64 v0)) (.int .i64 v1)) (.int .i64 0)) (.int .i64 0)) (.int .i64 0)) (.slice x k c2)) (.int .i64 v3)) (.int .i64 v2)) (.slice none 0 0)) (.int .i64 q))
        exact bodyPost_ret (v := .agg #[.int .i64 v0, .int .i64 v1, .int .i64 0, .int .i64 0, .int .i64 0, .slice x k c2, .int .i64 v3, .int .i64 v2, .slice none 0 0, .int .i64 q]) (by simp [results, Tryz.results123, go_sem, k9]) rfl ⟨.slice x k c2, .slice none 0 0, by rw [← EK.out, HQ.out], by rw [← EK.out]; unfold OwnP; rw [ptsQ_len]; exact own_less (base' := w.heap.size + 2) (own_far (own_far (own_far (own_far (own_far (own_far (own_far (own_far (own_far (own_far OW.out (by omega)) (by omega)) (by omega)) (by omega)) (by omega)) (by omega)) (by omega)) (by omega)) (by omega)) (by omega)) (by omega), own_less (base' := w.heap.size + 2) (own_far (own_far (own_far (own_far (own_far (own_far (own_far (own_far (own_far (own_far (own_nil (w.heap.size + 2) _ 151 6) (by omega)) (by omega)) (by omega)) (by omega)) (by omega)) (by omega)) (by omega)) (by omega)) (by omega)) (by omega)) (by omega), ((((((((((hb.setCell (by dsimp only; omega) _).setCell (by dsimp only; omega) _).setCell (by dsimp only; omega) _).setCell (by dsimp only; omega) _).setCell (by dsimp only; omega) _).setCell (by dsimp only; omega) _).setCell (by dsimp only; omega) _).setCell (by dsimp only; omega) _).setCell (by dsimp only; omega) _).setCell (by dsimp only; omega) _)⟩
    obtain ⟨hn1, hn2⟩ := CL.out.1 hlt
    have d1 : decide ((k : Int) < v4) = true := decide_eq_true hn1
    have d2 : decide (k ≤ 24) = true := decide_eq_true hn2
    have d3 : decide ((k : Int) ≤ 24) = true := decide_eq_true (by omega)
    clear hn1
    obtain ⟨y0, hy0⟩ : ∃ v, l.getD (q + 0) 0 = v := ⟨_, rfl⟩
    have X0 := Lib.hid hy0
    clear hy0
    obtain ⟨y1, hy1⟩ : ∃ v, l.getD (q + 1) 0 = v := ⟨_, rfl⟩
    have X1 := Lib.hid hy1
    clear hy1
    have SU : Hid (ptsQ l (p + 5) (k + 1) = ptsQ l (p + 5) k ++ [(y0, y1)]) := Lib.hid (by rw [ptsQ_succ, show p + 5 + 2 * k = q from HQ.out, ← X0.out, ← X1.out]; rfl)
    obtain ⟨V, hVe⟩ : ∃ z, wr = z := ⟨_, rfl⟩
    rw [hVe] at hb hsz hq4 hq5 how ⊢
    have hV := hb
    have hdr : Below V.heap.size V V.drew := (Below.refl _ _).drew
    have q4 := block_later hdr hq4
    have q5 := block_later hdr hq5
    have ow := own_keep how hdr
    have hs0 : w.heap.size + 2 ≤ V.drew.heap.size := by have := hdr.size; omega
    have jq1 : IntKind.i64.wrap ((q : Int) + 1) = (q : Int) + 1 := IntWalk.i64_in _ (by omega)
    clear hVe hb hq4 hq5 how
    go_wp2_with fail
    refine wp_region_planS (Below (w.heap.size + 1) V) (.take 0 (.take 1 (.take 1 (.take 2 (.take 2 (.take 2 (.two 0 (.only 0 (.only 0 (.take 0 (.only 0 (.only 0 (.take 0 (.only 0 .done))))))) 1 (.two 0 (.only 0 (.take 0 (.only 0 (.only 0 (.take 0 (.only 0 .done)))))) 1 (.take 1 (.two 0 (.only 0 (.only 0 (.take 0 (.only 0 .done)))) 1 (.only 0 (.only 0 (.take 0 (.only 0 .done)))))))))))))) (by kernel_rfl) (by kernel_rfl) (((Below.refl V.heap.size V).drew).mono (by omega)) (fun hP => ?_)
    generalize hdr : V.drew = y0 at hP q4 q5 ow ⊢
    clear hdr
    (refine wsPlan_take rfl (fun K hK => ?_); replace hK := Lib.hid hK; go_simp; first | (refine hK.out _ ?_; clear hK K) | (apply Exists.intro; refine ⟨fun w' hw => ?_, hK.out _ ?_⟩; (first | with_reducible exact rfl | skip); clear hK K))
    (refine wsPlan_take rfl (fun K hK => ?_); replace hK := Lib.hid hK; go_simp; first | (refine hK.out _ ?_; clear hK K) | (apply Exists.intro; refine ⟨fun w' hw => ?_, hK.out _ ?_⟩; (first | with_reducible exact rfl | skip); clear hK K))
    (refine wsPlan_take rfl (fun K hK => ?_); replace hK := Lib.hid hK; go_simp; first | (refine hK.out _ ?_; clear hK K) | (apply Exists.intro; refine ⟨fun w' hw => ?_, hK.out _ ?_⟩; (first | with_reducible exact rfl | skip); clear hK K))
    (refine wsPlan_take rfl (fun K hK => ?_); replace hK := Lib.hid hK; go_simp; first | (refine hK.out _ ?_; clear hK K) | (apply Exists.intro; refine ⟨fun w' hw => ?_, hK.out _ ?_⟩; (first | with_reducible exact rfl | skip); clear hK K))
    (refine wsPlan_take rfl (fun K hK => ?_); replace hK := Lib.hid hK; go_simp; first | (refine hK.out _ ?_; clear hK K) | (apply Exists.intro; refine ⟨fun w' hw => ?_, hK.out _ ?_⟩; (first | with_reducible exact rfl | skip); clear hK K))
    (refine wsPlan_take rfl (fun K hK => ?_); replace hK := Lib.hid hK; go_simp; first | (refine hK.out _ ?_; clear hK K) | (apply Exists.intro; refine ⟨fun w' hw => ?_, hK.out _ ?_⟩; (first | with_reducible exact rfl | skip); clear hK K))
    refine wsPlan_two ?_ ?_
    · skip
      have k5 := cell_block q5
      (refine wsPlan_only rfl (fun K hK => ?_); replace hK := Lib.hid hK; go_simp; refine hK.out _ _ hP (fun hP => ?_); clear hK K k5)
      (refine wsPlan_only rfl (fun K hK => ?_); replace hK := Lib.hid hK; go_simp; go_at_call 122; (with_reducible refine (q14At_any l ad c _ (q + 0) _ (intsL HL.out (hV.trans (hP.mono (by omega)))) (by omega) X0.out).mono ?_); rintro z v130 ⟨rfl, rfl⟩; refine hK.out _ _ hP (fun hP => ?_); clear hK K)
      (refine wsPlan_only rfl (fun K hK => ?_); replace hK := Lib.hid hK; go_simp; go_at_call 122; (with_reducible refine (q14At_any l ad c _ (q + 1) _ (intsL HL.out (hV.trans (hP.mono (by omega)))) (by omega) X1.out).mono ?_); rintro z v131 ⟨rfl, rfl⟩; refine hK.out _ _ hP (fun hP => ?_); clear hK K)
      (refine wsPlan_take rfl (fun K hK => ?_); replace hK := Lib.hid hK; go_simp; first | (refine hK.out _ ?_; clear hK K) | (apply Exists.intro; refine ⟨fun w' hw => ?_, hK.out _ ?_⟩; (first | with_reducible exact rfl | skip); clear hK K))
      have hq133 := lt_block q5
      (refine wsPlan_only rfl (fun K hK => ?_); replace hK := Lib.hid hK; go_simp; refine hK.out _ _ (hP.alloc (by have := hP.size; omega) _) (fun hP => ?_); clear hK K)
      generalize hw133 : World.alloc v131 (Obj.cells #[.int .i64 y0, .int .i64 y1] 28) = v133 at hP ⊢
      obtain ⟨qn, hb133⟩ := box1 hw133.symm
      clear hw133
      have q5_133 := block_later hb133 q5
      have q4_133 := block_later hb133 q4
      have ow_133 := own_keep ow hb133
      have hs_133 : w.heap.size + 2 ≤ v133.heap.size := by have := hb133.size; have := hP.size; omega
      (refine wsPlan_only rfl (fun K hK => ?_); replace hK := Lib.hid hK; refine step_app1 (by rfl) _ _ 29 28 2 16 (.agg #[.int .i64 0, .int .i64 0]) (by rfl) Tryz.underlying29 info_ptY (by decide) (by decide) (w.heap.size + 2) _ k ((ptsQ l (p + 5) k).flatMap ptCells) (by rfl) ow_133 _ [.int .i64 y0, .int .i64 y1] (by rfl) qn (by rfl) (fun u hu => by simp only [List.mem_cons, List.not_mem_nil, or_false] at hu; rcases hu with rfl | rfl <;> rfl) (by unfold maxLen; omega) (by omega) hs_133 ?_; intro x134 c134 w134 hown hg hb; refine hK.out _ _ (hP.trans (hb.mono (by omega))) (fun hP => ?_); clear hK K)
      have q5_134 := (hb.block (w.heap.size + 1) (by omega)).trans q5_133
      have q4_134 := (hb.block w.heap.size (by omega)).trans q4_133
      have hs_134 : w.heap.size + 2 ≤ w134.heap.size := by have := hb.size; have := hs_133; omega
      clear qn hg hb
      (refine wsPlan_take rfl (fun K hK => ?_); replace hK := Lib.hid hK; go_simp; first | (refine hK.out _ ?_; clear hK K) | (apply Exists.intro; refine ⟨fun w' hw => ?_, hK.out _ ?_⟩; (first | with_reducible exact rfl | skip); clear hK K))
      have f5 := free_block q5_134
      have k5 := cell_block q5_134
      (refine wsPlan_only rfl (fun K hK => ?_); replace hK := Lib.hid hK; go_simp; refine hK.out _ _ (hP.setCell (p := ⟨w.heap.size + 1, 5, none⟩) (Nat.le_refl _) _) (fun hP => ?_); clear hK K f5 k5)
      have q5_136 := block_set (i := 5) q5_134 (.slice x134 (k + 1) c134)
      have q4_136 := block_far (a := ⟨w.heap.size + 1, 5, none⟩) q4_134 (by dsimp only; omega) (.slice x134 (k + 1) c134)
      have ow_136 := own_far (i := 5) (u := .slice x134 (k + 1) c134) hown (show w.heap.size + 1 < w.heap.size + 2 by omega)
      simp only [Array.setIfInBounds, List.size_toArray, List.length_cons, List.length_nil, Nat.reduceAdd, Nat.reduceLT, dite_true, List.set_toArray, List.set_cons_succ, List.set_cons_zero] at q5_136
      have hs_136 : w.heap.size + 2 ≤ (World.setCell w134 ⟨w.heap.size + 1, 5, none⟩ (.slice x134 (k + 1) c134)).heap.size := by simp only [World.size_setCell]; exact hs_134
      generalize hw136 : World.setCell w134 ⟨w.heap.size + 1, 5, none⟩ (.slice x134 (k + 1) c134) = v136 at hP q5_136 q4_136 ow_136 hs_136 ⊢
      clear hw136
      refine wsPlan_done ?_
      have hBE := hV.trans (hP.mono (show w.heap.size ≤ w.heap.size + 1 by omega))
      go_wp2_with fail
      go_roundw
      case rel => exact ⟨k + 1, x134, c134, by omega, by rw [show ((p + 5 + 2 * (k + 1) : Nat) : Int) = (q : Int) + 2 by have := HQ.out; omega], by go_num, hBE, hs_136, q4_136, q5_136, by rw [SU.out, List.flatMap_append]; simpa [ptCells] using ow_136⟩
      case measure => simp [intOf]; omega
    · skip
      (refine wsPlan_only rfl (fun K hK => ?_); replace hK := Lib.hid hK; go_simp; go_at_call 122; (with_reducible refine (q14At_any l ad c _ (q + 0) _ (intsL HL.out (hV.trans (hP.mono (by omega)))) (by omega) X0.out).mono ?_); rintro z v137 ⟨rfl, rfl⟩; refine hK.out _ _ hP (fun hP => ?_); clear hK K)
      refine wsPlan_two ?_ ?_
      · skip
        have k5 := cell_block q5
        (refine wsPlan_only rfl (fun K hK => ?_); replace hK := Lib.hid hK; go_simp; refine hK.out _ _ hP (fun hP => ?_); clear hK K k5)
        (refine wsPlan_only rfl (fun K hK => ?_); replace hK := Lib.hid hK; go_simp; go_at_call 122; (with_reducible refine (q14At_any l ad c _ (q + 1) _ (intsL HL.out (hV.trans (hP.mono (by omega)))) (by omega) X1.out).mono ?_); rintro z v139 ⟨rfl, rfl⟩; refine hK.out _ _ hP (fun hP => ?_); clear hK K)
        (refine wsPlan_take rfl (fun K hK => ?_); replace hK := Lib.hid hK; go_simp; first | (refine hK.out _ ?_; clear hK K) | (apply Exists.intro; refine ⟨fun w' hw => ?_, hK.out _ ?_⟩; (first | with_reducible exact rfl | skip); clear hK K))
        have hq141 := lt_block q5
        (refine wsPlan_only rfl (fun K hK => ?_); replace hK := Lib.hid hK; go_simp; refine hK.out _ _ (hP.alloc (by have := hP.size; omega) _) (fun hP => ?_); clear hK K)
        generalize hw141 : World.alloc v139 (Obj.cells #[.int .i64 y0, .int .i64 y1] 28) = v141 at hP ⊢
        obtain ⟨qn, hb141⟩ := box1 hw141.symm
        clear hw141
        have q5_141 := block_later hb141 q5
        have q4_141 := block_later hb141 q4
        have ow_141 := own_keep ow hb141
        have hs_141 : w.heap.size + 2 ≤ v141.heap.size := by have := hb141.size; have := hP.size; omega
        (refine wsPlan_only rfl (fun K hK => ?_); replace hK := Lib.hid hK; refine step_app1 (by rfl) _ _ 29 28 2 16 (.agg #[.int .i64 0, .int .i64 0]) (by rfl) Tryz.underlying29 info_ptY (by decide) (by decide) (w.heap.size + 2) _ k ((ptsQ l (p + 5) k).flatMap ptCells) (by rfl) ow_141 _ [.int .i64 y0, .int .i64 y1] (by rfl) qn (by rfl) (fun u hu => by simp only [List.mem_cons, List.not_mem_nil, or_false] at hu; rcases hu with rfl | rfl <;> rfl) (by unfold maxLen; omega) (by omega) hs_141 ?_; intro x142 c142 w142 hown hg hb; refine hK.out _ _ (hP.trans (hb.mono (by omega))) (fun hP => ?_); clear hK K)
        have q5_142 := (hb.block (w.heap.size + 1) (by omega)).trans q5_141
        have q4_142 := (hb.block w.heap.size (by omega)).trans q4_141
        have hs_142 : w.heap.size + 2 ≤ w142.heap.size := by have := hb.size; have := hs_141; omega
        clear qn hg hb
        (refine wsPlan_take rfl (fun K hK => ?_); replace hK := Lib.hid hK; go_simp; first | (refine hK.out _ ?_; clear hK K) | (apply Exists.intro; refine ⟨fun w' hw => ?_, hK.out _ ?_⟩; (first | with_reducible exact rfl | skip); clear hK K))
        have f5 := free_block q5_142
        have k5 := cell_block q5_142
        (refine wsPlan_only rfl (fun K hK => ?_); replace hK := Lib.hid hK; go_simp; refine hK.out _ _ (hP.setCell (p := ⟨w.heap.size + 1, 5, none⟩) (Nat.le_refl _) _) (fun hP => ?_); clear hK K f5 k5)
        have q5_144 := block_set (i := 5) q5_142 (.slice x142 (k + 1) c142)
        have q4_144 := block_far (a := ⟨w.heap.size + 1, 5, none⟩) q4_142 (by dsimp only; omega) (.slice x142 (k + 1) c142)
        have ow_144 := own_far (i := 5) (u := .slice x142 (k + 1) c142) hown (show w.heap.size + 1 < w.heap.size + 2 by omega)
        simp only [Array.setIfInBounds, List.size_toArray, List.length_cons, List.length_nil, Nat.reduceAdd, Nat.reduceLT, dite_true, List.set_toArray, List.set_cons_succ, List.set_cons_zero] at q5_144
        have hs_144 : w.heap.size + 2 ≤ (World.setCell w142 ⟨w.heap.size + 1, 5, none⟩ (.slice x142 (k + 1) c142)).heap.size := by simp only [World.size_setCell]; exact hs_142
        generalize hw144 : World.setCell w142 ⟨w.heap.size + 1, 5, none⟩ (.slice x142 (k + 1) c142) = v144 at hP q5_144 q4_144 ow_144 hs_144 ⊢
        clear hw144
        refine wsPlan_done ?_
        have hBE := hV.trans (hP.mono (show w.heap.size ≤ w.heap.size + 1 by omega))
        go_wp2_with fail
        go_roundw
        case rel => exact ⟨k + 1, x142, c142, by omega, by rw [show ((p + 5 + 2 * (k + 1) : Nat) : Int) = (q : Int) + 2 by have := HQ.out; omega], by go_num, hBE, hs_144, q4_144, q5_144, by rw [SU.out, List.flatMap_append]; simpa [ptCells] using ow_144⟩
        case measure => simp [intOf]; omega
      · skip
        (refine wsPlan_only rfl (fun K hK => ?_); replace hK := Lib.hid hK; go_simp; go_at_call 122; (with_reducible refine (q14At_any l ad c _ (q + 1) _ (intsL HL.out (hV.trans (hP.mono (by omega)))) (by omega) X1.out).mono ?_); rintro z v145 ⟨rfl, rfl⟩; refine hK.out _ _ hP (fun hP => ?_); clear hK K)
        (refine wsPlan_take rfl (fun K hK => ?_); replace hK := Lib.hid hK; go_simp; first | (refine hK.out _ ?_; clear hK K) | (apply Exists.intro; refine ⟨fun w' hw => ?_, hK.out _ ?_⟩; (first | with_reducible exact rfl | skip); clear hK K))
        refine wsPlan_two ?_ ?_
        · skip
          have k5 := cell_block q5
          (refine wsPlan_only rfl (fun K hK => ?_); replace hK := Lib.hid hK; go_simp; refine hK.out _ _ hP (fun hP => ?_); clear hK K k5)
          have hq148 := lt_block q5
          (refine wsPlan_only rfl (fun K hK => ?_); replace hK := Lib.hid hK; go_simp; refine hK.out _ _ (hP.alloc (by have := hP.size; omega) _) (fun hP => ?_); clear hK K)
          generalize hw148 : World.alloc v145 (Obj.cells #[.int .i64 y0, .int .i64 y1] 28) = v148 at hP ⊢
          obtain ⟨qn, hb148⟩ := box1 hw148.symm
          clear hw148
          have q5_148 := block_later hb148 q5
          have q4_148 := block_later hb148 q4
          have ow_148 := own_keep ow hb148
          have hs_148 : w.heap.size + 2 ≤ v148.heap.size := by have := hb148.size; have := hP.size; omega
          (refine wsPlan_only rfl (fun K hK => ?_); replace hK := Lib.hid hK; refine step_app1 (by rfl) _ _ 29 28 2 16 (.agg #[.int .i64 0, .int .i64 0]) (by rfl) Tryz.underlying29 info_ptY (by decide) (by decide) (w.heap.size + 2) _ k ((ptsQ l (p + 5) k).flatMap ptCells) (by rfl) ow_148 _ [.int .i64 y0, .int .i64 y1] (by rfl) qn (by rfl) (fun u hu => by simp only [List.mem_cons, List.not_mem_nil, or_false] at hu; rcases hu with rfl | rfl <;> rfl) (by unfold maxLen; omega) (by omega) hs_148 ?_; intro x149 c149 w149 hown hg hb; refine hK.out _ _ (hP.trans (hb.mono (by omega))) (fun hP => ?_); clear hK K)
          have q5_149 := (hb.block (w.heap.size + 1) (by omega)).trans q5_148
          have q4_149 := (hb.block w.heap.size (by omega)).trans q4_148
          have hs_149 : w.heap.size + 2 ≤ w149.heap.size := by have := hb.size; have := hs_148; omega
          clear qn hg hb
          (refine wsPlan_take rfl (fun K hK => ?_); replace hK := Lib.hid hK; go_simp; first | (refine hK.out _ ?_; clear hK K) | (apply Exists.intro; refine ⟨fun w' hw => ?_, hK.out _ ?_⟩; (first | with_reducible exact rfl | skip); clear hK K))
          have f5 := free_block q5_149
          have k5 := cell_block q5_149
          (refine wsPlan_only rfl (fun K hK => ?_); replace hK := Lib.hid hK; go_simp; refine hK.out _ _ (hP.setCell (p := ⟨w.heap.size + 1, 5, none⟩) (Nat.le_refl _) _) (fun hP => ?_); clear hK K f5 k5)
          have q5_151 := block_set (i := 5) q5_149 (.slice x149 (k + 1) c149)
          have q4_151 := block_far (a := ⟨w.heap.size + 1, 5, none⟩) q4_149 (by dsimp only; omega) (.slice x149 (k + 1) c149)
          have ow_151 := own_far (i := 5) (u := .slice x149 (k + 1) c149) hown (show w.heap.size + 1 < w.heap.size + 2 by omega)
          simp only [Array.setIfInBounds, List.size_toArray, List.length_cons, List.length_nil, Nat.reduceAdd, Nat.reduceLT, dite_true, List.set_toArray, List.set_cons_succ, List.set_cons_zero] at q5_151
          have hs_151 : w.heap.size + 2 ≤ (World.setCell w149 ⟨w.heap.size + 1, 5, none⟩ (.slice x149 (k + 1) c149)).heap.size := by simp only [World.size_setCell]; exact hs_149
          generalize hw151 : World.setCell w149 ⟨w.heap.size + 1, 5, none⟩ (.slice x149 (k + 1) c149) = v151 at hP q5_151 q4_151 ow_151 hs_151 ⊢
          clear hw151
          refine wsPlan_done ?_
          have hBE := hV.trans (hP.mono (show w.heap.size ≤ w.heap.size + 1 by omega))
          go_wp2_with fail
          go_roundw
          case rel => exact ⟨k + 1, x149, c149, by omega, by rw [show ((p + 5 + 2 * (k + 1) : Nat) : Int) = (q : Int) + 2 by have := HQ.out; omega], by go_num, hBE, hs_151, q4_151, q5_151, by rw [SU.out, List.flatMap_append]; simpa [ptCells] using ow_151⟩
          case measure => simp [intOf]; omega
        · skip
          have hq152 := lt_block q5
          (refine wsPlan_only rfl (fun K hK => ?_); replace hK := Lib.hid hK; go_simp; refine hK.out _ _ (hP.alloc (by have := hP.size; omega) _) (fun hP => ?_); clear hK K)
          generalize hw152 : World.alloc v145 (Obj.cells #[.int .i64 y0, .int .i64 y1] 28) = v152 at hP ⊢
          obtain ⟨qn, hb152⟩ := box1 hw152.symm
          clear hw152
          have q5_152 := block_later hb152 q5
          have q4_152 := block_later hb152 q4
          have ow_152 := own_keep ow hb152
          have hs_152 : w.heap.size + 2 ≤ v152.heap.size := by have := hb152.size; have := hP.size; omega
          have k5 := cell_block q5_152
          (refine wsPlan_only rfl (fun K hK => ?_); replace hK := Lib.hid hK; go_simp; refine hK.out _ _ hP (fun hP => ?_); clear hK K k5)
          (refine wsPlan_only rfl (fun K hK => ?_); replace hK := Lib.hid hK; refine step_app1 (by rfl) _ _ 29 28 2 16 (.agg #[.int .i64 0, .int .i64 0]) (by rfl) Tryz.underlying29 info_ptY (by decide) (by decide) (w.heap.size + 2) _ k ((ptsQ l (p + 5) k).flatMap ptCells) (by rfl) ow_152 _ [.int .i64 y0, .int .i64 y1] (by rfl) qn (by rfl) (fun u hu => by simp only [List.mem_cons, List.not_mem_nil, or_false] at hu; rcases hu with rfl | rfl <;> rfl) (by unfold maxLen; omega) (by omega) hs_152 ?_; intro x154 c154 w154 hown hg hb; refine hK.out _ _ (hP.trans (hb.mono (by omega))) (fun hP => ?_); clear hK K)
          have q5_154 := (hb.block (w.heap.size + 1) (by omega)).trans q5_152
          have q4_154 := (hb.block w.heap.size (by omega)).trans q4_152
          have hs_154 : w.heap.size + 2 ≤ w154.heap.size := by have := hb.size; have := hs_152; omega
          clear qn hg hb
          (refine wsPlan_take rfl (fun K hK => ?_); replace hK := Lib.hid hK; go_simp; first | (refine hK.out _ ?_; clear hK K) | (apply Exists.intro; refine ⟨fun w' hw => ?_, hK.out _ ?_⟩; (first | with_reducible exact rfl | skip); clear hK K))
          have f5 := free_block q5_154
          have k5 := cell_block q5_154
          (refine wsPlan_only rfl (fun K hK => ?_); replace hK := Lib.hid hK; go_simp; refine hK.out _ _ (hP.setCell (p := ⟨w.heap.size + 1, 5, none⟩) (Nat.le_refl _) _) (fun hP => ?_); clear hK K f5 k5)
          have q5_156 := block_set (i := 5) q5_154 (.slice x154 (k + 1) c154)
          have q4_156 := block_far (a := ⟨w.heap.size + 1, 5, none⟩) q4_154 (by dsimp only; omega) (.slice x154 (k + 1) c154)
          have ow_156 := own_far (i := 5) (u := .slice x154 (k + 1) c154) hown (show w.heap.size + 1 < w.heap.size + 2 by omega)
          simp only [Array.setIfInBounds, List.size_toArray, List.length_cons, List.length_nil, Nat.reduceAdd, Nat.reduceLT, dite_true, List.set_toArray, List.set_cons_succ, List.set_cons_zero] at q5_156
          have hs_156 : w.heap.size + 2 ≤ (World.setCell w154 ⟨w.heap.size + 1, 5, none⟩ (.slice x154 (k + 1) c154)).heap.size := by simp only [World.size_setCell]; exact hs_154
          generalize hw156 : World.setCell w154 ⟨w.heap.size + 1, 5, none⟩ (.slice x154 (k + 1) c154) = v156 at hP q5_156 q4_156 ow_156 hs_156 ⊢
          clear hw156
          refine wsPlan_done ?_
          have hBE := hV.trans (hP.mono (show w.heap.size ≤ w.heap.size + 1 by omega))
          go_wp2_with fail
          go_roundw
          case rel => exact ⟨k + 1, x154, c154, by omega, by rw [show ((p + 5 + 2 * (k + 1) : Nat) : Int) = (q : Int) + 2 by have := HQ.out; omega], by go_num, hBE, hs_156, q4_156, q5_156, by rw [SU.out, List.flatMap_append]; simpa [ptCells] using ow_156⟩
          case measure => simp [intOf]; omega
end Go.Proofs.YtdmegkkifiahdaaGreat
