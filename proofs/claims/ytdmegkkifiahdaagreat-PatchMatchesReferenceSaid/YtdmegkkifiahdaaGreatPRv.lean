import Derived.Test.YtdmegkkifiahdaaGreatPC
import Derived.Deep.MidRow
import Derived.Deep.Upon
namespace Go.Proofs.YtdmegkkifiahdaaGreat
open Go.RowKit
attribute [local go_sem] bqOp bqAll bqUpon sqOp sqAll sqUpon ssAll
attribute [local irreducible] wpQuiet wpBQ wpPlan wsPlan
set_option linter.unusedVariables false
theorem ws_load1 {P : Program} {ops : Array Oper} {S : World → Prop} {Q : Exit → Act → World → Prop} {b : Nat} {p : Plan} {l rest : List Oper} {o : Oper} {a : Act} {w : World} (hb : bring b l = o :: rest) (hgd : o.guard = none) (ty : TypeId) (x : Operand) (ho : o.op = .load ty x)
  (g off : Nat) (hx : a.eval x = .pointer (some ⟨g, off, none⟩)) (cs : List Value) (d : TypeDesc) (hc : w.rangeAt g off cs)
  (hu : P.underlying ty = some d) (hd : d.isRow = true) (hi : (P.info? ty).map (·.size) = some cs.length) (hS : S w)
  (h : wsPlan P ops S Q p rest (a.put o.dst (.agg cs.toArray)) w) : wsPlan P ops S Q (.only b p) l a w := by
 refine wsPlan_only hb fun K hK => ?_
 rw [if_pos (wanted_plain hgd)]
 exact wp_load_mid ty x ho g off hx cs d hc hu hd hi (hK _ _ hS fun _ => h)
theorem ws_storeMid {P : Program} {ops : Array Oper} {S : World → Prop} {Q : Exit → Act → World → Prop} {b : Nat} {p : Plan} {l rest : List Oper} {o : Oper} {a : Act} {w : World} (hb : bring b l = o :: rest) (hgd : o.guard = none) (ty : TypeId) (x y : Operand) (ho : o.op = .store ty x y)
  (g off : Nat) (cells : Array Value) (hx : a.eval x = .pointer (some ⟨g, off, none⟩)) (hy : a.eval y = .agg cells) (ht : w.there g off cells.size)
  (hi : (P.info? ty).map (·.size) = some cells.size) (h1 : cells.all (·.oneCell') = true) (hS : S (w.setCells g off cells.toList))
  (h : wsPlan P ops S Q p rest (a.put o.dst undef) (w.setCells g off cells.toList)) : wsPlan P ops S Q (.only b p) l a w := by
 refine wsPlan_only hb fun K hK => ?_
 rw [if_pos (wanted_plain hgd)]
 exact wp_store_mid ty x y ho g off cells hx hy ht hi h1 (hK _ _ hS fun _ => h)
theorem setCells_heap (g : Nat) (T : TypeId) (m : Nat × Nat) : ∀ (vs : List Value) (o : Nat) (w : World) (cur : Array Value), w.heap[g]? = some (.cells cur T m) → ∃ cur' : Array Value, (w.setCells g o vs).heap[g]? = some (.cells cur' T m) ∧ cur'.size = cur.size ∧ ∀ j, j < cur.size → cur'[j]? = if o ≤ j ∧ j < o + vs.length then vs[j - o]? else cur[j]?
 | [], o, w, cur, h => ⟨cur, h, rfl, fun j hj => by rw [if_neg (by simp only [List.length_nil]; omega)]⟩
 | v :: vs, o, w, cur, h => by
   obtain ⟨cur', h1, h2, h3⟩ := setCells_heap g T m vs (o + 1) (w.setCell ⟨g, o, none⟩ v) _ (block_set h v)
   refine ⟨cur', h1, by rw [h2]; simp, fun j hj => ?_⟩
   rw [h3 j (by simpa using hj)]
   by_cases e : j = o
   · subst e
     rw [if_neg (by omega), if_pos (by simp)]
     simp [hj]
   · by_cases hr : o + 1 ≤ j ∧ j < o + 1 + vs.length
     · rw [if_pos hr, if_pos (by simp only [List.length_cons]; omega), show j - o = (j - (o + 1)) + 1 by omega, List.getElem?_cons_succ]
     · rw [if_neg hr, if_neg (by simp only [List.length_cons]; omega), Array.getElem?_setIfInBounds_ne (fun e2 => e e2.symm)]
theorem flat_setT {α : Type} (f : α → List Value) (k : Nat) (hk : ∀ x, (f x).length = k) (d : α) {l : List α} {i : Nat} (hi : i < l.length) (x : α) {q : Nat} (hq : q < l.length * k) : ((l.set i x).flatMap f)[q]? = if i * k ≤ q ∧ q < i * k + k then (f x)[q - i * k]? else (l.flatMap f)[q]? := by
 have hk0 : 0 < k := by
  rcases Nat.eq_zero_or_pos k with e | e
  · rw [e] at hq; omega
  · exact e
 have e := Nat.div_add_mod q k
 have e2 : q / k * k + q % k = q := by rw [Nat.mul_comm]; omega
 have hm := Nat.mod_lt q hk0
 have hlt : q / k < l.length := Nat.div_lt_of_lt_mul (by rw [Nat.mul_comm]; exact hq)
 have h1 := flat_get f k hk d (l.set i x) (q / k) (q % k) (by simpa using hlt) hm
 have h2 := flat_get f k hk d l (q / k) (q % k) hlt hm
 rw [e2] at h1 h2
 rw [h1, h2]
 by_cases hd : q / k = i
 · rw [if_pos (by rw [← hd]; omega), hd, show q - i * k = q % k by rw [← hd]; omega]
   rw [List.getD_eq_getElem?_getD, List.getElem?_set_self hi]
   rfl
 · rw [if_neg ?_, List.getD_eq_getElem?_getD, List.getElem?_set_ne (fun e3 => hd e3.symm), ← List.getD_eq_getElem?_getD]
   intro hr
   apply hd
   have hlo : i ≤ q / k := (Nat.le_div_iff_mul_le hk0).2 hr.1
   have hhi : q / k < i + 1 := Nat.div_lt_of_lt_mul (by rw [Nat.mul_comm, Nat.add_mul]; omega)
   omega
theorem own_setItem {α : Type} {f : α → List Value} {k : Nat} {e : TypeId} {base : Nat} {w : World} {g n c : Nat} {l : List α} (hk : ∀ x, (f x).length = k) (d : α) (h : OwnT f k e base w (.slice (some ⟨g, 0, none⟩) n c) l) {i : Nat} (hi : i < l.length) (x : α) : OwnT f k e base (w.setCells g (i * k) (f x)) (.slice (some ⟨g, 0, none⟩) n c) (l.set i x) := by
 obtain ⟨h1, h2⟩ := h
 rcases h2 with ⟨hv, _⟩ | ⟨g', cap, cur, hv, hbg, hh, hnc, hcm, hcs, ht⟩
 · cases hv
 · cases hv
   obtain ⟨cur', q1, q2, q3⟩ := setCells_heap g e (0, 0) (f x) (i * k) w cur hh
   refine ⟨?_, .inr ⟨g, _, cur', by rw [List.length_set], hbg, q1, by rw [List.length_set]; exact hnc, hcm, by rw [q2]; exact hcs, ?_⟩⟩
   · rw [flat_len hk]
   · rw [List.length_set]
     apply List.ext_getElem?
     intro q
     have hl : l.length * k ≤ cur.size := by rw [hcs]; exact Nat.mul_le_mul_right k hnc
     rcases Nat.lt_or_ge q (l.length * k) with hq | hq
     · rw [List.getElem?_take_of_lt hq, flat_setT f k hk d hi x hq]
       have e1 := q3 q (by omega)
       rw [hk] at e1
       rw [Array.getElem?_toList, e1]
       split
       · rfl
       · have e2 := congrArg (fun z : List Value => z[q]?) ht
         simp only [List.getElem?_take_of_lt hq, Array.getElem?_toList] at e2
         exact e2
     · rw [List.getElem?_eq_none (by rw [List.length_take]; omega), List.getElem?_eq_none (by rw [flat_len hk, List.length_set]; exact hq)]
theorem getD_setT {α : Type} {l : List α} {i t : Nat} {x d : α} (ht : t < l.length) : (l.set i x).getD t d = if i = t then x else l.getD t d := by
 rw [List.getD_eq_getElem?_getD, List.getD_eq_getElem?_getD, List.getElem?_set]
 by_cases e : i = t
 · subst e
   rw [if_pos rfl, if_pos ht, if_pos rfl]
   rfl
 · rw [if_neg e, if_neg e]
theorem rev_step {α : Type} {L m : List α} (d : α) {n i j : Nat} (hm : m.length = n) (hj : j + 1 + i = n) (hij : i < j) (h : ∀ t, t < n → m.getD t d = L.getD (if t < i ∨ n - i ≤ t then n - 1 - t else t) d) :
  ∀ t, t < n → ((m.set i (m.getD j d)).set j (m.getD i d)).getD t d = L.getD (if t < i + 1 ∨ n - (i + 1) ≤ t then n - 1 - t else t) d := by
 intro t ht
 rw [getD_setT (by rw [List.length_set]; omega), getD_setT (by omega)]
 by_cases e1 : j = t
 · subst e1
   rw [if_pos rfl, h i (by omega), if_neg (by omega), if_pos (by omega), show n - 1 - j = i by omega]
 · rw [if_neg e1]
   by_cases e2 : i = t
   · subst e2
     rw [if_pos rfl, h j (by omega), if_neg (by omega), if_pos (by omega), show n - 1 - i = j by omega]
   · rw [if_neg e2, h t ht]
     by_cases e3 : t < i ∨ n - i ≤ t
     · rw [if_pos e3, if_pos (by omega)]
     · rw [if_neg e3, if_neg (by omega)]
theorem rev_done {α : Type} {L m : List α} (d : α) {n i : Nat} (hL : L.length = n) (hm : m.length = n) (hi : n ≤ i + i + 1) (h : ∀ t, t < n → m.getD t d = L.getD (if t < i ∨ n - i ≤ t then n - 1 - t else t) d) : m = L.reverse := by
 refine getD_extD d (by rw [List.length_reverse, hL, hm]) fun t ht => ?_
 rw [h t (by omega), List.getD_eq_getElem?_getD, List.getD_eq_getElem?_getD, List.getElem?_reverse (by omega), hL]
 by_cases e : t < i ∨ n - i ≤ t
 · rw [if_pos e]
 · rw [if_neg e, show n - 1 - t = t by omega]
theorem below_setCells {base g : Nat} (hg : base ≤ g) : ∀ (vs : List Value) (o : Nat) (W : World), Below base W (W.setCells g o vs)
 | [], o, W => Below.refl _ _
 | v :: vs, o, W => ((Below.refl base W).setCell (p := ⟨g, o, none⟩) hg v).trans (below_setCells hg vs (o + 1) _)
def cntR : Value → Nat
 | .int _ q => q.toNat
 | _ => 0
set_option maxHeartbeats 4000000 in
theorem revOps_any (l : List Opn) (v : Value) (base : Nat) (w0 w : World) (h : OwnOs base w0 w v l) (hlen : l.length ≤ 1000) : Calls Tryz.prog 83 #[v] w fun e w' => e = .returned (.tuple #[]) ∧ OwnOs base w0 w' v l.reverse ∧ Below base w w' := by
 obtain ⟨L, rfl, how, hrd⟩ := h
 obtain ⟨ad, c, rfl⟩ := OwnT.form how
 obtain ⟨n, hn⟩ : ∃ n, L.length = n := ⟨_, rfl⟩
 rw [List.length_map, hn] at hlen
 rw [hn] at how ⊢
 have HN := Lib.hid hn
 have OW := Lib.hid how
 have RD := Lib.hid hrd
 clear how hrd hn
 go_enter Tryz.func83, Tryz.ntmps83
 go_wp2_with fail
 go_loopw [2, 3] (fun x y wr => ∃ (i : Nat) (j : Int) (m : List OItem), i ≤ n ∧ x = .int .i64 i ∧ y = .int .i64 j ∧ j = (n : Int) - 1 - i ∧ m.length = n ∧ (∀ t, t < n → m.getD t noOItem = L.getD (if t < i ∨ n - i ≤ t then n - 1 - t else t) noOItem) ∧ OwnT opCells 16 34 base wr (.slice ad n c) m ∧ Below base w wr) (fun x _ _ => n - cntR x)
 case atStart => exact ⟨0, _, L, by omega, rfl, by go_num, by omega, HN.out, fun t ht => by rw [if_neg (by omega)], OW.out, Below.refl _ _⟩
 case round =>
  obtain ⟨i, j, m, hi, rfl, rfl, hj, hm, hget, how, hb⟩ := hrel
  have GET := Lib.hid hget
  have OM := Lib.hid how
  have HM := Lib.hid hm
  clear hget how hm
  rcases Int.lt_or_le (i : Int) j with hlt | hge
  rotate_left
  · have REV : Hid (m = L.reverse) := Lib.hid (rev_done noOItem HN.out HM.out (by omega) GET.out)
    go_wp2_with fail
    go_returns
    refine ⟨rfl, ⟨m, by rw [REV.out, List.map_reverse], OM.out, fun x hx => RD.out x (by rw [REV.out] at hx; simpa using hx)⟩, hb⟩
  obtain ⟨j, rfl⟩ : ∃ jn : Nat, j = jn := ⟨j.toNat, by omega⟩
  have hjn : j + 1 + i = n := by omega
  have hij : i < j := by omega
  obtain ⟨g, rfl, hg, hcell⟩ := OwnT.cell opCells_len noOItem OM.out HM.out (by omega)
  obtain ⟨⟨p, va, vs⟩, hp⟩ : ∃ p, m.getD i noOItem = p := ⟨_, rfl⟩
  obtain ⟨⟨q, ua, us⟩, hq⟩ : ∃ p, m.getD j noOItem = p := ⟨_, rfl⟩
  have hin : i < n := by omega
  have hjn2 : j < n := by omega
  have hpp : PartsAt w0 p.feat va vs := by
   have h1 := GET.out i hin
   rw [hp, if_neg (by omega)] at h1
   exact RD.out (p, va, vs) (by rw [h1]; exact getD_memD (by rw [HN.out]; omega) _)
  have hqq : PartsAt w0 q.feat ua us := by
   have h1 := GET.out j hjn2
   rw [hq, if_neg (by omega)] at h1
   exact RD.out (q, ua, us) (by rw [h1]; exact getD_memD (by rw [HN.out]; omega) _)
  obtain ⟨a1, c1, a2, c2, rfl, rfl⟩ := hpp.form
  obtain ⟨b1, d1, b2, d2, rfl, rfl⟩ := hqq.form
  generalize p.feat.area.length = n1 at *
  generalize p.feat.secs.length = n2 at *
  generalize q.feat.area.length = k1 at *
  generalize q.feat.secs.length = k2 at *
  have RI : Hid (wr.drew.rangeAt g (i * 16) [.int .i64 p.kind, .int .i64 p.id, .int .i64 p.feat.id, .int .i64 p.feat.kind, .int .i64 p.feat.x, .int .i64 p.feat.y, .int .i64 p.feat.rad, (.slice a1 n1 c1), .int .i64 p.feat.dep, .int .i64 p.feat.sym, (.slice a2 n2 c2), .int .i64 p.x, .int .i64 p.y, .int .i64 p.rad, .int .i64 p.dep, .int .i64 p.sym]) := Lib.hid fun t u ht => by
   have hlt := (List.getElem?_eq_some_iff.1 ht).1
   have h1 := hcell i hin t hlt
   rw [hp, Nat.zero_add] at h1
   exact h1.trans ht
  have RJ : Hid (wr.drew.rangeAt g (j * 16) [.int .i64 q.kind, .int .i64 q.id, .int .i64 q.feat.id, .int .i64 q.feat.kind, .int .i64 q.feat.x, .int .i64 q.feat.y, .int .i64 q.feat.rad, (.slice b1 k1 d1), .int .i64 q.feat.dep, .int .i64 q.feat.sym, (.slice b2 k2 d2), .int .i64 q.x, .int .i64 q.y, .int .i64 q.rad, .int .i64 q.dep, .int .i64 q.sym]) := Lib.hid fun t u ht => by
   have hlt := (List.getElem?_eq_some_iff.1 ht).1
   have h1 := hcell j hjn2 t hlt
   rw [hq, Nat.zero_add] at h1
   exact h1.trans ht
  obtain ⟨cur, hcur⟩ : ∃ cur, wr.heap[g]? = some (.cells cur 34 (0, 0)) := by
   rcases OM.out.2 with ⟨hv, _⟩ | ⟨g', cap, cur, hv, _, hh, _⟩
   · cases hv
   · cases hv
     exact ⟨cur, hh⟩
  have THI : Hid (wr.drew.there g (i * 16) 16) := Lib.hid fun t ht => ⟨by
   have h1 := hcell i hin t ht
   rw [Nat.zero_add] at h1
   show (wr.cell? _).isSome = true
   rw [h1, List.getElem?_eq_getElem (by rw [opCells_len]; exact ht)]
   rfl, free_block hcur _⟩
  have THJ : Hid (∀ cs, (wr.drew.setCells g (i * 16) cs).there g (j * 16) 16) := Lib.hid fun cs => World.there_setCells (w := wr.drew) (show wr.drew.there g (j * 16) 16 from fun t ht => ⟨by
   have h1 := hcell j hjn2 t ht
   rw [Nat.zero_add] at h1
   show (wr.cell? _).isSome = true
   rw [h1, List.getElem?_eq_getElem (by rw [opCells_len]; exact ht)]
   rfl, free_block hcur _⟩) _ _ _
  have OD : OwnT opCells 16 34 base wr.drew (.slice (some ⟨g, 0, none⟩) n c) m := OM.out
  have O1 := own_setItem opCells_len noOItem OD (i := i) (by rw [HM.out]; exact hin) (m.getD j noOItem)
  have O2 := own_setItem opCells_len noOItem O1 (i := j) (by rw [List.length_set, HM.out]; exact hjn2) (m.getD i noOItem)
  have hbk : Below base w ((wr.drew.setCells g (i * 16) (opCells (m.getD j noOItem))).setCells g (j * 16) (opCells (m.getD i noOItem))) := by
   have hs : ∀ (W : World) (o : Nat) (vs : List Value), Below base W (W.setCells g o vs) := fun W o vs => below_setCells hg vs o W
   exact (hb.drew.trans (hs _ _ _)).trans (hs _ _ _)
  have FIN : Hid (((m.set i (m.getD j noOItem)).set j (m.getD i noOItem)).length = n ∧ (∀ t, t < n → ((m.set i (m.getD j noOItem)).set j (m.getD i noOItem)).getD t noOItem = L.getD (if t < i + 1 ∨ n - (i + 1) ≤ t then n - 1 - t else t) noOItem) ∧ OwnT opCells 16 34 base ((wr.drew.setCells g (i * 16) [.int .i64 q.kind, .int .i64 q.id, .int .i64 q.feat.id, .int .i64 q.feat.kind, .int .i64 q.feat.x, .int .i64 q.feat.y, .int .i64 q.feat.rad, (.slice b1 k1 d1), .int .i64 q.feat.dep, .int .i64 q.feat.sym, (.slice b2 k2 d2), .int .i64 q.x, .int .i64 q.y, .int .i64 q.rad, .int .i64 q.dep, .int .i64 q.sym]).setCells g (j * 16) [.int .i64 p.kind, .int .i64 p.id, .int .i64 p.feat.id, .int .i64 p.feat.kind, .int .i64 p.feat.x, .int .i64 p.feat.y, .int .i64 p.feat.rad, (.slice a1 n1 c1), .int .i64 p.feat.dep, .int .i64 p.feat.sym, (.slice a2 n2 c2), .int .i64 p.x, .int .i64 p.y, .int .i64 p.rad, .int .i64 p.dep, .int .i64 p.sym]) (.slice (some ⟨g, 0, none⟩) n c) ((m.set i (m.getD j noOItem)).set j (m.getD i noOItem)) ∧ Below base w ((wr.drew.setCells g (i * 16) [.int .i64 q.kind, .int .i64 q.id, .int .i64 q.feat.id, .int .i64 q.feat.kind, .int .i64 q.feat.x, .int .i64 q.feat.y, .int .i64 q.feat.rad, (.slice b1 k1 d1), .int .i64 q.feat.dep, .int .i64 q.feat.sym, (.slice b2 k2 d2), .int .i64 q.x, .int .i64 q.y, .int .i64 q.rad, .int .i64 q.dep, .int .i64 q.sym]).setCells g (j * 16) [.int .i64 p.kind, .int .i64 p.id, .int .i64 p.feat.id, .int .i64 p.feat.kind, .int .i64 p.feat.x, .int .i64 p.feat.y, .int .i64 p.feat.rad, (.slice a1 n1 c1), .int .i64 p.feat.dep, .int .i64 p.feat.sym, (.slice a2 n2 c2), .int .i64 p.x, .int .i64 p.y, .int .i64 p.rad, .int .i64 p.dep, .int .i64 p.sym])) := Lib.hid ⟨by rw [List.length_set, List.length_set, HM.out], rev_step noOItem HM.out hjn hij GET.out, by rw [hp, hq] at O2; rw [hp, hq]; exact O2, by rw [hp, hq] at hbk; exact hbk⟩
  have hb1 : j + 1 + i ≤ n := by omega
  have hb2 : n ≤ j + 1 + i := by omega
  clear hpp hqq hcell hp hq O1 O2 OD hbk hcur hj hjn
  go_wp2_with fail
  refine wp_region_planS (fun _ => True) (.take 0 (.take 0 (.take 0 (.take 0 (.take 0 (.take 0 (.take 0 (.take 1 (.take 1 (.take 1 (.two 0 (.only 0 (.take 0 (.only 0 (.take 0 (.only 0 .done))))) 1 (.only 0 (.take 0 (.only 0 (.take 0 (.only 0 .done)))))))))))))))) (by kernel_rfl) (by kernel_rfl) trivial (fun hP => ?_)
  iterate 10 (refine wsPlan_take rfl (fun K hK => ?_); replace hK := Lib.hid hK; go_simp; first | (refine hK.out _ ?_; clear hK K) | (apply Exists.intro; refine ⟨fun w' hw => ?_, hK.out _ ?_⟩; (first | with_reducible exact rfl | (go_simp; exact rfl)); clear hK K))
  refine wsPlan_two ?_ ?_
  · refine ws_load1 rfl rfl 34 _ rfl g (j * 16) rfl _ _ RJ.out Tryz.underlying34 rfl (by kernel_rfl) trivial ?_
    refine ws_load1 rfl rfl 34 _ rfl g (i * 16) rfl _ _ RI.out Tryz.underlying34 rfl (by kernel_rfl) trivial ?_
    (refine wsPlan_take rfl (fun K hK => ?_); replace hK := Lib.hid hK; go_simp; first | (refine hK.out _ ?_; clear hK K) | (apply Exists.intro; refine ⟨fun w' hw => ?_, hK.out _ ?_⟩; (first | with_reducible exact rfl | (go_simp; exact rfl)); clear hK K))
    refine ws_storeMid rfl rfl 34 _ _ rfl g (i * 16) (#[.int .i64 q.kind, .int .i64 q.id, .int .i64 q.feat.id, .int .i64 q.feat.kind, .int .i64 q.feat.x, .int .i64 q.feat.y, .int .i64 q.feat.rad, (.slice b1 k1 d1), .int .i64 q.feat.dep, .int .i64 q.feat.sym, (.slice b2 k2 d2), .int .i64 q.x, .int .i64 q.y, .int .i64 q.rad, .int .i64 q.dep, .int .i64 q.sym]) rfl rfl THI.out (by kernel_rfl) (by kernel_rfl) trivial ?_
    (refine wsPlan_take rfl (fun K hK => ?_); replace hK := Lib.hid hK; go_simp; first | (refine hK.out _ ?_; clear hK K) | (apply Exists.intro; refine ⟨fun w' hw => ?_, hK.out _ ?_⟩; (first | with_reducible exact rfl | (go_simp; exact rfl)); clear hK K))
    refine ws_storeMid rfl rfl 34 _ _ rfl g (j * 16) (#[.int .i64 p.kind, .int .i64 p.id, .int .i64 p.feat.id, .int .i64 p.feat.kind, .int .i64 p.feat.x, .int .i64 p.feat.y, .int .i64 p.feat.rad, (.slice a1 n1 c1), .int .i64 p.feat.dep, .int .i64 p.feat.sym, (.slice a2 n2 c2), .int .i64 p.x, .int .i64 p.y, .int .i64 p.rad, .int .i64 p.dep, .int .i64 p.sym]) rfl rfl (THJ.out _) (by kernel_rfl) (by kernel_rfl) trivial ?_
    refine wsPlan_done ?_
    simp only [Act.put, List.setIfInBounds_toArray, List.set_cons_zero, List.set_cons_succ]
    go_wp2_with fail
    go_roundw
    case rel => exact ⟨i + 1, _, _, by omega, by go_num, rfl, by omega, FIN.out.1, FIN.out.2.1, FIN.out.2.2.1, FIN.out.2.2.2⟩
    case measure => simp [cntR]; omega
  · refine ws_load1 rfl rfl 34 _ rfl g (i * 16) rfl _ _ RI.out Tryz.underlying34 rfl (by kernel_rfl) trivial ?_
    refine ws_load1 rfl rfl 34 _ rfl g (j * 16) rfl _ _ RJ.out Tryz.underlying34 rfl (by kernel_rfl) trivial ?_
    (refine wsPlan_take rfl (fun K hK => ?_); replace hK := Lib.hid hK; go_simp; first | (refine hK.out _ ?_; clear hK K) | (apply Exists.intro; refine ⟨fun w' hw => ?_, hK.out _ ?_⟩; (first | with_reducible exact rfl | (go_simp; exact rfl)); clear hK K))
    refine ws_storeMid rfl rfl 34 _ _ rfl g (i * 16) (#[.int .i64 q.kind, .int .i64 q.id, .int .i64 q.feat.id, .int .i64 q.feat.kind, .int .i64 q.feat.x, .int .i64 q.feat.y, .int .i64 q.feat.rad, (.slice b1 k1 d1), .int .i64 q.feat.dep, .int .i64 q.feat.sym, (.slice b2 k2 d2), .int .i64 q.x, .int .i64 q.y, .int .i64 q.rad, .int .i64 q.dep, .int .i64 q.sym]) rfl rfl THI.out (by kernel_rfl) (by kernel_rfl) trivial ?_
    (refine wsPlan_take rfl (fun K hK => ?_); replace hK := Lib.hid hK; go_simp; first | (refine hK.out _ ?_; clear hK K) | (apply Exists.intro; refine ⟨fun w' hw => ?_, hK.out _ ?_⟩; (first | with_reducible exact rfl | (go_simp; exact rfl)); clear hK K))
    refine ws_storeMid rfl rfl 34 _ _ rfl g (j * 16) (#[.int .i64 p.kind, .int .i64 p.id, .int .i64 p.feat.id, .int .i64 p.feat.kind, .int .i64 p.feat.x, .int .i64 p.feat.y, .int .i64 p.feat.rad, (.slice a1 n1 c1), .int .i64 p.feat.dep, .int .i64 p.feat.sym, (.slice a2 n2 c2), .int .i64 p.x, .int .i64 p.y, .int .i64 p.rad, .int .i64 p.dep, .int .i64 p.sym]) rfl rfl (THJ.out _) (by kernel_rfl) (by kernel_rfl) trivial ?_
    refine wsPlan_done ?_
    simp only [Act.put, List.setIfInBounds_toArray, List.set_cons_zero, List.set_cons_succ]
    go_wp2_with fail
    go_roundw
    case rel => exact ⟨i + 1, _, _, by omega, by go_num, rfl, by omega, FIN.out.1, FIN.out.2.1, FIN.out.2.2.1, FIN.out.2.2.2⟩
    case measure => simp [cntR]; omega
end Go.Proofs.YtdmegkkifiahdaaGreat
namespace Go.Proofs.YtdmegkkifiahdaaGreat
set_option linter.unusedVariables false
end Go.Proofs.YtdmegkkifiahdaaGreat
