/- The walk of table: the rows, one after the other, by best. -/
import Derived.Test.YtcpnkhiillgffaaRtA
namespace Go.Proofs.Ytcpnkhiillgffaa
open Go.RowKit
attribute [local go_sem] bqOp bqAll bqUpon
attribute [local irreducible] wpQuiet wpBQ
set_option linter.unusedVariables false
theorem hBest_any (ad ad2 ad4 adt : Option Addr) (np c ne c2 na c4 nt ct : Nat) (X A E T : Nat → Nat → Int) (len : Nat → Nat) (f u : Int) (p t n : Nat) (Av : Nat → Prop) (b bs bu bf ba bn : Nat) (w : World) (hn : u - f + 2 = (n : Int))
    (hN : NetOk np X ne E) (ha : AirsOk na A) (g3 : TimesOk f u) (hp : p < np) (ht : (t : Int) ≤ u - f)
    (hX : Rows 2 w (.slice ad np c) np X) (hA : Rows 4 w (.slice ad4 na c4) na A) (hE : Rows 4 w (.slice ad2 ne c2) ne E) (hT : Tab w (.slice adt nt ct) nt len T) (htn : t ≤ nt) (hTR : RowsOk np (t : Int) len T)
    (hW : Wat w ad ad2 ad4 np c ne c2 na c4 f u b bs bu bf ba bn) (hS : Sums w Av b n (sumF X A na f)) (hav : ∀ g, Av g → g < w.heap.size) :
    Calls Try.prog 68 #[.agg #[.slice ad np c, .slice ad2 ne c2, .int .i64 f, .func (.func 85) #[] #[.pointer (some ⟨bs, 0, none⟩), .pointer (some ⟨bu, 0, none⟩), .pointer (some ⟨bf, 0, none⟩), .pointer (some ⟨ba, 0, none⟩), .pointer (some ⟨bn, 0, none⟩)]], .slice adt nt ct, .int .i64 (t : Int), .int .i64 (p : Int)] w (BestP X A E na f p t ne n Av b T w) := by
  obtain ⟨t1, t2, t3, t4⟩ := g3
  obtain ⟨n1, n2, n3, n4, n5⟩ := hN
  exact callsIn_wide.1 (hBest_in ad ad2 ad4 adt np c ne c2 na c4 nt ct X A E T len f u p t n Av b bs bu bf ba bn 4 (Nat.le_refl _) w hn (by omega) ha n4 n5 n3 t1 t2 t3 t4 hp ht hX hA hE hT htn hTR hW hS hav)
theorem TabO.bes {base np k b : Nat} {w w' : World} {v : Value} {xs : List Value} {T : Nat → Nat → Int} {Av : Nat → Prop} {n : Nat} {F : Int → Int → Nat → Int} (h : TabO base np k w v xs T) (hs : Sums w Av b n F) (hb : Bes b w w') : TabO base np k w' v xs T := by
  refine ⟨⟨h.1.1, ?_⟩, fun u hu => ?_⟩
  · rcases h.1.2 with hn | ⟨g, cap, cur, hv, hb', hg, rest⟩
    · exact .inl hn
    · exact .inr ⟨g, cap, cur, hv, hb', hb.block_ne hg (hs.cells_ne hg), rest⟩
  · obtain ⟨g2, cap, cur, h1, h2, h3⟩ := h.2 u hu
    exact ⟨g2, cap, cur, h1, hb.block_ne h2 (hs.cells_ne h2), h3⟩
theorem RowC.bes {w w' : World} {g n b n' : Nat} {Av : Nat → Prop} {R : Nat → Int} {F : Int → Int → Nat → Int} (h : RowC w g n R) (hs : Sums w Av b n' F) (hb : Bes b w w') : RowC w' g n R := by
  obtain ⟨cur, h1, h2⟩ := h
  exact ⟨cur, hb.block_ne h1 (hs.cells_ne h1), h2⟩
/-- A store into a row that is no part of the table. -/
theorem TabO.set {base np k : Nat} {w : World} {v : Value} {xs : List Value} {T : Nat → Nat → Int} (h : TabO base np k w v xs T) {g i : Nat} {x : Value} (hg : ∀ (j g2 cap : Nat), xs[j]? = some (Value.slice (some ⟨g2, 0, none⟩) np cap) → g2 ≠ g) (hv : v.ownBlock ≠ some g) : TabO base np k (w.setCell ⟨g, i, none⟩ x) v xs T := by
  refine ⟨⟨h.1.1, ?_⟩, fun u hu => ?_⟩
  · rcases h.1.2 with hn | ⟨g', cap, cur, rfl, hb', hg', rest⟩
    · exact .inl hn
    · exact .inr ⟨g', cap, cur, rfl, hb', block_far hg' (fun e => hv (by simp [Value.ownBlock]; exact e)) _, rest⟩
  · obtain ⟨g2, cap, cur, h1, h2, h3⟩ := h.2 u hu
    exact ⟨g2, cap, cur, h1, block_far h2 (hg u g2 cap h1) _, h3⟩
theorem tabO_row {base np k g : Nat} {w w' : World} {v v' : Value} {xs : List Value} {T U : Nat → Nat → Int} {R : Nat → Int} (h : TabO base np k w v xs T) (hrow : RowC w g np R)
    (hown : w'.ownsRow base 28 1 v' (k + 1) (xs ++ [.slice (some ⟨g, 0, none⟩) np np])) (hgrow : w.grownBy w' v.ownBlock) (hT : ∀ u, u < k → ∀ j, U u j = T u j) (hU : ∀ j, j < np → U k j = R j) : TabO base np (k + 1) w' v' (xs ++ [.slice (some ⟨g, 0, none⟩) np np]) U := by
  have hne : ∀ (g2 : Nat) (cur : Array Value), w.heap[g2]? = some (.cells cur 3 (0, 0)) → w'.heap[g2]? = some (.cells cur 3 (0, 0)) := fun g2 cur hg => by
    refine (hgrow.block g2 (lt_block hg) ?_).trans hg
    intro e
    rcases h.1.2 with ⟨rfl, _⟩ | ⟨g, cap, cur', rfl, _, hg', _⟩
    · simp [Value.ownBlock] at e
    · simp only [Value.ownBlock, Option.some.injEq] at e
      subst e
      rw [hg] at hg'
      cases hg'
  have hxl : xs.length = k := by have := h.1.1; omega
  refine ⟨hown, fun u hu => ?_⟩
  rcases Nat.lt_or_ge u k with g' | g'
  · obtain ⟨g2, cap, cur, h1, h2, h3⟩ := h.2 u g'
    exact ⟨g2, cap, cur, by rw [List.getElem?_append_left (by omega)]; exact h1, hne _ _ h2, fun j hj => by rw [hT u g']; exact h3 j hj⟩
  · obtain rfl : u = k := by omega
    obtain ⟨cur, h1, h2, h3⟩ := hrow
    exact ⟨g, np, cur, by rw [List.getElem?_append_right (by omega), hxl]; simp, hne _ _ h1, fun j hj => by rw [hU j hj]; exact h3 j hj⟩
theorem Sums.moveI {w w' : World} {Av : Nat → Prop} {b n : Nat} {F : Int → Int → Nat → Int} (h : Sums w Av b n F) (hb : w'.heap[b]? = w.heap[b]?) (hk : ∀ (k : Nat) (cs : Array Value), w.heap[k]? = some (.cells cs 3 (0, 0)) → w'.heap[k]? = w.heap[k]?) : Sums w' Av b n F := by
  obtain ⟨es, clock, hbk, hes⟩ := h
  exact ⟨es, clock, hb.trans hbk, fun e he => by
    obtain ⟨p, q, h1, g, c, cur, h2, h3, h4, h5, h6⟩ := hes e he
    exact ⟨p, q, h1, g, c, cur, h2, h3, h4, (hk g _ h5).trans h5, h6⟩⟩
/-- The append of a row keeps the memo. -/
theorem Sums.append {w w' : World} {Av : Nat → Prop} {b n base np k : Nat} {F : Int → Int → Nat → Int} {v : Value} {xs : List Value} {T : Nat → Nat → Int} (h : Sums w Av b n F) (ht : TabO base np k w v xs T) (hg : w.grownBy w' v.ownBlock) : Sums w' Av b n F := by
  have own : ∀ (k : Nat) (o : Obj), w.heap[k]? = some o → (∀ cs, o ≠ .cells cs 28 (0, 0)) → w'.heap[k]? = w.heap[k]? := fun k o ho hne => hg.block k (lt_block ho) (fun e => by
    rcases ht.1.2 with ⟨rfl, _⟩ | ⟨g, cap, cur, rfl, _, hg', _⟩
    · simp [Value.ownBlock] at e
    · simp only [Value.ownBlock, Option.some.injEq] at e
      subst e
      rw [hg'] at ho
      exact hne _ (Option.some.inj ho).symm)
  obtain ⟨es, clock, hbk, _⟩ := id h
  exact h.moveI (own b _ hbk (fun cs e => by cases e)) (fun k cs hk => own k _ hk (fun cs' e => by cases e))
/-- A slice is no longer than its array. -/
def Room (v : Value) (n : Nat) : Prop := ∃ ad c, v = .slice ad n c ∧ n ≤ c
theorem TabO.room {base np k : Nat} {w : World} {v : Value} {xs : List Value} {T : Nat → Nat → Int} (h : TabO base np k w v xs T) : Room v k := by
  rcases h.1.2 with ⟨rfl, rfl⟩ | ⟨g, cap, cur, rfl, _, _, h, _⟩
  · exact ⟨_, _, rfl, Nat.le_refl _⟩
  · exact ⟨_, _, rfl, h⟩
/-- What table leaves. -/
def TabMP (np ne na : Nat) (X E A : Nat → Nat → Int) (f : Int) (R n : Nat) (Av : Nat → Prop) (b : Nat) (w : World) (z : Ending) (w' : World) : Prop :=
  ∃ tv, z = .returned tv ∧ Bes b w w' ∧ Sums w' Av b n (sumF X A na f) ∧ Tab w' tv R (fun _ => np) (tblN X A E na f ne R) ∧ Room tv R
set_option maxRecDepth 100000 in
set_option maxHeartbeats 2000000 in
theorem hTableM_any (ad ad2 ad4 : Option Addr) (np c ne c2 na c4 : Nat) (X A E : Nat → Nat → Int) (f u : Int) (R n : Nat) (Av : Nat → Prop) (b bs bu bf ba bn : Nat) (w : World) (hn : u - f + 2 = (n : Int)) (hR : u - f + 1 = (R : Int))
    (hN : NetOk np X ne E) (ha : AirsOk na A) (g3 : TimesOk f u)
    (hX : Rows 2 w (.slice ad np c) np X) (hA : Rows 4 w (.slice ad4 na c4) na A) (hE : Rows 4 w (.slice ad2 ne c2) ne E)
    (hW : Wat w ad ad2 ad4 np c ne c2 na c4 f u b bs bu bf ba bn) (hS : Sums w Av b n (sumF X A na f)) (hav : ∀ g, Av g → g < w.heap.size) :
    Calls Try.prog 57 #[.agg #[.slice ad np c, .slice ad2 ne c2, .int .i64 f, .func (.func 85) #[] #[.pointer (some ⟨bs, 0, none⟩), .pointer (some ⟨bu, 0, none⟩), .pointer (some ⟨bf, 0, none⟩), .pointer (some ⟨ba, 0, none⟩), .pointer (some ⟨bn, 0, none⟩)]], .int .i64 (R : Int)] w (TabMP np ne na X E A f R n Av b w) := by
  have G1 := Lib.hid hN
  have G2 := Lib.hid ha
  have G3 := Lib.hid g3
  obtain ⟨t1, t2, t3, t4⟩ := g3
  have np1 := hN.1
  have np2 := hN.2.1
  have na4 := ha.1
  have HN := Lib.hid hn
  have HR := Lib.hid hR
  have R4 : R ≤ 401 := by omega
  have HX := Lib.hid hX
  have HA := Lib.hid hA
  have HEE := Lib.hid hE
  have HW := Lib.hid hW
  have HS := Lib.hid hS
  obtain ⟨es, clock, hm0, _⟩ := hS
  have HM := Lib.hid hm0
  clear hn hR hN ha hX hA hE hW hm0
  obtain ⟨i0, hi0, hz0, hz1, hz2⟩ := info_parts info_int
  obtain ⟨j0, hj, hy0, hy1, hy2⟩ := info_parts info_ints
  go_enter Try.func57, Try.ntmps57
  go_wp2_with fail
  refine wp_named fun W hW => ?_
  obtain ⟨p1, hB⟩ := box1 hW
  have hWs : w.heap.size < W.heap.size := by subst hW; simp
  clear hW
  have P1 := Lib.hid p1
  clear p1
  go_loopw [5, 10] (fun o i wr => ∃ (k : Nat) (xs : List Value), k ≤ R ∧ i = .int .i64 k ∧ Bes b w wr ∧ Sums wr Av b n (sumF X A na f) ∧ W.heap.size ≤ wr.heap.size ∧ (∃ ty, wr.heap[w.heap.size]? = some (.cells #[.slice ad np c, .slice ad2 ne c2, .int .i64 f, .func (.func 85) #[] #[.pointer (some ⟨bs, 0, none⟩), .pointer (some ⟨bu, 0, none⟩), .pointer (some ⟨bf, 0, none⟩), .pointer (some ⟨ba, 0, none⟩), .pointer (some ⟨bn, 0, none⟩)]] ty (0, 0))) ∧ TabO W.heap.size np k wr o xs (tblN X A E na f ne k)) (fun _ i _ => R - (intOf i).toNat)
  case atStart => exact ⟨0, [], by omega, rfl, Bes.of_below hB, HS.out.later hB, Nat.le_refl _, ⟨_, P1.out⟩, World.ownsRow_nil _ _ _ _, fun u hu => by omega⟩
  case round =>
    obtain ⟨k, xs, hk, rfl, hbr, hsr, hsz, ⟨ty, hbx⟩, htab⟩ := hrel
    have TB := Lib.hid htab
    have SR := Lib.hid hsr
    have BX := Lib.hid hbx
    clear htab hsr hbx
    by_cases hlt : k < R
    rotate_left
    · obtain rfl : k = R := by omega
      go_wp2_with fail
      go_returns
      exact ⟨_, rfl, hbr, SR.out, TB.out.tab (by omega) (by omega), TB.out.room⟩
    obtain ⟨wo, rfl⟩ : ∃ wo : World, wo = wr := ⟨_, rfl⟩
    obtain ⟨ad5, c5, rfl, htt, hk5⟩ := (TB.out.tab (show np ≤ 9223372036854775807 by omega) (show k ≤ 9223372036854775807 by omega)).form
    have TT := Lib.hid htt
    clear htt
    have y0 := cell_block BX.out 0
    have y1 := cell_block BX.out 1
    have y2 := cell_block BX.out 2
    have y3 := cell_block BX.out 3
    obtain ⟨wm, hmake, hown, hgrow⟩ := run_makeSlice_full wo wo.heap.size 28 3 i0 _ 1 und_ints hi0 hz0 hz1 .i64 .i64 np (by omega) (by rw [hz2]; omega) (by unfold maxLen; omega) (Nat.le_refl _)
    have hbm : Below wo.heap.size wo wm := ⟨hgrow.os, hgrow.tape, hgrow.output, hgrow.size, fun k hk => hgrow.block k hk (by simp)⟩
    have HROW := Lib.hid (madeRow hown)
    have HBM := Lib.hid hbm
    clear hown hgrow hbm
    go_wp2_with fail
    clear hmake y0 y1 y2 y3
    go_loopw [20] (fun i ws => ∃ m : Nat, m ≤ np ∧ i = .int .i64 m ∧ Bes b wo ws ∧ Sums ws (fun g => Av g ∨ g = wo.heap.size) b n (sumF X A na f) ∧ RowC ws wo.heap.size np (fun j => if j < m then boundI X A E (tblN X A E na f ne k) na f (k : Int) j ne else 0) ∧ TabO W.heap.size np k ws (.slice ad5 k c5) xs (tblN X A E na f ne k)) (fun i _ => np - (intOf i).toNat)
    case atStart => exact ⟨0, by omega, rfl, Bes.of_below HBM.out, (SR.out.span (Av' := fun g => Av g ∨ g = wo.heap.size) (fun g hg h => h.elim id (fun h' => by omega))).later HBM.out, HROW.out.eqv (fun j _ => if_neg (by omega)), TB.out.later HBM.out⟩
    case round =>
      obtain ⟨m, hm, rfl, hbs, hss, hrow, htab⟩ := hrel
      have RW := Lib.hid hrow
      have TS := Lib.hid htab
      have SS := Lib.hid hss
      clear hrow htab hss
      by_cases hmt : m < np
      rotate_left
      · obtain rfl : m = np := by omega
        have hown1 := TS.out.1
        have hsz2 := hbs.size
        go_wp2_with (at_builtin; refine wpList_append_own _ rfl _ _ 29 rfl W.heap.size 28 j0 (.slice none 0 0) 1 24 Try.underlying29 hj hy0 hy1 hy2 rfl (by decide) _ _ _ rfl (hown1.alloc _) ⟨wr.heap.size, 0, none⟩ 1 1 [.slice (some ⟨wo.heap.size, 0, none⟩) m m] rfl rfl ?d1 ?d2 ?d3 ?d4 ?d5 ?_)
        case d1 =>
          intro j u hj
          match j, hj with
          | 0, hj => simp at hj; subst hj; simp [Addr.add]
        case d2 => intro u hu; simp at hu; subst hu; rfl
        case d3 => unfold maxLen; omega
        case d4 => omega
        case d5 => simp; omega
        intro v' w6 hown6 hgrow _
        have hA1 := (Below.refl wr.heap.size wr).alloc (Nat.le_refl _) (.cells #[.slice (some ⟨wo.heap.size, 0, none⟩) m m] 28)
        have hT1 := TS.out.later hA1
        have own1 := fun k hk => (hown1.lt k hk).1
        have SN := Lib.hid (tabO_row (U := tblN X A E na f ne (k + 1)) (R := fun j => boundI X A E (tblN X A E na f ne k) na f (k : Int) j ne) hT1 ((RW.out.later hA1).eqv (fun j hj => (if_pos hj).symm)) hown6 hgrow (fun u hu j => tblN_same X A E na f ne (show u ≠ k by omega) j) (fun j hj => tblN_new X A E na f ne k j))
        have S6 := Lib.hid (((SS.out.later hA1).append hT1 hgrow).span (Av' := Av) (fun g _ h => .inl h))
        have hsz6 : wr.heap.size + 1 ≤ w6.heap.size := by have := hgrow.size; simpa using this
        have fr : ∀ (i : Nat) (o : Obj), i < W.heap.size → wr.heap[i]? = some o → w6.heap[i]? = some o := fun i o hi ho => (hgrow.block i (by simp; omega) (fun e => by have := own1 i e.symm; omega)).trans (block_alloc ho)
        have BE6 := Lib.hid (show Bes b w w6 from ⟨hgrow.os.trans (hbr.trans hbs).os, hgrow.tape.trans (hbr.trans hbs).tape, hgrow.output.trans (hbr.trans hbs).output, by have := (hbr.trans hbs).size; omega, fun i hi hne => by
          obtain ⟨o, ho⟩ : ∃ o, wr.heap[i]? = some o := ⟨_, Array.getElem?_eq_getElem (Nat.lt_of_lt_of_le hi (hbr.trans hbs).size)⟩
          rw [fr i o (by omega) ho, ← ho]
          exact (hbr.trans hbs).block i hi hne⟩)
        have BX6 := Lib.hid (fr w.heap.size _ (by omega) (hbs.block_ne BX.out (SR.out.cells_ne BX.out)))
        clear hown6 hgrow hown1 hA1 hT1 own1 fr
        go_wp2_with fail
        go_roundw
        case rel => exact ⟨k + 1, _, by omega, by go_num, BE6.out, S6.out, by omega, ⟨_, BX6.out⟩, SN.out⟩
        case measure => simp [intOf]; omega
      have hbw := hbr.trans hbs
      have CB := Lib.hid (hBest_any ad ad2 ad4 ad5 np c ne c2 na c4 k c5 X A E (tblN X A E na f ne k) (fun _ => np) f u m k n (fun g => Av g ∨ g = wo.heap.size) b bs bu bf ba bn wr HN.out G1.out G2.out G3.out hmt (by have := HR.out; omega) (HX.out.bes HM.out hbw) (HA.out.bes HM.out hbw) (HEE.out.bes HM.out hbw) (TS.out.tab (by omega) (by omega)) (Nat.le_refl _)
        (fun u' hu' => ⟨rfl, fun j hj => by
          have hb := tblN_bd X A E na f ne k u' j
          have hm := Int.mul_le_mul (show (na : Int) ≤ 400 by omega) (show (u' : Int) ≤ 401 by omega) (by omega) (by omega)
          exact ⟨by omega, by omega⟩⟩) (HW.out.bes HM.out hbw) SS.out (fun g hg => hg.elim (fun h => Nat.lt_of_lt_of_le (hav g h) hbw.size) (fun h => by obtain ⟨cur, h1, _⟩ := RW.out; rw [h]; exact lt_block h1)))
      have BX1 := hbs.block_ne BX.out (SR.out.cells_ne BX.out)
      have y0 := cell_block BX1 0
      have y1 := cell_block BX1 1
      have y2 := cell_block BX1 2
      have y3 := cell_block BX1 3
      clear BX1
      go_wp2_with fail
      (with_reducible refine CB.out.mono ?_)
      rintro e w5 ⟨rfl, hb5, hs5⟩
      clear CB y0 y1 y2 y3
      obtain ⟨r, hr⟩ : ∃ r, (bestW (tblN X A E na f ne k) (waysW X A E na f m k ne)).least = r := ⟨_, rfl⟩
      rw [hr]
      have RB := Lib.hid (show boundI X A E (tblN X A E na f ne k) na f (k : Int) m ne = r by rw [← hr]; exact (best_bound (np := np) G1.out.2.2.2.2).symm)
      have R5 := Lib.hid (RW.out.bes SS.out hb5)
      have S5 := Lib.hid hs5
      have T5 := Lib.hid (TS.out.bes SS.out hb5)
      obtain ⟨k1, k2⟩ := R5.out.cell hmt
      clear hr hs5
      go_wp2_with fail
      have hne1 : ∀ (j g2 cap : Nat), xs[j]? = some (Value.slice (some ⟨g2, 0, none⟩) np cap) → g2 ≠ wo.heap.size := fun j g2 cap h => by
        have hl := TB.out.1.1
        have hj : j < k := by
          have := (List.getElem?_eq_some_iff.1 h).1
          omega
        obtain ⟨g3, c3, cur, h1, h2, _⟩ := TB.out.2 j hj
        rw [h] at h1
        cases h1
        have := lt_block h2
        omega
      have hne2 : (Value.slice ad5 k c5).ownBlock ≠ some wo.heap.size := fun e => by have := (TB.out.1.lt _ e).2; omega
      go_roundw
      case rel => exact ⟨m + 1, by omega, by go_num, ⟨(hbs.trans hb5).os, (hbs.trans hb5).tape, (hbs.trans hb5).output, by
          have h1 := (hbs.trans hb5).size
          have h2 := (kp_set (Av := fun _ => True) w5 wo.heap.size m (.int .i64 r) trivial).size
          omega, fun i hi hne => (Below.heap_setCell _ _ _ i (by show i ≠ wo.heap.size; omega)).trans ((hbs.trans hb5).block i hi hne)⟩,
        S5.out.move (Below.heap_setCell _ _ _ b (by have := SR.out.lt; show b ≠ wo.heap.size; omega)) (fun i _ hn => Below.heap_setCell _ _ _ i (fun e => hn (.inr e))),
        R5.out.set hmt (fun j hj => by
          by_cases e : j = m
          · subst e; rw [if_pos (by omega), if_pos rfl]; exact RB.out
          · rw [if_neg e]
            by_cases e2 : j < m
            · rw [if_pos e2, if_pos (by omega)]
            · rw [if_neg e2, if_neg (by omega)]), T5.out.set hne1 hne2⟩
      case measure => simp [intOf]; omega
end Go.Proofs.Ytcpnkhiillgffaa
