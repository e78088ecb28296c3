/- The walk of track: the stops, from the last one back, then reversed. -/
import Derived.Test.YtcpnkhiillgffaaRtD
namespace Go.Proofs.Ytcpnkhiillgffaa
open Go.RowKit
attribute [local go_sem] bqOp bqAll bqUpon
attribute [local irreducible] wpQuiet wpBQ
set_option linter.unusedVariables false
section
variable (X A E T : Nat → Nat → Int) (na : Nat) (f : Int) (ne : Nat)
/-- The way by which best comes to p at t. -/
def byW (t p : Nat) : Way := (bestW T (waysW X A E na f p t ne)).way
/-- The stops behind the one at p and t, as track collects them. -/
def trk : Nat → Nat → Nat → List (Int × Int)
  | 0, _, _ => []
  | n + 1, t, p => (if 0 < t then [((byW X A E T na f ne t p).place, f + (byW X A E T na f ne t p).time)] else []) ++ (if (byW X A E T na f ne t p).adds = true then trk n (byW X A E T na f ne t p).time.toNat (byW X A E T na f ne t p).place.toNat else [])
end
def cellsP (l : List (Int × Int)) : List Value := l.flatMap fun x => [.int .i64 x.1, .int .i64 x.2]
theorem cellsP_snoc (l : List (Int × Int)) (a b : Int) : cellsP (l ++ [(a, b)]) = cellsP l ++ [.int .i64 a, .int .i64 b] := by simp [cellsP]
theorem cellsP_length (l : List (Int × Int)) : (cellsP l).length = l.length * 2 := by
  induction l with
  | nil => rfl
  | cons x l ih => simp only [cellsP, List.flatMap_cons, List.length_append, List.length_cons, List.length_nil] at ih ⊢; omega
/-- The pairs of a list, by their index. -/
def pairX (l : List (Int × Int)) (i j : Nat) : Int := if j = 0 then (l.getD i (0, 0)).1 else (l.getD i (0, 0)).2
theorem cellsP_get (l : List (Int × Int)) : ∀ i, i < l.length → ∀ j, j < 2 → (cellsP l)[i * 2 + j]? = some (.int .i64 (pairX l i j)) := by
  induction l with
  | nil => intro i hi; simp at hi
  | cons x l ih =>
    intro i hi j hj
    cases i with
    | zero =>
      rcases (show j = 0 ∨ j = 1 by omega) with rfl | rfl
      · rfl
      · rfl
    | succ i =>
      have h := ih i (by simpa using hi) j hj
      show ([Value.int .i64 x.1, Value.int .i64 x.2] ++ cellsP l)[(i + 1) * 2 + j]? = _
      rw [List.getElem?_append_right (by simp; omega)]
      simp only [List.length_cons, List.length_nil]
      rw [show (i + 1) * 2 + j - (0 + 1 + 1) = i * 2 + j by omega, h]
      rfl
theorem info_stop : (Try.prog.info? 54).map (fun i => (i.zero, i.size, i.bytes)) = some (some (.agg #[.int .i64 0, .int .i64 0]), 2, 16) := by kernel_rfl
theorem way_ok {np na t p ne : Nat} {X A E T : Nat → Nat → Int} {f : Int} (hN : NetOk np X ne E) (ha : AirsOk na A) (hp : p < np) : WayOk np t (byW X A E T na f ne t p) :=
  waysW_ok ha.1 hN.2.2.2.2 hp (bestW_way T waysW_ne).1
theorem trk_fuel {np na ne : Nat} {X A E T : Nat → Nat → Int} {f : Int} (hN : NetOk np X ne E) (ha : AirsOk na A) : ∀ (n t p : Nat), p < np → t < n → trk X A E T na f ne n t p = trk X A E T na f ne (t + 1) t p := by
  intro n
  induction n using Nat.strongRecOn with
  | _ n ih =>
    intro t p hp ht
    obtain ⟨n, rfl⟩ : ∃ m, n = m + 1 := ⟨n - 1, by omega⟩
    unfold trk
    by_cases hadd : (byW X A E T na f ne t p).adds = true
    · rw [if_pos hadd, if_pos hadd]
      obtain ⟨⟨h1, h2⟩, h3, h4⟩ := (way_ok (T := T) (f := f) (t := t) hN ha hp).2.2 hadd
      rw [ih n (by omega) _ _ (by omega) (by omega)]
      by_cases e : t = n
      · subst e; rw [ih t (by omega) _ _ (by omega) (by omega)]
      · rw [ih t (by omega) _ _ (by omega) (by omega)]
    · rw [if_neg hadd, if_neg hadd]
theorem waysW_place {np ne na p t : Nat} {X A E : Nat → Nat → Int} {f : Int} (he : ∀ k, k < ne → EdgeOk np (E k)) (hp : p < np) {x : Way} (h : x ∈ waysW X A E na f p t ne) : (-400 ≤ x.time ∧ x.time ≤ (t : Int)) ∧ 0 ≤ x.place ∧ x.place < (np : Int) := by
  unfold waysW at h
  split at h
  · obtain rfl : x = ⟨p, 0, 0, false⟩ := by simpa using h
    exact ⟨⟨by simp, by simp⟩, by simp, by simp; omega⟩
  · rename_i ht
    rcases edgesW_mem h with rfl | ⟨k, hk, h⟩
    · exact ⟨⟨by show -400 ≤ (t : Int) - 1; omega, by show (t : Int) - 1 ≤ t; omega⟩, by show 0 ≤ (p : Int); omega, by show (p : Int) < np; omega⟩
    · obtain ⟨⟨e0, e1⟩, _, e4, e5, e6, e7⟩ := he k hk
      rcases (edgeW_mem h).2 with ⟨i, hi, rfl⟩ | ⟨hl, rfl⟩
      · unfold edgeN at hi
        exact ⟨⟨by show -400 ≤ (t : Int) - (E k 2 + (i : Int)); omega, by show (t : Int) - (E k 2 + (i : Int)) ≤ t; omega⟩, e0, e1⟩
      · exact ⟨⟨by show -400 ≤ (t : Int) - E k 3; omega, by show (t : Int) - E k 3 ≤ t; omega⟩, e0, e1⟩
theorem ownsRow_bes {w w' : World} {base : Nat} {e : TypeId} {size : Nat} {v : Value} {k : Nat} {xs : List Value} {Av : Nat → Prop} {b n : Nat} {F : Int → Int → Nat → Int} (h : w.ownsRow base e size v k xs) (hs : Sums w Av b n F) (hb : Bes b w w') : w'.ownsRow base e size v k xs := by
  refine ⟨h.1, ?_⟩
  rcases h.2 with hn | ⟨g, cap, cur, hv, hb', hg, rest⟩
  · exact .inl hn
  · exact .inr ⟨g, cap, cur, hv, hb', hb.block_ne hg (hs.cells_ne hg), rest⟩
theorem Bes.other {b g : Nat} {w w1 w2 : World} (h : Bes b w w1) (h2 : Bes g w1 w2) (hg : w.heap.size ≤ g) : Bes b w w2 :=
  ⟨h2.os.trans h.os, h2.tape.trans h.tape, h2.output.trans h.output, Nat.le_trans h.size h2.size, fun i hi hne => (h2.block i (Nat.lt_of_lt_of_le hi h.size) (fun e => by have := Option.some.inj e; omega)).trans (h.block i hi hne)⟩
/-- A block of stops is none of the memo's. -/
theorem Sums.stops {w w' : World} {Av : Nat → Prop} {b n g : Nat} {cur : Array Value} {F : Int → Int → Nat → Int} (h : Sums w Av b n F) (hg : w.heap[g]? = some (.cells cur 54 (0, 0))) (hb : Bes g w w') : Sums w' Av b n F :=
  h.moveI (hb.block b h.lt (fun e => h.cells_ne hg (Option.some.inj e).symm)) (fun k cs hk => hb.block k (lt_block hk) (fun e => by have := Option.some.inj e; subst this; rw [hg] at hk; cases hk))
/-- What track leaves. -/
def TrackP (l : List (Int × Int)) (X A : Nat → Nat → Int) (na : Nat) (f : Int) (n : Nat) (Av : Nat → Prop) (b : Nat) (w : World) (z : Ending) (w' : World) : Prop :=
  ∃ v, z = .returned v ∧ Bes b w w' ∧ Sums w' Av b n (sumF X A na f) ∧ Rows 2 w' v l.length (fun i j => pairX l (l.length - 1 - i) j)
set_option maxRecDepth 100000 in
set_option maxHeartbeats 2000000 in
theorem hTrackM_any (ad ad2 ad4 adt : Option Addr) (np c ne c2 na c4 nt ct : Nat) (X A E T : Nat → Nat → Int) (len : Nat → Nat) (f u : Int) (p t n : Nat) (Av : Nat → Prop) (b bs bu bf ba bn : Nat) (w : World) (hn : u - f + 2 = (n : Int))
    (hN : NetOk np X ne E) (ha : AirsOk na A) (g3 : TimesOk f u) (hp : p < np) (ht : (t : Int) ≤ u - f)
    (hX : Rows 2 w (.slice ad np c) np X) (hA : Rows 4 w (.slice ad4 na c4) na A) (hE : Rows 4 w (.slice ad2 ne c2) ne E) (hT : Tab w (.slice adt nt ct) nt len T) (htn : t ≤ nt) (hTR : RowsOk np (t : Int) len T)
    (hW : Wat w ad ad2 ad4 np c ne c2 na c4 f u b bs bu bf ba bn) (hS : Sums w Av b n (sumF X A na f)) (hav : ∀ g, Av g → g < w.heap.size) :
    Calls Try.prog 62 #[.agg #[.slice ad np c, .slice ad2 ne c2, .int .i64 f, .func (.func 85) #[] #[.pointer (some ⟨bs, 0, none⟩), .pointer (some ⟨bu, 0, none⟩), .pointer (some ⟨bf, 0, none⟩), .pointer (some ⟨ba, 0, none⟩), .pointer (some ⟨bn, 0, none⟩)]], .slice adt nt ct, .int .i64 (t : Int), .int .i64 (p : Int)] w (TrackP (((p : Int), f + (t : Int)) :: trk X A E T na f ne (t + 1) t p) X A na f n Av b w) := by
  have G1 := Lib.hid hN
  have G2 := Lib.hid ha
  have G3 := Lib.hid g3
  obtain ⟨t1, t2, t3, t4⟩ := g3
  have np2 := hN.2.1
  have na4 := ha.1
  have HN := Lib.hid hn
  have HX := Lib.hid hX
  have HA := Lib.hid hA
  have HEE := Lib.hid hE
  have HT := Lib.hid hT
  have HTR := Lib.hid hTR
  have HW := Lib.hid hW
  have HS := Lib.hid hS
  obtain ⟨es, clock, hm0, _⟩ := hS
  have HM := Lib.hid hm0
  clear hn hN ha hX hA hE hT hTR hW hm0
  obtain ⟨i0, hi0, hz0, hz1, hz2⟩ := info_parts info_stop
  obtain ⟨FULL, hfull⟩ : ∃ l, ((p : Int), f + (t : Int)) :: trk X A E T na f ne (t + 1) t p = l := ⟨_, rfl⟩
  rw [hfull]
  have HF := Lib.hid hfull
  clear hfull
  go_enter Try.func62, Try.ntmps62
  go_wp2_with fail
  refine wp_named fun W hW => ?_
  obtain ⟨p1, p2, hB⟩ := box2 hW
  have hWs : w.heap.size + 1 < W.heap.size := lt_block p2
  clear hW
  have P1 := Lib.hid p1
  have P2 := Lib.hid p2
  clear p1 p2
  go_loopw [2, 3, 9] (fun tv pv ov wr => ∃ (t' p' : Nat) (xs : List (Int × Int)), tv = .int .i64 t' ∧ pv = .int .i64 p' ∧ t' ≤ t ∧ p' < np ∧ 1 ≤ xs.length ∧ xs.length + t' ≤ t + 1 ∧ xs ++ trk X A E T na f ne (t' + 1) t' p' = FULL ∧ Bes b w wr ∧ Sums wr Av b n (sumF X A na f) ∧ W.heap.size ≤ wr.heap.size ∧ (∃ ty, wr.heap[w.heap.size]? = some (.cells #[.slice ad np c, .slice ad2 ne c2, .int .i64 f, .func (.func 85) #[] #[.pointer (some ⟨bs, 0, none⟩), .pointer (some ⟨bu, 0, none⟩), .pointer (some ⟨bf, 0, none⟩), .pointer (some ⟨ba, 0, none⟩), .pointer (some ⟨bn, 0, none⟩)]] ty (0, 0))) ∧ wr.ownsRow (w.heap.size + 1) 54 2 ov xs.length (cellsP xs)) (fun tv _ _ _ => (intOf tv).toNat)
  case atStart => exact ⟨t, p, [((p : Int), f + (t : Int))], rfl, rfl, Nat.le_refl _, hp, by simp, by simp; omega, by rw [← HF.out]; rfl, Bes.of_below hB, HS.out.later hB, Nat.le_refl _, ⟨_, P1.out⟩, ⟨rfl, .inr ⟨w.heap.size + 1, 1, _, rfl, Nat.le_refl _, P2.out, Nat.le_refl _, by unfold maxLen; omega, rfl, rfl⟩⟩⟩
  case round =>
    obtain ⟨t', p', xs, rfl, rfl, ht', hp', hx1, hx2, hfull, hbr, hsr, hsz, ⟨ty, hbx⟩, hown⟩ := hrel
    have SR := Lib.hid hsr
    have BX := Lib.hid hbx
    have OW := Lib.hid hown
    have FU := Lib.hid hfull
    obtain ⟨wo, rfl⟩ : ∃ wo : World, wo = wr := ⟨_, rfl⟩
    have y0 := cell_block hbx 0
    have y1 := cell_block hbx 1
    have y2 := cell_block hbx 2
    have y3 := cell_block hbx 3
    clear hsr hbx hown hfull
    have CB := Lib.hid (hBest_any ad ad2 ad4 adt np c ne c2 na c4 nt ct X A E T len f u p' t' n Av b bs bu bf ba bn wo HN.out G1.out G2.out G3.out hp' (by omega) (HX.out.bes HM.out hbr) (HA.out.bes HM.out hbr) (HEE.out.bes HM.out hbr) (HT.out.bes HM.out hbr) (by omega)
        (fun u' hu' => HTR.out u' (by omega)) (HW.out.bes HM.out hbr) SR.out (fun g hg => Nat.lt_of_lt_of_le (hav g hg) hbr.size))
    go_wp2_with fail
    (with_reducible refine CB.out.mono ?_)
    rintro e w5 ⟨rfl, hb5, hs5⟩
    clear CB y0 y1 y2 y3
    have wk := way_ok (T := T) (f := f) (t := t') G1.out G2.out hp'
    have wp' := waysW_place (f := f) (t := t') (np := np) (na := na) (X := X) (A := A) G1.out.2.2.2.2 hp' (bestW_way T waysW_ne).1
    obtain ⟨s, hs⟩ : ∃ s, bestW T (waysW X A E na f p' t' ne) = s := ⟨_, rfl⟩
    have hby : byW X A E T na f ne t' p' = s.way := by unfold byW; rw [hs]
    rw [hs] at wp' ⊢
    rw [hby] at wk
    have htrk : trk X A E T na f ne (t' + 1) t' p' = (if 0 < t' then [(s.way.place, f + s.way.time)] else []) ++ (if s.way.adds = true then trk X A E T na f ne t' s.way.time.toNat s.way.place.toNat else []) := by
      show (if 0 < t' then _ else _) ++ _ = _
      rw [hby]
    have HTK := Lib.hid htrk
    obtain ⟨le, ⟨pl, tm, hr, xa⟩, fi⟩ := s
    unfold encW
    dsimp only at wk wp' HTK ⊢
    obtain ⟨⟨wt1, wt2⟩, wp1, wp2⟩ := wp'
    obtain ⟨-, -, wadd⟩ := wk
    dsimp only at wadd
    have S5 := Lib.hid hs5
    have hbx5 := hb5.block_ne BX.out (SR.out.cells_ne BX.out)
    have hown5 := ownsRow_bes OW.out SR.out hb5
    have BX5 := Lib.hid hbx5
    have ya := fun (o : Obj) => cell_block (block_alloc (o' := o) hbx5) 2
    have hsz5 := hb5.size
    have jf : IntKind.i64.wrap (f + tm) = f + tm := IntWalk.i64_in _ (by omega)
    have fin : ∀ (g cap : Nat) (cur : Array Value) (l : List (Int × Int)) (w6 : World), l = FULL → 1 ≤ l.length → l.length ≤ t + 2 → w.heap.size + 1 ≤ g → w6.heap[g]? = some (.cells cur 54 (0, 0)) → l.length ≤ cap → cur.size = cap * 2 → cur.toList.take (l.length * 2) = cellsP l → Bes b w w6 → Sums w6 Av b n (sumF X A na f) →
        Calls Try.prog 86 #[.slice (some ⟨g, 0, none⟩) l.length cap] w6 fun e w' => (∃ v, e = .returned v) ∧ TrackP FULL X A na f n Av b w (.returned (.slice (some ⟨g, 0, none⟩) l.length cap)) w' := fun g cap cur l w6 hl hl1 hlen hg0 hg1 hcap hcs hx hb6 hs6 => by
      have hrow : RowP w6 g 54 l.length (pairX l) := ⟨cur, hg1, by omega, fun i hi j hj => by
        have hq : (cur.toList.take (l.length * 2))[i * 2 + j]? = (cellsP l)[i * 2 + j]? := by rw [hx]
        rw [List.getElem?_take, if_pos (by omega), Array.getElem?_toList] at hq
        rw [hq, cellsP_get l i hi j hj]⟩
      refine (lRevStop_any g l.length cap _ (pairX l) w6 hrow (by omega) (by omega)).mono ?_
      rintro e w' ⟨hv, hb7, hr7⟩
      refine ⟨hv, _, rfl, hb6.other hb7 (by omega), hs6.stops hg1 hb7, ?_⟩
      rw [← hl]
      exact ⟨_, _, rfl, by omega, fun i hi => ⟨g, 0, rfl, fun j hj => by rw [Nat.zero_add]; exact (hr7.cell hi hj).1⟩⟩
    have FIN := Lib.hid fin
    clear fin hbx5 hs5
    by_cases h0 : 0 < t'
    rotate_left
    · have z1 : ¬ (0 : Int) < (t' : Int) := by omega
      have z2 : (t' : Int) ≤ 0 := by omega
      obtain rfl : xa = false := by
        cases xa
        · rfl
        · obtain ⟨⟨a1, a2⟩, _⟩ := wadd rfl
          omega
      have hfl : xs = FULL := by
        have h1 := FU.out
        rw [HTK.out, if_neg h0, if_neg (by simp), List.append_nil, List.append_nil] at h1
        exact h1
      rcases hown5.2 with ⟨rfl, h00⟩ | ⟨g, cap, cur, rfl, hg0, hg1, hcap, hmax, hcs, hxx⟩
      · omega
      have FN := Lib.hid (fun w6 (h6 : Below w5.heap.size w5 w6) => FIN.out g cap cur xs w6 hfl hx1 (by omega) hg0 (block_later h6 hg1) hcap hcs hxx ((hbr.trans hb5).trans (Bes.of_below h6)) (S5.out.later h6))
      clear hown5 hg1 hxx hcs hcap hmax hfl h0
      go_wp2_with fail
      (with_reducible refine (FN.out _ ((Below.refl _ _).alloc (Nat.le_refl _) _)).mono ?_)
      rintro e w7 ⟨⟨v, rfl⟩, hend⟩
      go_wp2_with fail
      go_returns
      exact hend
    have z1 : (0 : Int) < (t' : Int) := by omega
    have hown5a := hown5.alloc (.cells #[.int .i64 pl, .int .i64 tm, .int .i64 hr, .bool xa] 96)
    have hown5b := hown5a.alloc (.cells #[.int .i64 pl, .int .i64 (f + tm)] 54)
    go_wp2_with (at_builtin; refine wpList_append_own _ rfl _ _ 27 rfl (w.heap.size + 1) 54 i0 (.agg #[.int .i64 0, .int .i64 0]) 2 16 Try.underlying27 hi0 hz0 hz1 hz2 rfl (by decide) _ _ _ rfl hown5b ⟨w5.heap.size + 1, 0, none⟩ 1 1 [.int .i64 pl, .int .i64 (f + tm)] rfl rfl ?d1 ?d2 ?d3 ?d4 ?d5 ?_)
    case d2 => exact ⟨rfl, rfl⟩
    case d3 => unfold maxLen; omega
    case d4 => omega
    case d5 => omega
    intro v' w6 hown6 hgrow _
    have hA1 := ((Below.refl w5.heap.size w5).alloc (Nat.le_refl _) (.cells #[.int .i64 pl, .int .i64 tm, .int .i64 hr, .bool xa] 96)).alloc (by simp) (.cells #[.int .i64 pl, .int .i64 (f + tm)] 54)
    have own1 := fun k hk => (hown5b.lt k hk).1
    have hsz6 : w5.heap.size + 2 ≤ w6.heap.size := by have := hgrow.size; simpa using this
    rw [← cellsP_snoc] at hown6
    have fr : ∀ (i : Nat) (o : Obj), (i < w.heap.size + 1 ∨ (∀ cs, o ≠ .cells cs 54 (0, 0))) → ((w5.alloc (.cells #[.int .i64 pl, .int .i64 tm, .int .i64 hr, .bool xa] 96)).alloc (.cells #[.int .i64 pl, .int .i64 (f + tm)] 54)).heap[i]? = some o → w6.heap[i]? = some o := fun i o hi ho => (hgrow.block i (lt_block ho) (fun e => by
      rcases hi with hi | hi
      · have := own1 i e.symm; omega
      · rcases hown5b.2 with ⟨rfl, _⟩ | ⟨g, cap, cur, rfl, _, hg', _⟩
        · simp [Value.ownBlock] at e
        · simp only [Value.ownBlock, Option.some.injEq] at e
          subst e
          rw [hg'] at ho
          exact hi _ (Option.some.inj ho).symm)).trans ho
    have hbw := (hbr.trans hb5).trans (Bes.of_below hA1)
    have BE6 := Lib.hid (show Bes b w w6 from ⟨hgrow.os.trans hbw.os, hgrow.tape.trans hbw.tape, hgrow.output.trans hbw.output, Nat.le_trans hbw.size hgrow.size, fun i hi hne => by
      obtain ⟨o, ho⟩ : ∃ o, ((w5.alloc (.cells #[.int .i64 pl, .int .i64 tm, .int .i64 hr, .bool xa] 96)).alloc (.cells #[.int .i64 pl, .int .i64 (f + tm)] 54)).heap[i]? = some o := ⟨_, Array.getElem?_eq_getElem (Nat.lt_of_lt_of_le hi hbw.size)⟩
      rw [fr i o (.inl (by omega)) ho, ← ho]
      exact hbw.block i hi hne⟩)
    have hs6 : Sums w6 Av b n (sumF X A na f) := by
      obtain ⟨es', clock', hm', _⟩ := id (S5.out.later hA1)
      exact (S5.out.later hA1).moveI ((fr b _ (.inr (fun cs e => by cases e)) hm').trans hm'.symm) (fun k cs hk => (fr k _ (.inr (fun cs' e => by cases e)) hk).trans hk.symm)
    have S6 := Lib.hid hs6
    have hbx6 := fr w.heap.size _ (.inl (by omega)) (block_alloc (block_alloc BX5.out))
    have BX6 := Lib.hid hbx6
    have way6 : w6.heap[w5.heap.size]? = some (.cells #[.int .i64 pl, .int .i64 tm, .int .i64 hr, .bool xa] 96 (0, 0)) := fr _ _ (.inr (fun cs e => by cases e)) (block_alloc (block_new _ _))
    have WY := Lib.hid way6
    have O6 := Lib.hid (show w6.ownsRow (w.heap.size + 1) 54 2 v' (xs ++ [(pl, f + tm)]).length (cellsP (xs ++ [(pl, f + tm)])) by rw [List.length_append]; exact hown6)
    have q0 := cell_block way6 0
    have q1 := cell_block way6 1
    have q2 := cell_block way6 2
    have q3 := cell_block way6 3
    have FU2 := Lib.hid (show (xs ++ [(pl, f + tm)]) ++ (if xa = true then trk X A E T na f ne t' tm.toNat pl.toNat else []) = FULL by
      rw [← FU.out, HTK.out, if_pos h0, List.append_assoc])
    clear hown5 hown5a hown5b hown6 hgrow own1 fr hs6 hbx6 way6 ya hA1 hbw
    cases xa
    · rcases O6.out.2 with ⟨rfl, h00⟩ | ⟨g, cap, cur, rfl, hg0, hg1, hcap, hmax, hcs, hxx⟩
      · simp at h00
      have FN := Lib.hid (FIN.out g cap cur (xs ++ [(pl, f + tm)]) w6 (by have := FU2.out; simpa using this) (by simp) (by simp; omega) hg0 hg1 hcap hcs hxx BE6.out S6.out)
      have hl6 : (xs ++ [(pl, f + tm)]).length = xs.length + 1 := by simp
      rw [hl6] at FN
      clear hxx hcs hcap hmax hg1 hl6
      go_wp2_with fail
      (with_reducible refine FN.out.mono ?_)
      rintro e w7 ⟨⟨v, rfl⟩, hend⟩
      go_wp2_with fail
      go_returns
      exact hend
    · obtain ⟨⟨a1, a2⟩, a3, a4⟩ := wadd rfl
      obtain ⟨τ, rfl⟩ : ∃ k : Nat, tm = (k : Int) := ⟨tm.toNat, by omega⟩
      obtain ⟨π, rfl⟩ : ∃ k : Nat, pl = (k : Int) := ⟨pl.toNat, by omega⟩
      have FU3 := Lib.hid (show (xs ++ [((π : Int), f + (τ : Int))]) ++ trk X A E T na f ne (τ + 1) τ π = FULL by
        rw [← FU2.out, if_pos rfl, Int.toNat_natCast, Int.toNat_natCast, trk_fuel G1.out G2.out t' τ π (by omega) (by omega)])
      have s0 := fun d os => cell_block (block_later (below_regrown w6 d os) WY.out) 0
      have s1 := fun d os => cell_block (block_later (below_regrown w6 d os) WY.out) 1
      go_wp2_with fail
      (refine wp_region_quiet_below (by kernel_rfl) (by kernel_rfl) ?_; (repeat (refine wpQuiet_step (fun K hK => ?_); replace hK := Lib.hid hK; go_simp; first | (refine hK.out _ ?_; clear hK K) | (apply Exists.intro; refine ⟨fun _ => ?_, hK.out _ ?_⟩; (fail); clear hK K))); refine wpQuiet_nil ?_)
      intro w7 hr7
      have hb7 := regrown_below hr7
      clear hr7 s0 s1 q0 q1 q2 q3
      go_wp2_with fail
      go_roundw
      case rel => exact ⟨τ, π, xs ++ [((π : Int), f + (τ : Int))], rfl, rfl, by omega, by omega, by simp, by simp; omega, FU3.out, BE6.out.trans (Bes.of_below hb7), S6.out.later hb7, by have := hb7.size; omega, ⟨_, block_later hb7 BX6.out⟩, owns_later O6.out hb7⟩
      case measure => simp [intOf]; omega
end Go.Proofs.Ytcpnkhiillgffaa
