/- The walk of the reference's Table: a slice of rows that grows by append. -/
import Derived.Test.YtcpnkhiillgffaaReachN
namespace Go.Proofs.Ytcpnkhiillgffaa
open Go.RowKit
attribute [local go_sem] bqOp bqAll bqUpon
attribute [local irreducible] wpQuiet wpBQ
set_option linter.unusedVariables false
theorem owns_later {w w' : World} {base : Nat} {e : TypeId} {size : Nat} {v : Value} {n : Nat} {xs : List Value} (h : w.ownsRow base e size v n xs) (hb : Below w.heap.size w w') : w'.ownsRow base e size v n xs := by
  refine ⟨h.1, ?_⟩
  rcases h.2 with hn | ⟨g, cap, cur, hv, hb', hg, rest⟩
  · exact .inl hn
  · exact .inr ⟨g, cap, cur, hv, hb', block_later hb hg, rest⟩
/-- The slice v is the caller's own, with k rows of np integers each, T u j. -/
def TabO (base np k : Nat) (w : World) (v : Value) (xs : List Value) (T : Nat → Nat → Int) : Prop :=
  w.ownsRow base 28 1 v k xs ∧ ∀ u, u < k → ∃ g2 cap cur, xs[u]? = some (.slice (some ⟨g2, 0, none⟩) np cap) ∧ w.heap[g2]? = some (.cells cur 3 (0, 0)) ∧ ∀ j, j < np → cur[j]? = some (.int .i64 (T u j))
theorem TabO.later {base np k : Nat} {w w' : World} {v : Value} {xs : List Value} {T : Nat → Nat → Int} (h : TabO base np k w v xs T) (hb : Below w.heap.size w w') : TabO base np k w' v xs T :=
  ⟨owns_later h.1 hb, fun u hu => by
    obtain ⟨g2, cap, cur, h1, h2, h3⟩ := h.2 u hu
    exact ⟨g2, cap, cur, h1, block_later hb h2, h3⟩⟩
theorem TabO.tab {base np k : Nat} {w : World} {v : Value} {xs : List Value} {T : Nat → Nat → Int} (h : TabO base np k w v xs T) (hn : np ≤ 9223372036854775807) (hk : k ≤ 9223372036854775807) : Tab w v k (fun _ => np) T := by
  obtain ⟨ho, hr⟩ := h
  rcases ho.2 with ⟨rfl, rfl⟩ | ⟨g, cap, cur, rfl, _, hg, _, _, _, hx⟩
  · exact ⟨none, 0, rfl, hk, fun t ht => by omega⟩
  · refine ⟨some ⟨g, 0, none⟩, cap, rfl, hk, fun u hu => ?_⟩
    obtain ⟨g2, c2, cur2, h1, h2, h3⟩ := hr u hu
    refine ⟨g, 0, some ⟨g2, 0, none⟩, c2, rfl, ?_, hn, ⟨_, _, rfl, hn, fun j hj => ⟨g2, 0, rfl, fun i hi => ?_⟩⟩⟩
    · rw [cell_block hg, Nat.zero_add]
      have hq : (cur.toList.take (k * 1))[u]? = xs[u]? := by rw [hx]
      rw [List.getElem?_take, if_pos (by omega), Array.getElem?_toList] at hq
      rw [hq, h1]
    · obtain rfl : i = 0 := by omega
      rw [cell_block h2]
      simpa using h3 j hj
theorem tabO_snoc {base base' np k : Nat} {w w' : World} {v v' rv : Value} {xs : List Value} {T U : Nat → Nat → Int} {R : Nat → Int} {L : List Value} (h : TabO base np k w v xs T) (hrow : w.ownsRow base' 3 1 rv np L) (hL : ∀ j, j < np → L[j]? = some (.int .i64 (R j))) (hnp : 1 ≤ np)
    (hown : w'.ownsRow base 28 1 v' (k + 1) (xs ++ [rv])) (hgrow : w.grownBy w' v.ownBlock) (hT : ∀ u, u < k → ∀ j, U u j = T u j) (hU : ∀ j, U k j = R j) : TabO base np (k + 1) w' v' (xs ++ [rv]) U := by
  have hne : ∀ (g2 : Nat) (cur : Array Value), w.heap[g2]? = some (.cells cur 3 (0, 0)) → w'.heap[g2]? = some (.cells cur 3 (0, 0)) := fun g2 cur hg => by
    refine (hgrow.block g2 (lt_block hg) ?_).trans hg
    intro e
    rcases h.1.2 with ⟨rfl, _⟩ | ⟨g, cap, cur', rfl, _, hg', _⟩
    · simp [Value.ownBlock] at e
    · simp only [Value.ownBlock, Option.some.injEq] at e
      subst e
      rw [hg] at hg'
      cases hg'
  have hxl : xs.length = k := by have := h.1.1; omega
  refine ⟨hown, fun u hu => ?_⟩
  rcases Nat.lt_or_ge u k with g | g
  · obtain ⟨g2, cap, cur, h1, h2, h3⟩ := h.2 u g
    exact ⟨g2, cap, cur, by rw [List.getElem?_append_left (by omega)]; exact h1, hne _ _ h2, fun j hj => by rw [hT u g]; exact h3 j hj⟩
  · obtain rfl : u = k := by omega
    rcases hrow.2 with ⟨rfl, hz⟩ | ⟨g2, cap, cur, rfl, _, hg, _, _, _, hx⟩
    · omega
    · refine ⟨g2, cap, cur, by rw [List.getElem?_append_right (by omega), hxl]; simp, hne _ _ hg, fun j hj => ?_⟩
      have hq : (cur.toList.take (np * 1))[j]? = L[j]? := by rw [hx]
      rw [List.getElem?_take, if_pos (by omega), Array.getElem?_toList] at hq
      rw [hq, hL j hj, hU]
def rowL (R : Nat → Int) : Nat → List Value
  | 0 => []
  | n + 1 => rowL R n ++ [.int .i64 (R n)]
theorem rowL_length (R : Nat → Int) (n : Nat) : (rowL R n).length = n := by
  induction n with
  | zero => rfl
  | succ n ih => simp [rowL, ih]
theorem rowL_get (R : Nat → Int) {n j : Nat} (h : j < n) : (rowL R n)[j]? = some (.int .i64 (R j)) := by
  induction n with
  | zero => omega
  | succ n ih =>
    unfold rowL
    rcases Nat.lt_or_ge j n with g | g
    · rw [List.getElem?_append_left (by rw [rowL_length]; exact g)]; exact ih g
    · obtain rfl : j = n := by omega
      rw [List.getElem?_append_right (by rw [rowL_length]; exact Nat.le_refl _), rowL_length]; simp
theorem info_int : (Try.prog.info? 3).map (fun i => (i.zero, i.size, i.bytes)) = some (some (.int .i64 0), 1, 8) := by kernel_rfl
theorem info_ints : (Try.prog.info? 28).map (fun i => (i.zero, i.size, i.bytes)) = some (some (.slice none 0 0), 1, 24) := by kernel_rfl
def TimesOk (f u : Int) : Prop := 0 ≤ f ∧ f ≤ u ∧ u ≤ 10000000 ∧ u - f ≤ 400
instance (f u : Int) : Decidable (TimesOk f u) := by unfold TimesOk; exact inferInstance
theorem q33Table_no (np c ne c2 na c4 : Nat) (ad ad2 ad4 : Option Addr) (X E A : Nat → Nat → Int) (f u : Int) (w : World) (hX : Rows 2 w (.slice ad np c) np X) (hE : Rows 4 w (.slice ad2 ne c2) ne E) (hA : Rows 4 w (.slice ad4 na c4) na A) (hn1 : np ≤ 9223372036854775807) (hn2 : ne ≤ 9223372036854775807) (hn4 : na ≤ 9223372036854775807) (hno : ¬ (NetOk np X ne E ∧ AirsOk na A ∧ TimesOk f u)) :
    Calls Try.prog 23 #[.agg #[.slice ad np c, .slice ad2 ne c2], .slice ad4 na c4, .int .i64 f, .int .i64 u] w fun z w' => z = .returned (.tuple #[.slice none 0 0, .int .i64 1]) ∧ Below w.heap.size w w' := by
  have NO := Lib.hid hno
  clear hno
  have HX := Lib.hid hX
  have HE := Lib.hid hE
  have HA := Lib.hid hA
  clear hX hE hA
  obtain ⟨v1, gv1⟩ : ∃ v1, decide (NetOk np X ne E) = v1 := ⟨_, rfl⟩
  have V1 := Lib.hid gv1
  clear gv1
  obtain ⟨v2, gv2⟩ : ∃ v2, decide (AirsOk na A) = v2 := ⟨_, rfl⟩
  have V2 := Lib.hid gv2
  clear gv2
  obtain ⟨v3, gv3⟩ : ∃ v3, decide (0 ≤ f ∧ f ≤ u ∧ u ≤ 10000000 ∧ u - f ≤ 400) = v3 := ⟨_, rfl⟩
  have V3 := Lib.hid gv3
  clear gv3
  go_enter Try.func23, Try.ntmps23
  go_wp2_with fail
  refine calls_named fun W hW => ?_
  obtain ⟨p1, hB⟩ := box1 hW
  clear hW
  have q1 := cellsL p1
  have hB0 := Below.refl W.heap.size W
  have P1 := Lib.hid p1
  clear p1
  (with_reducible refine (q33Valid_any _ _ _ _ _ _ _ _ _ (HX.out.later hB) (HE.out.later hB) hn1 hn2 V1.out).mono ?_)
  rintro e w1 ⟨rfl, hb1⟩
  have hB1 := below_step hB0 hb1
  go_wp2_with fail
  (with_reducible refine (q33Airs_any _ _ _ _ _ (HA.out.later (below_step hB hB1)) hn4 V2.out).mono ?_)
  rintro e w2 ⟨rfl, hb2⟩
  have hB2 := below_step hB1 hb2
  go_wp2_with fail
  (with_reducible refine (q33Times_any _ _ _ V3.out).mono ?_)
  rintro e w3 ⟨rfl, hb3⟩
  have hB3 := below_step hB2 hb3
  cases v1
  · go_wp2_with fail
    go_ret2
    exact ⟨rfl, below_step hB hB3⟩
  cases v2
  · go_wp2_with fail
    go_ret2
    exact ⟨rfl, below_step hB hB3⟩
  cases v3
  · go_wp2_with fail
    go_ret2
    exact ⟨rfl, below_step hB hB3⟩
  exact (NO.out ⟨of_decide_eq_true V1.out, of_decide_eq_true V2.out, of_decide_eq_true V3.out⟩).elim
def TabP (np ne na : Nat) (X E A : Nat → Nat → Int) (f u : Int) (w : World) (z : Ending) (w' : World) : Prop :=
  ∃ tv, z = .returned (.tuple #[tv, .int .i64 0]) ∧ Below w.heap.size w w' ∧ Tab w' tv (u - f + 1).toNat (fun _ => np) (tblN X A E na f ne (u - f + 1).toNat)
set_option maxRecDepth 100000 in
set_option maxHeartbeats 2000000 in
theorem q33Table_yes (np c ne c2 na c4 : Nat) (ad ad2 ad4 : Option Addr) (X E A : Nat → Nat → Int) (f u : Int) (w : World) (hX : Rows 2 w (.slice ad np c) np X) (hE : Rows 4 w (.slice ad2 ne c2) ne E) (hA : Rows 4 w (.slice ad4 na c4) na A) (hn1 : np ≤ 9223372036854775807) (hn2 : ne ≤ 9223372036854775807) (hn4 : na ≤ 9223372036854775807) (g1 : NetOk np X ne E) (g2 : AirsOk na A) (g3 : TimesOk f u) :
    Calls Try.prog 23 #[.agg #[.slice ad np c, .slice ad2 ne c2], .slice ad4 na c4, .int .i64 f, .int .i64 u] w (TabP np ne na X E A f u w) := by
  have G1 := Lib.hid g1
  have G2 := Lib.hid g2
  obtain ⟨t1, t2, t3, t4⟩ := g3
  have np1 := g1.1
  have np2 := g1.2.1
  have na4 := g2.1
  have HX := Lib.hid hX
  have HE := Lib.hid hE
  have HA := Lib.hid hA
  clear hX hE hA
  obtain ⟨v1, gv1⟩ : ∃ v1, decide (NetOk np X ne E) = v1 := ⟨_, rfl⟩
  have V1 := Lib.hid gv1
  clear gv1
  obtain ⟨v2, gv2⟩ : ∃ v2, decide (AirsOk na A) = v2 := ⟨_, rfl⟩
  have V2 := Lib.hid gv2
  clear gv2
  obtain ⟨v3, gv3⟩ : ∃ v3, decide (0 ≤ f ∧ f ≤ u ∧ u ≤ 10000000 ∧ u - f ≤ 400) = v3 := ⟨_, rfl⟩
  have V3 := Lib.hid gv3
  clear gv3
  obtain rfl : v1 = true := by rw [← V1.out]; exact decide_eq_true g1
  obtain rfl : v2 = true := by rw [← V2.out]; exact decide_eq_true g2
  obtain rfl : v3 = true := by rw [← V3.out]; exact decide_eq_true ⟨t1, t2, t3, t4⟩
  clear g1 g2
  obtain ⟨n, hn⟩ : ∃ n : Nat, u - f + 1 = (n : Int) := ⟨(u - f + 1).toNat, by omega⟩
  have NN := Lib.hid hn
  have n4 : n ≤ 401 := by omega
  have fn : f + (n : Int) = u + 1 := by omega
  clear hn
  obtain ⟨i0, hi, hz0, hz1, hz2⟩ := info_parts info_int
  obtain ⟨j0, hj, hy0, hy1, hy2⟩ := info_parts info_ints
  go_enter Try.func23, Try.ntmps23
  go_wp2_with fail
  refine calls_named fun W hW => ?_
  obtain ⟨p1, hB⟩ := box1 hW
  clear hW
  have q1 := cellsL p1
  have hB0 := Below.refl W.heap.size W
  have P1 := Lib.hid p1
  clear p1
  (with_reducible refine (q33Valid_any _ _ _ _ _ _ _ _ _ (HX.out.later hB) (HE.out.later hB) hn1 hn2 V1.out).mono ?_)
  rintro e w1 ⟨rfl, hb1⟩
  have hB1 := below_step hB0 hb1
  go_wp2_with fail
  (with_reducible refine (q33Airs_any _ _ _ _ _ (HA.out.later (below_step hB hB1)) hn4 V2.out).mono ?_)
  rintro e w2 ⟨rfl, hb2⟩
  have hB2 := below_step hB1 hb2
  go_wp2_with fail
  (with_reducible refine (q33Times_any _ _ _ V3.out).mono ?_)
  rintro e w3 ⟨rfl, hb3⟩
  have hB3 := below_step hB2 hb3
  go_wp2_with fail
  clear q1
  go_loopw [13, 14] (fun o i wr => ∃ (k : Nat) (xs : List Value), k ≤ n ∧ i = .int .i64 k ∧ Below W.heap.size W wr ∧ TabO W.heap.size np k wr o xs (tblN X A E na f ne k)) (fun _ i _ => 402 - (intOf i).toNat)
  case atStart => exact ⟨0, [], by omega, rfl, hB3, World.ownsRow_nil _ _ _ _, fun u hu => by omega⟩
  case round =>
    obtain ⟨k, xs, hk, rfl, hbr, htab⟩ := hrel
    have TB := Lib.hid htab
    clear htab
    by_cases hlt : k < n
    rotate_left
    · obtain rfl : k = n := by omega
      have gt : u - f < (k : Int) := by omega
      have gd : decide ((k : Int) ≤ u - f) = false := by simp; omega
      go_wp2_with fail
      go_ret2
      exact ⟨_, rfl, below_step hB hbr, by rw [show (u - f + 1).toNat = k by omega]; exact TB.out.tab hn1 (by omega)⟩
    have le : (k : Int) ≤ u - f := by omega
    obtain ⟨wo, rfl⟩ : ∃ wo : World, wo = wr := ⟨_, rfl⟩
    obtain ⟨ad5, c5, rfl, htt, hk5⟩ := (TB.out.tab hn1 (by omega)).form
    have TT := Lib.hid htt
    clear htt
    go_wp2_with fail
    go_loopw [15, 16] (fun rv i ws => ∃ m : Nat, m ≤ np ∧ i = .int .i64 m ∧ Below wo.heap.size wo ws ∧ ws.ownsRow wo.heap.size 3 1 rv m (rowL (fun j => boundI X A E (tblN X A E na f ne k) na f (k : Int) j ne) m)) (fun _ i _ => np - (intOf i).toNat)
    case atStart => exact ⟨0, by omega, rfl, Below.refl _ _, World.ownsRow_nil _ _ _ _⟩
    case round =>
      obtain ⟨m, hm, rfl, hbs, hown⟩ := hrel
      have hBs := below_step hbr hbs
      have q1 := cellsL P1.out
      by_cases hmt : m < np
      rotate_left
      · obtain rfl : m = np := by omega
        have TBs := TB.out.later hbs
        have hown1 := TBs.1
        have hsz := hbs.size
        have hszr := hbr.size
        have HR := Lib.hid hown
        rcases hown.2 with ⟨rfl, h0⟩ | ⟨gr, capr, curr, rfl, hgr0, hgr1, -, hcap, -⟩
        · omega
        clear hown hgr0 hgr1
        have TS := Lib.hid TBs
        clear TBs
        go_wp2_with (at_builtin; refine wpList_append_own _ rfl _ _ 29 rfl W.heap.size 28 j0 (.slice none 0 0) 1 24 Try.underlying29 hj hy0 hy1 hy2 rfl (by decide) _ _ _ rfl (hown1.alloc _) ⟨wr.heap.size, 0, none⟩ 1 1 [.slice (some ⟨gr, 0, none⟩) m capr] rfl rfl ?d1 ?d2 ?d3 ?d4 ?d5 ?_)
        case d1 =>
          intro j u hj
          match j, hj with
          | 0, hj => simp at hj; subst hj; simp [Addr.add]
        case d2 => intro u hu; simp at hu; subst hu; rfl
        case d3 => unfold maxLen; omega
        case d4 => omega
        case d5 => simp; omega
        intro v' w6 hown6 hgrow _
        have hBs6 : Below W.heap.size W w6 := (hBs.alloc hBs.size _).grown hgrow (by simp; omega) (fun k hk => (hown1.lt k hk).1)
        have hA1 := (Below.refl wr.heap.size wr).alloc (Nat.le_refl _) (.cells #[.slice (some ⟨gr, 0, none⟩) m capr] 28)
        have SN := Lib.hid (tabO_snoc (U := tblN X A E na f ne (k + 1)) (R := fun j => boundI X A E (tblN X A E na f ne k) na f (k : Int) j ne) (TS.out.later hA1) (owns_later HR.out hA1) (fun j hj => rowL_get _ hj) np1 hown6 hgrow (fun u hu j => tblN_same X A E na f ne (show u ≠ k by omega) j) (fun j => tblN_new X A E na f ne k j))
        clear hown6 hgrow hown1 hA1
        go_wp2_with fail
        go_roundw
        case rel => exact ⟨k + 1, _, by omega, by go_num, hBs6, SN.out⟩
        case measure => simp [intOf]; omega
      obtain ⟨r, hr⟩ : ∃ r, boundI X A E (tblN X A E na f ne k) na f (k : Int) m ne = r := ⟨_, rfl⟩
      have CB := Lib.hid (q33Bound_any np c ne c2 na c4 k c5 ad ad2 ad4 ad5 X E A (tblN X A E na f ne k) (fun _ => np) f (k : Int) m _ (HX.out.later (below_step hB hBs)) (HE.out.later (below_step hB hBs)) (HA.out.later (below_step hB hBs)) (TT.out.later hbs) G1.out G2.out hmt t1 (by omega) (by omega) (by omega) (by omega)
        (fun u' hu' => ⟨rfl, fun j hj => by
          have hb := tblN_bd X A E na f ne k u' j
          have hm := Int.mul_le_mul (show (na : Int) ≤ 400 by omega) (show (u' : Int) ≤ 401 by omega) (by omega) (by omega)
          exact ⟨by omega, by omega⟩⟩) hn1 hn2 hk5 hr)
      have RB := Lib.hid hr
      clear hr
      go_wp2_with fail
      (with_reducible refine CB.out.mono ?_)
      rintro e w5 ⟨rfl, r0, r1, hb5⟩
      clear CB
      have hbs5 := below_step hbs hb5
      have hown5 := owns_later hown hb5
      have hsz := hbs5.size
      clear hown q1
      go_wp2_with (at_builtin; refine wpList_append_own _ rfl _ _ 28 rfl wo.heap.size 3 i0 (.int .i64 0) 1 8 Try.underlying28 hi hz0 (by assumption) hz2 rfl (by decide) _ _ _ rfl (hown5.alloc _) ⟨w5.heap.size, 0, none⟩ 1 1 [.int .i64 r] rfl rfl ?c1 ?c2 ?c3 ?c4 ?c5 ?_)
      case c1 =>
        intro j u hj
        match j, hj with
        | 0, hj => simp at hj; subst hj; simp [Addr.add]
      case c2 => intro u hu; simp at hu; subst hu; rfl
      case c3 => unfold maxLen; omega
      case c4 => omega
      case c5 => simp; omega
      intro v' w6 hown6 hgrow _
      have hbs6 : Below wo.heap.size wo w6 := (hbs5.alloc hbs5.size _).grown hgrow (by simp; omega) (fun k hk => (hown5.lt k hk).1)
      have OW := Lib.hid hown6
      clear hown5 hown6 hgrow
      go_wp2_with fail
      go_roundw
      case rel => exact ⟨m + 1, by omega, by go_num, hbs6, by rw [rowL, RB.out]; exact OW.out⟩
      case measure => simp [intOf]; omega
end Go.Proofs.Ytcpnkhiillgffaa
