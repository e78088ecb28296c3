/- The walk of package station's Sure. -/
import Derived.Test.YtnidacjmgekdjaaStationG
namespace Go.Proofs.Ytnidacjmgekdjaa
open Go.RowKit
attribute [local go_sem] bqOp bqAll bqUpon
attribute [local irreducible] wpQuiet wpBQ
/-- The numbers a, a + 1, .. (n of them) for which p is true. -/
def pickL (p : Int → Bool) (a : Int) : Nat → List Int
  | 0 => []
  | n + 1 => pickL p a n ++ (if p (a + n) = true then [a + (n : Int)] else [])
theorem pickL_length (p : Int → Bool) (a : Int) (n : Nat) : (pickL p a n).length ≤ n := by
  induction n with
  | zero => simp [pickL]
  | succ n ih => unfold pickL; split <;> simp <;> omega
theorem pickL_hit {p : Int → Bool} {a z : Int} {n : Nat} (hz : z = a + (n : Int)) (h : p z = true) : pickL p a (n + 1) = pickL p a n ++ [z] := by
  subst hz; simp [pickL, h]
theorem pickL_miss {p : Int → Bool} {a z : Int} {n : Nat} (hz : z = a + (n : Int)) (h : p z = false) : pickL p a (n + 1) = pickL p a n := by
  subst hz; simp [pickL, h]
theorem owns_later {w w' : World} {base : Nat} {e : TypeId} {size : Nat} {v : Value} {n : Nat} {xs : List Value} (h : w.ownsRow base e size v n xs) (hb : Below w.heap.size w w') : w'.ownsRow base e size v n xs := by
  refine ⟨h.1, ?_⟩
  rcases h.2 with hn | ⟨g, cap, cur, hv, hb', hg, rest⟩
  · exact .inl hn
  · exact .inr ⟨g, cap, cur, hv, hb', block_later hb hg, rest⟩
theorem owns_lower {w : World} {base base' : Nat} {e : TypeId} {size : Nat} {v : Value} {n : Nat} {xs : List Value} (h : w.ownsRow base e size v n xs) (hb : base' ≤ base) : w.ownsRow base' e size v n xs := by
  refine ⟨h.1, ?_⟩
  rcases h.2 with hn | ⟨g, cap, cur, hv, hb', rest⟩
  · exact .inl hn
  · exact .inr ⟨g, cap, cur, hv, by omega, rest⟩
def sureB (ax ay dr nr fi ev dn dk xl xh yl yh k : Int) : Bool := allB ax ay xl xh yl yh (farI dn dk dr nr (fi + k * ev))
theorem ahead_lt {fi ev t k : Int} (h3 : 1 ≤ ev) (h0 : 0 ≤ k) : k < aheadI fi ev t ↔ fi + k * ev < t := by
  unfold aheadI
  have e : k < max 0 (t - fi + ev - 1) / ev ↔ k + 1 ≤ max 0 (t - fi + ev - 1) / ev := by omega
  rw [e, Int.le_ediv_iff_mul_le (by omega), Int.add_mul]
  have := Int.mul_nonneg h0 (show 0 ≤ ev by omega)
  omega
theorem sure1_any (id ax ay dr nr fi ev dn dk xl xh yl yh k : Int) (b1 b2 : Nat) (w : World) (hst : Stn id ax ay dr nr fi ev) (hs : Sn dn dk) (hx : Bx xl xh yl yh) (h0 : 0 ≤ k) (ht : fi + k * ev ≤ 10000000)
    (h1 : w.heap[b1]? = some (.cells #[.int .i64 id, .int .i64 ax, .int .i64 ay, .int .i64 dr, .int .i64 nr, .int .i64 fi, .int .i64 ev, .int .i64 dn, .int .i64 dk] 63))
    (h2 : w.heap[b2]? = some (.cells #[.int .i64 xl, .int .i64 xh, .int .i64 yl, .int .i64 yh] 31)) {v : Bool} (hv : sureB ax ay dr nr fi ev dn dk xl xh yl yh k = v) :
    Calls Try.prog 52 #[.int .i64 k, .pointer (some ⟨b1, 0, none⟩), .pointer (some ⟨b2, 0, none⟩)] w fun e w' => e = .returned (.bool v) ∧ Below w.heap.size w w' := by
  have m0 := Int.mul_nonneg h0 (show 0 ≤ ev by have := hst.e1; omega)
  have f1 := hst.f1
  have T : Tm (fi + k * ev) := ⟨by omega, ht⟩
  have c1 := cell_block h1
  have c2 := cell_block h2
  have K0 := Lib.hid hst
  have K1 := Lib.hid hs
  have K2 := Lib.hid hx
  have K3 := Lib.hid T
  replace hv : reachB ax ay (farthI ax xl xh) (farthI ay yl yh) (farI dn dk dr nr (fi + k * ev)) = v := hv
  have V := Lib.hid hv
  clear hst hs hx T hv h1 h2
  go_enter Try.func52, Try.ntmps52
  go_wp2_with fail
  (with_reducible refine (reaches_all _ _ _ _ _ _ _ _ _ _ _ _ _ _ _ K0.out K1.out K2.out K3.out V.out).mono ?_)
  rintro e w1 ⟨rfl, hb1⟩
  go_wp2_with fail
  go_returns
  exact ⟨rfl, hb1⟩
theorem info_int : (Try.prog.info? 3).map (fun i => (i.zero, i.size, i.bytes)) = some (some (.int .i64 0), 1, 8) := by kernel_rfl
set_option maxHeartbeats 1000000 in
theorem sSure_yes (id ax ay dr nr fi ev dn dk xl xh yl yh t t2 : Int) (w : World) (g0 : Sn dn dk) (g1 : Bx xl xh yl yh) (g2 : Stn id ax ay dr nr fi ev) (g3 : Tm t) (g4 : Tm t2) (hk : t ≤ t2) {a b : Int} {N : Nat} (h1 : aheadI fi ev t = a) (h2 : aheadI fi ev t2 = b)
    (hab : b = a + (N : Int)) (hN0 : 0 < N) (hN : N ≤ 400) :
    Calls Try.prog 24 #[.agg #[.int .i64 id, .int .i64 ax, .int .i64 ay, .int .i64 dr, .int .i64 nr, .int .i64 fi, .int .i64 ev], .agg #[.int .i64 dn, .int .i64 dk], .agg #[.int .i64 xl, .int .i64 xh, .int .i64 yl, .int .i64 yh], .int .i64 t, .int .i64 t2] w fun e w' => ∃ sl, e = .returned (.tuple #[sl, .int .i64 0]) ∧ Below w.heap.size w w' ∧
      w'.ownsRow w.heap.size 3 1 sl (pickL (sureB ax ay dr nr fi ev dn dk xl xh yl yh) a N).length ((pickL (sureB ax ay dr nr fi ev dn dk xl xh yl yh) a N).map (Value.int .i64)) := by
  have bd1 := aheadI_bd (t := t) g2.f1 g3.2 g2.e1 g2.e2
  have bd2 := aheadI_bd (t := t2) g2.f1 g4.2 g2.e1 g2.e2
  have hlt : ∀ k : Int, 0 ≤ k → k < b → fi + k * ev ≤ 10000000 := fun k h0 hkb => by
    have := (ahead_lt (fi := fi) (t := t2) g2.e1 h0).1 (by omega)
    have := g4.2
    omega
  rw [h1] at bd1
  rw [h2] at bd2
  have hne : a ≠ b := by omega
  have H0 := Lib.hid (decide_eq_true g0)
  have H1 := Lib.hid (decide_eq_true g1)
  have K0 := Lib.hid g0
  have K1 := Lib.hid g1
  have K2 := Lib.hid g2
  have K3 := Lib.hid g3
  have K4 := Lib.hid g4
  have L1 := Lib.hid h1
  have L2 := Lib.hid h2
  have LT := Lib.hid hlt
  have NE := Lib.hid hne
  have AB := Lib.hid hab
  have HK := Lib.hid hk
  clear g0 g1 g2 g3 g4 h1 h2 hlt hne hab hk
  obtain ⟨i0, hi, hz0, hz1, hz2⟩ := info_parts info_int
  go_enter Try.func24, Try.ntmps24
  go_wp2_with fail
  refine calls_named fun W hW => ?_
  obtain ⟨p1, p2, p3, hB⟩ := box3 hW
  clear hW
  (with_reducible refine (sun_any _ _ _ H0.out).mono ?_)
  rintro e w1 ⟨rfl, hb1⟩
  have q1 := cellsL p1
  have q2 := cellsL p2
  have q3 := cellsL p3
  have P3 := Lib.hid p3
  clear p1 p2 p3
  have hW1 := hb1
  go_wp2_with fail
  (with_reducible refine (spValidBox_any _ _ _ _ _ H1.out).mono ?_)
  rintro e w2 ⟨rfl, hb2⟩
  have hW2 := below_step hW1 hb2
  go_wp2_with fail
  (with_reducible refine (sSlots_yes _ _ _ _ _ _ _ _ _ _ K2.out K3.out K4.out HK.out L1.out L2.out NE.out rfl).mono ?_)
  rintro e w3 ⟨rfl, hb3⟩
  have hW3 := below_step hW2 hb3
  have hA3 := fun o => hW3.alloc hW3.size o
  have hb : b - 1 - a < 400 := by have := AB.out; omega
  go_wp2_with fail
  refine wp_named fun W4 hW4 => ?_
  obtain ⟨p4, p5, hb4⟩ := box2 hW4
  clear hW4
  have hW4 := below_step hW3 hb4
  have p3 := block_later hW4 P3.out
  have hB4 := below_step hB hW4
  have q4 := cellsL p4
  have P5 := Lib.hid p5
  have P3' := Lib.hid p3
  clear p3 p4 p5 P3 q1 q2 q3 hA3
  go_loopw [16, 17] (fun v i wr => ∃ (m : Nat) (z : Int), m ≤ N ∧ z = a + (m : Int) ∧ i = .int .i64 z ∧ Below W4.heap.size W4 wr ∧
      wr.ownsRow W4.heap.size 3 1 v (pickL (sureB ax ay dr nr fi ev dn dk xl xh yl yh) a m).length ((pickL (sureB ax ay dr nr fi ev dn dk xl xh yl yh) a m).map (Value.int .i64)))
    (fun _ i _ => (b - intOf i).toNat)
  case atStart => exact ⟨0, a, by omega, by simp, rfl, Below.refl _ _, World.ownsRow_nil _ _ _ _⟩
  case round =>
    obtain ⟨m, z, hm, hz, rfl, hbr, hown⟩ := hrel
    have Z := Lib.hid hz
    clear hz
    by_cases hlt : m < N
    · have hz1 : z ≤ b - 1 := by have := Z.out; have := AB.out; omega
      have hz0' : 0 ≤ z := by have := Z.out; omega
      obtain ⟨v, hv⟩ : ∃ v, sureB ax ay dr nr fi ev dn dk xl xh yl yh z = v := ⟨_, rfl⟩
      have V := Lib.hid hv
      clear hv
      have S := Lib.hid (sure1_any id ax ay dr nr fi ev dn dk xl xh yl yh z (w3.heap.size + 1) (w.heap.size + 1 + 1) wr K2.out K0.out K1.out (by have := Z.out; omega) (LT.out z (by have := Z.out; omega) (by omega)) (block_later hbr P5.out) (block_later hbr P3'.out) V.out)
      go_wp2_with fail
      (with_reducible refine S.out.mono ?_)
      rintro e w5 ⟨rfl, hb5⟩
      clear S
      have hbr5 := below_step hbr hb5
      have hown5 := owns_later hown hb5
      have hsz := hbr5.size
      have hlen := pickL_length (sureB ax ay dr nr fi ev dn dk xl xh yl yh) a m
      clear hown hbr q4
      cases v
      · have e1 := pickL_miss Z.out V.out
        have OW := Lib.hid hown5
        have E1 := Lib.hid e1
        clear e1 hown5
        go_wp2_with fail
        go_roundw
        case rel => exact ⟨m + 1, z + 1, by omega, by have := Z.out; omega, rfl, hbr5, by rw [E1.out]; exact OW.out⟩
        case measure => simp [intOf]; omega
      · have e1 := pickL_hit Z.out V.out
        have E1 := Lib.hid e1
        clear e1
        go_wp2_with (at_builtin; refine wpList_append_own _ rfl _ _ 43 rfl W4.heap.size 3 i0 (.int .i64 0) 1 8 Try.underlying43 hi hz0 (by assumption) hz2 rfl (by decide) _ _ _ rfl (hown5.alloc _) ⟨w5.heap.size, 0, none⟩ 1 1 [.int .i64 z] rfl rfl ?c1 ?c2 ?c3 ?c4 ?c5 ?_)
        case c1 =>
          intro j u hj
          match j, hj with
          | 0, hj => simp at hj; subst hj; simp [Addr.add]
        case c2 => intro u hu; simp at hu; subst hu; rfl
        case c3 => unfold maxLen; omega
        case c4 => omega
        case c5 => simp; omega
        intro v' w6 hown6 hgrow _
        have hbr6 : Below W4.heap.size W4 w6 := (hbr5.alloc hbr5.size _).grown hgrow (by simp; omega) (fun k hk => (hown5.lt k hk).1)
        have OW := Lib.hid hown6
        clear hown5 hown6 hgrow
        go_wp2_with fail
        go_roundw
        case rel => exact ⟨m + 1, z + 1, by omega, by have := Z.out; omega, rfl, hbr6, by rw [E1.out, List.map_append, List.length_append]; exact OW.out⟩
        case measure => simp [intOf]; omega
    · have hmN : m = N := by omega
      have OW := Lib.hid hown
      subst hmN
      have hz1 : b - 1 < z := by have := Z.out; have := AB.out; omega
      clear hown
      go_wp2_with fail
      go_ret2
      exact ⟨_, rfl, below_step hB4 hbr, owns_lower OW.out hB4.size⟩
end Go.Proofs.Ytnidacjmgekdjaa
