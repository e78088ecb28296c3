/- The walk of ways$1: the ways to come to a place at a time, in their order. -/
import Derived.Test.YtcpnkhiillgffaaReachX
namespace Go.Proofs.Ytcpnkhiillgffaa
open Go.RowKit
attribute [local go_sem] bqOp bqAll bqUpon
attribute [local go_sem] Oper.semAt_some
attribute [local irreducible] wpQuiet wpBQ wpQuietIn
set_option linter.unusedVariables false
/-- A way: from a place and a time, with what is heard on it, and whether the table's integer is added. -/
structure Way where
  place : Int
  time : Int
  hears : Int
  adds : Bool
def encW (x : Way) : Value := .agg #[.int .i64 x.place, .int .i64 x.time, .int .i64 x.hears, .bool x.adds]
section
variable (X A E : Nat → Nat → Int) (na : Nat) (f : Int) (p t : Nat)
def stayW : Way := ⟨p, (t : Int) - 1, cntN (btwB X A p p (f + ((t : Int) - 1)) (f + (t : Int))) na, true⟩
def sailW (k : Nat) (d : Int) : Way := ⟨E k 0, (t : Int) - d, cntN (btwB X A (E k 0).toNat (E k 0).toNat (f + ((t : Int) - d)) (f + ((t : Int) - d + 1))) na + cntN (btwB X A (E k 0).toNat p (f + ((t : Int) - d + 1)) (f + (t : Int))) na, true⟩
def lastW (k : Nat) : Way := ⟨E k 0, (t : Int) - E k 3, cntN (btwB X A (E k 0).toNat p f (f + (t : Int))) na, false⟩
def edgeN (k : Nat) : Nat := (min (E k 3) (t : Int) - E k 2 + 1).toNat
def innerW (k : Nat) : Nat → List Way
  | 0 => []
  | m + 1 => innerW k m ++ [sailW X A E na f p t k (E k 2 + (m : Int))]
def edgeW (k : Nat) : List Way := if E k 1 = (p : Int) then innerW X A E na f p t k (edgeN E t k) ++ (if (t : Int) < E k 3 then [lastW X A E na f p t k] else []) else []
def edgesW : Nat → List Way
  | 0 => [stayW X A na f p t]
  | k + 1 => edgesW k ++ edgeW X A E na f p t k
def waysW (ne : Nat) : List Way := if t = 0 then [⟨p, 0, 0, false⟩] else edgesW X A E na f p t ne
theorem innerW_pre {k m m' : Nat} (h : m ≤ m') : innerW X A E na f p t k m <+: innerW X A E na f p t k m' := by
  induction m' with
  | zero => obtain rfl : m = 0 := by omega
            exact List.prefix_refl _
  | succ n ih =>
    rcases Nat.lt_or_ge n m with g | g
    · obtain rfl : m = n + 1 := by omega
      exact List.prefix_refl _
    · exact (ih g).trans (List.prefix_append _ _)
theorem edgesW_pre {k k' : Nat} (h : k ≤ k') : edgesW X A E na f p t k <+: edgesW X A E na f p t k' := by
  induction k' with
  | zero => obtain rfl : k = 0 := by omega
            exact List.prefix_refl _
  | succ n ih =>
    rcases Nat.lt_or_ge n k with g | g
    · obtain rfl : k = n + 1 := by omega
      exact List.prefix_refl _
    · exact (ih g).trans (List.prefix_append _ _)
theorem pre_stay {ne : Nat} (h : t ≠ 0) : [stayW X A na f p t] <+: waysW X A E na f p t ne := by
  unfold waysW
  rw [if_neg h]
  exact edgesW_pre X A E na f p t (Nat.zero_le ne)
theorem pre_sail {ne k m : Nat} (h : t ≠ 0) (hk : k < ne) (he : E k 1 = (p : Int)) (hm : m < edgeN E t k) : (edgesW X A E na f p t k ++ innerW X A E na f p t k m) ++ [sailW X A E na f p t k (E k 2 + (m : Int))] <+: waysW X A E na f p t ne := by
  unfold waysW
  rw [if_neg h, List.append_assoc]
  refine List.IsPrefix.trans ?_ (edgesW_pre X A E na f p t (show k + 1 ≤ ne from hk))
  show _ <+: edgesW X A E na f p t k ++ edgeW X A E na f p t k
  refine List.prefix_append_right_inj _ |>.2 ?_
  unfold edgeW
  rw [if_pos he]
  exact (innerW_pre X A E na f p t (show m + 1 ≤ edgeN E t k from hm)).trans (List.prefix_append _ _)
theorem pre_last {ne k : Nat} (h : t ≠ 0) (hk : k < ne) (he : E k 1 = (p : Int)) (hl : (t : Int) < E k 3) : (edgesW X A E na f p t k ++ innerW X A E na f p t k (edgeN E t k)) ++ [lastW X A E na f p t k] <+: waysW X A E na f p t ne := by
  unfold waysW
  rw [if_neg h, List.append_assoc]
  refine List.IsPrefix.trans ?_ (edgesW_pre X A E na f p t (show k + 1 ≤ ne from hk))
  show _ <+: edgesW X A E na f p t k ++ edgeW X A E na f p t k
  refine List.prefix_append_right_inj _ |>.2 ?_
  unfold edgeW
  rw [if_pos he, if_pos hl]
  exact List.prefix_refl _
end
/-- What a round keeps: all blocks where Av does not hold. -/
structure Kp (Av : Nat → Prop) (w w' : World) : Prop where
  size : w.heap.size ≤ w'.heap.size
  block : ∀ k, k < w.heap.size → ¬ Av k → w'.heap[k]? = w.heap[k]?
theorem Kp.trans {Av : Nat → Prop} {A B C : World} (h : Kp Av A B) (k : Kp Av B C) : Kp Av A C :=
  ⟨Nat.le_trans h.size k.size, fun i hi' hn => (k.block i (Nat.lt_of_lt_of_le hi' h.size) hn).trans (h.block i hi' hn)⟩
/-- What the iterator needs of the world. -/
structure Pool (ad ad2 ad4 : Option Addr) (np c ne c2 na c4 : Nat) (X A E : Nat → Nat → Int) (f u : Int) (p t n : Nat) (Av : Nat → Prop) (b bs bu bf ba bn bt bp bw : Nat) (w : World) : Prop where
  wat : Wat w ad ad2 ad4 np c ne c2 na c4 f u b bs bu bf ba bn
  sums : Sums w Av b n (sumF X A na f)
  rX : Rows 2 w (.slice ad np c) np X
  rA : Rows 4 w (.slice ad4 na c4) na A
  rE : Rows 4 w (.slice ad2 ne c2) ne E
  t : w.heap[bt]? = some (.cells #[.int .i64 (t : Int)] 3 (0, 0))
  p : w.heap[bp]? = some (.cells #[.int .i64 (p : Int)] 3 (0, 0))
  wv : ∃ ty, w.heap[bw]? = some (.cells #[.slice ad np c, .slice ad2 ne c2, .int .i64 f, .func (.func 85) #[] #[.pointer (some ⟨bs, 0, none⟩), .pointer (some ⟨bu, 0, none⟩), .pointer (some ⟨bf, 0, none⟩), .pointer (some ⟨ba, 0, none⟩), .pointer (some ⟨bn, 0, none⟩)]] ty (0, 0))
  av : ∀ g, Av g → g < w.heap.size
/-- The loop's variable e lies in block be. -/
def AtEdge (J : List Way → World → Prop) (E : Nat → Nat → Int) (k be : Nat) (s : List Way) (w : World) : Prop := J s w ∧ w.heap[be]? = some (.cells #[.int .i64 (E k 0), .int .i64 (E k 1), .int .i64 (E k 2), .int .i64 (E k 3)] 60 (0, 0))
set_option maxRecDepth 20000 in
set_option maxHeartbeats 4000000 in
theorem hWays1_in (ad ad2 ad4 : Option Addr) (np c ne c2 na c4 : Nat) (X A E : Nat → Nat → Int) (f u : Int) (p t n : Nat) (Av : Nat → Prop) (b bs bu bf ba bn bt bp bw : Nat) (m l : Nat) (hm : 1 ≤ m) (hn : u - f + 2 = (n : Int))
    (hn1 : np ≤ 64) (ha : AirsOk na A) (hv : ∀ i, i < np → Vld (X i 0) (X i 1)) (he : ∀ k, k < ne → EdgeOk np (E k)) (hne : ne ≤ 80) (f0 : 0 ≤ f) (fu : f ≤ u) (u0 : u ≤ 10000000) (uf : u - f ≤ 400) (hp : p < np) (ht : (t : Int) ≤ u - f)
    (J : List Way → World → Prop) (hP : ∀ s w, J s w → Pool ad ad2 ad4 np c ne c2 na c4 X A E f u p t n Av b bs bu bf ba bn bt bp bw w)
    (hJE : ∀ s w w', J s w → Bes b w w' → Sums w' Av b n (sumF X A na f) → J s w')
    (hY : ∀ pre x w, J pre w → pre ++ [x] <+: waysW X A E na f p t ne → YieldAt Fence.wide (m - 1) Try.prog l #[encW x] w fun e w' => e = .returned (.bool true) ∧ J (pre ++ [x]) w' ∧ Kp Av w w')
    (W : World) (h0 : J [] W) :
    CallsIn Fence.wide m Try.prog 100 (#[.func (.yield l) #[] #[]] ++ #[.pointer (some ⟨bt, 0, none⟩), .pointer (some ⟨bp, 0, none⟩), .pointer (some ⟨bw, 0, none⟩)]) W fun e w' => (∃ v, e = .returned v) ∧ J (waysW X A E na f p t ne) w' := by
  have HP := Lib.hid hP
  have HJE := Lib.hid hJE
  have HY := Lib.hid hY
  have HE := Lib.hid he
  have VX := Lib.hid hv
  have VA := Lib.hid ha
  have HN := Lib.hid hn
  have H0 := Lib.hid h0
  clear hP hJE hY he hv ha hn h0
  have kT := fun s w h => cell_block ((HP.out s w h).t) 0
  have kP := fun s w h => cell_block ((HP.out s w h).p) 0
  have KT := Lib.hid kT
  have KP := Lib.hid kP
  clear kT kP
  have heard : ∀ (s : List Way) (w : World) (q r x y : Int), J s w → 0 ≤ q → q < (np : Int) → 0 ≤ r → r < (np : Int) → 0 ≤ x → x ≤ u - f + 1 → 0 ≤ y → y ≤ u - f + 1 →
      CallsIn Fence.wide (m - 1) Try.prog 85 #[.int .i64 q, .int .i64 r, .int .i64 x, .int .i64 y, .pointer (some ⟨bs, 0, none⟩), .pointer (some ⟨bu, 0, none⟩), .pointer (some ⟨bf, 0, none⟩), .pointer (some ⟨ba, 0, none⟩), .pointer (some ⟨bn, 0, none⟩)] w fun e w' =>
        e = .returned (.int .i64 (cntN (btwB X A q.toNat r.toNat (f + x) (f + max x y)) na)) ∧ J s w' ∧ Bes b w w' := fun s w q r x y hJ q0 q1 r0 r1 x0 x1 y0 y1 => by
    obtain ⟨q, rfl⟩ : ∃ k : Nat, q = (k : Int) := ⟨q.toNat, by omega⟩
    obtain ⟨r, rfl⟩ : ∃ k : Nat, r = (k : Int) := ⟨r.toNat, by omega⟩
    obtain ⟨x, rfl⟩ : ∃ k : Nat, x = (k : Int) := ⟨x.toNat, by omega⟩
    obtain ⟨y, rfl⟩ : ∃ k : Nat, y = (k : Int) := ⟨y.toNat, by omega⟩
    have P := HP.out s w hJ
    obtain ⟨t4, h4⟩ := P.wat.a
    obtain ⟨t5, h5⟩ := P.wat.n
    rw [Int.toNat_natCast, Int.toNat_natCast]
    refine callsIn_wide.2 ((hOver1_any np c ne c2 na c4 b bs bu bf ba bn ad ad2 ad4 t4 t5 X A f u q r x y n Av w HN.out P.rX P.rA hn1 VA.out VX.out f0 fu u0 uf P.wat.s P.wat.u P.wat.f h4 h5 P.sums P.av (by omega) (by omega) x1 y1 (r := cntN (btwB X A q r (f + (x : Int)) (f + max (x : Int) (y : Int))) na) (by rw [show ((max x y : Nat) : Int) = max (x : Int) (y : Int) by omega])).mono ?_)
    rintro e w' ⟨rfl, hb, hs⟩
    exact ⟨rfl, HJE.out s w w' hJ hb hs, hb⟩
  have heardC : ∀ (s : List Way) (k be : Nat) (w : World) (q r x y z : Int), AtEdge J E k be s w → 0 ≤ q → q < (np : Int) → 0 ≤ r → r < (np : Int) → 0 ≤ x → x ≤ u - f + 1 → 0 ≤ y → y ≤ u - f + 1 → cntN (btwB X A q.toNat r.toNat (f + x) (f + max x y)) na = z →
      CallsIn Fence.wide (m - 1) Try.prog 85 #[.int .i64 q, .int .i64 r, .int .i64 x, .int .i64 y, .pointer (some ⟨bs, 0, none⟩), .pointer (some ⟨bu, 0, none⟩), .pointer (some ⟨bf, 0, none⟩), .pointer (some ⟨ba, 0, none⟩), .pointer (some ⟨bn, 0, none⟩)] w fun e w' =>
        e = .returned (.int .i64 z) ∧ AtEdge J E k be s w' := fun s k be w q r x y z hJ q0 q1 r0 r1 x0 x1 y0 y1 hz => by
    refine (heard s w q r x y hJ.1 q0 q1 r0 r1 x0 x1 y0 y1).mono ?_
    rintro e w' ⟨rfl, hJ', hb⟩
    obtain ⟨es, clock, hm, _⟩ := (HP.out s w hJ.1).sums
    refine ⟨by rw [hz], hJ', hb.block_ne hJ.2 (fun e => ?_)⟩
    have h2 := hJ.2
    rw [e, hm] at h2
    cases h2
  have HEARDC := Lib.hid heardC
  clear heardC
  have HEARD := Lib.hid (fun s w q r x y hJ q0 q1 r0 r1 x0 x1 y0 y1 => (heard s w q r x y hJ q0 q1 r0 r1 x0 x1 y0 y1).mono (R' := fun e w' => e = .returned (.int .i64 (cntN (btwB X A q.toNat r.toNat (f + x) (f + max x y)) na)) ∧ J s w') (fun e w' h => ⟨h.1, h.2.1⟩))
  clear heard
  have t0 := KT.out [] W H0.out
  have p0 := KP.out [] W H0.out
  refine callsIn_of_wp Try.func100 rfl trivial ?_ rfl
  simp only [Try.ntmps100, List.append_toArray, List.cons_append, List.nil_append, List.size_toArray, List.length_cons, List.length_nil, Nat.reduceAdd, Nat.reduceSub, Array.replicate_succ, Array.replicate_zero, List.push_toArray]
  by_cases h0 : t = 0
  · subst h0
    obtain ⟨fn, tmps, assign, body, hy, hR⟩ := HY.out [] ⟨p, 0, 0, false⟩ W H0.out (by unfold waysW; rw [if_pos rfl]; exact List.prefix_refl _)
    unfold encW at hy
    dsimp only at hy
    gi_wp2
    refine hR.mono ?_
    rintro e w1 ⟨rfl, hJ1, hk1⟩
    gi_wp2
    refine bodyPost_ret (results_none rfl _ _ _) rfl ⟨⟨_, rfl⟩, ?_⟩
    unfold waysW
    rw [if_pos rfl]
    exact hJ1
  · have t1 : ((t : Int) == 0) = false := by simp; omega
    have j1 : IntKind.i64.wrap ((t : Int) - 1) = (t : Int) - 1 := IntWalk.i64_in _ (by omega)
    have tp : 1 ≤ t := by omega
    have hh := Lib.hid h0
    clear h0
    gi_wp2
    refine wpIn_region_class_tail (C := fun w => J [] w) 14 (by kernel_rfl) (by kernel_rfl) (by kernel_rfl) (HJE.out _ _ _ H0.out (Bes.of_below ((Below.refl _ _).drew)) ((HP.out _ _ H0.out).sums.later ((Below.refl _ _).drew))) ?_
    have FC : ∀ w', J [] w' → w'.cell? ⟨bt, 0, none⟩ = some (.int .i64 (t : Int)) ∧ w'.cell? ⟨bp, 0, none⟩ = some (.int .i64 (p : Int)) ∧ w'.cell? ⟨bw, 3, none⟩ = some (.func (.func 85) #[] #[.pointer (some ⟨bs, 0, none⟩), .pointer (some ⟨bu, 0, none⟩), .pointer (some ⟨bf, 0, none⟩), .pointer (some ⟨ba, 0, none⟩), .pointer (some ⟨bn, 0, none⟩)]) := fun w' h => ⟨KT.out _ _ h, KP.out _ _ h, by obtain ⟨ty, hw⟩ := (HP.out _ _ h).wv; exact cell_block hw 3⟩
    replace FC := Lib.hid FC
    simp only [List.take_succ_cons, List.take_zero, List.drop_succ_cons, List.drop_zero]
    (repeat (refine wpQuietIn_step (fun _ _ _ _ => trivial) (fun K hK => ?_); replace hK := Lib.hid hK; go_simp; first | (refine hK.out _ ?_; clear hK K) | (apply Exists.intro; refine ⟨fun w' hw => ?_, hK.out _ ?_⟩; (first | with_reducible exact rfl | ((first | with_reducible exact HEARD.out [] w' _ _ _ _ hw (by omega) (by omega) (by omega) (by omega) (by omega) (by omega) (by omega) (by omega) | (obtain ⟨fc1, fc2, fc3⟩ := FC.out w' hw; go_simp; exact rfl)))); clear hK K)))
    refine wpQuietIn_nil ?_
    intro w1 hw1
    obtain ⟨fn, tmps, assign, body, hy, hR⟩ := HY.out [] _ w1 hw1 (pre_stay X A E na f p t (ne := ne) hh.out)
    unfold encW stayW at hy
    simp only [show max ((t : Int) - 1) (t : Int) = t by omega]
    dsimp only at hy
    gi_wp2
    refine hR.mono ?_
    rintro e w2 ⟨rfl, hJ2, hk2⟩
    have b1 : w2.cell? ⟨bw, 1, none⟩ = some (.slice ad2 ne c2) := by obtain ⟨ty, hw⟩ := (HP.out _ _ hJ2).wv; exact cell_block hw 1
    clear hy hR hw1 hk2 FC t0 p0
    have J2 := Lib.hid hJ2
    clear hJ2
    gi_wp2
    gi_loopw [37] (fun i wr => ∃ k : Nat, k ≤ ne ∧ i = .int .i64 k ∧ J (edgesW X A E na f p t k) wr) (fun i _ => ne - (intOf i).toNat)
    case atStart => exact ⟨0, by omega, rfl, J2.out⟩
    case round =>
      obtain ⟨k, hk, rfl, hJr⟩ := hrel
      have JR := Lib.hid hJr
      clear hJr
      obtain ⟨wo, rfl⟩ : ∃ wo : World, wo = wr := ⟨_, rfl⟩
      by_cases hlt : k < ne
      rotate_left
      · obtain rfl : k = ne := by omega
        gi_wp2
        go_end0
        refine ⟨⟨_, rfl⟩, ?_⟩
        unfold waysW
        rw [if_neg hh.out]
        exact JR.out
      have PR := HP.out _ _ JR.out
      obtain ⟨g, o, rfl, hc⟩ := PR.rE.row hlt
      have c0 := hc 0 (by omega)
      have c1 := hc 1 (by omega)
      have c2' := hc 2 (by omega)
      have c3 := hc 3 (by omega)
      simp only [Nat.add_zero] at c0
      obtain ⟨⟨e0, e1⟩, ⟨e2, e3⟩, e4, e5, e6, e7⟩ := HE.out k hlt
      have p1 := cell_block PR.p 0
      have pa := fun (o : Obj) => cell_block (block_alloc (o' := o) PR.p) 0
      have hav := PR.av
      clear PR hc
      have JA := Lib.hid (fun (o : Obj) => HJE.out _ _ _ JR.out (Bes.of_below ((Below.refl wo.heap.size wo).alloc (Nat.le_refl _) o)) ((HP.out _ _ JR.out).sums.later ((Below.refl wo.heap.size wo).alloc (Nat.le_refl _) o)))
      by_cases hto : E k 1 = (p : Int)
      rotate_left
      · have d1 : (E k 1 == (p : Int)) = false := by simp [hto]
        have d2 : (E k 1 != (p : Int)) = true := by simp [hto]
        have HTO := Lib.hid hto
        clear hto
        gi_wp2
        go_roundw
        case rel => exact ⟨k + 1, by omega, by go_num, by
          have h := JA.out (.cells #[.int .i64 (E k 0), .int .i64 (E k 1), .int .i64 (E k 2), .int .i64 (E k 3)] 60)
          have e : edgesW X A E na f p t (k + 1) = edgesW X A E na f p t k := by
            show edgesW X A E na f p t k ++ edgeW X A E na f p t k = _
            unfold edgeW
            rw [if_neg HTO.out, List.append_nil]
          rw [e]
          exact h⟩
        case measure => simp [intOf]; omega
      have d1 : (E k 1 != (p : Int)) = false := by simp [hto]
      have HTO := Lib.hid hto
      clear hto
      have PE := fun (o : Obj) => block_new wo o
      gi_wp2
      gi_loopw [7] (fun d wr => ∃ (i : Nat) (dv : Int), dv = E k 2 + (i : Int) ∧ i ≤ edgeN E t k ∧ d = .int .i64 dv ∧ J (edgesW X A E na f p t k ++ innerW X A E na f p t k i) wr ∧ wr.heap[wo.heap.size]? = some (.cells #[.int .i64 (E k 0), .int .i64 (E k 1), .int .i64 (E k 2), .int .i64 (E k 3)] 60 (0, 0))) (fun d _ => (401 - intOf d).toNat)
      case atStart => exact ⟨0, _, rfl, Nat.zero_le _, by simp, by rw [show innerW X A E na f p t k 0 = [] from rfl, List.append_nil]; exact JA.out _, PE _⟩
      case round =>
        obtain ⟨i, dv, hdv, hi, rfl, hJi, hbe⟩ := hrel
        have JI := Lib.hid hJi
        have BE := Lib.hid hbe
        have tI := cell_block ((HP.out _ _ hJi).t) 0
        have b0 := cell_block hbe 0
        have b3 := cell_block hbe 3
        clear hJi hbe
        by_cases hin : i < edgeN E t k
        · have g1 : dv ≤ E k 3 := by unfold edgeN at hin; omega
          have g2 : dv ≤ (t : Int) := by unfold edgeN at hin; omega
          have g3 : 1 ≤ dv := by omega
          have ja : IntKind.i64.wrap (((t : Int) - dv) + 1) = ((t : Int) - dv) + 1 := IntWalk.i64_in _ (by omega)
          obtain ⟨z1, hz1⟩ : ∃ z1, cntN (btwB X A (E k 0).toNat (E k 0).toNat (f + ((t : Int) - dv)) (f + (((t : Int) - dv) + 1))) na = z1 := ⟨_, rfl⟩
          obtain ⟨z2, hz2⟩ : ∃ z2, cntN (btwB X A (E k 0).toNat p (f + (((t : Int) - dv) + 1)) (f + (t : Int))) na = z2 := ⟨_, rfl⟩
          have y1 := cntN_bd (btwB X A (E k 0).toNat (E k 0).toNat (f + ((t : Int) - dv)) (f + (((t : Int) - dv) + 1))) na
          have y2 := cntN_bd (btwB X A (E k 0).toNat p (f + (((t : Int) - dv) + 1)) (f + (t : Int))) na
          rw [hz1] at y1
          rw [hz2] at y2
          have na4 := VA.out.1
          have jz : IntKind.i64.wrap (z1 + z2) = z1 + z2 := IntWalk.i64_in _ (by omega)
          have a0 : 0 ≤ ((t : Int) - dv) := by omega
          have a1 : ((t : Int) - dv) + 1 ≤ (t : Int) := by omega
          have CW := Lib.hid (show encW (sailW X A E na f p t k (E k 2 + (i : Int))) = .agg #[.int .i64 (E k 0), .int .i64 ((t : Int) - dv), .int .i64 (z1 + z2), .bool true] by
            unfold encW sailW
            rw [← hdv, hz1, hz2])
          have CALL1 := Lib.hid (fun w' h => HEARDC.out (edgesW X A E na f p t k ++ innerW X A E na f p t k i) k wo.heap.size w' (E k 0) (E k 0) ((t : Int) - dv) (((t : Int) - dv) + 1) z1 h e0 e1 e0 e1 a0 (by omega) (by omega) (by omega) (by rw [show max ((t : Int) - dv) (((t : Int) - dv) + 1) = ((t : Int) - dv) + 1 by omega]; exact hz1))
          have CALL2 := Lib.hid (fun w' h => HEARDC.out (edgesW X A E na f p t k ++ innerW X A E na f p t k i) k wo.heap.size w' (E k 0) (p : Int) (((t : Int) - dv) + 1) (t : Int) z2 h e0 e1 (by omega) (by omega) (by omega) (by omega) (by omega) (by omega) (by rw [Int.toNat_natCast, show max (((t : Int) - dv) + 1) (t : Int) = (t : Int) by omega]; exact hz2))
          have FC : ∀ w', AtEdge J E k wo.heap.size (edgesW X A E na f p t k ++ innerW X A E na f p t k i) w' → w'.cell? ⟨bt, 0, none⟩ = some (.int .i64 (t : Int)) ∧ w'.cell? ⟨bp, 0, none⟩ = some (.int .i64 (p : Int)) ∧ w'.cell? ⟨wo.heap.size, 0, none⟩ = some (.int .i64 (E k 0)) ∧ w'.cell? ⟨bw, 3, none⟩ = some (.func (.func 85) #[] #[.pointer (some ⟨bs, 0, none⟩), .pointer (some ⟨bu, 0, none⟩), .pointer (some ⟨bf, 0, none⟩), .pointer (some ⟨ba, 0, none⟩), .pointer (some ⟨bn, 0, none⟩)]) := fun w' h => ⟨KT.out _ _ h.1, KP.out _ _ h.1, cell_block h.2 0, by obtain ⟨ty, hw⟩ := (HP.out _ _ h.1).wv; exact cell_block hw 3⟩
          replace FC := Lib.hid FC
          have HDV := Lib.hid hdv
          clear hz1 hz2 hdv
          rcases Int.lt_or_le (t : Int) (E k 3) with hte | hte
          all_goals
            gi_wp2
            refine wpIn_region_class (C := fun w' => AtEdge J E k wo.heap.size (edgesW X A E na f p t k ++ innerW X A E na f p t k i) w') (by kernel_rfl) (by kernel_rfl) (by kernel_rfl) ⟨HJE.out _ _ _ JI.out (Bes.of_below ((Below.refl _ _).drew)) ((HP.out _ _ JI.out).sums.later ((Below.refl _ _).drew)), BE.out⟩ ?_
            (repeat (refine wpQuietIn_step (fun _ _ _ _ => trivial) (fun K hK => ?_); replace hK := Lib.hid hK; go_simp; first | (refine hK.out _ ?_; clear hK K) | (apply Exists.intro; refine ⟨fun w' hw => ?_, hK.out _ ?_⟩; (first | with_reducible exact rfl | ((first | with_reducible exact CALL1.out w' hw | with_reducible exact CALL2.out w' hw | (obtain ⟨fc1, fc2, fc3, fc4⟩ := FC.out w' hw; go_simp; exact rfl)))); clear hK K)))
            refine wpQuietIn_nil ?_
            rintro w1 ⟨hw1, hbe1⟩
            have tI1 := cell_block ((HP.out _ _ hw1).t) 0
            have b01 := cell_block hbe1 0
            obtain ⟨fn, tmps, assign, body, hy, hR⟩ := HY.out _ _ w1 hw1 (pre_sail X A E na f p t (ne := ne) hh.out hlt HTO.out hin)
            rw [CW.out] at hy
            gi_wp2
            refine hR.mono ?_
            rintro e w2 ⟨rfl, hJ2, hk2⟩
            have J2 := Lib.hid hJ2
            have be2 := Lib.hid ((hk2.block _ (lt_block hbe1) (fun h => Nat.lt_irrefl _ (hav _ h))).trans hbe1)
            have jd1 : IntKind.i64.wrap (dv + 1) = dv + 1 := IntWalk.i64_in _ (by omega)
            clear hJ2 hk2 hw1 hbe1 tI1 b01 hy hR
            gi_wp2
            go_roundw
            case rel => exact ⟨i + 1, dv + 1, by have := HDV.out; omega, hin, rfl, by
              have h := J2.out
              rw [List.append_assoc] at h
              exact h, be2.out⟩
            case measure => simp [intOf]; omega
        · obtain rfl : i = edgeN E t k := by omega
          have g1 : min (E k 3) (t : Int) < dv := by unfold edgeN at hdv; omega
          have HDV := Lib.hid hdv
          clear hdv hin hi
          rcases Int.lt_or_le (t : Int) (E k 3) with hte | hte
          · have g2 : ¬ dv ≤ (t : Int) := by omega
            have g3 : (t : Int) < dv := by omega
            have FC : ∀ w', AtEdge J E k wo.heap.size (edgesW X A E na f p t k ++ innerW X A E na f p t k (edgeN E t k)) w' → w'.cell? ⟨bt, 0, none⟩ = some (.int .i64 (t : Int)) ∧ w'.cell? ⟨bp, 0, none⟩ = some (.int .i64 (p : Int)) ∧ w'.cell? ⟨wo.heap.size, 0, none⟩ = some (.int .i64 (E k 0)) ∧ w'.cell? ⟨wo.heap.size, 3, none⟩ = some (.int .i64 (E k 3)) ∧ w'.cell? ⟨bw, 3, none⟩ = some (.func (.func 85) #[] #[.pointer (some ⟨bs, 0, none⟩), .pointer (some ⟨bu, 0, none⟩), .pointer (some ⟨bf, 0, none⟩), .pointer (some ⟨ba, 0, none⟩), .pointer (some ⟨bn, 0, none⟩)]) := fun w' h => ⟨KT.out _ _ h.1, KP.out _ _ h.1, cell_block h.2 0, cell_block h.2 3, by obtain ⟨ty, hw⟩ := (HP.out _ _ h.1).wv; exact cell_block hw 3⟩
            replace FC := Lib.hid FC
            obtain ⟨z3, hz3⟩ : ∃ z3, cntN (btwB X A (E k 0).toNat p f (f + (t : Int))) na = z3 := ⟨_, rfl⟩
            have CW := Lib.hid (show encW (lastW X A E na f p t k) = .agg #[.int .i64 (E k 0), .int .i64 ((t : Int) - E k 3), .int .i64 z3, .bool false] by
              unfold encW lastW
              rw [hz3])
            have CALL3 := Lib.hid (fun w' h => HEARDC.out (edgesW X A E na f p t k ++ innerW X A E na f p t k (edgeN E t k)) k wo.heap.size w' (E k 0) (p : Int) 0 (t : Int) z3 h e0 e1 (by omega) (by omega) (by omega) (by omega) (by omega) (by omega) (by rw [Int.toNat_natCast, Int.add_zero, show max 0 (t : Int) = (t : Int) by omega]; exact hz3))
            clear hz3
            gi_wp2
            refine wpIn_region_class_tail (C := fun w' => AtEdge J E k wo.heap.size (edgesW X A E na f p t k ++ innerW X A E na f p t k (edgeN E t k)) w') 21 (by kernel_rfl) (by kernel_rfl) (by kernel_rfl) ⟨HJE.out _ _ _ JI.out (Bes.of_below ((Below.refl _ _).drew)) ((HP.out _ _ JI.out).sums.later ((Below.refl _ _).drew)), BE.out⟩ ?_
            simp only [List.take_succ_cons, List.take_zero, List.drop_succ_cons, List.drop_zero]
            (repeat (refine wpQuietIn_step (fun _ _ _ _ => trivial) (fun K hK => ?_); replace hK := Lib.hid hK; go_simp; first | (refine hK.out _ ?_; clear hK K) | (apply Exists.intro; refine ⟨fun w' hw => ?_, hK.out _ ?_⟩; (first | with_reducible exact rfl | ((first | with_reducible exact CALL3.out w' hw | (obtain ⟨fc1, fc2, fc3, fc4, fc5⟩ := FC.out w' hw; go_simp; exact rfl)))); clear hK K)))
            refine wpQuietIn_nil ?_
            rintro w1 ⟨hw1, hbe1⟩
            obtain ⟨fn, tmps, assign, body, hy, hR⟩ := HY.out _ _ w1 hw1 (pre_last X A E na f p t (ne := ne) hh.out hlt HTO.out hte)
            rw [CW.out] at hy
            gi_wp2
            rw [hy]
            refine ⟨fun _ => hm, hR.mono ?_⟩
            rintro e w2 ⟨rfl, hJ2, hk2⟩
            have J2 := Lib.hid hJ2
            clear hJ2 hk2 hw1 hbe1 hy hR
            gi_wp2
            go_roundw
            case rel => exact ⟨k + 1, by omega, by go_num, by
              have e : edgesW X A E na f p t (k + 1) = (edgesW X A E na f p t k ++ innerW X A E na f p t k (edgeN E t k)) ++ [lastW X A E na f p t k] := by
                show edgesW X A E na f p t k ++ edgeW X A E na f p t k = _
                unfold edgeW
                rw [if_pos HTO.out, if_pos hte, List.append_assoc]
              rw [e]
              exact J2.out⟩
            case measure => simp [intOf]; omega
          · have g2 : ¬ dv ≤ E k 3 := by omega
            have g3 : E k 3 < dv := by omega
            have g4 : decide ((t : Int) < E k 3) = false := by simp; omega
            have FC : ∀ w', AtEdge J E k wo.heap.size (edgesW X A E na f p t k ++ innerW X A E na f p t k (edgeN E t k)) w' → w'.cell? ⟨bt, 0, none⟩ = some (.int .i64 (t : Int)) ∧ w'.cell? ⟨wo.heap.size, 3, none⟩ = some (.int .i64 (E k 3)) := fun w' h => ⟨KT.out _ _ h.1, cell_block h.2 3⟩
            replace FC := Lib.hid FC
            gi_wp2
            refine wpIn_region_class_tail (C := fun w' => AtEdge J E k wo.heap.size (edgesW X A E na f p t k ++ innerW X A E na f p t k (edgeN E t k)) w') 21 (by kernel_rfl) (by kernel_rfl) (by kernel_rfl) ⟨HJE.out _ _ _ JI.out (Bes.of_below ((Below.refl _ _).drew)) ((HP.out _ _ JI.out).sums.later ((Below.refl _ _).drew)), BE.out⟩ ?_
            simp only [List.take_succ_cons, List.take_zero, List.drop_succ_cons, List.drop_zero]
            (repeat (refine wpQuietIn_step (fun _ _ _ _ => trivial) (fun K hK => ?_); replace hK := Lib.hid hK; go_simp; first | (refine hK.out _ ?_; clear hK K) | (apply Exists.intro; refine ⟨fun w' hw => ?_, hK.out _ ?_⟩; (first | with_reducible exact rfl | ((obtain ⟨fc1, fc2⟩ := FC.out w' hw; go_simp; exact rfl))); clear hK K)))
            refine wpQuietIn_nil ?_
            rintro w1 ⟨hw1, hbe1⟩
            have J1 := Lib.hid hw1
            clear hw1 hbe1
            gi_wp2
            refine ⟨fun _ _ => trivial, ?_⟩
            gi_wp2
            go_roundw
            case rel => exact ⟨k + 1, by omega, by go_num, by
              have e : edgesW X A E na f p t (k + 1) = edgesW X A E na f p t k ++ innerW X A E na f p t k (edgeN E t k) := by
                show edgesW X A E na f p t k ++ edgeW X A E na f p t k = _
                unfold edgeW
                rw [if_pos HTO.out, if_neg (by omega), List.append_nil]
              rw [e]
              exact J1.out⟩
            case measure => simp [intOf]; omega
end Go.Proofs.Ytcpnkhiillgffaa
