/- Plain: the sheet that the reference reads from integers is the one that the program reads, wherever there is one. -/
import Derived.Test.YtdmegkkifiahdaaGreatRefY
namespace Go.Proofs.YtdmegkkifiahdaaGreat
open Go.RowKit
set_option linter.unusedVariables false
/-- The features that are read one after the other. -/
def featsQ (l : List Int) (a : Nat) : Nat → List Feat × Nat
  | 0 => ([], a)
  | k + 1 => ((featsQ l a k).1 ++ [(readF l (featsQ l a k).2).1], (readF l (featsQ l a k).2).2)
def donQ (l : List Int) : List Int := (List.range (cntQ (l.getD 11 0) 200)).map fun i => l.getD (12 + i) 0
def readS (l : List Int) : Sht := ⟨l.getD 0 0, l.getD 1 0, l.getD 2 0, ⟨l.getD 3 0, l.getD 4 0, l.getD 5 0, l.getD 6 0, l.getD 7 0, l.getD 8 0, l.getD 9 0⟩, l.getD 10 0, donQ l, (featsQ l (12 + cntQ (l.getD 11 0) 200 + 1) (cntQ (l.getD (12 + cntQ (l.getD 11 0) 200) 0) 300)).1⟩
theorem readF_end (l : List Int) (p : Nat) : (readF l p).2 ≤ p + 84 := by
  unfold readF
  split
  · show p + 7 ≤ _
    omega
  · split
    · show p + 6 + 6 * cntQ _ 12 ≤ _
      unfold cntQ
      omega
    · show p + 5 + 2 * cntQ _ 24 ≤ _
      unfold cntQ
      omega
theorem featsQ_end (l : List Int) (a : Nat) : ∀ k, (featsQ l a k).2 ≤ a + 84 * k
  | 0 => Nat.le_refl _
  | k + 1 => by
    have h1 := featsQ_end l a k
    have h2 := readF_end l (featsQ l a k).2
    show (readF l (featsQ l a k).2).2 ≤ _
    omega
theorem featsQ_len (l : List Int) (a : Nat) : ∀ k, (featsQ l a k).1.length = k
  | 0 => rfl
  | k + 1 => by
    show ((featsQ l a k).1 ++ [_]).length = _
    rw [List.length_append, featsQ_len l a k]
    rfl
theorem getD_pre {pre post : List Int} {j : Nat} : (pre ++ post).getD (pre.length + j) 0 = post.getD j 0 := by
  rw [List.getD_eq_getElem?_getD, List.getD_eq_getElem?_getD, List.getElem?_append_right (by omega), Nat.add_sub_cancel_left]
theorem flat_getI {α : Type} (enc : α → List Int) (k : Nat) (hk : ∀ x, (enc x).length = k) (d : α) : ∀ (xs : List α) (t : List Int) (i j : Nat), i < xs.length → j < k → (xs.flatMap enc ++ t).getD (i * k + j) 0 = (enc (xs.getD i d)).getD j 0
  | [], _, i, j, h, _ => absurd h (Nat.not_lt_zero i)
  | x :: xs, t, 0, j, _, hj => by
    rw [List.flatMap_cons, Nat.zero_mul, Nat.zero_add, List.append_assoc, List.getD_eq_getElem?_getD, List.getElem?_append_left (by rw [hk]; exact hj)]
    rfl
  | x :: xs, t, i + 1, j, h, hj => by
    have e : (i + 1) * k + j = (enc x).length + (i * k + j) := by rw [hk, Nat.add_mul]; omega
    rw [List.flatMap_cons, e, List.append_assoc, getD_pre, flat_getI enc k hk d xs t i j (by simpa using h) hj]
    rfl
theorem flat_lenE {α : Type} (enc : α → List Int) (k : Nat) (hk : ∀ x, (enc x).length = k) : ∀ xs : List α, (xs.flatMap enc).length = k * xs.length
  | [] => rfl
  | x :: xs => by
    rw [List.flatMap_cons, List.length_append, hk, flat_lenE enc k hk xs, List.length_cons, Nat.mul_add]
    omega
theorem cnt_at {n most : Nat} (h : n ≤ most) : cntQ (n : Int) most = n := by unfold cntQ; omega
theorem secs_enc (pre : List Int) (xs : List Sec) (t : List Int) : secsQ (pre ++ (xs.flatMap encSec ++ t)) pre.length xs.length = xs := by
  apply List.ext_getElem?
  intro i
  unfold secsQ
  rcases Nat.lt_or_ge i xs.length with h | h
  · have key := fun j (hj : j < 6) => (getD_pre (pre := pre) (post := xs.flatMap encSec ++ t) (j := i * 6 + j)).trans (flat_getI encSec 6 (fun _ => rfl) ⟨0, 0, 0, 0, 0, 0⟩ xs t i j h hj)
    have e : ∀ j, pre.length + 6 * i + j = pre.length + (i * 6 + j) := fun j => by omega
    rw [List.getElem?_map, List.getElem?_range h]
    show some (secQ _ (pre.length + 6 * i)) = xs[i]?
    have k0 := key 0 (by omega)
    rw [Nat.add_zero] at k0
    unfold secQ
    rw [e 1, e 2, e 3, e 4, e 5, show pre.length + 6 * i = pre.length + i * 6 by omega, k0, key 1 (by omega), key 2 (by omega), key 3 (by omega), key 4 (by omega), key 5 (by omega)]
    have hx : xs.getD i ⟨0, 0, 0, 0, 0, 0⟩ = xs[i] := by
      rw [List.getD_eq_getElem?_getD, List.getElem?_eq_getElem h]
      rfl
    rw [hx, List.getElem?_eq_getElem h]
    rfl
  · rw [List.getElem?_eq_none (by simpa using h), List.getElem?_eq_none h]
theorem pts_enc (pre : List Int) (xs : List (Int × Int)) (t : List Int) : ptsQ (pre ++ (xs.flatMap encPt ++ t)) pre.length xs.length = xs := by
  apply List.ext_getElem?
  intro i
  unfold ptsQ
  rcases Nat.lt_or_ge i xs.length with h | h
  · have key := fun j (hj : j < 2) => (getD_pre (pre := pre) (post := xs.flatMap encPt ++ t) (j := i * 2 + j)).trans (flat_getI encPt 2 (fun _ => rfl) (0, 0) xs t i j h hj)
    rw [List.getElem?_map, List.getElem?_range h]
    show some (ptQ _ (pre.length + 2 * i)) = xs[i]?
    have k0 := key 0 (by omega)
    rw [Nat.add_zero] at k0
    unfold ptQ
    rw [show pre.length + 2 * i + 1 = pre.length + (i * 2 + 1) by omega, show pre.length + 2 * i = pre.length + i * 2 by omega, k0, key 1 (by omega)]
    have hx : xs.getD i (0, 0) = xs[i] := by
      rw [List.getD_eq_getElem?_getD, List.getElem?_eq_getElem h]
      rfl
    rw [hx, List.getElem?_eq_getElem h]
    rfl
  · rw [List.getElem?_eq_none (by simpa using h), List.getElem?_eq_none h]
theorem don_enc (pre xs t : List Int) : (List.range xs.length).map (fun i => (pre ++ (xs ++ t)).getD (pre.length + i) 0) = xs := by
  apply List.ext_getElem?
  intro i
  rcases Nat.lt_or_ge i xs.length with h | h
  · rw [List.getElem?_map, List.getElem?_range h]
    show some ((pre ++ (xs ++ t)).getD (pre.length + i) 0) = xs[i]?
    rw [getD_pre, List.getD_eq_getElem?_getD, List.getElem?_append_left h, List.getElem?_eq_getElem h]
    rfl
  · rw [List.getElem?_eq_none (by simpa using h), List.getElem?_eq_none h]
theorem readF_enc (pre : List Int) (f : Feat) (t : List Int) (hf : FeatOk f) : readF (pre ++ (encFeat f ++ t)) pre.length = (f, pre.length + (encFeat f).length) := by
  obtain ⟨_, hk⟩ := hf
  obtain ⟨id, kind, x, y, rad, area, dep, sym, secs⟩ := f
  unfold FormR at hk
  have g := fun j => getD_pre (pre := pre) (post := encFeat ⟨id, kind, x, y, rad, area, dep, sym, secs⟩ ++ t) (j := j)
  have g0 := g 0
  rw [Nat.add_zero] at g0
  unfold readF
  rw [g0, g 1, g 2, g 3, g 4, g 5, g 6]
  clear g g0
  simp only [] at hk
  by_cases h1 : DiscK kind
  · rw [if_pos h1] at hk
    obtain ⟨_, _, h3, h4⟩ := hk
    obtain rfl := len0 h3
    obtain rfl := len0 h4
    have e : encFeat ⟨id, kind, x, y, rad, [], dep, sym, []⟩ = [id, kind, sym, x, y, rad, dep] := by unfold encFeat; rw [if_pos h1]; rfl
    rw [e]
    simp [h1]
  · rw [if_neg h1] at hk
    by_cases h2 : kind = 3 ∨ kind = 6 ∧ dep ≤ 0
    · rw [if_pos h2] at hk
      obtain ⟨hp, rfl, rfl, rfl, h4⟩ := hk
      obtain rfl := len0 h4
      have h3 : ¬ kind = 4 := by omega
      have e : encFeat ⟨id, kind, 0, 0, 0, area, dep, sym, []⟩ = [id, kind, sym, dep, (area.length : Int)] ++ area.flatMap encPt := by unfold encFeat putL; rw [if_neg h1, if_neg h3]; rfl
      have hlen : area.length ≤ 24 := hp.2.1
      have hfl : (area.flatMap encPt).length = 2 * area.length := flat_lenE encPt 2 (fun _ => rfl) area
      have hp2 := pts_enc (pre ++ [id, kind, sym, dep, (area.length : Int)]) area t
      rw [List.length_append] at hp2
      simp only [List.length_cons, List.length_nil, Nat.zero_add, Nat.reduceAdd, List.append_assoc] at hp2
      rw [e]
      simp only [List.cons_append, List.nil_append, List.getD_cons_zero, List.getD_cons_succ] at hp2 ⊢
      rw [if_neg h1, if_neg h3, cnt_at hlen, hp2]
      simp only [List.length_cons, hfl]
      rw [show pre.length + 5 + 2 * area.length = pre.length + (2 * area.length + 1 + 1 + 1 + 1 + 1) by omega]
    · rw [if_neg h2] at hk
      obtain ⟨rfl, _, hs, rfl, rfl, h4⟩ := hk
      obtain rfl := len0 h4
      have e : encFeat ⟨id, 4, x, y, 0, [], 0, sym, secs⟩ = [id, 4, sym, x, y, (secs.length : Int)] ++ secs.flatMap encSec := by unfold encFeat putL; rw [if_neg h1, if_pos rfl]; rfl
      have hlen : secs.length ≤ 12 := hs.1
      have hfl : (secs.flatMap encSec).length = 6 * secs.length := flat_lenE encSec 6 (fun _ => rfl) secs
      have hp2 := secs_enc (pre ++ [id, 4, sym, x, y, (secs.length : Int)]) secs t
      rw [List.length_append] at hp2
      simp only [List.length_cons, List.length_nil, Nat.zero_add, Nat.reduceAdd, List.append_assoc] at hp2
      rw [e]
      simp only [List.cons_append, List.nil_append, List.getD_cons_zero, List.getD_cons_succ] at hp2 ⊢
      rw [if_neg h1, if_pos trivial, cnt_at hlen, hp2]
      simp only [List.length_cons, hfl]
      rw [show pre.length + 6 + 6 * secs.length = pre.length + (6 * secs.length + 1 + 1 + 1 + 1 + 1 + 1) by omega]
theorem feats_enc (pre : List Int) (fs : List Feat) (t : List Int) (hf : ∀ f ∈ fs, FeatOk f) : ∀ k, k ≤ fs.length → featsQ (pre ++ (fs.flatMap encFeat ++ t)) pre.length k = (fs.take k, pre.length + ((fs.take k).flatMap encFeat).length)
  | 0, _ => rfl
  | k + 1, hk => by
    have ih := feats_enc pre fs t hf k (by omega)
    have hlt : k < fs.length := by omega
    show ((featsQ _ _ k).1 ++ [(readF _ (featsQ _ _ k).2).1], (readF _ (featsQ _ _ k).2).2) = _
    rw [ih]
    have e : pre ++ (fs.flatMap encFeat ++ t) = (pre ++ (fs.take k).flatMap encFeat) ++ (encFeat (fs.getD k noFeat) ++ ((fs.drop (k + 1)).flatMap encFeat ++ t)) := by
      have h1 : fs.flatMap encFeat = (fs.take k).flatMap encFeat ++ (encFeat (fs.getD k noFeat) ++ (fs.drop (k + 1)).flatMap encFeat) := by
        conv => lhs; rw [← List.take_append_drop k fs, List.flatMap_append, List.drop_eq_getElem_cons hlt, List.flatMap_cons]
        rw [List.getD_eq_getElem?_getD, List.getElem?_eq_getElem hlt]
        rfl
      rw [h1]
      simp only [List.append_assoc]
    have r := readF_enc (pre ++ (fs.take k).flatMap encFeat) (fs.getD k noFeat) ((fs.drop (k + 1)).flatMap encFeat ++ t) (hf _ (getD_mem hlt))
    rw [← e, List.length_append] at r
    show ((fs.take k) ++ [(readF _ (pre.length + ((fs.take k).flatMap encFeat).length)).1], (readF _ (pre.length + ((fs.take k).flatMap encFeat).length)).2) = _
    rw [r, flat_take encFeat noFeat hlt, List.length_append, List.take_succ_eq_append_getElem hlt, List.getD_eq_getElem?_getD, List.getElem?_eq_getElem hlt]
    show (_, _) = (_, _)
    rw [Nat.add_assoc]
    rfl
theorem readS_enc (s : Sht) (hs : ShtOk s) : readS (encS s) = s := by
  have h200 := hs.2.1
  have hfo := hs.2.2.2.2.2.2.2
  have h300 := hfo.1
  obtain ⟨chart, scale, edition, ⟨a, b, c, d, e, f, r⟩, cap, don, feats⟩ := s
  dsimp only at h200 h300 hfo
  have hE : encS ⟨chart, scale, edition, ⟨a, b, c, d, e, f, r⟩, cap, don, feats⟩ = [chart, scale, edition, a, b, c, d, e, f, r, cap, (don.length : Int)] ++ (don ++ ((feats.length : Int) :: feats.flatMap encFeat)) := by
    rw [encS_list]
    simp
  have hn : cntQ (don.length : Int) 200 = don.length := cnt_at h200
  have hdon := don_enc [chart, scale, edition, a, b, c, d, e, f, r, cap, (don.length : Int)] don ((feats.length : Int) :: feats.flatMap encFeat)
  have hm : ([chart, scale, edition, a, b, c, d, e, f, r, cap, (don.length : Int)] ++ (don ++ ((feats.length : Int) :: feats.flatMap encFeat))).getD (12 + don.length) 0 = (feats.length : Int) := by
    have := getD_pre (pre := [chart, scale, edition, a, b, c, d, e, f, r, cap, (don.length : Int)] ++ don) (post := (feats.length : Int) :: feats.flatMap encFeat) (j := 0)
    rw [List.append_assoc, List.length_append] at this
    exact this
  have hfe := feats_enc ([chart, scale, edition, a, b, c, d, e, f, r, cap, (don.length : Int)] ++ don ++ [(feats.length : Int)]) feats [] (featsOk_mem hfo) feats.length (Nat.le_refl _)
  rw [List.append_nil, List.take_length, List.length_append, List.length_append] at hfe
  simp only [List.append_assoc, List.length_cons, List.length_nil, Nat.zero_add, Nat.reduceAdd, List.cons_append, List.nil_append] at hfe
  rw [hE]
  unfold readS donQ
  simp only [List.cons_append, List.nil_append, List.getD_cons_zero, List.getD_cons_succ] at hm hdon ⊢
  rw [hn]
  simp only [List.length_cons, List.length_nil, Nat.zero_add, Nat.reduceAdd] at hdon
  rw [hm, cnt_at h300, hfe]
  rw [hdon]
theorem from_ref (l : List Int) : fromL l = if ShtOk (readS l) ∧ encS (readS l) = l then some (readS l) else none := by
  by_cases h : ShtOk (readS l) ∧ encS (readS l) = l
  · rw [if_pos h]
    have := from_enc _ h.1
    rwa [h.2] at this
  · rw [if_neg h]
    cases hl : fromL l with
    | none => rfl
    | some s =>
      exfalso
      obtain ⟨h1, h2⟩ := from_some hl
      refine h ?_
      rw [← h2, readS_enc s h1]
      exact ⟨h1, rfl⟩
end Go.Proofs.YtdmegkkifiahdaaGreat
