/- What the walk of patch.Normal needs: the states of said, and what lies beside. -/
import Derived.Test.YtpidmgkjnomigaaGreatPatOf
import Derived.Test.YtpidmgkjnomigaaGreatOwnAt
import Derived.Test.YtpidmgkjnomigaaGreatPatKeys2
namespace Go.Proofs.YtpidmgkjnomigaaGreat
open Go.RowKit Go.Shelf Go.Maps
set_option linter.unusedVariables false
def slotOf (ts : Array Value) (i : Nat) : Value := ts.getD i undef
theorem hear_begun (s : SaidS) (o : Opn) : (hearS s o).1.begun = true := by
  have h1 : (beginS s (decide (o.kind = 1))).begun = true := by
    unfold beginS
    cases h : s.begun <;> simp [h]
  unfold hearS
  generalize beginS s (decide (o.kind = 1)) = t at h1
  unfold stepS putS
  repeat' split
  all_goals exact h1
theorem says_snoc (o : Opn) : ∀ (a : List Opn) (s : SaidS), saysS (a ++ [o]) s = (saysS a s).bind fun t => if (hearS t o).2 = true then some (hearS t o).1 else none
  | [], s => rfl
  | p :: a, s => by
    simp only [List.cons_append, saysS]
    by_cases h : (hearS s p).2 = true
    · rw [if_pos h, if_pos h]; exact says_snoc o a _
    · rw [if_neg h, if_neg h]; rfl
theorem says_none (b : List Opn) : ∀ (a : List Opn) (s : SaidS), saysS a s = none → saysS (a ++ b) s = none
  | [], s, h => by cases h
  | p :: a, s, h => by
    simp only [List.cons_append, saysS] at h ⊢
    by_cases hh : (hearS s p).2 = true
    · rw [if_pos hh] at h ⊢; exact says_none b a _ h
    · rw [if_neg hh]
theorem Wr2.grown {B m : Nat} {w X Y : World} {row : Option Nat} (h : Wr2 B m w X) (hg : X.grownBy Y row) (hr : ∀ r, row = some r → w.heap.size ≤ r) : Wr2 B m w Y :=
  ⟨hg.os.trans h.os, hg.tape.trans h.tape, hg.output.trans h.output, Nat.le_trans h.size hg.size, fun k hk h1 h2 => (hg.block k (Nat.lt_of_lt_of_le hk h.size) (fun e => by have := hr k e.symm; omega)).trans (h.block k hk h1 h2)⟩
theorem SaidAt.grown {B m n : Nat} {w0 X Y : World} {s : SaidS} {row : Option Nat} (h : SaidAt w0 X B m n s) (hg : X.grownBy Y row) (hr : ∀ r, row = some r → B ≠ r ∧ m ≠ r) : SaidAt w0 Y B m n s := by
  obtain ⟨va, vs, h1, h2, h3⟩ := h
  exact ⟨va, vs, (hg.block B (lt_block h1) (fun e => (hr B e.symm).1 rfl)).trans h1, h2, h3.keep (hg.block m h3.lt (fun e => (hr m e.symm).2 rfl))⟩
theorem SaidAt.later {B m n : Nat} {w0 X Y : World} {s : SaidS} (h : SaidAt w0 X B m n s) (hb : Below X.heap.size X Y) : SaidAt w0 Y B m n s := by
  obtain ⟨va, vs, h1, h2, h3⟩ := h
  exact ⟨va, vs, (hb.block B (lt_block h1)).trans h1, h2, h3.keep (hb.block m h3.lt)⟩
def opAt (items : List OItem) {n : Nat} (i : Fin n) : Opn := (items.getD i.1 noOItem).1
/-- The state in a round of the range over an ID's operations. -/
def HrI (w W5 : World) (B m : Nat) (items : List OItem) {n : Nat} (pre : List (Fin n)) (W : World) : Prop :=
  Wr2 B m W5 W ∧ ∃ s, saysS (pre.map (opAt items)) said0 = some s ∧ (s.begun = true ∨ s = said0) ∧ SaidAt w W B m pre.length s
theorem hrI_own {w W5 : World} {B m : Nat} {items : List OItem} {n : Nat} {Bd : Nat} (h5 : W5.heap.size ≤ Bd) (hB : B < Bd) (hm : m < Bd) : OwnFrom Bd (fun (pre : List (Fin n)) W => HrI w W5 B m items pre W) := fun pre X Y row hs hg hr => by
  obtain ⟨h1, s, h2, h3, h4⟩ := hs
  exact ⟨h1.grown hg (fun r e => by have := (hr r e).1; omega), s, h2, h3, h4.grown hg (fun r e => by have := (hr r e).1; omega)⟩
theorem HrI.later {w W5 X Y : World} {B m : Nat} {items : List OItem} {n : Nat} {pre : List (Fin n)} (h : HrI w W5 B m items pre X) (hb : Below X.heap.size X Y) : HrI w W5 B m items pre Y := by
  obtain ⟨h1, s, h2, h3, h4⟩ := h
  exact ⟨h1.trans (Wr2.of_below hb), s, h2, h3, h4.later hb⟩
theorem Wr2.keeps {B m Bd : Nat} {X Y : World} (h : Wr2 B m X Y) (hB : B < Bd) (hm : m < Bd) : KeepsFrom Bd X Y := ⟨h.size, fun k o hk ho _ => (h.block k (lt_block ho) (by omega) (by omega)).trans ho⟩
/-- The way out when an operation is not possible. -/
def HrX (W5 : World) (r2 r3 B m : Nat) (items : List OItem) {n : Nat} (pre : List (Fin n)) (W : World) : Prop :=
  saysS (pre.map (opAt items)) said0 = none ∧ W.heap[r2]? = some (.cells #[.slice none 0 0] 23 (0, 0)) ∧ W.heap[r3]? = some (.cells #[.int .i64 6] 26 (0, 0)) ∧ (W.os = W5.os ∧ W.tape = W5.tape ∧ W.output = W5.output ∧ W5.heap.size ≤ W.heap.size) ∧ ∀ k, k < W5.heap.size → k ≠ r2 → k ≠ r3 → k ≠ B → k ≠ m → W.heap[k]? = W5.heap[k]?
theorem hrX_own {W5 : World} {r2 r3 B m : Nat} {items : List OItem} {n : Nat} {Bd : Nat} (h5 : W5.heap.size ≤ Bd) (h2 : r2 < Bd) (h3 : r3 < Bd) : OwnFrom Bd (fun (pre : List (Fin n)) W => HrX W5 r2 r3 B m items pre W) := fun pre X Y row hs hg hr => by
  obtain ⟨h1, g2, g3, ⟨e1, e2, e3, e4⟩, h4⟩ := hs
  refine ⟨h1, (hg.block r2 (lt_block g2) (fun e => by have := (hr r2 e.symm).1; omega)).trans g2, (hg.block r3 (lt_block g3) (fun e => by have := (hr r3 e.symm).1; omega)).trans g3, ⟨hg.os.trans e1, hg.tape.trans e2, hg.output.trans e3, Nat.le_trans e4 hg.size⟩, fun k hk k1 k2 k3 k4 => (hg.block k (by omega) (fun e => by have := (hr k e.symm).1; omega)).trans (h4 k hk k1 k2 k3 k4)⟩
theorem Wr2.ofK {B m n₀ Ba Bi : Nat} {w w' : World} (h : Wr2 B m w w') (h1 : n₀ ≤ B) (h2 : n₀ ≤ m) (h3 : n₀ ≤ w.heap.size) (ha : Ba < w.heap.size) (hi : Bi < w.heap.size) (a1 : Ba ≠ B) (a2 : Ba ≠ m) (i1 : Bi ≠ B) (i2 : Bi ≠ m) : OfK n₀ Ba Bi w w' :=
  ⟨⟨h.os, h.tape, h.output, h.size, fun k hk => h.block k (by omega) (by omega) (by omega)⟩, h.block Ba ha a1 a2, h.block Bi hi i1 i2⟩
/-- What the outer loop keeps. -/
def NmI (ops : List Opn) (ids : List Int) (w w1 : World) (k : Nat) (v6 v7 : Value) (ds : List Deferred) (wr : World) : Prop :=
  Below w1.heap.size w1 wr ∧ OwnOs w1.heap.size w wr v6 ((ids.take k).flatMap fun id => delsS id (sayD id ops)) ∧ OwnOs w1.heap.size w wr v7 ((ids.take k).flatMap fun id => othersS id (sayD id ops)) ∧ (∀ j, v6.ownBlock = some j → v7.ownBlock ≠ some j) ∧ Colls w1.heap.size ds wr ∧ ∀ id ∈ ids.take k, (saysS (ofId id ops) said0).isSome = true
theorem hrX_mk {W5 X : World} {r2 r3 B m : Nat} {items : List OItem} {n : Nat} {pre : List (Fin n)} (hs : saysS (pre.map (opAt items)) said0 = none) (h : Wr2 B m W5 X) (hne : r2 ≠ r3) {v2 v3 : Value}
    (h2 : X.heap[r2]? = some (.cells #[v2] 23 (0, 0))) (h3 : X.heap[r3]? = some (.cells #[v3] 26 (0, 0))) : HrX W5 r2 r3 B m items pre ((X.setCell ⟨r2, 0, none⟩ (.slice none 0 0)).setCell ⟨r3, 0, none⟩ (.int .i64 6)) := by
  have b1 := ((Below.refl 0 X).setCell (p := ⟨r2, 0, none⟩) (Nat.zero_le _) (.slice none 0 0)).setCell (p := ⟨r3, 0, none⟩) (Nat.zero_le _) (.int .i64 6)
  refine ⟨hs, (Below.heap_setCell _ _ _ _ hne).trans (block_set h2 _), block_set ((Below.heap_setCell _ _ _ _ (Ne.symm hne)).trans h3) _, ⟨b1.os.trans h.os, b1.tape.trans h.tape, b1.output.trans h.output, Nat.le_trans h.size b1.size⟩, fun k hk k2 k3 k4 k5 => ?_⟩
  rw [Below.heap_setCell _ _ _ _ k3, Below.heap_setCell _ _ _ _ k2]
  exact h.block k hk k4 k5
theorem own_src {base : Nat} {w : World} {ad : Option Addr} {n c : Nat} {l : List OItem} (h : OwnT opCells 16 53 base w (.slice ad n c) l) (hn : l.length = n) : SrcAt opCells w ad l :=
  srcAt_of opCells_len noOItem fun i hi => by
    obtain ⟨g, rfl, _, hc⟩ := OwnT.cell opCells_len noOItem h hn (by omega)
    exact ⟨g, 0, rfl, fun j hj => hc i (by omega) j hj⟩
/-- What a round of the outer loop keeps behind the inner range: both lists, the state of said, and the marks. -/
structure MdI (w w1 : World) (m B P hi nn : Nat) (s : SaidS) (va vs : Value) (L6 L7 : List Opn) (v6 v7 : Value) (ds : List Deferred) (W : World) : Prop where
  below : Below w1.heap.size w1 W
  l6 : OwnOs w1.heap.size w W v6 L6
  l7 : OwnOs w1.heap.size w W v7 L7
  apart : ∀ j, v6.ownBlock = some j → v7.ownBlock ≠ some j
  o6 : ∀ j, v6.ownBlock = some j → j < m ∨ P < j
  o7 : ∀ j, v7.ownBlock = some j → j < m ∨ hi ≤ j
  marks : Colls w1.heap.size ds W
  said : W.heap[B]? = some (.cells (saidC s va vs m) 77 (0, 0))
  box : W.heap[P]? = some (.cells #[.pointer (some ⟨B, 0, none⟩)] 74 (0, 0))
  fld : FldM w W m nn s
  hmB : m < B
  hBP : B < P
  hPh : P < hi
  hhi : hi ≤ W.heap.size
  hm : w1.heap.size ≤ m
section
variable {w w1 : World} {m B P hi nn : Nat} {s : SaidS} {va vs : Value} {L6 L7 : List Opn} {v6 v7 : Value} {ds : List Deferred} {W : World}
theorem MdI.later (h : MdI w w1 m B P hi nn s va vs L6 L7 v6 v7 ds W) {W' : World} (hb : Below W.heap.size W W') : MdI w w1 m B P hi nn s va vs L6 L7 v6 v7 ds W' :=
  ⟨below_step h.below hb, h.l6.keep hb, h.l7.keep hb, h.apart, h.o6, h.o7, h.marks.same fun D _ hD => hb.block D (lt_block hD), block_later hb h.said, block_later hb h.box, h.fld.keep (hb.block m h.fld.lt), h.hmB, h.hBP, h.hPh, Nat.le_trans h.hhi hb.size, h.hm⟩
/-- Only list 7 appends from now on: what has been laid since stays. -/
theorem MdI.raise (h : MdI w w1 m B P hi nn s va vs L6 L7 v6 v7 ds W) (h7 : ∀ j, v7.ownBlock = some j → j < m) {hi' : Nat} (h1 : hi ≤ hi') (h2 : hi' ≤ W.heap.size) : MdI w w1 m B P hi' nn s va vs L6 L7 v6 v7 ds W :=
  ⟨h.below, h.l6, h.l7, h.apart, h.o6, fun j hj => .inl (h7 j hj), h.marks, h.said, h.box, h.fld, h.hmB, h.hBP, Nat.lt_of_lt_of_le h.hPh h1, h2, h.hm⟩
theorem MdI.app6 (h : MdI w w1 m B P hi nn s va vs L6 L7 v6 v7 ds W) {W' : World} {v6' : Value} {L6' : List Opn} (ho : OwnOs w1.heap.size w W' v6' L6') (hg : W.grownBy W' v6.ownBlock) (hb : Below w1.heap.size W W') (hat : v6'.ownBlock = v6.ownBlock ∨ v6'.ownBlock = some W.heap.size) : MdI w w1 m B P hi nn s va vs L6' L7 v6' v7 ds W' := by
  have hBl := lt_block h.said
  have hPl := lt_block h.box
  have hml := h.fld.lt
  have h1 := h.hmB
  have h2 := h.hBP
  have h3 := h.hPh
  have h4 := h.hhi
  have ne : ∀ k, m ≤ k → k ≤ P → some k ≠ v6.ownBlock := fun k hk1 hk2 e => by rcases h.o6 k e.symm with q | q <;> omega
  refine ⟨h.below.trans hb, ho, h.l7.same fun j hj => hg.block j ((h.l7.lt j hj).2) (fun e => h.apart j e.symm hj), fun j hj hj7 => ?_, fun j hj => ?_, h.o7, h.marks.same fun D _ hD => hg.block D (lt_block hD) (fun e => ?_), (hg.block B hBl (ne B (by omega) (by omega))).trans h.said, (hg.block P hPl (ne P (by omega) (by omega))).trans h.box, h.fld.keep (hg.block m hml (ne m (by omega) (by omega))), h1, h2, h3, Nat.le_trans h4 hg.size, h.hm⟩
  · rcases hat with e | e
    · exact h.apart j (by rw [← e, hj]) hj7
    · rw [e] at hj; cases hj
      have := (h.l7.lt _ hj7).2
      omega
  · rcases hat with e | e
    · exact h.o6 j (by rw [← e, hj])
    · rw [e] at hj; cases hj
      exact .inr hPl
  · obtain ⟨o, ho', hc⟩ := h.l6.cells D e.symm
    rw [hD] at ho'; cases ho'; cases hc
theorem MdI.app7 (h : MdI w w1 m B P hi nn s va vs L6 L7 v6 v7 ds W) {W' : World} {v7' : Value} {L7' : List Opn} (ho : OwnOs w1.heap.size w W' v7' L7') (hg : W.grownBy W' v7.ownBlock) (hb : Below w1.heap.size W W') (hat : v7'.ownBlock = v7.ownBlock ∨ v7'.ownBlock = some W.heap.size) : MdI w w1 m B P hi nn s va vs L6 L7' v6 v7' ds W' := by
  have hBl := lt_block h.said
  have hPl := lt_block h.box
  have hml := h.fld.lt
  have h1 := h.hmB
  have h2 := h.hBP
  have h3 := h.hPh
  have h4 := h.hhi
  have ne : ∀ k, m ≤ k → k ≤ P → some k ≠ v7.ownBlock := fun k hk1 hk2 e => by rcases h.o7 k e.symm with q | q <;> omega
  refine ⟨h.below.trans hb, h.l6.same fun j hj => hg.block j ((h.l6.lt j hj).2) (fun e => h.apart j hj e.symm), ho, fun j hj hj7 => ?_, h.o6, fun j hj => ?_, h.marks.same fun D _ hD => hg.block D (lt_block hD) (fun e => ?_), (hg.block B hBl (ne B (by omega) (by omega))).trans h.said, (hg.block P hPl (ne P (by omega) (by omega))).trans h.box, h.fld.keep (hg.block m hml (ne m (by omega) (by omega))), h1, h2, h3, Nat.le_trans h4 hg.size, h.hm⟩
  · rcases hat with e | e
    · exact h.apart j hj (by rw [← e, hj7])
    · rw [e] at hj7; cases hj7
      have := (h.l6.lt _ hj).2
      omega
  · rcases hat with e | e
    · exact h.o7 j (by rw [← e, hj])
    · rw [e] at hj; cases hj
      exact .inr h4
  · obtain ⟨o, ho', hc⟩ := h.l7.cells D e.symm
    rw [hD] at ho'; cases ho'; cases hc
theorem MdI.kinds (h : MdI w w1 m B P hi nn s va vs L6 L7 v6 v7 ds W) {W' : World} (hg : W.grownBy W' v7.ownBlock) {base n : Nat} {v : Value} {xs : List Value} (hr : W.ownsRow base 3 1 v n xs) (hb : m ≤ base) (hlt : ∀ j, v.ownBlock = some j → j < hi) : W'.ownsRow base 3 1 v n xs :=
  own_same hr fun j hj => hg.block j (by have := hlt j hj; have := h.hhi; omega) fun e => by
    have h1 := own_block hr j hj
    have h2 := hlt j hj
    rcases h.o7 j e.symm with q | q <;> omega
end
theorem mdI_start {ops : List Opn} {ids : List Int} {w w1 wr W5 W : World} {k : Nat} {v6 v7 : Value} {ds : List Deferred} {D : Nat} (h : NmI ops ids w w1 k v6 v7 ds wr) (h5 : Below wr.heap.size wr W5) (hs5 : W5.heap.size = wr.heap.size + 5) (hP : W5.heap[wr.heap.size + 2]? = some (.cells #[.pointer (some ⟨wr.heap.size + 1, 0, none⟩)] 74 (0, 0)))
    (hw : Wr2 (wr.heap.size + 1) wr.heap.size W5 W) {s : SaidS} {nn : Nat} (hsd : SaidAt w W (wr.heap.size + 1) wr.heap.size nn s) (hD : W5.heap.size ≤ D) (hdef : W.heap[D]? = some (.deferred (some []))) :
    ∃ va vs, PartsAt w s.feat va vs ∧ (∀ j, v7.ownBlock = some j → j < wr.heap.size) ∧ MdI w w1 wr.heap.size (wr.heap.size + 1) (wr.heap.size + 2) (wr.heap.size + 3) nn s va vs ((ids.take k).flatMap fun id => delsS id (sayD id ops)) ((ids.take k).flatMap fun id => othersS id (sayD id ops)) v6 v7 ({ target := .collected D, args := #[] } :: ds) W := by
  obtain ⟨hb, h6, h7, ha, hc, hy⟩ := h
  obtain ⟨va, vs, q, hp, hf⟩ := hsd
  have hs := hw.size
  have old : ∀ j, j < wr.heap.size → W.heap[j]? = wr.heap[j]? := fun j hj => (hw.block j (by omega) (by omega) (by omega)).trans (h5.block j hj)
  have bw : Below w1.heap.size w1 W := ⟨hw.os.trans (h5.os.trans hb.os), hw.tape.trans (h5.tape.trans hb.tape), hw.output.trans (h5.output.trans hb.output), by have := hb.size; omega, fun j hj => (old j (by have := hb.size; omega)).trans (hb.block j hj)⟩
  have hc' : Colls w1.heap.size ds W := hc.same fun E hE hEd => old E (lt_block hEd)
  refine ⟨va, vs, hp, fun j hj => (h7.lt j hj).2, bw, h6.same fun j hj => old j (h6.lt j hj).2, h7.same fun j hj => old j (h7.lt j hj).2, ha, fun j hj => .inl (h6.lt j hj).2, fun j hj => .inl (h7.lt j hj).2, hc'.cons (by have := hb.size; omega) hdef (fun d hd e => ?_), q, hw.block_ne hP (by omega) (by omega), hf, by omega, by omega, by omega, by omega, hb.size⟩
  obtain ⟨bs, rfl, _, hbs⟩ := hc
  obtain ⟨x, hx, rfl⟩ := List.mem_map.1 hd
  cases e
  have := lt_block (hbs _ hx).2
  omega
theorem MdI.end_ {ops : List Opn} {ids : List Int} {w w1 W : World} {k m B P hi nn : Nat} {s : SaidS} {va vs v6 v7 : Value} {ds : List Deferred} {id : Int} (hid : ids.getD k 0 = id) (hk : k < ids.length) {L6 L7 : List Opn} (h : MdI w w1 m B P hi nn s va vs L6 L7 v6 v7 ds W) (h6 : L6 = (ids.take k).flatMap (fun id => delsS id (sayD id ops)) ++ delsS id (sayD id ops)) (h7 : L7 = (ids.take k).flatMap (fun id => othersS id (sayD id ops)) ++ othersS id (sayD id ops))
    (hy : ∀ id ∈ ids.take k, (saysS (ofId id ops) said0).isSome = true) (hi' : (saysS (ofId id ops) said0).isSome = true) : NmI ops ids w w1 (k + 1) v6 v7 ds W := by
  have ht : ids.take (k + 1) = ids.take k ++ [id] := by rw [take_snoc 0 hk, hid]
  refine ⟨h.below, ?_, ?_, h.apart, h.marks, fun x hx => ?_⟩
  · rw [ht, List.flatMap_append, List.flatMap_cons, List.flatMap_nil, List.append_nil, ← h6]; exact h.l6
  · rw [ht, List.flatMap_append, List.flatMap_cons, List.flatMap_nil, List.append_nil, ← h7]; exact h.l7
  · rw [ht] at hx
    rcases List.mem_append.1 hx with hx | hx
    · exact hy x hx
    · obtain rfl : x = id := by simpa using hx
      exact hi'
theorem nm_len {ops : List Opn} {ids : List Int} (ho : ∀ o ∈ ops, OpOk o) (ht : TouchL ops ids) (hl : ops.length ≤ 100) (k : Nat) : ((ids.take k).flatMap fun id => delsS id (sayD id ops)).length ≤ 100 ∧ ((ids.take k).flatMap fun id => othersS id (sayD id ops)).length ≤ 100 := by
  have h := norm_len (fun o h => opForm (ho o h)) ht
  have pre : ∀ f : Int → List Opn, ((ids.take k).flatMap f).length ≤ (ids.flatMap f).length := fun f => by
    conv => rhs; rw [← List.take_append_drop k ids, List.flatMap_append, List.length_append]
    omega
  have h1 := pre fun id => delsS id (sayD id ops)
  have h2 := pre fun id => othersS id (sayD id ops)
  unfold normL at h
  rw [List.length_append] at h
  omega
theorem others_len {ops : List Opn} {ids : List Int} (ho : ∀ o ∈ ops, OpOk o) (ht : TouchL ops ids) (hl : ops.length ≤ 100) (id : Int) : (delsS id (sayD id ops)).length ≤ 1 ∧ (fieldsS (sayD id ops)).length ≤ 3 := by
  unfold delsS fieldsS
  constructor
  · split <;> simp
  · cases (sayD id ops).mv <;> cases (sayD id ops).dp <;> cases (sayD id ops).sy <;> simp
theorem colls_stop {ops : List Opn} {ids : List Int} {w w1 wr W5 W : World} {k n : Nat} {v6 v7 : Value} {ds : List Deferred} {items : List OItem} {pre : List (Fin n)} {D r2 r3 : Nat} (h : NmI ops ids w w1 k v6 v7 ds wr) (h5 : Below wr.heap.size wr W5) (hs5 : W5.heap.size = wr.heap.size + 5) (hw : HrX W5 r2 r3 (wr.heap.size + 1) wr.heap.size items pre W) (h2 : r2 < w1.heap.size) (h3 : r3 < w1.heap.size) (hD : W5.heap.size ≤ D) (hdef : W.heap[D]? = some (.deferred (some []))) :
    Colls w1.heap.size ({ target := .collected D, args := #[] } :: ds) W := by
  obtain ⟨hb, h6, h7, ha, hc, hy⟩ := h
  obtain ⟨_, _, _, ⟨_, _, _, hs⟩, hk⟩ := hw
  have hc' : Colls w1.heap.size ds W := hc.same fun E hE hEd => by
    have := lt_block hEd
    exact (hk E (by omega) (by omega) (by omega) (by omega) (by omega)).trans (h5.block E this)
  refine hc'.cons (by have := hb.size; omega) hdef (fun d hd e => ?_)
  obtain ⟨bs, rfl, _, hbs⟩ := hc
  obtain ⟨x, hx, rfl⟩ := List.mem_map.1 hd
  cases e
  have := lt_block (hbs _ hx).2
  omega
theorem OffC.below {B B' : Nat} {a W W' : World} (h : OffC B' W W') (hb : Below B a W) (hB : B ≤ B') : Below B a W' :=
  ⟨h.1.1.trans hb.os, h.1.2.1.trans hb.tape, h.1.2.2.1.trans hb.output, Nat.le_trans hb.size h.1.2.2.2, fun k hk => (h.2.1 k (by omega)).trans (hb.block k hk)⟩
theorem hrX_below {w W5 W : World} {r3 B m : Nat} {items : List OItem} {n : Nat} {pre : List (Fin n)} (h : HrX W5 w.heap.size r3 B m items pre W) (hb : Below w.heap.size w W5) (h3 : w.heap.size ≤ r3) (hB : w.heap.size ≤ B) (hm : w.heap.size ≤ m) : Below w.heap.size w W := by
  obtain ⟨_, _, _, ⟨e1, e2, e3, e4⟩, hk⟩ := h
  exact ⟨e1.trans hb.os, e2.trans hb.tape, e3.trans hb.output, Nat.le_trans hb.size e4, fun k hk' => (hk k (by have := hb.size; omega) (by omega) (by omega) (by omega) (by omega)).trans (hb.block k hk')⟩
theorem OwnOs.len {base : Nat} {w0 w : World} {a : Option Addr} {n c : Nat} {l : List Opn} (h : OwnOs base w0 w (.slice a n c) l) : l.length = n := by
  obtain ⟨ad, c', e⟩ := h.form
  cases e
  rfl
theorem dels_tt (id : Int) (b t k : Bool) (f : Feat) (mv dp sy : Option Opn) : delsS id ⟨b, true, true, t, k, f, mv, dp, sy⟩ = [delO id] := rfl
theorem dels_tf (id : Int) (b t k : Bool) (f : Feat) (mv dp sy : Option Opn) : delsS id ⟨b, true, false, t, k, f, mv, dp, sy⟩ = [] := rfl
theorem dels_f (id : Int) (b d t k : Bool) (f : Feat) (mv dp sy : Option Opn) : delsS id ⟨b, false, d, t, k, f, mv, dp, sy⟩ = [] := rfl
theorem others_tt (id : Int) (b p d : Bool) (f : Feat) (mv dp sy : Option Opn) : othersS id ⟨b, p, d, true, true, f, mv, dp, sy⟩ = [⟨1, id, f, 0, 0, 0, 0, 0⟩] := rfl
theorem others_tf (id : Int) (b p d : Bool) (f : Feat) (mv dp sy : Option Opn) : othersS id ⟨b, p, d, true, false, f, mv, dp, sy⟩ = fieldsS ⟨b, p, d, true, false, f, mv, dp, sy⟩ := rfl
theorem others_f (id : Int) (b p d k : Bool) (f : Feat) (mv dp sy : Option Opn) : othersS id ⟨b, p, d, false, k, f, mv, dp, sy⟩ = [] := rfl
theorem says_no {ops : List Opn} {ids : List Int} {items : List OItem} {n : Nat} {id : Int} {pre : List (Fin n)} (hl : items.length = n) (ho : items.map Prod.fst = ops) (hp : pre <+: ofN id items n n) (h : saysS (pre.map (opAt items)) said0 = none) (hm : id ∈ ids) : ¬ SaysAll ids ops := fun ha => by
  have h1 := ha id hm
  obtain ⟨b, hb⟩ := hp
  have h2 : ofId id ops = pre.map (opAt items) ++ b.map (opAt items) := by
    rw [← List.map_append, hb]
    exact (ofN_ops id hl ho).symm
  rw [h2, says_none _ _ _ h] at h1
  cases h1
theorem row_later {base n : Nat} {w w' : World} {v : Value} {xs : List Value} (h : w.ownsRow base 3 1 v n xs) (hb : Below w.heap.size w w') : w'.ownsRow base 3 1 v n xs :=
  own_same h fun j hj => hb.block j (by obtain ⟨o, ho, _⟩ := own_cells h j hj; exact lt_block ho)
def NormP (ops : List Opn) (w : World) (e : Ending) (w' : World) : Prop := ∃ ids : List Int, TouchL ops ids ∧ Below w.heap.size w w' ∧
  ((SaysAll ids ops ∧ ∃ (ad : Option Addr) (n c : Nat), (normL ids ops).length = n ∧ e = .returned (.tuple #[.slice ad n c, .int .i64 0]) ∧ OpsAt w' (.slice ad n c) (normL ids ops)) ∨ (¬ SaysAll ids ops ∧ e = .returned (.tuple #[.slice none 0 0, .int .i64 6])))
end Go.Proofs.YtpidmgkjnomigaaGreat
