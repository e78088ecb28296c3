/- Opening the arguments of chapter 33's laws: nets, pieces, stops, rows of integers, numbers. -/
import Derived.Test.YtcpnkhiillgffaaFrame
import Derived.Test.YtcpnkhiillgffaaReachK
import Derived.Deep.Slices
namespace Go.Proofs.Ytcpnkhiillgffaa
open Go.ChangeShapes Go.WideShapes Go.ChangeAt Go.RowKit Go.Joins
set_option maxRecDepth 100000
section
variable {H : Type} {enc : TypeId × Value → H} {w : World} {base : Nat} {spare : Nat → Bool} {held : Bool} {r : Reach} {b0 : Nat} {v : Value} {d : DataW H} {p : List MemPlace}
theorem one_cell {v : Value} {ad : Option Addr} {n c : Nat} {cs : Array Value} (h : v.cells = cs) (hv : ∃ a n c, v = .slice a n c) (hc : cs.toList = [.slice ad n c]) : v = .slice ad n c := by
  obtain ⟨a, n', c', rfl⟩ := hv
  subst h
  simpa [Value.cells] using hc
theorem cell_spot {a : Addr} {v : Value} (h : w.cell? a = some v) : a = ⟨a.block, a.off, none⟩ := by
  obtain ⟨b, o, s⟩ := a
  cases s with
  | none => rfl
  | some s =>
    unfold World.cell? at h
    split at h <;> simp at h
theorem add_form {b o i : Nat} : (Addr.mk b o none).add i = ⟨b, o + i, none⟩ := by
  unfold Addr.add
  split
  · next h => rw [h]; rfl
  · rfl
/-- A slice of elements of k integers each reads as rows. -/
theorem rows_open {t e : TypeId} {k fuel : Nat} {cs : List Value} {x : DataW H × List MemPlace} (ht : Try.prog.underlying t = some (.slice e)) (hC : Try.prog.cellsOf e = k) (hk : 0 < k)
    (hel : ∀ fuel cs y, DataW.trod enc Try.prog w base spare held fuel e cs = some y → ∃ X : Nat → Int, ∀ j, j < k → cs[j]? = some (.int .i64 (X j)))
    (h : DataW.trod enc Try.prog w base spare held fuel t cs = some x) : ∃ ad n c X, cs = [.slice ad n c] ∧ Rows k w (.slice ad n c) n X := by
  rcases Go.Deep.open_slice ht h with ⟨h0, _⟩ | ⟨a, len, cap, m, f, D, Pl, hcs, _, hl, hm, hmm, _, hi⟩
  · exact ⟨none, 0, 0, fun _ _ => 0, h0, ⟨none, 0, rfl, by omega, fun i hi => by omega⟩⟩
  · have hlm : len ≤ m := by rw [hmm]; split <;> omega
    rw [hC] at hi
    have key : ∀ i, i < len → ∃ X : Nat → Int, ∀ j, j < k → w.cell? ((a.add (i * k)).add j) = some (.int .i64 (X j)) := by
      intro i hin
      obtain ⟨cs', h1, h2⟩ := hi i (by omega)
      obtain ⟨X, hX⟩ := hel _ _ _ h2
      obtain ⟨_, _, hat⟩ := World.cells?_some h1
      exact ⟨X, fun j hj => (hat j hj).trans (hX j hj)⟩
    obtain ⟨X, hX⟩ := Go.Deep.choose_lt (α := Nat → Int) key
    refine ⟨some a, len, cap, X, hcs, ⟨some a, cap, rfl, Nat.le_trans (Nat.le_trans (by assumption) hm) (Nat.le_refl _), fun i hin => ?_⟩⟩
    have h0 := hX 0 (by omega) 0 hk
    rw [Nat.zero_mul, show a.add 0 = a from rfl, show a.add 0 = a from rfl] at h0
    have ha := cell_spot h0
    refine ⟨a.block, a.off, by rw [← ha], fun j hj => ?_⟩
    have h1 := hX i hin j hj
    rw [ha, add_form, add_form] at h1
    exact h1
theorem el_int (fuel : Nat) (cs : List Value) (y : DataW H × List MemPlace) (h : DataW.trod enc Try.prog w base spare held fuel 3 cs = some y) : ∃ X : Nat → Int, ∀ j, j < 1 → cs[j]? = some (.int .i64 (X j)) := by
  obtain ⟨n, e, _, _⟩ := DataW.trod_int Try.underlying3 h
  exact ⟨fun _ => n, fun j hj => by obtain rfl : j = 0 := by omega
                                    rw [e]; rfl⟩
theorem tr1 {fuel : Nat} {cs : List Value} {y : DataW H × List MemPlace} (h : DataW.trod enc Try.prog w base spare held fuel 3 cs = some y) : ∃ n, cs = [.int .i64 n] := by
  obtain ⟨n, e, _, _⟩ := DataW.trod_int Try.underlying3 h
  exact ⟨n, e⟩
theorem ls2 {α : Type} {cs : List α} (h : cs.length = 2) : ∃ a b, cs = [a, b] := by
  match cs, h with
  | [a, b], _ => exact ⟨a, b, rfl⟩
theorem ls3 {α : Type} {cs : List α} (h : cs.length = 3) : ∃ a b c, cs = [a, b, c] := by
  match cs, h with
  | [a, b, c], _ => exact ⟨a, b, c, rfl⟩
theorem ls4 {α : Type} {cs : List α} (h : cs.length = 4) : ∃ a b c d, cs = [a, b, c, d] := by
  match cs, h with
  | [a, b, c, d], _ => exact ⟨a, b, c, d, rfl⟩
theorem tr_pt {fuel : Nat} {cs : List Value} {y : DataW H × List MemPlace} (h : DataW.trod enc Try.prog w base spare held fuel 39 cs = some y) : ∃ a b, cs = [.int .i64 a, .int .i64 b] := by
  obtain ⟨xs, n, _, rfl, hl, hlen, hf⟩ := DataW.trod_struct Try.underlying39 h
  have hC : Try.prog.cellsOf 39 = 2 := by kernel_rfl
  have hI : Try.prog.cellsOf 3 = 1 := by kernel_rfl
  rw [hC] at hl
  obtain ⟨c0, c1, rfl⟩ := ls2 hl
  obtain ⟨y0, y1, rfl⟩ := ls2 hlen
  obtain ⟨a, ea⟩ := tr1 (hf 0 _ rfl)
  obtain ⟨b, eb⟩ := tr1 (hf 1 _ rfl)
  simp [hI] at ea eb
  exact ⟨a, b, by rw [ea, eb]⟩
theorem tr_stop {fuel : Nat} {cs : List Value} {y : DataW H × List MemPlace} (h : DataW.trod enc Try.prog w base spare held fuel 54 cs = some y) : ∃ a b, cs = [.int .i64 a, .int .i64 b] := by
  obtain ⟨xs, n, _, rfl, hl, hlen, hf⟩ := DataW.trod_struct Try.underlying54 h
  have hC : Try.prog.cellsOf 54 = 2 := by kernel_rfl
  have hI : Try.prog.cellsOf 3 = 1 := by kernel_rfl
  rw [hC] at hl
  obtain ⟨c0, c1, rfl⟩ := ls2 hl
  obtain ⟨y0, y1, rfl⟩ := ls2 hlen
  obtain ⟨a, ea⟩ := tr1 (hf 0 _ rfl)
  obtain ⟨b, eb⟩ := tr1 (hf 1 _ rfl)
  simp [hI] at ea eb
  exact ⟨a, b, by rw [ea, eb]⟩
theorem tr_air {fuel : Nat} {cs : List Value} {y : DataW H × List MemPlace} (h : DataW.trod enc Try.prog w base spare held fuel 41 cs = some y) : ∃ a b c e, cs = [.int .i64 a, .int .i64 b, .int .i64 c, .int .i64 e] := by
  obtain ⟨xs, n, _, rfl, hl, hlen, hf⟩ := DataW.trod_struct Try.underlying41 h
  have hC : Try.prog.cellsOf 41 = 4 := by kernel_rfl
  have hI : Try.prog.cellsOf 3 = 1 := by kernel_rfl
  have hP : Try.prog.cellsOf 39 = 2 := by kernel_rfl
  rw [hC] at hl
  obtain ⟨c0, c1, c2, c3, rfl⟩ := ls4 hl
  obtain ⟨y0, y1, y2, rfl⟩ := ls3 hlen
  obtain ⟨a, ea⟩ := tr1 (hf 0 _ rfl)
  obtain ⟨b, c, eb⟩ := tr_pt (hf 1 _ rfl)
  obtain ⟨e, ee⟩ := tr1 (hf 2 _ rfl)
  simp [hI, hP] at ea eb ee
  exact ⟨a, b, c, e, by rw [ea, eb.1, eb.2, ee]⟩
theorem tr_edge {fuel : Nat} {cs : List Value} {y : DataW H × List MemPlace} (h : DataW.trod enc Try.prog w base spare held fuel 60 cs = some y) : ∃ a b c e, cs = [.int .i64 a, .int .i64 b, .int .i64 c, .int .i64 e] := by
  obtain ⟨xs, n, _, rfl, hl, hlen, hf⟩ := DataW.trod_struct Try.underlying60 h
  have hC : Try.prog.cellsOf 60 = 4 := by kernel_rfl
  have hI : Try.prog.cellsOf 3 = 1 := by kernel_rfl
  rw [hC] at hl
  obtain ⟨c0, c1, c2, c3, rfl⟩ := ls4 hl
  obtain ⟨y0, y1, y2, y3, rfl⟩ := ls4 hlen
  obtain ⟨a, ea⟩ := tr1 (hf 0 _ rfl)
  obtain ⟨b, eb⟩ := tr1 (hf 1 _ rfl)
  obtain ⟨c, ec⟩ := tr1 (hf 2 _ rfl)
  obtain ⟨e, ee⟩ := tr1 (hf 3 _ rfl)
  simp [hI] at ea eb ec ee
  exact ⟨a, b, c, e, by rw [ea, eb, ec, ee]⟩
def of2 (a b : Int) (j : Nat) : Int := if j = 0 then a else b
def of4 (a b c d : Int) (j : Nat) : Int := if j = 0 then a else if j = 1 then b else if j = 2 then c else d
theorem el_two {t : TypeId} (h2 : ∀ fuel cs (y : DataW H × List MemPlace), DataW.trod enc Try.prog w base spare held fuel t cs = some y → ∃ a b, cs = [.int .i64 a, .int .i64 b]) (fuel : Nat) (cs : List Value) (y : DataW H × List MemPlace) (h : DataW.trod enc Try.prog w base spare held fuel t cs = some y) : ∃ X : Nat → Int, ∀ j, j < 2 → cs[j]? = some (.int .i64 (X j)) := by
  obtain ⟨a, b, rfl⟩ := h2 _ _ _ h
  refine ⟨of2 a b, fun j hj => ?_⟩
  match j, hj with
  | 0, _ => rfl
  | 1, _ => rfl
theorem el_four {t : TypeId} (h2 : ∀ fuel cs (y : DataW H × List MemPlace), DataW.trod enc Try.prog w base spare held fuel t cs = some y → ∃ a b c d, cs = [.int .i64 a, .int .i64 b, .int .i64 c, .int .i64 d]) (fuel : Nat) (cs : List Value) (y : DataW H × List MemPlace) (h : DataW.trod enc Try.prog w base spare held fuel t cs = some y) : ∃ X : Nat → Int, ∀ j, j < 4 → cs[j]? = some (.int .i64 (X j)) := by
  obtain ⟨a, b, c, d, rfl⟩ := h2 _ _ _ h
  refine ⟨of4 a b c d, fun j hj => ?_⟩
  match j, hj with
  | 0, _ => rfl
  | 1, _ => rfl
  | 2, _ => rfl
  | 3, _ => rfl
theorem rows_pts {fuel : Nat} {cs : List Value} {x : DataW H × List MemPlace} (h : DataW.trod enc Try.prog w base spare held fuel 22 cs = some x) : ∃ ad n c X, cs = [.slice ad n c] ∧ Rows 2 w (.slice ad n c) n X :=
  rows_open Try.underlying22 (by kernel_rfl) (by omega) (el_two fun _ _ _ => tr_pt) h
theorem rows_edges {fuel : Nat} {cs : List Value} {x : DataW H × List MemPlace} (h : DataW.trod enc Try.prog w base spare held fuel 23 cs = some x) : ∃ ad n c X, cs = [.slice ad n c] ∧ Rows 4 w (.slice ad n c) n X :=
  rows_open Try.underlying23 (by kernel_rfl) (by omega) (el_four fun _ _ _ => tr_edge) h
theorem rows_airs {fuel : Nat} {cs : List Value} {x : DataW H × List MemPlace} (h : DataW.trod enc Try.prog w base spare held fuel 26 cs = some x) : ∃ ad n c X, cs = [.slice ad n c] ∧ Rows 4 w (.slice ad n c) n X :=
  rows_open Try.underlying26 (by kernel_rfl) (by omega) (el_four fun _ _ _ => tr_air) h
theorem rows_stops {fuel : Nat} {cs : List Value} {x : DataW H × List MemPlace} (h : DataW.trod enc Try.prog w base spare held fuel 27 cs = some x) : ∃ ad n c X, cs = [.slice ad n c] ∧ Rows 2 w (.slice ad n c) n X :=
  rows_open Try.underlying27 (by kernel_rfl) (by omega) (el_two fun _ _ _ => tr_stop) h
theorem rows_ints {fuel : Nat} {cs : List Value} {x : DataW H × List MemPlace} (h : DataW.trod enc Try.prog w base spare held fuel 28 cs = some x) : ∃ ad n c X, cs = [.slice ad n c] ∧ Rows 1 w (.slice ad n c) n X :=
  rows_open Try.underlying28 (by kernel_rfl) (by omega) el_int h
theorem open_of {t e : TypeId} {k : Nat} (ht : Try.prog.underlying t = some (.slice e)) (hr : ∀ fuel cs (x : DataW H × List MemPlace), DataW.trod enc Try.prog w base spare held fuel t cs = some x → ∃ ad n c X, cs = [.slice ad n c] ∧ Rows k w (.slice ad n c) n X)
    (hv : Value.okWide Try.prog w r b0 t v) (h : DataW.Trod enc Try.prog w base spare held t v d p) : ∃ ad n c X, v = .slice ad n c ∧ Rows k w (.slice ad n c) n X := by
  obtain ⟨fuel, hf⟩ := h
  obtain ⟨ad, n, c, X, hcs, hR⟩ := hr _ _ _ hf
  exact ⟨ad, n, c, X, one_cell rfl (okWide_slice ht hv) hcs, hR⟩
theorem open_airs (hv : Value.okWide Try.prog w r b0 26 v) (h : DataW.Trod enc Try.prog w base spare held 26 v d p) : ∃ ad n c X, v = .slice ad n c ∧ Rows 4 w (.slice ad n c) n X :=
  open_of Try.underlying26 (fun _ _ _ => rows_airs) hv h
theorem open_stops (hv : Value.okWide Try.prog w r b0 27 v) (h : DataW.Trod enc Try.prog w base spare held 27 v d p) : ∃ ad n c X, v = .slice ad n c ∧ Rows 2 w (.slice ad n c) n X :=
  open_of Try.underlying27 (fun _ _ _ => rows_stops) hv h
theorem open_ints (hv : Value.okWide Try.prog w r b0 28 v) (h : DataW.Trod enc Try.prog w base spare held 28 v d p) : ∃ ad n c X, v = .slice ad n c ∧ Rows 1 w (.slice ad n c) n X :=
  open_of Try.underlying28 (fun _ _ _ => rows_ints) hv h
theorem open_net (hv : Value.okWide Try.prog w r b0 25 v) (h : DataW.Trod enc Try.prog w base spare held 25 v d p) : ∃ ad n c X ad2 n2 c2 E, v = .agg #[.slice ad n c, .slice ad2 n2 c2] ∧ Rows 2 w (.slice ad n c) n X ∧ Rows 4 w (.slice ad2 n2 c2) n2 E := by
  obtain ⟨c0, c1, y0, y1, m, rfl, _, _, h0, h1⟩ := open_agg2 Try.underlying25 (by kernel_rfl) (by kernel_rfl) hv h
  obtain ⟨ad, n, c, X, e0, hR0⟩ := rows_pts h0
  obtain ⟨ad2, n2, c2, E, e1, hR1⟩ := rows_edges h1
  simp at e0 e1
  subst e0 e1
  exact ⟨ad, n, c, X, ad2, n2, c2, E, rfl, hR0, hR1⟩
theorem open_air (hv : Value.okWide Try.prog w r b0 41 v) (h : DataW.Trod enc Try.prog w base spare held 41 v d p) : ∃ a b c e : Int, v = .agg #[.int .i64 a, .int .i64 b, .int .i64 c, .int .i64 e] := by
  obtain ⟨cs, rfl, _⟩ := okWide_struct Try.underlying41 hv
  obtain ⟨fuel, hf⟩ := h
  obtain ⟨a, b, c, d, e⟩ := tr_air hf
  exact ⟨a, b, c, d, by rw [show cs = ⟨[.int .i64 a, .int .i64 b, .int .i64 c, .int .i64 d]⟩ from by rw [← e]; rfl]⟩
theorem open_edge (hv : Value.okWide Try.prog w r b0 60 v) (h : DataW.Trod enc Try.prog w base spare held 60 v d p) : ∃ a b c e : Int, v = .agg #[.int .i64 a, .int .i64 b, .int .i64 c, .int .i64 e] := by
  obtain ⟨cs, rfl, _⟩ := okWide_struct Try.underlying60 hv
  obtain ⟨fuel, hf⟩ := h
  obtain ⟨a, b, c, d, e⟩ := tr_edge hf
  exact ⟨a, b, c, d, by rw [show cs = ⟨[.int .i64 a, .int .i64 b, .int .i64 c, .int .i64 d]⟩ from by rw [← e]; rfl]⟩
/-- A slice of rows of integers. -/
theorem tab_open {fuel : Nat} {cs : List Value} {x : DataW H × List MemPlace} (h : DataW.trod enc Try.prog w base spare held fuel 29 cs = some x) : ∃ ad n c len T, cs = [.slice ad n c] ∧ Tab w (.slice ad n c) n len T := by
  rcases Go.Deep.open_slice1 Try.underlying29 (by kernel_rfl) h with ⟨h0, _⟩ | ⟨a, ln, cap, m, f, V, D, Pl, hcs, _, hl, hm, hmm, _, hi⟩
  · exact ⟨none, 0, 0, fun _ => 0, fun _ _ => 0, h0, ⟨none, 0, rfl, by omega, fun i hi => by omega⟩⟩
  · have hlm : ln ≤ m := by rw [hmm]; split <;> omega
    have key : ∀ i, i < ln → ∃ q : Option Addr × Nat × Nat × (Nat → Int), w.cell? (a.add i) = some (.slice q.1 q.2.1 q.2.2.1) ∧ Rows 1 w (.slice q.1 q.2.1 q.2.2.1) q.2.1 (fun j _ => q.2.2.2 j) := by
      intro i hin
      obtain ⟨h1, h2⟩ := hi i (by omega)
      obtain ⟨ad, n, c, X, e, hR⟩ := rows_ints h2
      obtain ⟨ad', c', e', hn', hc'⟩ := hR
      refine ⟨(ad, n, c, fun j => X j 0), by rw [h1]; simpa using e, ⟨ad', c', e', hn', fun i hi => ?_⟩⟩
      obtain ⟨g, o, hg, hx⟩ := hc' i hi
      refine ⟨g, o, hg, fun j hj => ?_⟩
      obtain rfl : j = 0 := by omega
      exact hx 0 hj
    obtain ⟨Q, hQ⟩ := Go.Deep.choose_lt (α := Option Addr × Nat × Nat × (Nat → Int)) key
    refine ⟨some a, ln, cap, fun t => (Q t).2.1, fun t => (Q t).2.2.2, hcs, ⟨some a, cap, rfl, Nat.le_trans (Nat.le_trans (by assumption) hm) (Nat.le_refl _), fun i hin => ?_⟩⟩
    have h0 := (hQ 0 (by omega)).1
    rw [show a.add 0 = a from rfl] at h0
    have ha := cell_spot h0
    obtain ⟨h1, h2⟩ := hQ i hin
    have h1' := h1
    rw [ha, add_form] at h1'
    obtain ⟨_, _, _, hn, _⟩ := h2
    exact ⟨a.block, a.off, (Q i).1, (Q i).2.2.1, by rw [← ha], h1', hn, (hQ i hin).2⟩
theorem open_tab (hv : Value.okWide Try.prog w r b0 29 v) (h : DataW.Trod enc Try.prog w base spare held 29 v d p) : ∃ ad n c len T, v = .slice ad n c ∧ Tab w (.slice ad n c) n len T := by
  obtain ⟨fuel, hf⟩ := h
  obtain ⟨ad, n, c, len, T, hcs, hR⟩ := tab_open hf
  exact ⟨ad, n, c, len, T, one_cell rfl (okWide_slice Try.underlying29 hv) hcs, hR⟩
end
end Go.Proofs.Ytcpnkhiillgffaa
