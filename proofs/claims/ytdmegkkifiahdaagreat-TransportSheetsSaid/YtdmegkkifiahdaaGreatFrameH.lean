/- Opening sheets as arguments of chapter 14's laws. -/
import Derived.Test.YtdmegkkifiahdaaGreatFrameF
import Derived.Test.YtdmegkkifiahdaaGreatShtA
import Derived.Test.YtdmegkkifiahdaaGreatShtMath
namespace Go.Proofs.YtdmegkkifiahdaaGreat
open Go.ChangeShapes Go.WideShapes Go.ChangeAt Go.RowKit Go.Joins
set_option maxRecDepth 100000
theorem i64_wf {n : Int} (h : (Lit.int .i64 n).wf = true) : I64 n := by
  simp [Lit.wf, IntKind.min, IntKind.max, IntKind.bits, IntKind.signed] at h
  unfold I64
  omega
section
variable {H : Type} {enc : TypeId × Value → H} {w : World} {base : Nat} {spare : Nat → Bool} {held : Bool} {r : Reach} {b0 : Nat} {v : Value} {d : DataW H} {p : List MemPlace}
theorem tr_dat {fuel : Nat} {cs : List Value} {y : DataW H × List MemPlace} (h : DataW.trod enc Tryz.prog w base spare held fuel 52 cs = some y) : ∃ m : Dat, cs = [.int .i64 m.a, .int .i64 m.b, .int .i64 m.c, .int .i64 m.d, .int .i64 m.e, .int .i64 m.f, .int .i64 m.r] := by
  obtain ⟨xs, n, _, rfl, hl, hlen, hf⟩ := DataW.trod_struct Tryz.underlying52 h
  have hC : Tryz.prog.cellsOf 52 = 7 := by kernel_rfl
  have hI : Tryz.prog.cellsOf 3 = 1 := by kernel_rfl
  rw [hC] at hl
  obtain ⟨c0, c1, c2, c3, c4, c5, c6, rfl⟩ := ls7 hl
  obtain ⟨y0, y1, y2, y3, y4, y5, y6, rfl⟩ := ls7 hlen
  obtain ⟨a, e0⟩ := tr1 (hf 0 _ rfl)
  obtain ⟨b, e1⟩ := tr1 (hf 1 _ rfl)
  obtain ⟨c, e2⟩ := tr1 (hf 2 _ rfl)
  obtain ⟨d, e3⟩ := tr1 (hf 3 _ rfl)
  obtain ⟨e, e4⟩ := tr1 (hf 4 _ rfl)
  obtain ⟨f, e5⟩ := tr1 (hf 5 _ rfl)
  obtain ⟨r, e6⟩ := tr1 (hf 6 _ rfl)
  simp [hI] at e0 e1 e2 e3 e4 e5 e6
  exact ⟨⟨a, b, c, d, e, f, r⟩, by rw [e0, e1, e2, e3, e4, e5, e6]⟩
theorem tr_sheet {fuel : Nat} {cs : List Value} {y : DataW H × List MemPlace} (h : DataW.trod enc Tryz.prog w base spare held fuel 54 cs = some y) : ∃ (s : Sht) (ad : Option Addr) (c : Nat) (af : Option Addr) (cf : Nat), cs = [.int .i64 s.chart, .int .i64 s.scale, .int .i64 s.edition, .int .i64 s.dat.a, .int .i64 s.dat.b, .int .i64 s.dat.c, .int .i64 s.dat.d, .int .i64 s.dat.e, .int .i64 s.dat.f, .int .i64 s.dat.r, .int .i64 s.cap, .slice ad s.don.length c, .slice af s.feats.length cf] ∧ IntsAt w (.slice ad s.don.length c) s.don ∧ FeatsAt w (.slice af s.feats.length cf) s.feats ∧ (I64 s.edition ∧ I64 s.cap) := by
  obtain ⟨xs, n, _, rfl, hl, hlen, hf⟩ := DataW.trod_struct Tryz.underlying54 h
  have hC : Tryz.prog.cellsOf 54 = 13 := by kernel_rfl
  have hI : Tryz.prog.cellsOf 3 = 1 := by kernel_rfl
  have hD : Tryz.prog.cellsOf 52 = 7 := by kernel_rfl
  have hL : Tryz.prog.cellsOf 46 = 1 := by kernel_rfl
  have hF : Tryz.prog.cellsOf 22 = 1 := by kernel_rfl
  rw [hC] at hl
  obtain ⟨c0, c1, c2, c3, c4, c5, c6, c7, c8, c9, c10, c11, c12, rfl⟩ := ls13 hl
  obtain ⟨y0, y1, y2, y3, y4, y5, y6, rfl⟩ := ls7 hlen
  obtain ⟨chart, e0⟩ := tr1 (hf 0 _ rfl)
  obtain ⟨scale, e1⟩ := tr1 (hf 1 _ rfl)
  obtain ⟨edition, e2, w2⟩ := tr1b (hf 2 _ rfl)
  obtain ⟨m, e3⟩ := tr_dat (hf 3 _ rfl)
  obtain ⟨cap, e4, w4⟩ := tr1b (hf 4 _ rfl)
  obtain ⟨ad, nd, cd, don, e5, l5, h5⟩ := ints_tr (hf 5 _ rfl)
  obtain ⟨af, nf, cf, feats, e6, l6, h6⟩ := feats_tr (hf 6 _ rfl)
  simp [hI, hD, hL, hF] at e0 e1 e2 e3 e4 e5 e6
  subst l5 l6
  obtain ⟨e3a, e3b, e3c, e3d, e3e, e3f, e3g⟩ := e3
  exact ⟨⟨chart, scale, edition, m, cap, don, feats⟩, ad, cd, af, cf, by rw [e0, e1, e2, e3a, e3b, e3c, e3d, e3e, e3f, e3g, e4, e5, e6], h5, h6, i64_wf w2, i64_wf w4⟩
theorem open_sheet (hv : Value.okWide Tryz.prog w r b0 54 v) (h : DataW.Trod enc Tryz.prog w base spare held 54 v d p) : ∃ (s : Sht) (ad : Option Addr) (c : Nat) (af : Option Addr) (cf : Nat), v = shtV s (.slice ad s.don.length c) (.slice af s.feats.length cf) ∧ IntsAt w (.slice ad s.don.length c) s.don ∧ FeatsAt w (.slice af s.feats.length cf) s.feats ∧ (I64 s.edition ∧ I64 s.cap) := by
  obtain ⟨cs, rfl, _⟩ := okWide_struct Tryz.underlying54 hv
  obtain ⟨fuel, hf⟩ := h
  obtain ⟨s, ad, c, af, cf, e, h1, h2, h3⟩ := tr_sheet hf
  refine ⟨s, ad, c, af, cf, ?_, h1, h2, h3⟩
  obtain ⟨l⟩ := cs
  have e' : l = _ := e
  rw [e']
end
end Go.Proofs.YtdmegkkifiahdaaGreat
