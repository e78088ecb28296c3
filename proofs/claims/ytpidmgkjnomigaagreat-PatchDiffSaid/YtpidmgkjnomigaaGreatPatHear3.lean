/- said.hear: one contract. -/
import Derived.Test.YtpidmgkjnomigaaGreatPatHear2
namespace Go.Proofs.YtpidmgkjnomigaaGreat
open Go.RowKit
set_option linter.unusedVariables false
theorem fld_form {o : Opn} (h : OpForm o) (h1 : ¬ o.kind = 1) (h2 : ¬ o.kind = 2) : FldK o.kind := by
  have := kinds_of h
  unfold FldK
  omega
theorem pahear_any (B m n : Nat) (s : SaidS) (o : Opn) (ua us : Value) (w0 w : World) (hf : OpForm o) (hs : s.begun = true ∨ s = said0) (h : SaidAt w0 w B m n s) (hne : B ≠ m) (ho : PartsAt w0 o.feat ua us) (hb0 : Below w0.heap.size w0 w) (hn : n ≤ 1000) :
    Calls Tryz.prog 49 #[.pointer (some ⟨B, 0, none⟩), opV o ua us] w (HearP w0 B m n s o w) := by
  obtain ⟨va, vs, hq, hp, hm⟩ := h
  obtain ⟨fa, fc, fb, fd, rfl, rfl⟩ := hp.form
  obtain ⟨aa, ca, ab, cb, rfl, rfl⟩ := ho.form
  obtain ⟨begun, before, deleted, there, known, f, mv, dp, sy⟩ := s
  rcases hs with hs | hs
  · have hs : begun = true := hs
    subst hs
    by_cases k1 : o.kind = 1
    · cases there
      · exact hear_ins B m n before deleted false known f mv dp sy o fa fb aa ab _ _ _ _ fc fd ca cb w0 w hq hp hm hne ho k1 rfl
      · exact hear_twice B m n before deleted true known f mv dp sy o fa fb aa ab _ _ _ _ fc fd ca cb w0 w hq hp hm hne ho k1 rfl
    · cases there
      · exact hear_none B m n before deleted false known f mv dp sy o fa fb aa ab _ _ _ _ fc fd ca cb w0 w hq hp hm hne ho k1 rfl
      · by_cases k2 : o.kind = 2
        · exact hear_del B m n before deleted true known f mv dp sy o fa fb aa ab _ _ _ _ fc fd ca cb w0 w hq hp hm hne ho k2 rfl
        · have hk := fld_form hf k1 k2
          cases known
          · exact hear_fld B m n before deleted true false f mv dp sy o fa fb aa ab _ _ _ _ fc fd ca cb w0 w hq hp hm hne ho hk hn rfl rfl
          · cases hch : chgF f o with
            | none => exact hear_chg_no B m n before deleted true true f mv dp sy o fa fb aa ab _ _ _ _ fc fd ca cb w0 w _ _ _ hq hp hm hne ho hb0 rfl k1 k2 rfl rfl hch
            | some g =>
              have hc : chgR f o = (g, bakF f o, 0) := by unfold chgR; rw [hch]
              exact hear_chg B m n before deleted true true f mv dp sy o fa fb aa ab _ _ _ _ fc fd ca cb w0 w _ _ _ hq hp hm hne ho hb0 hc k1 k2 rfl rfl hch
  · cases hs
    by_cases k1 : o.kind = 1
    · exact hear_ins0 B m n false false false false noFeat none none none o fa fb aa ab _ _ _ _ fc fd ca cb w0 w hq hp hm hne ho k1
    · by_cases k2 : o.kind = 2
      · exact hear_del0 B m n false false false false noFeat none none none o fa fb aa ab _ _ _ _ fc fd ca cb w0 w hq hp hm hne ho k2
      · exact hear_fld0 B m n false false false false noFeat none none none o fa fb aa ab _ _ _ _ fc fd ca cb w0 w hq hp hm hne ho (fld_form hf k1 k2) hn rfl
end Go.Proofs.YtpidmgkjnomigaaGreat
