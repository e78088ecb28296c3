/- The walks of codec.Digest and sheet.Digest. -/
import Derived.Test.YtdmegkkifiahdaaGreatShtD
import Derived.Laws.Bits64
namespace Go.Proofs.YtdmegkkifiahdaaGreat
open Go.RowKit
set_option linter.unusedVariables false
theorem wrap_u64N (x : Int) : IntKind.u64.wrap x = (u64N x : Int) := by
  rw [IntKind.wrap_u64]
  unfold u64N
  omega
theorem dig_step {h : Nat} (x : Int) (hh : h < 18446744073709551616) :
    bits BinOp.xor IntKind.u64 (IntKind.u64.wrap (bits BinOp.xor IntKind.u64 (h : Int) (IntKind.u64.wrap x) * 11507291218515648293)) (IntKind.u64.wrap (bits BinOp.xor IntKind.u64 (h : Int) (IntKind.u64.wrap x) * 11507291218515648293) / 4294967296) = ((stepD h x : Nat) : Int) := by
  rw [wrap_u64N x, bits_xor_u64_nat h (u64N x) hh (u64N_lt x)]
  have e : IntKind.u64.wrap (((h ^^^ u64N x : Nat) : Int) * 11507291218515648293) = (((h ^^^ u64N x) * 11507291218515648293 % 18446744073709551616 : Nat) : Int) := by
    rw [IntKind.wrap_u64]
    omega
  rw [e]
  have hy : (h ^^^ u64N x) * 11507291218515648293 % 18446744073709551616 < 18446744073709551616 := Nat.mod_lt _ (by decide)
  unfold stepD mixN
  generalize (h ^^^ u64N x) * 11507291218515648293 % 18446744073709551616 = y at hy ⊢
  rw [show ((y : Nat) : Int) / 4294967296 = ((y / 4294967296 : Nat) : Int) by omega, bits_xor_u64_nat y (y / 4294967296) hy (by omega)]
theorem fold_take {α β : Type} (f : β → α → β) (d : α) {l : List α} {k : Nat} (h0 : β) (hk : k < l.length) : (l.take (k + 1)).foldl f h0 = f ((l.take k).foldl f h0) (l.getD k d) := by
  rw [List.take_succ_eq_append_getElem hk, List.foldl_append, List.getD_eq_getElem?_getD, List.getElem?_eq_getElem hk]
  rfl
theorem cdDigest_any (l : List Int) (ad : Option Addr) (c : Nat) (w : World) (h : IntsAt w (.slice ad l.length c) l) (hs : l.length ≤ 1000000) :
    Calls Tryz.prog 124 #[.slice ad l.length c] w fun e w' => e = .returned (.int .u64 (digN l : Int)) ∧ w' = w := by
  obtain ⟨n, hn⟩ : ∃ n, l.length = n := ⟨_, rfl⟩
  have H2 : Hid (Rows 1 w (.slice ad n c) n (fun i _ => l.getD i 0)) := Lib.hid (by rw [← hn]; exact h.rows)
  rw [hn] at hs ⊢
  have HN := Lib.hid hn
  clear h hn
  go_enter Tryz.func124, Tryz.ntmps124
  go_wp2
  go_loop [3, 12] (fun t i => ∃ (k : Nat) (hv : Nat), k ≤ n ∧ i = .int .i64 k ∧ hv = (l.take k).foldl stepD ((11400714819323198485 + n) % 18446744073709551616) ∧ hv < 18446744073709551616 ∧ t = .int .u64 (hv : Int)) (fun _ i => n - (intOf i).toNat)
  case atStart => exact ⟨0, 11400714819323198485 + n, by omega, rfl, by simp; omega, by omega, by congr 1⟩
  case round =>
    obtain ⟨k, hv, hk, rfl, hhv, hlt64, rfl⟩ := hrel
    have HHV := Lib.hid hhv
    clear hhv
    rcases Nat.lt_or_ge k n with hlt | hge
    · obtain ⟨g, o, rfl, hc⟩ := H2.out.row hlt
      have c0 := hc 0 (by omega)
      simp only [Nat.add_zero, Nat.mul_one] at c0
      clear hc
      obtain ⟨x, hx⟩ : ∃ x, l.getD k 0 = x := ⟨_, rfl⟩
      rw [hx] at c0
      have X := Lib.hid hx
      clear hx
      go_wp2
      go_round
      case rel => exact ⟨k + 1, stepD hv x, by omega, by go_num, by rw [fold_take stepD 0 _ (by have := HN.out; omega), ← HHV.out, X.out], stepD_lt _ _, by rw [dig_step x hlt64]⟩
      case measure => simp [intOf]; omega
    · obtain rfl : k = n := by omega
      have E := Lib.hid (show hv = digN l by rw [HHV.out]; unfold digN; rw [← HN.out, List.take_length])
      go_wp2
      go_returns
      exact ⟨by rw [← E.out]; rfl, rfl⟩
theorem shDigest_no (s : Sht) (vd vf : Value) (w : World) (hd : IntsAt w vd s.don) (hf : FeatsAt w vf s.feats) (hn : ¬ ShtOk s) :
    Calls Tryz.prog 39 #[shtV s vd vf] w fun z w' => z = .returned (.tuple #[.int .u64 0, .int .i64 1]) ∧ Below w.heap.size w w' := by
  obtain ⟨ad, cd, rfl, h1, _, _⟩ := Lists.form hd
  obtain ⟨af, cf, rfl, g1, _, _⟩ := hf.form
  have HD := Lib.hid hd
  have HF := Lib.hid hf
  have HN := Lib.hid hn
  clear hd hf h1 g1 hn
  go_enter Tryz.func39, Tryz.ntmps39
  go_wp2_with fail
  refine calls_named fun W hW => ?_
  obtain ⟨p1, hB⟩ := box1 hW
  clear hW
  (with_reducible refine (shInts_no s _ _ _ (intsL HD.out hB) (HF.out.later hB) HN.out).mono ?_)
  rintro e w1 ⟨rfl, hb1⟩
  go_wp2_with fail
  go_ret2
  exact ⟨rfl, below_step hB hb1⟩
theorem shDigest_yes (s : Sht) (vd vf : Value) (w : World) (hd : IntsAt w vd s.don) (hf : FeatsAt w vf s.feats) (hs : ShtOk s) :
    Calls Tryz.prog 39 #[shtV s vd vf] w fun z w' => z = .returned (.tuple #[.int .u64 (digN (encS s) : Int), .int .i64 0]) ∧ Below w.heap.size w w' := by
  obtain ⟨ad, cd, rfl, h1, _, _⟩ := Lists.form hd
  obtain ⟨af, cf, rfl, g1, _, _⟩ := hf.form
  have HD := Lib.hid hd
  have HF := Lib.hid hf
  have HN := Lib.hid hs
  have hlen := encS_len hs.2.1 hs.2.2.2.2.2.2.2.1 (fewEls_of hs.2.2.2.2.2.2.2)
  clear hd hf h1 g1 hs
  go_enter Tryz.func39, Tryz.ntmps39
  go_wp2_with fail
  refine calls_named fun W hW => ?_
  obtain ⟨p1, hB⟩ := box1 hW
  clear hW
  (with_reducible refine (shInts_yes s _ _ _ (intsL HD.out hB) (HF.out.later hB) HN.out).mono ?_)
  rintro e w1 ⟨ad1, c1, rfl, hi, hb1⟩
  have I := Lib.hid hi
  clear hi
  go_wp2_with fail
  (with_reducible refine (cdDigest_any (encS s) _ _ _ I.out (by omega)).mono ?_)
  rintro e w2 ⟨rfl, rfl⟩
  go_wp2_with fail
  go_ret2
  exact ⟨rfl, below_step hB hb1⟩
end Go.Proofs.YtdmegkkifiahdaaGreat
