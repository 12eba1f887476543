/-
  Own work. What the chain's functions come to, whatever the data: numbers' bits, values, versions.
-/
import Derived.Test.YtnlmnejellipdaaGreatN0
namespace Go.Proofs.YtnlmnejellipdaaGreat.Chn
open Go X
set_option maxRecDepth 100000
attribute [local irreducible] X.Go' X.GoO X.GoR X.GoG X.GoC X.GoF X.GoFV X.GoFG X.Ex X.GoD X.GoDV X.GoDG
set_option linter.unusedVariables false
set_option linter.unusedSimpArgs false

/-! ## Numbers -/
def nanN (b : Nat) : Bool := decide (b / 4503599627370496 % 2048 = 2047 ∧ 0 < b % 4503599627370496)
def NANB : Nat := 9221120237041090561
def nb (b : Nat) : Nat := bif nanN b then NANB else b
theorem nb_nan : nanN NANB = true := by decide
theorem nb_nb (b : Nat) : nb (nb b) = nb b := by
  unfold nb
  cases h : nanN b with
  | true => simp [nb_nan]
  | false => simp [h]

theorem order_self (b : Nat) (hb : b < 18446744073709551616) : (FloatKind.f64.format.order b b != some .eq) = nanN b := by
  have hf : FloatKind.f64.format = Ieee.double := rfl
  have e1 : Ieee.double.signWeight = 9223372036854775808 := by decide
  have e2 : Ieee.double.binade = 4503599627370496 := by decide
  have e3 : Ieee.double.infRung = 9218868437227405312 := by decide
  rw [hf]
  unfold Ieee.Format.order Ieee.Format.read nanN
  simp only [e1, e2, e3]
  by_cases h1 : b % 9223372036854775808 < 4503599627370496
  · have : ¬ (b / 4503599627370496 % 2048 = 2047 ∧ 0 < b % 4503599627370496) := by omega
    simp only [h1, if_true, this, decide_false, Ieee.Datum.order]
    simp [compare, compareOfLessAndEq]
  · by_cases h2 : b % 9223372036854775808 < 9218868437227405312
    · have : ¬ (b / 4503599627370496 % 2048 = 2047 ∧ 0 < b % 4503599627370496) := by omega
      simp only [h1, h2, if_false, if_true, this, decide_false, Ieee.Datum.order]
      simp [compare, compareOfLessAndEq]
    · by_cases h3 : b % 9223372036854775808 = 9218868437227405312
      · have : ¬ (b / 4503599627370496 % 2048 = 2047 ∧ 0 < b % 4503599627370496) := by omega
        simp only [h1, h2, h3, if_false, if_true, this, decide_false, Ieee.Datum.order]
        simp [compare, compareOfLessAndEq]
      · have : b / 4503599627370496 % 2048 = 2047 ∧ 0 < b % 4503599627370496 := by omega
        simp only [h1, h2, h3, if_false, this, decide_true, Ieee.Datum.order]
        simp

theorem bin_fneq {m : Mem} {b : Nat} (hb : b < 18446744073709551616) : binE Tryz.prog .neq 152 (Fl b) (Fl b) m = some (.val (.bool (nanN b)) m) := by
  rw [← order_self b hb]
  kernel_rfl

theorem isNaN_spec {m : Mem} {b : Nat} (hb : b < 18446744073709551616) : Ca 153 [Fl b] m (.bool (nanN b)) m := by
  refine callX_of (call_go (F := _) rfl rfl fun Q hQ => ?_)
  simp only [symA, go_opsd, symB, wantedX, X.put, X.look, Arg.ev, keepOf, restrict, evs, evO, initEnv, xres, tup, noTup, cls, quiet, Nat.reduceAdd, Nat.reduceEqDiff, ↓reduceIte, reduceCtorEq, goInt, exists_eq_left', eq_self, Int.reduceLT, Int.reduceLE, Int.reduceEq, Int.reduceNeg, Int.reduceAdd, Int.reduceSub, forall_const, ne_eq, undef, Nat.reducePow, Nat.reduceDiv, Nat.reduceMod, bin_fneq hb]
  exact hQ _ _ _ rfl ⟨rfl, rfl⟩
theorem fbits_spec {m : Mem} {b : Nat} : Ca 126 [Fl b] m (U (b : Int)) m := ⟨0, by kernel_rfl⟩
theorem ffrom_spec {m : Mem} {n : Int} : Ca 94 [U n] m (Fl n.toNat) m := ⟨0, by kernel_rfl⟩
theorem bits_spec {m : Mem} {b : Nat} (hb : b < 18446744073709551616) : Ca 120 [Fl b] m (U (nb b : Nat)) m := by
  refine callX_of (call_go (F := _) rfl rfl fun Q hQ => ?_)
  cases h : nanN b with
  | true =>
    have e := isNaN_spec (m := m) hb
    rw [h] at e
    have e2 : nb b = NANB := by unfold nb; rw [h]; rfl
    rw [e2] at hQ
    simp only [symA, go_opsd, symB, wantedX, X.put, X.look, Arg.ev, keepOf, restrict, evs, evO, initEnv, xres, tup, noTup, cls, quiet, Nat.reduceAdd, Nat.reduceEqDiff, ↓reduceIte, reduceCtorEq, goInt, exists_eq_left', eq_self, Int.reduceLT, Int.reduceLE, Int.reduceEq, Int.reduceNeg, Int.reduceAdd, Int.reduceSub, forall_const, ne_eq, undef, Nat.reducePow, Nat.reduceDiv, Nat.reduceMod, goR_call e]
    exact hQ _ _ _ rfl ⟨rfl, rfl⟩
  | false =>
    have e := isNaN_spec (m := m) hb
    rw [h] at e
    have e2 : nb b = b := by unfold nb; rw [h]; rfl
    rw [e2] at hQ
    simp only [symA, go_opsd, symB, wantedX, X.put, X.look, Arg.ev, keepOf, restrict, evs, evO, initEnv, xres, tup, noTup, cls, quiet, Nat.reduceAdd, Nat.reduceEqDiff, ↓reduceIte, reduceCtorEq, goInt, exists_eq_left', eq_self, Int.reduceLT, Int.reduceLE, Int.reduceEq, Int.reduceNeg, Int.reduceAdd, Int.reduceSub, forall_const, ne_eq, undef, Nat.reducePow, Nat.reduceDiv, Nat.reduceMod, goR_call e, goR_call fbits_spec]
    exact hQ _ _ _ rfl ⟨rfl, rfl⟩
theorem nb_lt {b : Nat} (hb : b < 18446744073709551616) : nb b < 18446744073709551616 := by
  unfold nb
  cases nanN b with
  | true => show NANB < _; decide
  | false => exact hb
theorem from_spec {m : Mem} {b : Nat} (hb : b < 18446744073709551616) : Ca 121 [U (b : Int)] m (Fl (nb b)) m := by
  refine callX_of (call_go (F := _) rfl rfl fun Q hQ => ?_)
  have h1 := ffrom_spec (m := m) (n := (b : Int))
  have h2 := ffrom_spec (m := m) (n := (nb b : Int))
  rw [Int.toNat_natCast] at h1 h2
  simp only [symA, go_opsd, symB, wantedX, X.put, X.look, Arg.ev, keepOf, restrict, evs, evO, initEnv, xres, tup, noTup, cls, quiet, Nat.reduceAdd, Nat.reduceEqDiff, ↓reduceIte, reduceCtorEq, goInt, exists_eq_left', eq_self, Int.reduceLT, Int.reduceLE, Int.reduceEq, Int.reduceNeg, Int.reduceAdd, Int.reduceSub, forall_const, ne_eq, undef, Nat.reducePow, Nat.reduceDiv, Nat.reduceMod, goR_call h1, goR_call (bits_spec hb), goR_call h2]
  exact hQ _ _ _ rfl ⟨rfl, rfl⟩

/-! ## The document's -/
theorem parts_spec {m : Mem} {b : Nat} (hb : b < 18446744073709551616) : Ca 157 [Fl b] m (.tuple #[.bool (decide ((9223372036854775808 : Int) ≤ b)), U ((b / 4503599627370496 % 2048 : Nat) : Int), U ((b % 4503599627370496 : Nat) : Int)]) m := by
  refine callX_of (call_go (F := _) rfl rfl fun Q hQ => ?_)
  have q1 : binE Tryz.prog .quo 34 (U (b : Int)) (U 4503599627370496) m = some (.val (U ((b / 4503599627370496 : Nat) : Int)) m) := by
    rw [bin_quo (by decide), Int.tdiv_eq_ediv_of_nonneg (by omega), wrap_u64 (by omega) (by omega)]
    rfl
  have q2 : ∀ c : Nat, binE Tryz.prog .rem 34 (U (c : Int)) (U 2048) m = some (.val (U ((c % 2048 : Nat) : Int)) m) := fun c => by
    rw [bin_rem (by decide), Int.tmod_eq_emod_of_nonneg (by omega)]
    rfl
  have q3 : binE Tryz.prog .rem 34 (U (b : Int)) (U 4503599627370496) m = some (.val (U ((b % 4503599627370496 : Nat) : Int)) m) := by
    rw [bin_rem (by decide), Int.tmod_eq_emod_of_nonneg (by omega)]
    rfl
  simp only [symA, go_opsd, symB, wantedX, X.put, X.look, Arg.ev, keepOf, restrict, evs, evO, initEnv, xres, tup, noTup, cls, quiet, Nat.reduceAdd, Nat.reduceEqDiff, ↓reduceIte, reduceCtorEq, goInt, exists_eq_left', eq_self, Int.reduceLT, Int.reduceLE, Int.reduceEq, Int.reduceNeg, Int.reduceAdd, Int.reduceSub, forall_const, ne_eq, undef, Nat.reducePow, Nat.reduceDiv, Nat.reduceMod, goR_call fbits_spec, q1, q2, q3]
  exact hQ _ _ _ rfl ⟨rfl, rfl⟩
theorem rnan_spec {m : Mem} {b : Nat} (hb : b < 18446744073709551616) : Ca 125 [Fl b] m (.bool (nanN b)) m := by
  refine callX_of (call_go (F := _) rfl rfl fun Q hQ => ?_)
  by_cases h1 : ((b / 4503599627370496 % 2048 : Nat) : Int) = 2047
  · by_cases h2 : (0 : Int) < ((b % 4503599627370496 : Nat) : Int)
    · have e : nanN b = true := by unfold nanN; rw [decide_eq_true_eq]; exact ⟨by omega, by omega⟩
      rw [e] at hQ
      simp only [symA, go_opsd, symB, wantedX, X.put, X.look, Arg.ev, keepOf, restrict, evs, evO, initEnv, xres, tup, noTup, cls, quiet, Nat.reduceAdd, Nat.reduceEqDiff, ↓reduceIte, reduceCtorEq, goInt, exists_eq_left', eq_self, Int.reduceLT, Int.reduceLE, Int.reduceEq, Int.reduceNeg, Int.reduceAdd, Int.reduceSub, forall_const, ne_eq, undef, Nat.reducePow, Nat.reduceDiv, Nat.reduceMod, goR_call (parts_spec hb), h1, h2]
      exact hQ _ _ _ rfl ⟨rfl, rfl⟩
    · have e : nanN b = false := by unfold nanN; rw [decide_eq_false_iff_not]; omega
      rw [e] at hQ
      simp only [symA, go_opsd, symB, wantedX, X.put, X.look, Arg.ev, keepOf, restrict, evs, evO, initEnv, xres, tup, noTup, cls, quiet, Nat.reduceAdd, Nat.reduceEqDiff, ↓reduceIte, reduceCtorEq, goInt, exists_eq_left', eq_self, Int.reduceLT, Int.reduceLE, Int.reduceEq, Int.reduceNeg, Int.reduceAdd, Int.reduceSub, forall_const, ne_eq, undef, Nat.reducePow, Nat.reduceDiv, Nat.reduceMod, goR_call (parts_spec hb), h1, h2]
      exact hQ _ _ _ rfl ⟨rfl, rfl⟩
  · have e : nanN b = false := by unfold nanN; rw [decide_eq_false_iff_not]; omega
    rw [e] at hQ
    simp only [symA, go_opsd, symB, wantedX, X.put, X.look, Arg.ev, keepOf, restrict, evs, evO, initEnv, xres, tup, noTup, cls, quiet, Nat.reduceAdd, Nat.reduceEqDiff, ↓reduceIte, reduceCtorEq, goInt, exists_eq_left', eq_self, Int.reduceLT, Int.reduceLE, Int.reduceEq, Int.reduceNeg, Int.reduceAdd, Int.reduceSub, forall_const, ne_eq, undef, Nat.reducePow, Nat.reduceDiv, Nat.reduceMod, goR_call (parts_spec hb), h1]
    exact hQ _ _ _ rfl ⟨rfl, rfl⟩
theorem rbits_spec {m : Mem} {b : Nat} (hb : b < 18446744073709551616) : Ca 93 [Fl b] m (U (nb b : Nat)) m := by
  refine callX_of (call_go (F := _) rfl rfl fun Q hQ => ?_)
  cases h : nanN b with
  | true =>
    have e := rnan_spec (m := m) hb
    rw [h] at e
    have e2 : nb b = NANB := by unfold nb; rw [h]; rfl
    rw [e2] at hQ
    simp only [symA, go_opsd, symB, wantedX, X.put, X.look, Arg.ev, keepOf, restrict, evs, evO, initEnv, xres, tup, noTup, cls, quiet, Nat.reduceAdd, Nat.reduceEqDiff, ↓reduceIte, reduceCtorEq, goInt, exists_eq_left', eq_self, Int.reduceLT, Int.reduceLE, Int.reduceEq, Int.reduceNeg, Int.reduceAdd, Int.reduceSub, forall_const, ne_eq, undef, Nat.reducePow, Nat.reduceDiv, Nat.reduceMod, goR_call e]
    exact hQ _ _ _ rfl ⟨rfl, rfl⟩
  | false =>
    have e := rnan_spec (m := m) hb
    rw [h] at e
    have e2 : nb b = b := by unfold nb; rw [h]; rfl
    rw [e2] at hQ
    simp only [symA, go_opsd, symB, wantedX, X.put, X.look, Arg.ev, keepOf, restrict, evs, evO, initEnv, xres, tup, noTup, cls, quiet, Nat.reduceAdd, Nat.reduceEqDiff, ↓reduceIte, reduceCtorEq, goInt, exists_eq_left', eq_self, Int.reduceLT, Int.reduceLE, Int.reduceEq, Int.reduceNeg, Int.reduceAdd, Int.reduceSub, forall_const, ne_eq, undef, Nat.reducePow, Nat.reduceDiv, Nat.reduceMod, goR_call e, goR_call fbits_spec]
    exact hQ _ _ _ rfl ⟨rfl, rfl⟩
end Go.Proofs.YtnlmnejellipdaaGreat.Chn
