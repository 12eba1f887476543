/-
  Own work. The set of writes. Numbers and values, whatever the data (turned from the diff's texts); the awake example is known.
-/
import Derived.Test.YtecceimgpeookaaXStr
import Derived.Test.YtecceimgpeookaaXProg
import Derived.Test.YtecceimgpeookaaXAll
import Derived.Test.YtecceimgpeookaaXIns63
namespace Go.Proofs.Ytecceimgpeookaa
open Go X
set_option maxRecDepth 100000
set_option linter.unusedVariables false
set_option linter.unusedSimpArgs false

structure Wr where
  key : ByteArray
  gone : Bool
  num : Bool
  text : ByteArray
  bits : Nat
  deriving DecidableEq

theorem awake_known : FnIs Try.prog 8 (.known (.bool true)) := known_of mixed tab_is (n := 3000) rfl (by kernel_rfl) rfl
def F63 : XFunc := match x63 with | .code f => f | _ => ⟨0, .ret, []⟩
theorem ins_is : FnIs Try.prog 63 (.ins F63 5) := ⟨is63, insOk63⟩
def tabK (f : FuncId) : Option XDecl := if f = 8 then some (.known (.bool true)) else if f = 63 then some (.ins F63 5) else tab f
theorem tabK_is : ∀ f d, tabK f = some d → FnIs Try.prog f d := by
  intro f d h
  unfold tabK at h
  split at h
  · rename_i hf
    cases h; subst hf; exact awake_known
  · split at h
    · rename_i hf
      cases h; subst hf; exact ins_is
    · exact tab_is f d h

abbrev Ca (f : FuncId) (args : List Value) (m : Mem) (v : Value) (m' : Mem) : Prop := CallX Try.prog tabK f args m v m'
abbrev Wc (f : FuncId) (args : List Value) (m : Mem) (K : Value → Mem → Prop) : Prop := wpCall Try.prog tabK f args m K
theorem awake_call (m : Mem) : Ca 8 [] m (.bool true) m := ⟨0, rfl⟩

abbrev U (n : Int) : Value := .int .u64 n
abbrev I (n : Int) : Value := .int .i64 n
abbrev Fl (n : Nat) : Value := .float .f64 n
/-- It grows. -/
abbrev Nx (m m' : Mem) : Prop := Fm (fun _ => False) m m'

/-! ## Numbers -/
def nanN (b : Nat) : Bool := decide (b / 4503599627370496 % 2048 = 2047 ∧ 0 < b % 4503599627370496)
def NANB : Nat := 9221120237041090561
def nb (b : Nat) : Nat := bif nanN b then NANB else b
theorem nb_nan : nanN NANB = true := by decide
theorem nb_nb (b : Nat) : nb (nb b) = nb b := by
  unfold nb
  cases h : nanN b with
  | true => simp [nb_nan]
  | false => simp [h]

theorem order_self (b : Nat) (hb : b < 18446744073709551616) : (FloatKind.f64.format.order b b != some .eq) = nanN b := by
  have hf : FloatKind.f64.format = Ieee.double := rfl
  have e1 : Ieee.double.signWeight = 9223372036854775808 := by decide
  have e2 : Ieee.double.binade = 4503599627370496 := by decide
  have e3 : Ieee.double.infRung = 9218868437227405312 := by decide
  rw [hf]
  unfold Ieee.Format.order Ieee.Format.read nanN
  simp only [e1, e2, e3]
  by_cases h1 : b % 9223372036854775808 < 4503599627370496
  · have : ¬ (b / 4503599627370496 % 2048 = 2047 ∧ 0 < b % 4503599627370496) := by omega
    simp only [h1, if_true, this, decide_false, Ieee.Datum.order]
    simp [compare, compareOfLessAndEq]
  · by_cases h2 : b % 9223372036854775808 < 9218868437227405312
    · have : ¬ (b / 4503599627370496 % 2048 = 2047 ∧ 0 < b % 4503599627370496) := by omega
      simp only [h1, h2, if_false, if_true, this, decide_false, Ieee.Datum.order]
      simp [compare, compareOfLessAndEq]
    · by_cases h3 : b % 9223372036854775808 = 9218868437227405312
      · have : ¬ (b / 4503599627370496 % 2048 = 2047 ∧ 0 < b % 4503599627370496) := by omega
        simp only [h1, h2, h3, if_false, if_true, this, decide_false, Ieee.Datum.order]
        simp [compare, compareOfLessAndEq]
      · have : b / 4503599627370496 % 2048 = 2047 ∧ 0 < b % 4503599627370496 := by omega
        simp only [h1, h2, h3, if_false, this, decide_true, Ieee.Datum.order]
        simp

theorem bin_fneq {m : Mem} {b : Nat} (hb : b < 18446744073709551616) : binE Try.prog .neq 121 (Fl b) (Fl b) m = some (.val (.bool (nanN b)) m) := by
  rw [← order_self b hb]
  kernel_rfl

theorem isNaN_spec {m : Mem} {b : Nat} (hb : b < 18446744073709551616) : Ca 98 [Fl b] m (.bool (nanN b)) m := by
  refine callX_of (call_go (F := _) rfl rfl fun Q hQ => ?_)
  simp only [symA, go_opsd, symB, wantedX, X.put, X.look, Arg.ev, keepOf, restrict, evs, evO, initEnv, xres, tup, noTup, cls, quiet, Nat.reduceAdd, Nat.reduceEqDiff, ↓reduceIte, reduceCtorEq, goInt, exists_eq_left', eq_self, Int.reduceLT, Int.reduceLE, Int.reduceEq, Int.reduceNeg, Int.reduceAdd, Int.reduceSub, forall_const, ne_eq, undef, Nat.reducePow, Nat.reduceDiv, Nat.reduceMod, bin_fneq hb]
  exact hQ _ _ _ rfl ⟨rfl, rfl⟩
theorem fbits_spec {m : Mem} {b : Nat} : Ca 96 [Fl b] m (U (b : Int)) m := ⟨0, by kernel_rfl⟩
theorem ffrom_spec {m : Mem} {n : Int} : Ca 80 [U n] m (Fl n.toNat) m := ⟨0, by kernel_rfl⟩
theorem bits_spec {m : Mem} {b : Nat} (hb : b < 18446744073709551616) : Ca 83 [Fl b] m (U (nb b : Nat)) m := by
  refine callX_of (call_go (F := _) rfl rfl fun Q hQ => ?_)
  cases h : nanN b with
  | true =>
    have e := isNaN_spec (m := m) hb
    rw [h] at e
    have e2 : nb b = NANB := by unfold nb; rw [h]; rfl
    rw [e2] at hQ
    simp only [symA, go_opsd, symB, wantedX, X.put, X.look, Arg.ev, keepOf, restrict, evs, evO, initEnv, xres, tup, noTup, cls, quiet, Nat.reduceAdd, Nat.reduceEqDiff, ↓reduceIte, reduceCtorEq, goInt, exists_eq_left', eq_self, Int.reduceLT, Int.reduceLE, Int.reduceEq, Int.reduceNeg, Int.reduceAdd, Int.reduceSub, forall_const, ne_eq, undef, Nat.reducePow, Nat.reduceDiv, Nat.reduceMod, goR_call e]
    exact hQ _ _ _ rfl ⟨rfl, rfl⟩
  | false =>
    have e := isNaN_spec (m := m) hb
    rw [h] at e
    have e2 : nb b = b := by unfold nb; rw [h]; rfl
    rw [e2] at hQ
    simp only [symA, go_opsd, symB, wantedX, X.put, X.look, Arg.ev, keepOf, restrict, evs, evO, initEnv, xres, tup, noTup, cls, quiet, Nat.reduceAdd, Nat.reduceEqDiff, ↓reduceIte, reduceCtorEq, goInt, exists_eq_left', eq_self, Int.reduceLT, Int.reduceLE, Int.reduceEq, Int.reduceNeg, Int.reduceAdd, Int.reduceSub, forall_const, ne_eq, undef, Nat.reducePow, Nat.reduceDiv, Nat.reduceMod, goR_call e, goR_call fbits_spec]
    exact hQ _ _ _ rfl ⟨rfl, rfl⟩
theorem nb_lt {b : Nat} (hb : b < 18446744073709551616) : nb b < 18446744073709551616 := by
  unfold nb
  cases nanN b with
  | true => show NANB < _; decide
  | false => exact hb
theorem from_spec {m : Mem} {b : Nat} (hb : b < 18446744073709551616) : Ca 84 [U (b : Int)] m (Fl (nb b)) m := by
  refine callX_of (call_go (F := _) rfl rfl fun Q hQ => ?_)
  have h1 := ffrom_spec (m := m) (n := (b : Int))
  have h2 := ffrom_spec (m := m) (n := (nb b : Int))
  rw [Int.toNat_natCast] at h1 h2
  simp only [symA, go_opsd, symB, wantedX, X.put, X.look, Arg.ev, keepOf, restrict, evs, evO, initEnv, xres, tup, noTup, cls, quiet, Nat.reduceAdd, Nat.reduceEqDiff, ↓reduceIte, reduceCtorEq, goInt, exists_eq_left', eq_self, Int.reduceLT, Int.reduceLE, Int.reduceEq, Int.reduceNeg, Int.reduceAdd, Int.reduceSub, forall_const, ne_eq, undef, Nat.reducePow, Nat.reduceDiv, Nat.reduceMod, goR_call h1, goR_call (bits_spec hb), goR_call h2]
  exact hQ _ _ _ rfl ⟨rfl, rfl⟩

/-! ## The document's -/
theorem parts_spec {m : Mem} {b : Nat} (hb : b < 18446744073709551616) : Ca 105 [Fl b] m (.tuple #[.bool (decide ((9223372036854775808 : Int) ≤ b)), U ((b / 4503599627370496 % 2048 : Nat) : Int), U ((b % 4503599627370496 : Nat) : Int)]) m := by
  refine callX_of (call_go (F := _) rfl rfl fun Q hQ => ?_)
  have q1 : binE Try.prog .quo 32 (U (b : Int)) (U 4503599627370496) m = some (.val (U ((b / 4503599627370496 : Nat) : Int)) m) := by
    rw [bin_quo (by decide), Int.tdiv_eq_ediv_of_nonneg (by omega), wrap_u64 (by omega) (by omega)]
    rfl
  have q2 : ∀ c : Nat, binE Try.prog .rem 32 (U (c : Int)) (U 2048) m = some (.val (U ((c % 2048 : Nat) : Int)) m) := fun c => by
    rw [bin_rem (by decide), Int.tmod_eq_emod_of_nonneg (by omega)]
    rfl
  have q3 : binE Try.prog .rem 32 (U (b : Int)) (U 4503599627370496) m = some (.val (U ((b % 4503599627370496 : Nat) : Int)) m) := by
    rw [bin_rem (by decide), Int.tmod_eq_emod_of_nonneg (by omega)]
    rfl
  simp only [symA, go_opsd, symB, wantedX, X.put, X.look, Arg.ev, keepOf, restrict, evs, evO, initEnv, xres, tup, noTup, cls, quiet, Nat.reduceAdd, Nat.reduceEqDiff, ↓reduceIte, reduceCtorEq, goInt, exists_eq_left', eq_self, Int.reduceLT, Int.reduceLE, Int.reduceEq, Int.reduceNeg, Int.reduceAdd, Int.reduceSub, forall_const, ne_eq, undef, Nat.reducePow, Nat.reduceDiv, Nat.reduceMod, goR_call fbits_spec, q1, q2, q3]
  exact hQ _ _ _ rfl ⟨rfl, rfl⟩
theorem rnan_spec {m : Mem} {b : Nat} (hb : b < 18446744073709551616) : Ca 95 [Fl b] m (.bool (nanN b)) m := by
  refine callX_of (call_go (F := _) rfl rfl fun Q hQ => ?_)
  by_cases h1 : ((b / 4503599627370496 % 2048 : Nat) : Int) = 2047
  · by_cases h2 : (0 : Int) < ((b % 4503599627370496 : Nat) : Int)
    · have e : nanN b = true := by unfold nanN; rw [decide_eq_true_eq]; exact ⟨by omega, by omega⟩
      rw [e] at hQ
      simp only [symA, go_opsd, symB, wantedX, X.put, X.look, Arg.ev, keepOf, restrict, evs, evO, initEnv, xres, tup, noTup, cls, quiet, Nat.reduceAdd, Nat.reduceEqDiff, ↓reduceIte, reduceCtorEq, goInt, exists_eq_left', eq_self, Int.reduceLT, Int.reduceLE, Int.reduceEq, Int.reduceNeg, Int.reduceAdd, Int.reduceSub, forall_const, ne_eq, undef, Nat.reducePow, Nat.reduceDiv, Nat.reduceMod, goR_call (parts_spec hb), h1, h2]
      exact hQ _ _ _ rfl ⟨rfl, rfl⟩
    · have e : nanN b = false := by unfold nanN; rw [decide_eq_false_iff_not]; omega
      rw [e] at hQ
      simp only [symA, go_opsd, symB, wantedX, X.put, X.look, Arg.ev, keepOf, restrict, evs, evO, initEnv, xres, tup, noTup, cls, quiet, Nat.reduceAdd, Nat.reduceEqDiff, ↓reduceIte, reduceCtorEq, goInt, exists_eq_left', eq_self, Int.reduceLT, Int.reduceLE, Int.reduceEq, Int.reduceNeg, Int.reduceAdd, Int.reduceSub, forall_const, ne_eq, undef, Nat.reducePow, Nat.reduceDiv, Nat.reduceMod, goR_call (parts_spec hb), h1, h2]
      exact hQ _ _ _ rfl ⟨rfl, rfl⟩
  · have e : nanN b = false := by unfold nanN; rw [decide_eq_false_iff_not]; omega
    rw [e] at hQ
    simp only [symA, go_opsd, symB, wantedX, X.put, X.look, Arg.ev, keepOf, restrict, evs, evO, initEnv, xres, tup, noTup, cls, quiet, Nat.reduceAdd, Nat.reduceEqDiff, ↓reduceIte, reduceCtorEq, goInt, exists_eq_left', eq_self, Int.reduceLT, Int.reduceLE, Int.reduceEq, Int.reduceNeg, Int.reduceAdd, Int.reduceSub, forall_const, ne_eq, undef, Nat.reducePow, Nat.reduceDiv, Nat.reduceMod, goR_call (parts_spec hb), h1]
    exact hQ _ _ _ rfl ⟨rfl, rfl⟩
theorem rbits_spec {m : Mem} {b : Nat} (hb : b < 18446744073709551616) : Ca 79 [Fl b] m (U (nb b : Nat)) m := by
  refine callX_of (call_go (F := _) rfl rfl fun Q hQ => ?_)
  cases h : nanN b with
  | true =>
    have e := rnan_spec (m := m) hb
    rw [h] at e
    have e2 : nb b = NANB := by unfold nb; rw [h]; rfl
    rw [e2] at hQ
    simp only [symA, go_opsd, symB, wantedX, X.put, X.look, Arg.ev, keepOf, restrict, evs, evO, initEnv, xres, tup, noTup, cls, quiet, Nat.reduceAdd, Nat.reduceEqDiff, ↓reduceIte, reduceCtorEq, goInt, exists_eq_left', eq_self, Int.reduceLT, Int.reduceLE, Int.reduceEq, Int.reduceNeg, Int.reduceAdd, Int.reduceSub, forall_const, ne_eq, undef, Nat.reducePow, Nat.reduceDiv, Nat.reduceMod, goR_call e]
    exact hQ _ _ _ rfl ⟨rfl, rfl⟩
  | false =>
    have e := rnan_spec (m := m) hb
    rw [h] at e
    have e2 : nb b = b := by unfold nb; rw [h]; rfl
    rw [e2] at hQ
    simp only [symA, go_opsd, symB, wantedX, X.put, X.look, Arg.ev, keepOf, restrict, evs, evO, initEnv, xres, tup, noTup, cls, quiet, Nat.reduceAdd, Nat.reduceEqDiff, ↓reduceIte, reduceCtorEq, goInt, exists_eq_left', eq_self, Int.reduceLT, Int.reduceLE, Int.reduceEq, Int.reduceNeg, Int.reduceAdd, Int.reduceSub, forall_const, ne_eq, undef, Nat.reducePow, Nat.reduceDiv, Nat.reduceMod, goR_call e, goR_call fbits_spec]
    exact hQ _ _ _ rfl ⟨rfl, rfl⟩

abbrev valL (n : Bool) (t : ByteArray) (b : Nat) : List Value := [.bool n, .string t, U (b : Int)]
abbrev Wr.row (y : Wr) : List Value := [.string y.key, .bool y.gone, .bool y.num, .string y.text, U (y.bits : Int)]
structure Wr.Wf (v : Wr) : Prop where
  bits : v.bits < 18446744073709551616

def vright (n : Bool) (t : ByteArray) (b : Nat) : Bool := bif n then decide (t = .empty) && decide (nb b = b) else decide (b = 0) && decide (t.size ≤ 64)
def iszV (n : Bool) (t : ByteArray) (b : Nat) : Bool := !n && decide (t = .empty) && decide (b = 0)
def keyOk (t : ByteArray) : Bool := decide (t ≠ .empty) && decide (t.size ≤ 32)
def rightW (y : Wr) : Bool := keyOk y.key && vright y.num y.text y.bits && (!y.gone || iszV y.num y.text y.bits)

theorem calc_len {m : Mem} {t : ByteArray} {n : List Bool} : calcE Try.prog .len [9] 3 n [.string t] m = some (.val (I (t.size : Nat)) m) := by kernel_rfl
theorem size_empty {t : ByteArray} : (t.size = 0) ↔ t = .empty := by
  constructor
  · intro h
    obtain ⟨d⟩ := t
    have : d.size = 0 := h
    have : d = #[] := Array.eq_empty_of_size_eq_zero this
    rw [this]; rfl
  · rintro rfl; rfl

theorem eq_val {d : Nat} {n n' : Bool} {t t' : ByteArray} {b b' : Int} : ∀ {fs : Array Field}, Try.prog.underlying 34 = some (.struct fs) →
    eqFs Try.prog (d + 1) ⟨[.bool n, .string t, U b]⟩ ⟨[.bool n', .string t', U b']⟩ fs.toList = some (decide (n = n') && decide (t = t') && decide (b = b')) := by
  intro fs hu
  rw [Try.underlying34] at hu
  cases hu
  have p1 : ans Try.prog (Go.part 4 (⟨[.bool n, .string t, U b]⟩ : Array Value) 0) = some (.bool n) := by kernel_rfl
  have p2 : ans Try.prog (Go.part 4 (⟨[.bool n', .string t', U b']⟩ : Array Value) 0) = some (.bool n') := by kernel_rfl
  have p3 : ans Try.prog (Go.part 9 (⟨[.bool n, .string t, U b]⟩ : Array Value) 1) = some (.string t) := by kernel_rfl
  have p4 : ans Try.prog (Go.part 9 (⟨[.bool n', .string t', U b']⟩ : Array Value) 1) = some (.string t') := by kernel_rfl
  have p5 : ans Try.prog (Go.part 32 (⟨[.bool n, .string t, U b]⟩ : Array Value) 2) = some (U b) := by kernel_rfl
  have p6 : ans Try.prog (Go.part 32 (⟨[.bool n', .string t', U b']⟩ : Array Value) 2) = some (U b') := by kernel_rfl
  have q1 : ans Try.prog (Op.equalIn (d + 1) 4 (.bool n) (.bool n')) = some (n == n') := ans_equal_bool Try.underlying4
  have q2 : ans Try.prog (Op.equalIn (d + 1) 9 (.string t) (.string t')) = some (decide (t = t')) := ans_equal_text Try.underlying9
  have q3 : ans Try.prog (Op.equalIn (d + 1) 32 (U b) (U b')) = some (b == b') := ans_equal_int Try.underlying32
  simp only [eqFs, p1, p2, p3, p4, p5, p6, q1, q2, q3, Option.bind_some]
  by_cases h1 : n = n' <;> by_cases h2 : t = t' <;> by_cases h3 : b = b' <;> simp [h1, h2, h3]

theorem eq34 {m : Mem} {n n' : Bool} {t t' : ByteArray} {b b' : Int} : binE Try.prog .eql 34 (.agg ⟨[.bool n, .string t, U b]⟩) (.agg ⟨[.bool n', .string t', U b']⟩) m = some (.val (.bool (decide (n = n') && decide (t = t') && decide (b = b'))) m) :=
  bin_aeql Try.underlying34 (by kernel_rfl) (by kernel_rfl) rfl rfl (eq_val (d := 9998) Try.underlying34)
theorem ne34 {m : Mem} {n n' : Bool} {t t' : ByteArray} {b b' : Int} : binE Try.prog .neq 34 (.agg ⟨[.bool n, .string t, U b]⟩) (.agg ⟨[.bool n', .string t', U b']⟩) m = some (.val (.bool (!(decide (n = n') && decide (t = t') && decide (b = b')))) m) :=
  bin_aneq Try.underlying34 (by kernel_rfl) (by kernel_rfl) rfl rfl (eq_val (d := 9998) Try.underlying34)

/-- The same write? -/
def sameW (v w : Wr) : Bool := decide (v.key = w.key) && decide (v.gone = w.gone) && (decide (v.num = w.num) && decide (v.text = w.text) && decide (v.bits = w.bits))
theorem sameW_iff {v w : Wr} : sameW v w = true ↔ v = w := by
  obtain ⟨a, b, c, d, e⟩ := v
  obtain ⟨a', b', c', d', e'⟩ := w
  simp [sameW, and_assoc]

theorem eq_rowW {v w : Wr} : ∀ {fs : Array Field}, Try.prog.underlying 49 = some (.struct fs) → eqFs Try.prog 9999 ⟨v.row⟩ ⟨w.row⟩ fs.toList = some (sameW v w) := by
  intro fs hu
  rw [Try.underlying49] at hu
  cases hu
  have p1 : ∀ u : Wr, ans Try.prog (Go.part 9 (⟨u.row⟩ : Array Value) 0) = some (.string u.key) := fun u => by kernel_rfl
  have p2 : ∀ u : Wr, ans Try.prog (Go.part 4 (⟨u.row⟩ : Array Value) 1) = some (.bool u.gone) := fun u => by kernel_rfl
  have p3 : ∀ u : Wr, ans Try.prog (Go.part 34 (⟨u.row⟩ : Array Value) 2) = some (.agg ⟨valL u.num u.text u.bits⟩) := fun u => by kernel_rfl
  have q1 : ans Try.prog (Op.equalIn 9999 9 (.string v.key) (.string w.key)) = some (decide (v.key = w.key)) := ans_equal_text (d := 9998) Try.underlying9
  have q2 : ans Try.prog (Op.equalIn 9999 4 (.bool v.gone) (.bool w.gone)) = some (v.gone == w.gone) := ans_equal_bool (d := 9998) Try.underlying4
  have q3 : ans Try.prog (Op.equalIn 9999 34 (.agg ⟨valL v.num v.text v.bits⟩) (.agg ⟨valL w.num w.text w.bits⟩)) = some (decide (v.num = w.num) && decide (v.text = w.text) && decide ((v.bits : Int) = w.bits)) := ans_equal_struct (d := 9998) Try.underlying34 (by kernel_rfl) (eq_val (d := 9997) Try.underlying34)
  simp only [eqFs, p1, p2, p3, q1, q2, q3, Option.bind_some, sameW]
  have h3 : decide ((v.bits : Int) = w.bits) = decide (v.bits = w.bits) := decide_eq_decide.2 (by omega)
  rw [h3]
  generalize (decide (v.num = w.num) && decide (v.text = w.text) && decide (v.bits = w.bits)) = c
  by_cases h1 : v.key = w.key <;> by_cases h2 : v.gone = w.gone <;> cases c <;> simp [h1, h2]
theorem ne49 {m : Mem} {v w : Wr} : binE Try.prog .neq 49 (.agg ⟨v.row⟩) (.agg ⟨w.row⟩) m = some (.val (.bool (!sameW v w)) m) :=
  bin_aneq Try.underlying49 (by kernel_rfl) (by kernel_rfl) rfl rfl (eq_rowW Try.underlying49)

/-! ## Values -/
theorem vright_spec {m : Mem} {n : Bool} {t : ByteArray} {b : Nat} (hb : b < 18446744073709551616) : ∃ m', Ca 64 [.agg ⟨[.bool n, .string t, U (b : Int)]⟩] m (.bool (vright n t b)) m' ∧ Nx m m' := by
  refine ⟨m.push { cells := [.bool n, .string t, U (b : Int)], rw := true, spare := none, kin := [] }, callX_of (call_go (F := _) rfl rfl fun Q hQ => ?_), .push⟩
  have hnb := nb_lt hb
  cases n with
  | false =>
    by_cases h1 : (b : Int) = 0
    · have h1' : b = 0 := by omega
      by_cases h2 : (t.size : Int) ≤ 64
      · have e : vright false t b = true := by simp [vright, h1']; omega
        rw [e] at hQ
        simp only [symA, go_opsd, symB, wantedX, X.put, X.look, Arg.ev, keepOf, restrict, evs, evO, initEnv, xres, tup, noTup, cls, quiet, Nat.reduceAdd, Nat.reduceEqDiff, ↓reduceIte, reduceCtorEq, goInt, exists_eq_left', eq_self, Int.reduceLT, Int.reduceLE, Int.reduceEq, Int.reduceNeg, Int.reduceAdd, Int.reduceSub, forall_const, ne_eq, undef, Nat.reducePow, Nat.reduceDiv, Nat.reduceMod, h1, calc_len, h2]
        exact hQ _ _ _ rfl ⟨rfl, by rw [h1]⟩
      · have e : vright false t b = false := by simp [vright, h1']; omega
        rw [e] at hQ
        simp only [symA, go_opsd, symB, wantedX, X.put, X.look, Arg.ev, keepOf, restrict, evs, evO, initEnv, xres, tup, noTup, cls, quiet, Nat.reduceAdd, Nat.reduceEqDiff, ↓reduceIte, reduceCtorEq, goInt, exists_eq_left', eq_self, Int.reduceLT, Int.reduceLE, Int.reduceEq, Int.reduceNeg, Int.reduceAdd, Int.reduceSub, forall_const, ne_eq, undef, Nat.reducePow, Nat.reduceDiv, Nat.reduceMod, h1, calc_len, h2]
        exact hQ _ _ _ rfl ⟨rfl, by rw [h1]⟩
    · have e : vright false t b = false := by simp [vright]; omega
      rw [e] at hQ
      simp only [symA, go_opsd, symB, wantedX, X.put, X.look, Arg.ev, keepOf, restrict, evs, evO, initEnv, xres, tup, noTup, cls, quiet, Nat.reduceAdd, Nat.reduceEqDiff, ↓reduceIte, reduceCtorEq, goInt, exists_eq_left', eq_self, Int.reduceLT, Int.reduceLE, Int.reduceEq, Int.reduceNeg, Int.reduceAdd, Int.reduceSub, forall_const, ne_eq, undef, Nat.reducePow, Nat.reduceDiv, Nat.reduceMod, h1]
      exact hQ _ _ _ rfl ⟨rfl, rfl⟩
  | true =>
    by_cases h1 : t = .empty
    · by_cases h2 : nb b = b
      · have e : vright true t b = true := by simp [vright, h1, h2]
        rw [e] at hQ
        have h3 : ((nb (nb b) : Nat) : Int) = (b : Int) := by rw [nb_nb, h2]
        simp only [symA, go_opsd, symB, wantedX, X.put, X.look, Arg.ev, keepOf, restrict, evs, evO, initEnv, xres, tup, noTup, cls, quiet, Nat.reduceAdd, Nat.reduceEqDiff, ↓reduceIte, reduceCtorEq, goInt, exists_eq_left', eq_self, Int.reduceLT, Int.reduceLE, Int.reduceEq, Int.reduceNeg, Int.reduceAdd, Int.reduceSub, forall_const, ne_eq, undef, Nat.reducePow, Nat.reduceDiv, Nat.reduceMod, bin_seql, h1, goR_call (from_spec hb), goDV3c (from_spec hb), goDV3c (bits_spec hnb), h3]
        exact hQ _ _ _ rfl ⟨rfl, by rw [h1]⟩
      · have e : vright true t b = false := by simp [vright, h1, h2]
        rw [e] at hQ
        have h3 : ¬ ((nb (nb b) : Nat) : Int) = (b : Int) := by rw [nb_nb]; omega
        simp only [symA, go_opsd, symB, wantedX, X.put, X.look, Arg.ev, keepOf, restrict, evs, evO, initEnv, xres, tup, noTup, cls, quiet, Nat.reduceAdd, Nat.reduceEqDiff, ↓reduceIte, reduceCtorEq, goInt, exists_eq_left', eq_self, Int.reduceLT, Int.reduceLE, Int.reduceEq, Int.reduceNeg, Int.reduceAdd, Int.reduceSub, forall_const, ne_eq, undef, Nat.reducePow, Nat.reduceDiv, Nat.reduceMod, bin_seql, h1, goDV3c (from_spec hb), goDV3c (bits_spec hnb), h3]
        exact hQ _ _ _ rfl ⟨rfl, by rw [h1]⟩
    · have e : vright true t b = false := by simp [vright, h1]
      rw [e] at hQ
      simp only [symA, go_opsd, symB, wantedX, X.put, X.look, Arg.ev, keepOf, restrict, evs, evO, initEnv, xres, tup, noTup, cls, quiet, Nat.reduceAdd, Nat.reduceEqDiff, ↓reduceIte, reduceCtorEq, goInt, exists_eq_left', eq_self, Int.reduceLT, Int.reduceLE, Int.reduceEq, Int.reduceNeg, Int.reduceAdd, Int.reduceSub, forall_const, ne_eq, undef, Nat.reducePow, Nat.reduceDiv, Nat.reduceMod, bin_seql, h1]
      exact hQ _ _ _ rfl ⟨rfl, rfl⟩

theorem rvright_spec {m : Mem} {n : Bool} {t : ByteArray} {b : Nat} (hb : b < 18446744073709551616) : ∃ m', Ca 61 [.agg ⟨[.bool n, .string t, U (b : Int)]⟩] m (.bool (vright n t b)) m' ∧ Nx m m' := by
  refine ⟨m.push { cells := [.bool n, .string t, U (b : Int)], rw := true, spare := none, kin := [] }, callX_of (call_go (F := _) rfl rfl fun Q hQ => ?_), .push⟩
  cases n with
  | false =>
    by_cases h1 : (b : Int) = 0
    · have h1' : b = 0 := by omega
      by_cases h2 : (t.size : Int) ≤ 64
      · have e : vright false t b = true := by simp [vright, h1']; omega
        rw [e] at hQ
        simp only [symA, go_opsd, symB, wantedX, X.put, X.look, Arg.ev, keepOf, restrict, evs, evO, initEnv, xres, tup, noTup, cls, quiet, Nat.reduceAdd, Nat.reduceEqDiff, ↓reduceIte, reduceCtorEq, goInt, exists_eq_left', eq_self, Int.reduceLT, Int.reduceLE, Int.reduceEq, Int.reduceNeg, Int.reduceAdd, Int.reduceSub, forall_const, ne_eq, undef, Nat.reducePow, Nat.reduceDiv, Nat.reduceMod, h1, calc_len, h2]
        exact hQ _ _ _ rfl ⟨rfl, by rw [h1]⟩
      · have e : vright false t b = false := by simp [vright, h1']; omega
        rw [e] at hQ
        simp only [symA, go_opsd, symB, wantedX, X.put, X.look, Arg.ev, keepOf, restrict, evs, evO, initEnv, xres, tup, noTup, cls, quiet, Nat.reduceAdd, Nat.reduceEqDiff, ↓reduceIte, reduceCtorEq, goInt, exists_eq_left', eq_self, Int.reduceLT, Int.reduceLE, Int.reduceEq, Int.reduceNeg, Int.reduceAdd, Int.reduceSub, forall_const, ne_eq, undef, Nat.reducePow, Nat.reduceDiv, Nat.reduceMod, h1, calc_len, h2]
        exact hQ _ _ _ rfl ⟨rfl, by rw [h1]⟩
    · have e : vright false t b = false := by simp [vright]; omega
      rw [e] at hQ
      simp only [symA, go_opsd, symB, wantedX, X.put, X.look, Arg.ev, keepOf, restrict, evs, evO, initEnv, xres, tup, noTup, cls, quiet, Nat.reduceAdd, Nat.reduceEqDiff, ↓reduceIte, reduceCtorEq, goInt, exists_eq_left', eq_self, Int.reduceLT, Int.reduceLE, Int.reduceEq, Int.reduceNeg, Int.reduceAdd, Int.reduceSub, forall_const, ne_eq, undef, Nat.reducePow, Nat.reduceDiv, Nat.reduceMod, h1]
      exact hQ _ _ _ rfl ⟨rfl, rfl⟩
  | true =>
    have hff : ∀ m, Ca 80 [U (b : Int)] m (Fl b) m := fun m => by
      have := ffrom_spec (m := m) (n := (b : Int))
      rwa [Int.toNat_natCast] at this
    by_cases h1 : (t.size : Int) = 0
    · have h1' : t = .empty := size_empty.1 (by omega)
      by_cases h2 : nb b = b
      · have e : vright true t b = true := by simp [vright, h1', h2]
        rw [e] at hQ
        have h3 : ((nb b : Nat) : Int) = (b : Int) := by rw [h2]
        simp only [symA, go_opsd, symB, wantedX, X.put, X.look, Arg.ev, keepOf, restrict, evs, evO, initEnv, xres, tup, noTup, cls, quiet, Nat.reduceAdd, Nat.reduceEqDiff, ↓reduceIte, reduceCtorEq, goInt, exists_eq_left', eq_self, Int.reduceLT, Int.reduceLE, Int.reduceEq, Int.reduceNeg, Int.reduceAdd, Int.reduceSub, forall_const, ne_eq, undef, Nat.reducePow, Nat.reduceDiv, Nat.reduceMod, calc_len, h1, goDV3c (hff _), goDV3c (rbits_spec hb), h3]
        exact hQ _ _ _ rfl ⟨rfl, rfl⟩
      · have e : vright true t b = false := by simp [vright, h1', h2]
        rw [e] at hQ
        have h3 : ¬ ((nb b : Nat) : Int) = (b : Int) := by omega
        simp only [symA, go_opsd, symB, wantedX, X.put, X.look, Arg.ev, keepOf, restrict, evs, evO, initEnv, xres, tup, noTup, cls, quiet, Nat.reduceAdd, Nat.reduceEqDiff, ↓reduceIte, reduceCtorEq, goInt, exists_eq_left', eq_self, Int.reduceLT, Int.reduceLE, Int.reduceEq, Int.reduceNeg, Int.reduceAdd, Int.reduceSub, forall_const, ne_eq, undef, Nat.reducePow, Nat.reduceDiv, Nat.reduceMod, calc_len, h1, goDV3c (hff _), goDV3c (rbits_spec hb), h3]
        exact hQ _ _ _ rfl ⟨rfl, rfl⟩
    · have h1' : ¬ t = .empty := fun h => h1 (by rw [h]; rfl)
      have e : vright true t b = false := by simp [vright, h1']
      rw [e] at hQ
      simp only [symA, go_opsd, symB, wantedX, X.put, X.look, Arg.ev, keepOf, restrict, evs, evO, initEnv, xres, tup, noTup, cls, quiet, Nat.reduceAdd, Nat.reduceEqDiff, ↓reduceIte, reduceCtorEq, goInt, exists_eq_left', eq_self, Int.reduceLT, Int.reduceLE, Int.reduceEq, Int.reduceNeg, Int.reduceAdd, Int.reduceSub, forall_const, ne_eq, undef, Nat.reducePow, Nat.reduceDiv, Nat.reduceMod, calc_len, h1]
      exact hQ _ _ _ rfl ⟨rfl, rfl⟩

theorem build34 {m : Mem} : buildE m [.bool false, .string .empty, U 0] [(0, 1), (1, 1), (2, 1)] [] = some (.val (.agg ⟨[.bool false, .string .empty, U 0]⟩) m) := by kernel_rfl
theorem iszV_eq (n : Bool) (t : ByteArray) (b : Nat) : (decide (n = false) && decide (t = .empty) && decide ((b : Int) = 0)) = iszV n t b := by
  unfold iszV
  have : decide ((b : Int) = 0) = decide (b = 0) := decide_eq_decide.2 (by omega)
  rw [this]
  cases n <;> simp

theorem rkey_spec {m : Mem} {t : ByteArray} : Ca 60 [.string t] m (.bool (keyOk t)) m := by
  refine callX_of (call_go (F := _) rfl rfl fun Q hQ => ?_)
  by_cases h1 : (1 : Int) ≤ (t.size : Int)
  · have h1' : t ≠ .empty := fun h => by have := size_empty.2 h; omega
    by_cases h2 : (t.size : Int) ≤ 32
    · have e : keyOk t = true := by simp [keyOk, h1']; omega
      rw [e] at hQ
      simp only [symA, go_opsd, symB, wantedX, X.put, X.look, Arg.ev, keepOf, restrict, evs, evO, initEnv, xres, tup, noTup, cls, quiet, Nat.reduceAdd, Nat.reduceEqDiff, ↓reduceIte, reduceCtorEq, goInt, exists_eq_left', eq_self, Int.reduceLT, Int.reduceLE, Int.reduceEq, Int.reduceNeg, Int.reduceAdd, Int.reduceSub, forall_const, ne_eq, undef, Nat.reducePow, Nat.reduceDiv, Nat.reduceMod, h1, calc_len, h2]
      exact hQ _ _ _ rfl ⟨rfl, rfl⟩
    · have e : keyOk t = false := by simp [keyOk, h1']; omega
      rw [e] at hQ
      simp only [symA, go_opsd, symB, wantedX, X.put, X.look, Arg.ev, keepOf, restrict, evs, evO, initEnv, xres, tup, noTup, cls, quiet, Nat.reduceAdd, Nat.reduceEqDiff, ↓reduceIte, reduceCtorEq, goInt, exists_eq_left', eq_self, Int.reduceLT, Int.reduceLE, Int.reduceEq, Int.reduceNeg, Int.reduceAdd, Int.reduceSub, forall_const, ne_eq, undef, Nat.reducePow, Nat.reduceDiv, Nat.reduceMod, h1, calc_len, h2]
      exact hQ _ _ _ rfl ⟨rfl, rfl⟩
  · have h1' : t = .empty := size_empty.1 (by omega)
    have e : keyOk t = false := by simp [keyOk, h1']
    rw [e] at hQ
    simp only [symA, go_opsd, symB, wantedX, X.put, X.look, Arg.ev, keepOf, restrict, evs, evO, initEnv, xres, tup, noTup, cls, quiet, Nat.reduceAdd, Nat.reduceEqDiff, ↓reduceIte, reduceCtorEq, goInt, exists_eq_left', eq_self, Int.reduceLT, Int.reduceLE, Int.reduceEq, Int.reduceNeg, Int.reduceAdd, Int.reduceSub, forall_const, ne_eq, undef, Nat.reducePow, Nat.reduceDiv, Nat.reduceMod, h1, calc_len]
    exact hQ _ _ _ rfl ⟨rfl, rfl⟩

end Go.Proofs.Ytecceimgpeookaa
