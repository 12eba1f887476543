/-
  Own work. Entries: may they be, are they far? (Turned from the diff's texts.)
-/
import Derived.Test.YtglefgcnafoafaaGreatDoorFA
import Derived.Test.YtglefgcnafoafaaGreatDoorXStr
import Derived.Test.YtglefgcnafoafaaGreatDoorXOwn2
namespace Go.Proofs.YtglefgcnafoafaaGreatDoor
open Go X
set_option maxRecDepth 100000
set_option linter.unusedVariables false
set_option linter.unusedSimpArgs false
structure Ent where
  key : ByteArray
  seq : Int
  num : Bool
  text : ByteArray
  bits : Nat
  deriving DecidableEq
abbrev Fl (n : Nat) : Value := .float .f64 n

def nanN (b : Nat) : Bool := decide (b / 4503599627370496 % 2048 = 2047 ∧ 0 < b % 4503599627370496)
def NANB : Nat := 9221120237041090561
def nb (b : Nat) : Nat := bif nanN b then NANB else b
theorem nb_nan : nanN NANB = true := by decide
theorem nb_nb (b : Nat) : nb (nb b) = nb b := by
  unfold nb
  cases h : nanN b with
  | true => simp [nb_nan]
  | false => simp [h]
theorem order_self (b : Nat) (hb : b < 18446744073709551616) : (FloatKind.f64.format.order b b != some .eq) = nanN b := by
  have hf : FloatKind.f64.format = Ieee.double := rfl
  have e1 : Ieee.double.signWeight = 9223372036854775808 := by decide
  have e2 : Ieee.double.binade = 4503599627370496 := by decide
  have e3 : Ieee.double.infRung = 9218868437227405312 := by decide
  rw [hf]
  unfold Ieee.Format.order Ieee.Format.read nanN
  simp only [e1, e2, e3]
  by_cases h1 : b % 9223372036854775808 < 4503599627370496
  · have : ¬ (b / 4503599627370496 % 2048 = 2047 ∧ 0 < b % 4503599627370496) := by omega
    simp only [h1, if_true, this, decide_false, Ieee.Datum.order]
    simp [compare, compareOfLessAndEq]
  · by_cases h2 : b % 9223372036854775808 < 9218868437227405312
    · have : ¬ (b / 4503599627370496 % 2048 = 2047 ∧ 0 < b % 4503599627370496) := by omega
      simp only [h1, h2, if_false, if_true, this, decide_false, Ieee.Datum.order]
      simp [compare, compareOfLessAndEq]
    · by_cases h3 : b % 9223372036854775808 = 9218868437227405312
      · have : ¬ (b / 4503599627370496 % 2048 = 2047 ∧ 0 < b % 4503599627370496) := by omega
        simp only [h1, h2, h3, if_false, if_true, this, decide_false, Ieee.Datum.order]
        simp [compare, compareOfLessAndEq]
      · have : b / 4503599627370496 % 2048 = 2047 ∧ 0 < b % 4503599627370496 := by omega
        simp only [h1, h2, h3, if_false, this, decide_true, Ieee.Datum.order]
        simp
theorem bin_fneq {m : Mem} {b : Nat} (hb : b < 18446744073709551616) : binE Tryz.prog .neq 273 (Fl b) (Fl b) m = some (.val (.bool (nanN b)) m) := by
  rw [← order_self b hb]
  kernel_rfl
theorem isNaN_spec {m : Mem} {b : Nat} (hb : b < 18446744073709551616) : Ca 231 [Fl b] m (.bool (nanN b)) m := by
  refine callX_of (call_go (F := _) rfl rfl fun Q hQ => ?_)
  simp only [symA, go_opsd, symB, wantedX, X.put, X.look, Arg.ev, keepOf, restrict, evs, evO, initEnv, xres, tup, noTup, cls, quiet, Nat.reduceAdd, Nat.reduceEqDiff, ↓reduceIte, reduceCtorEq, goInt, exists_eq_left', eq_self, Int.reduceLT, Int.reduceLE, Int.reduceEq, Int.reduceNeg, Int.reduceAdd, Int.reduceSub, forall_const, ne_eq, undef, Nat.reducePow, Nat.reduceDiv, Nat.reduceMod, bin_fneq hb]
  exact hQ _ _ _ rfl ⟨rfl, rfl⟩
theorem fbits_spec {m : Mem} {b : Nat} : Ca 232 [Fl b] m (U (b : Int)) m := ⟨0, by kernel_rfl⟩
theorem ffrom_spec {m : Mem} {n : Int} : Ca 162 [U n] m (Fl n.toNat) m := ⟨0, by kernel_rfl⟩
theorem bits_spec {m : Mem} {b : Nat} (hb : b < 18446744073709551616) : Ca 167 [Fl b] m (U (nb b : Nat)) m := by
  refine callX_of (call_go (F := _) rfl rfl fun Q hQ => ?_)
  cases h : nanN b with
  | true =>
    have e := isNaN_spec (m := m) hb
    rw [h] at e
    have e2 : nb b = NANB := by unfold nb; rw [h]; rfl
    rw [e2] at hQ
    simp only [symA, go_opsd, symB, wantedX, X.put, X.look, Arg.ev, keepOf, restrict, evs, evO, initEnv, xres, tup, noTup, cls, quiet, Nat.reduceAdd, Nat.reduceEqDiff, ↓reduceIte, reduceCtorEq, goInt, exists_eq_left', eq_self, Int.reduceLT, Int.reduceLE, Int.reduceEq, Int.reduceNeg, Int.reduceAdd, Int.reduceSub, forall_const, ne_eq, undef, Nat.reducePow, Nat.reduceDiv, Nat.reduceMod, goR_call e]
    exact hQ _ _ _ rfl ⟨rfl, rfl⟩
  | false =>
    have e := isNaN_spec (m := m) hb
    rw [h] at e
    have e2 : nb b = b := by unfold nb; rw [h]; rfl
    rw [e2] at hQ
    simp only [symA, go_opsd, symB, wantedX, X.put, X.look, Arg.ev, keepOf, restrict, evs, evO, initEnv, xres, tup, noTup, cls, quiet, Nat.reduceAdd, Nat.reduceEqDiff, ↓reduceIte, reduceCtorEq, goInt, exists_eq_left', eq_self, Int.reduceLT, Int.reduceLE, Int.reduceEq, Int.reduceNeg, Int.reduceAdd, Int.reduceSub, forall_const, ne_eq, undef, Nat.reducePow, Nat.reduceDiv, Nat.reduceMod, goR_call e, goR_call fbits_spec]
    exact hQ _ _ _ rfl ⟨rfl, rfl⟩
theorem nb_lt {b : Nat} (hb : b < 18446744073709551616) : nb b < 18446744073709551616 := by
  unfold nb
  cases nanN b with
  | true => show NANB < _; decide
  | false => exact hb
theorem from_spec {m : Mem} {b : Nat} (hb : b < 18446744073709551616) : Ca 168 [U (b : Int)] m (Fl (nb b)) m := by
  refine callX_of (call_go (F := _) rfl rfl fun Q hQ => ?_)
  have h1 := ffrom_spec (m := m) (n := (b : Int))
  have h2 := ffrom_spec (m := m) (n := (nb b : Int))
  rw [Int.toNat_natCast] at h1 h2
  simp only [symA, go_opsd, symB, wantedX, X.put, X.look, Arg.ev, keepOf, restrict, evs, evO, initEnv, xres, tup, noTup, cls, quiet, Nat.reduceAdd, Nat.reduceEqDiff, ↓reduceIte, reduceCtorEq, goInt, exists_eq_left', eq_self, Int.reduceLT, Int.reduceLE, Int.reduceEq, Int.reduceNeg, Int.reduceAdd, Int.reduceSub, forall_const, ne_eq, undef, Nat.reducePow, Nat.reduceDiv, Nat.reduceMod, goR_call h1, goR_call (bits_spec hb), goR_call h2]
  exact hQ _ _ _ rfl ⟨rfl, rfl⟩
abbrev valL (n : Bool) (t : ByteArray) (b : Nat) : List Value := [.bool n, .string t, U (b : Int)]
abbrev Ent.row (x : Ent) : List Value := [.string x.key, I x.seq, .bool x.num, .string x.text, U (x.bits : Int)]
structure Ent.Wf (v : Ent) : Prop where
  lo : -9223372036854775808 ≤ v.seq
  hi : v.seq ≤ 9223372036854775807
  bits : v.bits < 18446744073709551616
def vright (n : Bool) (t : ByteArray) (b : Nat) : Bool := bif n then decide (t = .empty) && decide (nb b = b) else decide (b = 0) && decide (t.size ≤ 64)
def keyOk (t : ByteArray) : Bool := decide (t ≠ .empty) && decide (t.size ≤ 32)
def rightE (x : Ent) : Bool := keyOk x.key && vright x.num x.text x.bits && decide (1 ≤ x.seq)
theorem calc_len {m : Mem} {t : ByteArray} {n : List Bool} : calcE Tryz.prog .len [9] 3 n [.string t] m = some (.val (I (t.size : Nat)) m) := by kernel_rfl
theorem size_empty {t : ByteArray} : (t.size = 0) ↔ t = .empty := by
  constructor
  · intro h
    obtain ⟨d⟩ := t
    have : d.size = 0 := h
    have : d = #[] := Array.eq_empty_of_size_eq_zero this
    rw [this]; rfl
  · rintro rfl; rfl
theorem vright_spec {m : Mem} {n : Bool} {t : ByteArray} {b : Nat} (hb : b < 18446744073709551616) : ∃ m', Ca 116 [.agg ⟨[.bool n, .string t, U (b : Int)]⟩] m (.bool (vright n t b)) m' ∧ Nx m m' := by
  refine ⟨m.push { cells := [.bool n, .string t, U (b : Int)], rw := true, spare := none, kin := [] }, callX_of (call_go (F := _) rfl rfl fun Q hQ => ?_), .push⟩
  have hnb := nb_lt hb
  cases n with
  | false =>
    by_cases h1 : (b : Int) = 0
    · have h1' : b = 0 := by omega
      by_cases h2 : (t.size : Int) ≤ 64
      · have e : vright false t b = true := by simp [vright, h1']; omega
        rw [e] at hQ
        simp only [symA, go_opsd, symB, wantedX, X.put, X.look, Arg.ev, keepOf, restrict, evs, evO, initEnv, xres, tup, noTup, cls, quiet, Nat.reduceAdd, Nat.reduceEqDiff, ↓reduceIte, reduceCtorEq, goInt, exists_eq_left', eq_self, Int.reduceLT, Int.reduceLE, Int.reduceEq, Int.reduceNeg, Int.reduceAdd, Int.reduceSub, forall_const, ne_eq, undef, Nat.reducePow, Nat.reduceDiv, Nat.reduceMod, h1, calc_len, h2]
        exact hQ _ _ _ rfl ⟨rfl, by rw [h1]⟩
      · have e : vright false t b = false := by simp [vright, h1']; omega
        rw [e] at hQ
        simp only [symA, go_opsd, symB, wantedX, X.put, X.look, Arg.ev, keepOf, restrict, evs, evO, initEnv, xres, tup, noTup, cls, quiet, Nat.reduceAdd, Nat.reduceEqDiff, ↓reduceIte, reduceCtorEq, goInt, exists_eq_left', eq_self, Int.reduceLT, Int.reduceLE, Int.reduceEq, Int.reduceNeg, Int.reduceAdd, Int.reduceSub, forall_const, ne_eq, undef, Nat.reducePow, Nat.reduceDiv, Nat.reduceMod, h1, calc_len, h2]
        exact hQ _ _ _ rfl ⟨rfl, by rw [h1]⟩
    · have e : vright false t b = false := by simp [vright]; omega
      rw [e] at hQ
      simp only [symA, go_opsd, symB, wantedX, X.put, X.look, Arg.ev, keepOf, restrict, evs, evO, initEnv, xres, tup, noTup, cls, quiet, Nat.reduceAdd, Nat.reduceEqDiff, ↓reduceIte, reduceCtorEq, goInt, exists_eq_left', eq_self, Int.reduceLT, Int.reduceLE, Int.reduceEq, Int.reduceNeg, Int.reduceAdd, Int.reduceSub, forall_const, ne_eq, undef, Nat.reducePow, Nat.reduceDiv, Nat.reduceMod, h1]
      exact hQ _ _ _ rfl ⟨rfl, rfl⟩
  | true =>
    by_cases h1 : t = .empty
    · by_cases h2 : nb b = b
      · have e : vright true t b = true := by simp [vright, h1, h2]
        rw [e] at hQ
        have h3 : ((nb (nb b) : Nat) : Int) = (b : Int) := by rw [nb_nb, h2]
        simp only [symA, go_opsd, symB, wantedX, X.put, X.look, Arg.ev, keepOf, restrict, evs, evO, initEnv, xres, tup, noTup, cls, quiet, Nat.reduceAdd, Nat.reduceEqDiff, ↓reduceIte, reduceCtorEq, goInt, exists_eq_left', eq_self, Int.reduceLT, Int.reduceLE, Int.reduceEq, Int.reduceNeg, Int.reduceAdd, Int.reduceSub, forall_const, ne_eq, undef, Nat.reducePow, Nat.reduceDiv, Nat.reduceMod, bin_seql, h1, goR_call (from_spec hb), goDV3c (from_spec hb), goDV3c (bits_spec hnb), h3]
        exact hQ _ _ _ rfl ⟨rfl, by rw [h1]⟩
      · have e : vright true t b = false := by simp [vright, h1, h2]
        rw [e] at hQ
        have h3 : ¬ ((nb (nb b) : Nat) : Int) = (b : Int) := by rw [nb_nb]; omega
        simp only [symA, go_opsd, symB, wantedX, X.put, X.look, Arg.ev, keepOf, restrict, evs, evO, initEnv, xres, tup, noTup, cls, quiet, Nat.reduceAdd, Nat.reduceEqDiff, ↓reduceIte, reduceCtorEq, goInt, exists_eq_left', eq_self, Int.reduceLT, Int.reduceLE, Int.reduceEq, Int.reduceNeg, Int.reduceAdd, Int.reduceSub, forall_const, ne_eq, undef, Nat.reducePow, Nat.reduceDiv, Nat.reduceMod, bin_seql, h1, goDV3c (from_spec hb), goDV3c (bits_spec hnb), h3]
        exact hQ _ _ _ rfl ⟨rfl, by rw [h1]⟩
    · have e : vright true t b = false := by simp [vright, h1]
      rw [e] at hQ
      simp only [symA, go_opsd, symB, wantedX, X.put, X.look, Arg.ev, keepOf, restrict, evs, evO, initEnv, xres, tup, noTup, cls, quiet, Nat.reduceAdd, Nat.reduceEqDiff, ↓reduceIte, reduceCtorEq, goInt, exists_eq_left', eq_self, Int.reduceLT, Int.reduceLE, Int.reduceEq, Int.reduceNeg, Int.reduceAdd, Int.reduceSub, forall_const, ne_eq, undef, Nat.reducePow, Nat.reduceDiv, Nat.reduceMod, bin_seql, h1]
      exact hQ _ _ _ rfl ⟨rfl, rfl⟩
theorem key_spec {m : Mem} {t : ByteArray} : Ca 115 [.string t] m (.bool (keyOk t)) m := by
  refine callX_of (call_go (F := _) rfl rfl fun Q hQ => ?_)
  by_cases h1 : t = .empty
  · have e : keyOk t = false := by simp [keyOk, h1]
    rw [e] at hQ
    simp only [symA, go_opsd, symB, wantedX, X.put, X.look, Arg.ev, keepOf, restrict, evs, evO, initEnv, xres, tup, noTup, cls, quiet, Nat.reduceAdd, Nat.reduceEqDiff, ↓reduceIte, reduceCtorEq, goInt, exists_eq_left', eq_self, Int.reduceLT, Int.reduceLE, Int.reduceEq, Int.reduceNeg, Int.reduceAdd, Int.reduceSub, forall_const, ne_eq, undef, Nat.reducePow, Nat.reduceDiv, Nat.reduceMod, bin_sneq, h1]
    exact hQ _ _ _ rfl ⟨rfl, rfl⟩
  · by_cases h2 : (t.size : Int) ≤ 32
    · have e : keyOk t = true := by simp [keyOk, h1]; omega
      rw [e] at hQ
      simp only [symA, go_opsd, symB, wantedX, X.put, X.look, Arg.ev, keepOf, restrict, evs, evO, initEnv, xres, tup, noTup, cls, quiet, Nat.reduceAdd, Nat.reduceEqDiff, ↓reduceIte, reduceCtorEq, goInt, exists_eq_left', eq_self, Int.reduceLT, Int.reduceLE, Int.reduceEq, Int.reduceNeg, Int.reduceAdd, Int.reduceSub, forall_const, ne_eq, undef, Nat.reducePow, Nat.reduceDiv, Nat.reduceMod, bin_sneq, h1, calc_len, h2]
      exact hQ _ _ _ rfl ⟨rfl, rfl⟩
    · have e : keyOk t = false := by simp [keyOk, h1]; omega
      rw [e] at hQ
      simp only [symA, go_opsd, symB, wantedX, X.put, X.look, Arg.ev, keepOf, restrict, evs, evO, initEnv, xres, tup, noTup, cls, quiet, Nat.reduceAdd, Nat.reduceEqDiff, ↓reduceIte, reduceCtorEq, goInt, exists_eq_left', eq_self, Int.reduceLT, Int.reduceLE, Int.reduceEq, Int.reduceNeg, Int.reduceAdd, Int.reduceSub, forall_const, ne_eq, undef, Nat.reducePow, Nat.reduceDiv, Nat.reduceMod, bin_sneq, h1, calc_len, h2]
      exact hQ _ _ _ rfl ⟨rfl, rfl⟩
abbrev row5 (k : ByteArray) (s : Value) (n : Bool) (t : ByteArray) (c : Nat) : List Value := [.string k, s, .bool n, .string t, U (c : Int)]
/-- A row stands at an address. -/
structure At5 (m : Mem) (b off : Nat) (k : ByteArray) (s : Value) (n : Bool) (t : ByteArray) (c : Nat) : Prop where
  o : ∃ o, m.get b = some o ∧ o.cells[off]? = some (.string k) ∧ o.cells[off + 1]? = some s ∧ o.cells[off + 2]? = some (.bool n) ∧ o.cells[off + 2 + 1]? = some (.string t) ∧ o.cells[off + 2 + 2]? = some (U (c : Int))
  l5 : ldA m 5 (.pointer (some ⟨b, off, none⟩)) = some (.val (.agg ⟨row5 k s n t c⟩) m)
  l3 : ldA m 3 (.pointer (some ⟨b, off + 2, none⟩)) = some (.val (.agg ⟨valL n t c⟩) m)
theorem row_at {b : Nat} {m : Mem} {v : Value} {rows : List (List Value)} (h : RdS b m 5 v rows) {i : Nat} {k : ByteArray} {s : Value} {n : Bool} {t : ByteArray} {c : Nat} (hi : rows[i]? = some (row5 k s n t c)) :
    ∃ a c', v = .slice (some a) rows.length c' ∧ At5 m a.block (a.off + i * 5) k s n t c := by
  obtain ⟨p, c', rfl, hc, h⟩ := h
  obtain ⟨h1, a, o, rfl, h3, h4, h5⟩ := h i _ hi
  refine ⟨a, c', rfl, ⟨o, h4, h5 0 (by omega), h5 1 (by omega), h5 2 (by omega), h5 3 (by omega), h5 4 (by omega)⟩, ?_, ?_⟩
  · have := xload_cells (m := m) (b := a.block) (off := a.off + i * 5) (n := 5) (r := row5 k s n t c) h4 rfl (by omega) h5
    simp [ldA, this]
  · have := xload_cells (m := m) (b := a.block) (off := a.off + i * 5 + 2) (n := 3) (r := valL n t c) h4 rfl (by omega) (fun j hj => by
      have := h5 (2 + j) (by omega)
      rw [show a.off + i * 5 + 2 + j = a.off + i * 5 + (2 + j) by omega, this]
      match j, hj with
      | 0, _ => rfl
      | 1, _ => rfl
      | 2, _ => rfl)
    simp [ldA, this]

/-- Behind a key. -/
def prevOk : Option ByteArray → ByteArray → Bool
  | none, _ => true
  | some l, k => decide (ltT l k)

abbrev rowsE (vs : List Ent) : List (List Value) := vs.map Ent.row
abbrev RdE (b : Nat) (m : Mem) (v : Value) (vs : List Ent) : Prop := RdS b m 5 v (rowsE vs)
theorem rdE_slice {b : Nat} {m : Mem} {v : Value} {vs : List Ent} (h : RdE b m v vs) : ∃ p c, v = .slice p vs.length c := by
  obtain ⟨p, c, rfl⟩ := h.slice
  exact ⟨p, c, by simp⟩
theorem rdE_at {b : Nat} {m : Mem} {v : Value} {vs : List Ent} (h : RdE b m v vs) {i : Nat} {x : Ent} (hi : vs[i]? = some x) : ∃ a c, v = .slice (some a) vs.length c ∧ At5 m a.block (a.off + i * 5) x.key (I x.seq) x.num x.text x.bits := by
  obtain ⟨a, c, h1, h2⟩ := row_at h (i := i) (k := x.key) (s := I x.seq) (n := x.num) (t := x.text) (c := x.bits) (by simp [hi])
  exact ⟨a, c, by rw [h1]; simp, h2⟩
def okE : Option ByteArray → List Ent → Bool
  | _, [] => true
  | last, x :: r => rightE x && prevOk last x.key && okE (some x.key) r
def lastE (vs : List Ent) : Nat → Option ByteArray
  | 0 => none
  | k + 1 => (vs[k]?).map Ent.key
theorem lastE_succ {vs : List Ent} {k : Nat} {y : Ent} (h : vs[k]? = some y) : lastE vs (k + 1) = some y.key := by simp [lastE, h]

def farE (vs : List Ent) : Bool := decide (60 < vs.length) || vs.any fun x => decide (200 < x.key.size) || decide (200 < x.text.size)
theorem farE_spec {b : Nat} {m : Mem} {v : Value} {vs : List Ent} (h : RdE b m v vs) : Ca 30 [v] m (.bool (farE vs)) m := by
  refine callX_of (call_go (F := _) rfl rfl fun Q hQ => ?_)
  obtain ⟨p, c, rfl⟩ := rdE_slice h
  by_cases h0 : (60 : Int) < (vs.length : Int)
  · have e : farE vs = true := by
      have : 60 < vs.length := by omega
      simp [farE, this]
    rw [e] at hQ
    simp only [symA, go_opsd, symB, wantedX, X.put, X.look, Arg.ev, keepOf, restrict, evs, evO, initEnv, xres, tup, noTup, cls, quiet, Nat.reduceAdd, Nat.reduceEqDiff, ↓reduceIte, reduceCtorEq, goInt, exists_eq_left', eq_self, Int.reduceLT, Int.reduceLE, Int.reduceEq, Int.reduceNeg, Int.reduceAdd, Int.reduceSub, forall_const, ne_eq, undef, Nat.reducePow, Nat.reduceDiv, Nat.reduceMod, h0]
    exact hQ _ _ _ rfl ⟨rfl, rfl⟩
  · simp only [symA, go_opsd, symB, wantedX, X.put, X.look, Arg.ev, keepOf, restrict, evs, evO, initEnv, xres, tup, noTup, cls, quiet, Nat.reduceAdd, Nat.reduceEqDiff, ↓reduceIte, reduceCtorEq, goInt, exists_eq_left', eq_self, Int.reduceLT, Int.reduceLE, Int.reduceEq, Int.reduceNeg, Int.reduceAdd, Int.reduceSub, forall_const, ne_eq, undef, Nat.reducePow, Nat.reduceDiv, Nat.reduceMod, h0]
    have e0 : farE vs = vs.any fun x => decide (200 < x.key.size) || decide (200 < x.text.size) := by
      have : ¬ 60 < vs.length := by omega
      simp [farE, this]
    refine loop_go (fun j e m' => m' = m ∧ ∃ i : Nat, i ≤ vs.length ∧ j = vs.length - i ∧ (vs.any fun x => decide (200 < x.key.size) || decide (200 < x.text.size)) = ((vs.drop i).any fun x => decide (200 < x.key.size) || decide (200 < x.text.size)) ∧ e = [(0, .slice p vs.length c), (3, I i)]) vs.length ⟨rfl, 0, by omega, rfl, rfl, rfl⟩ ?_
    rintro j e m' N' B' hN hB ⟨rfl, i, hi, rfl, hany, rfl⟩
    by_cases hlt : i < vs.length
    · have hlt' : (i : Int) < (vs.length : Int) := by omega
      obtain ⟨x, hx⟩ : ∃ x, vs[i]? = some x := ⟨_, List.getElem?_eq_getElem hlt⟩
      obtain ⟨a, c', hv, ⟨o, hg, c0, c1, c2, c3, c4⟩, l5, l3⟩ := rdE_at h hx
      cases hv
      have w1 : IntKind.i64.wrap ((i : Int) + 1) = ((i + 1 : Nat) : Int) := by rw [wrap_i64 (by omega) (by omega)]; omega
      have hd : vs.drop i = x :: vs.drop (i + 1) := by
        obtain ⟨_, rfl⟩ := List.getElem?_eq_some_iff.1 hx
        exact List.drop_eq_getElem_cons hlt
      rw [hd, List.any_cons] at hany
      by_cases hk : (200 : Int) < (x.key.size : Int)
      · have e : farE vs = true := by
          have : decide (200 < x.key.size) = true := decide_eq_true (by omega)
          rw [e0, hany, this]; rfl
        rw [e] at hQ
        simp only [symA, go_opsd, symB, wantedX, X.put, X.look, Arg.ev, keepOf, restrict, evs, evO, initEnv, xres, tup, noTup, cls, quiet, Nat.reduceAdd, Nat.reduceEqDiff, ↓reduceIte, reduceCtorEq, goInt, exists_eq_left', eq_self, Int.reduceLT, Int.reduceLE, Int.reduceEq, Int.reduceNeg, Int.reduceAdd, Int.reduceSub, forall_const, ne_eq, undef, Nat.reducePow, Nat.reduceDiv, Nat.reduceMod, hlt, hlt', hg, c0, calc_len, hk]
        exact hQ _ _ _ rfl ⟨rfl, rfl⟩
      have hk' : decide (200 < x.key.size) = false := decide_eq_false (by omega)
      rw [hk', Bool.false_or] at hany
      by_cases ht : (200 : Int) < (x.text.size : Int)
      · have e : farE vs = true := by
          have : decide (200 < x.text.size) = true := decide_eq_true (by omega)
          rw [e0, hany, this]; rfl
        rw [e] at hQ
        simp only [symA, go_opsd, symB, wantedX, X.put, X.look, Arg.ev, keepOf, restrict, evs, evO, initEnv, xres, tup, noTup, cls, quiet, Nat.reduceAdd, Nat.reduceEqDiff, ↓reduceIte, reduceCtorEq, goInt, exists_eq_left', eq_self, Int.reduceLT, Int.reduceLE, Int.reduceEq, Int.reduceNeg, Int.reduceAdd, Int.reduceSub, forall_const, ne_eq, undef, Nat.reducePow, Nat.reduceDiv, Nat.reduceMod, hlt, hlt', hg, c0, c3, calc_len, hk, ht]
        exact hQ _ _ _ rfl ⟨rfl, rfl⟩
      · have ht' : decide (200 < x.text.size) = false := decide_eq_false (by omega)
        rw [ht', Bool.false_or] at hany
        simp only [symA, go_opsd, symB, wantedX, X.put, X.look, Arg.ev, keepOf, restrict, evs, evO, initEnv, xres, tup, noTup, cls, quiet, Nat.reduceAdd, Nat.reduceEqDiff, ↓reduceIte, reduceCtorEq, goInt, exists_eq_left', eq_self, Int.reduceLT, Int.reduceLE, Int.reduceEq, Int.reduceNeg, Int.reduceAdd, Int.reduceSub, forall_const, ne_eq, undef, Nat.reducePow, Nat.reduceDiv, Nat.reduceMod, hlt, hlt', hg, c0, c3, calc_len, hk, ht, w1]
        exact hN _ _ (vs.length - (i + 1)) (by omega) ⟨rfl, i + 1, by omega, rfl, hany, rfl⟩
    · have hlt' : ¬ (i : Int) < (vs.length : Int) := by omega
      have hd : vs.drop i = [] := List.drop_eq_nil_of_le (by omega)
      rw [hd] at hany
      have e : farE vs = false := by rw [e0, hany]; rfl
      rw [e] at hQ
      simp only [symA, go_opsd, symB, wantedX, X.put, X.look, Arg.ev, keepOf, restrict, evs, evO, initEnv, xres, tup, noTup, cls, quiet, Nat.reduceAdd, Nat.reduceEqDiff, ↓reduceIte, reduceCtorEq, goInt, exists_eq_left', eq_self, Int.reduceLT, Int.reduceLE, Int.reduceEq, Int.reduceNeg, Int.reduceAdd, Int.reduceSub, forall_const, ne_eq, undef, Nat.reducePow, Nat.reduceDiv, Nat.reduceMod, hlt']
      refine hB _ _ _ ?_
      simp only [symA, go_opsd, symB, wantedX, X.put, X.look, Arg.ev, keepOf, restrict, evs, evO, initEnv, xres, tup, noTup, cls, quiet, Nat.reduceAdd, Nat.reduceEqDiff, ↓reduceIte, reduceCtorEq, goInt, exists_eq_left', eq_self, Int.reduceLT, Int.reduceLE, Int.reduceEq, Int.reduceNeg, Int.reduceAdd, Int.reduceSub, forall_const, ne_eq, undef, Nat.reducePow, Nat.reduceDiv, Nat.reduceMod]
      exact hQ _ _ _ rfl ⟨rfl, rfl⟩
theorem right {b : Nat} {m : Mem} {v : Value} {vs : List Ent} (h : RdE b m v vs) (hw : ∀ x ∈ vs, x.Wf) (hl : vs.length ≤ 4611686018427387903) (hb : b ≤ m.next) : ∃ m', Ca 68 [v] m (.bool (okE none vs)) m' ∧ Nx m m' := by
  have key : Wc 68 [v] m fun r m' => r = .bool (okE none vs) ∧ Nx m m' := by
    refine call_go (F := _) rfl rfl fun Q hQ => ?_
    obtain ⟨p, c, rfl⟩ := rdE_slice h
    simp only [symA, go_opsd, symB, wantedX, X.put, X.look, Arg.ev, keepOf, restrict, evs, evO, initEnv, xres, tup, noTup, cls, quiet, Nat.reduceAdd, Nat.reduceEqDiff, ↓reduceIte, reduceCtorEq, goInt, exists_eq_left', eq_self, Int.reduceLT, Int.reduceLE, Int.reduceEq, Int.reduceNeg, Int.reduceAdd, Int.reduceSub, forall_const, ne_eq, undef, Nat.reducePow, Nat.reduceDiv, Nat.reduceMod]
    refine loop_go (fun j e m' => Nx m m' ∧ ∃ i : Nat, i ≤ vs.length ∧ j = vs.length - i ∧ okE none vs = okE (lastE vs i) (vs.drop i) ∧ e = [(0, .slice p vs.length c), (5, .slice p vs.length c), (6, I vs.length), (7, I i)]) vs.length ⟨.refl, 0, by omega, rfl, rfl, rfl⟩ ?_
    rintro j e m1 N' B' hN hB ⟨hnx, i, hi, rfl, hok, rfl⟩
    have h1 := h.fr hnx hb (fun _ h => h.elim)
    by_cases hlt : i < vs.length
    · have hlt' : (i : Int) < (vs.length : Int) := by omega
      obtain ⟨x, hx⟩ : ∃ x, vs[i]? = some x := ⟨_, List.getElem?_eq_getElem hlt⟩
      have hwx := hw x (List.mem_of_getElem? hx)
      obtain ⟨a, c', hv, ⟨o, hg, c0, c1, c2, c3, c4⟩, l5, l3⟩ := rdE_at h1 hx
      cases hv
      have w1 : IntKind.i64.wrap ((i : Int) + 1) = ((i + 1 : Nat) : Int) := by rw [wrap_i64 (by omega) (by omega)]; omega
      have hd : vs.drop i = x :: vs.drop (i + 1) := by
        obtain ⟨_, rfl⟩ := List.getElem?_eq_some_iff.1 hx
        exact List.drop_eq_getElem_cons hlt
      rw [hd, okE] at hok
      have hnext := lastE_succ hx
      obtain ⟨m2, st, g2, f2, n2⟩ := new_store (m := m1) (z := [.string .empty, I 0, .bool false, .string .empty, U 0]) (row := x.row) (n := 5) rfl rfl (by omega)
      have f12 : Nx m m2 := hnx.comp f2 fun _ _ h => h
      have k1 := key_spec (m := m2) (t := x.key)
      have l2 : ldA m2 3 (.pointer (some ⟨m1.next, 2, none⟩)) = some (.val (.agg ⟨valL x.num x.text x.bits⟩) m2) := by simp [ldA, xload, g2]
      obtain ⟨m3, r1, r2⟩ := vright_spec (m := m2) (n := x.num) (t := x.text) hwx.bits
      have g3 : m3.get m1.next = some { cells := x.row, rw := true, spare := none, kin := [] } := r2.get (by omega) (fun h => h) g2
      have l4 : ldA m3 3 (.pointer (some ⟨m1.next, 2, none⟩)) = some (.val (.agg ⟨valL x.num x.text x.bits⟩) m3) := by simp [ldA, xload, g3]
      have f3 : Nx m m3 := f12.comp r2 fun _ _ h => h
      cases hk : keyOk x.key with
      | false =>
        rw [hk] at k1
        have e : okE none vs = false := by rw [hok, rightE, hk]; simp
        rw [e] at hQ
        simp only [symA, go_opsd, symB, wantedX, X.put, X.look, Arg.ev, keepOf, restrict, evs, evO, initEnv, xres, tup, noTup, cls, quiet, Nat.reduceAdd, Nat.reduceEqDiff, ↓reduceIte, reduceCtorEq, goInt, exists_eq_left', eq_self, Int.reduceLT, Int.reduceLE, Int.reduceEq, Int.reduceNeg, Int.reduceAdd, Int.reduceSub, forall_const, ne_eq, undef, Nat.reducePow, Nat.reduceDiv, Nat.reduceMod, hlt, hlt', l5, st, g2, goDV3c k1]
        exact hQ _ _ _ rfl ⟨rfl, f12⟩
      | true =>
      rw [hk] at k1
      cases hr : vright x.num x.text x.bits with
      | false =>
        rw [hr] at r1
        have e : okE none vs = false := by rw [hok, rightE, hr]; simp
        rw [e] at hQ
        simp only [symA, go_opsd, symB, wantedX, X.put, X.look, Arg.ev, keepOf, restrict, evs, evO, initEnv, xres, tup, noTup, cls, quiet, Nat.reduceAdd, Nat.reduceEqDiff, ↓reduceIte, reduceCtorEq, goInt, exists_eq_left', eq_self, Int.reduceLT, Int.reduceLE, Int.reduceEq, Int.reduceNeg, Int.reduceAdd, Int.reduceSub, forall_const, ne_eq, undef, Nat.reducePow, Nat.reduceDiv, Nat.reduceMod, hlt, hlt', l5, st, g2, goDV3c k1, l2, goDV3c r1]
        exact hQ _ _ _ rfl ⟨rfl, f3⟩
      | true =>
      rw [hr] at r1
      by_cases hs : x.seq < 1
      · have hs' : decide (1 ≤ x.seq) = false := decide_eq_false (by omega)
        have e : okE none vs = false := by rw [hok, rightE, hs']; simp
        rw [e] at hQ
        simp only [symA, go_opsd, symB, wantedX, X.put, X.look, Arg.ev, keepOf, restrict, evs, evO, initEnv, xres, tup, noTup, cls, quiet, Nat.reduceAdd, Nat.reduceEqDiff, ↓reduceIte, reduceCtorEq, goInt, exists_eq_left', eq_self, Int.reduceLT, Int.reduceLE, Int.reduceEq, Int.reduceNeg, Int.reduceAdd, Int.reduceSub, forall_const, ne_eq, undef, Nat.reducePow, Nat.reduceDiv, Nat.reduceMod, hlt, hlt', l5, st, g2, goDV3c k1, l2, goDV3c r1, g3, hs]
        exact hQ _ _ _ rfl ⟨rfl, f3⟩
      have hre : rightE x = true := by
        have hs' : decide (1 ≤ x.seq) = true := decide_eq_true (by omega)
        rw [rightE, hk, hr, hs']; rfl
      rw [hre, Bool.true_and] at hok
      by_cases hi0 : (0 : Int) < (i : Int)
      · obtain ⟨y, hy⟩ : ∃ y, vs[i - 1]? = some y := ⟨_, List.getElem?_eq_getElem (by omega)⟩
        obtain ⟨a', c'', hv', ⟨o', hg', d0, d1, d2, d3, d4⟩, k5, k3⟩ := rdE_at (h.fr f3 hb (fun _ h => h.elim)) hy
        cases hv'
        have w2 : IntKind.i64.wrap ((i : Int) - 1) = ((i - 1 : Nat) : Int) := by rw [wrap_i64 (by omega) (by omega)]; omega
        have hlt2 : i - 1 < vs.length := by omega
        have hla : lastE vs i = some y.key := by
          obtain ⟨k, rfl⟩ : ∃ k, i = k + 1 := ⟨i - 1, by omega⟩
          exact lastE_succ hy
        rw [hla, prevOk] at hok
        by_cases hge : ltT y.key x.key
        · have hdec : decide (ltT y.key x.key) = true := decide_eq_true hge
          rw [hdec, Bool.true_and, ← hnext] at hok
          simp only [symA, go_opsd, symB, wantedX, X.put, X.look, Arg.ev, keepOf, restrict, evs, evO, initEnv, xres, tup, noTup, cls, quiet, Nat.reduceAdd, Nat.reduceEqDiff, ↓reduceIte, reduceCtorEq, goInt, exists_eq_left', eq_self, Int.reduceLT, Int.reduceLE, Int.reduceEq, Int.reduceNeg, Int.reduceAdd, Int.reduceSub, forall_const, ne_eq, undef, Nat.reducePow, Nat.reduceDiv, Nat.reduceMod, hlt, hlt', l5, st, g2, goDV3c k1, l2, goDV3c r1, g3, hs, hi0, w2, hlt2, hg', d0, bin_sgeq, hge, w1]
          exact hN _ _ (vs.length - (i + 1)) (by omega) ⟨f3, i + 1, by omega, rfl, hok, rfl⟩
        · have hdec : decide (ltT y.key x.key) = false := decide_eq_false hge
          have e : okE none vs = false := by rw [hok, hdec]; rfl
          rw [e] at hQ
          simp only [symA, go_opsd, symB, wantedX, X.put, X.look, Arg.ev, keepOf, restrict, evs, evO, initEnv, xres, tup, noTup, cls, quiet, Nat.reduceAdd, Nat.reduceEqDiff, ↓reduceIte, reduceCtorEq, goInt, exists_eq_left', eq_self, Int.reduceLT, Int.reduceLE, Int.reduceEq, Int.reduceNeg, Int.reduceAdd, Int.reduceSub, forall_const, ne_eq, undef, Nat.reducePow, Nat.reduceDiv, Nat.reduceMod, hlt, hlt', l5, st, g2, goDV3c k1, l2, goDV3c r1, g3, hs, hi0, w2, hlt2, hg', d0, bin_sgeq, hge]
          exact hQ _ _ _ rfl ⟨rfl, f3⟩
      · have hla : lastE vs i = none := by rw [show i = 0 by omega]; rfl
        rw [hla, prevOk, Bool.true_and, ← hnext] at hok
        simp only [symA, go_opsd, symB, wantedX, X.put, X.look, Arg.ev, keepOf, restrict, evs, evO, initEnv, xres, tup, noTup, cls, quiet, Nat.reduceAdd, Nat.reduceEqDiff, ↓reduceIte, reduceCtorEq, goInt, exists_eq_left', eq_self, Int.reduceLT, Int.reduceLE, Int.reduceEq, Int.reduceNeg, Int.reduceAdd, Int.reduceSub, forall_const, ne_eq, undef, Nat.reducePow, Nat.reduceDiv, Nat.reduceMod, hlt, hlt', l5, st, g2, goDV3c k1, l2, goDV3c r1, g3, hs, hi0, w1]
        exact hN _ _ (vs.length - (i + 1)) (by omega) ⟨f3, i + 1, by omega, rfl, hok, rfl⟩
    · have hlt' : ¬ (i : Int) < (vs.length : Int) := by omega
      have hd : vs.drop i = [] := List.drop_eq_nil_of_le (by omega)
      rw [hd] at hok
      rw [hok] at hQ
      simp only [symA, go_opsd, symB, wantedX, X.put, X.look, Arg.ev, keepOf, restrict, evs, evO, initEnv, xres, tup, noTup, cls, quiet, Nat.reduceAdd, Nat.reduceEqDiff, ↓reduceIte, reduceCtorEq, goInt, exists_eq_left', eq_self, Int.reduceLT, Int.reduceLE, Int.reduceEq, Int.reduceNeg, Int.reduceAdd, Int.reduceSub, forall_const, ne_eq, undef, Nat.reducePow, Nat.reduceDiv, Nat.reduceMod, hlt']
      refine hB _ _ _ ?_
      simp only [symA, go_opsd, symB, wantedX, X.put, X.look, Arg.ev, keepOf, restrict, evs, evO, initEnv, xres, tup, noTup, cls, quiet, Nat.reduceAdd, Nat.reduceEqDiff, ↓reduceIte, reduceCtorEq, goInt, exists_eq_left', eq_self, Int.reduceLT, Int.reduceLE, Int.reduceEq, Int.reduceNeg, Int.reduceAdd, Int.reduceSub, forall_const, ne_eq, undef, Nat.reducePow, Nat.reduceDiv, Nat.reduceMod]
      exact hQ _ _ _ rfl ⟨rfl, hnx⟩
  obtain ⟨r, m', hc, rfl, hf⟩ := key
  exact ⟨m', hc, hf⟩
end Go.Proofs.YtglefgcnafoafaaGreatDoor
