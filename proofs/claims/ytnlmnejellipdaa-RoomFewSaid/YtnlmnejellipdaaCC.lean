/-
  Own work. What the chain's functions come to, whatever the data: numbers' bits, values, versions. What the chain's functions come to: values, versions. What the chain's functions come to: slices of versions. What the chain's functions come to: the document's Right, Same, Clone, Add. What the chain's functions come to: behind, Old, Sweep. What the chain's functions come to: Sweep, the document's Sweep, and what they say. What the chain's functions come to: bytes of values, weights. What the chain's functions come to: Pack, Weight, At, Last, and the document's. What the chain's functions come to: Weight, At, Last, and the document's. What the chain's functions come to: the document's At, and what all say.
-/
import Derived.Test.YtnlmnejellipdaaR0
namespace Go.Proofs.Ytnlmnejellipdaa.Chn
open Go X
set_option maxRecDepth 100000
attribute [local irreducible] X.Go' X.GoO X.GoR X.GoG X.GoC X.GoF X.GoFV X.GoFG X.Ex X.GoD X.GoDV X.GoDG
set_option linter.unusedVariables false
set_option linter.unusedSimpArgs false
def nanN (b : Nat) : Bool := decide (b / 4503599627370496 % 2048 = 2047 ∧ 0 < b % 4503599627370496)
def NANB : Nat := 9221120237041090561
def nb (b : Nat) : Nat := bif nanN b then NANB else b
theorem nb_nan : nanN NANB = true := by decide
theorem nb_nb (b : Nat) : nb (nb b) = nb b := by
 unfold nb
 cases h : nanN b with
 | true => simp [nb_nan]
 | false => simp [h]
theorem order_self (b : Nat) (hb : b < 18446744073709551616) : (FloatKind.f64.format.order b b != some .eq) = nanN b := by
 have hf : FloatKind.f64.format = Ieee.double := rfl
 have e1 : Ieee.double.signWeight = 9223372036854775808 := by decide
 have e2 : Ieee.double.binade = 4503599627370496 := by decide
 have e3 : Ieee.double.infRung = 9218868437227405312 := by decide
 rw [hf]
 unfold Ieee.Format.order Ieee.Format.read nanN
 simp only [e1, e2, e3]
 by_cases h1 : b % 9223372036854775808 < 4503599627370496
 ·have : ¬ (b / 4503599627370496 % 2048 = 2047 ∧ 0 < b % 4503599627370496) := by omega
  simp only [h1, if_true, this, decide_false, Ieee.Datum.order]
  simp [compare, compareOfLessAndEq]
 ·by_cases h2 : b % 9223372036854775808 < 9218868437227405312
  ·have : ¬ (b / 4503599627370496 % 2048 = 2047 ∧ 0 < b % 4503599627370496) := by omega
   simp only [h1, h2, if_false, if_true, this, decide_false, Ieee.Datum.order]
   simp [compare, compareOfLessAndEq]
  ·by_cases h3 : b % 9223372036854775808 = 9218868437227405312
   ·have : ¬ (b / 4503599627370496 % 2048 = 2047 ∧ 0 < b % 4503599627370496) := by omega
    simp only [h3, if_true, this, decide_false, Ieee.Datum.order]
    simp [compare, compareOfLessAndEq]
   ·have : b / 4503599627370496 % 2048 = 2047 ∧ 0 < b % 4503599627370496 := by omega
    simp only [h1, h2, h3, if_false, this, Ieee.Datum.order]
    simp
theorem bin_fneq {m : Mem} {b : Nat} (hb : b < 18446744073709551616) : binE Try.prog .neq 94 (Fl b) (Fl b) m = some (.val (.bool (nanN b)) m) := by
 rw [← order_self b hb]
 kernel_rfl
theorem isNaN_spec {m : Mem} {b : Nat} (hb : b < 18446744073709551616) : Ca 65 [Fl b] m (.bool (nanN b)) m := by
 refine callX_of (call_go (F := _) rfl rfl fun Q hQ => ?_)
 simp only [symA, symB, X.put, X.look, Arg.ev, keepOf, restrict, initEnv, Nat.reduceEqDiff, ↓reduceIte, reduceCtorEq, eq_self, bin_fneq hb]
 exact hQ _ _ _ rfl ⟨rfl, rfl⟩
theorem fbits_spec {m : Mem} {b : Nat} : Ca 66 [Fl b] m (U (b : Int)) m := ⟨0, by kernel_rfl⟩
theorem ffrom_spec {m : Mem} {n : Int} : Ca 67 [U n] m (Fl n.toNat) m := ⟨0, by kernel_rfl⟩
theorem bits_spec {m : Mem} {b : Nat} (hb : b < 18446744073709551616) : Ca 48 [Fl b] m (U (nb b : Nat)) m := by
 refine callX_of (call_go (F := _) rfl rfl fun Q hQ => ?_)
 cases h : nanN b with
 | true =>
  have e := isNaN_spec (m := m) hb
  rw [h] at e
  have e2 : nb b = NANB := by unfold nb; rw [h]; rfl
  rw [e2] at hQ
  simp only [symA, symB, X.put, X.look, Arg.ev, keepOf, restrict, evs, initEnv, ↓reduceIte, reduceCtorEq, eq_self, goR_call e]
  exact hQ _ _ _ rfl ⟨rfl, rfl⟩
 | false =>
  have e := isNaN_spec (m := m) hb
  rw [h] at e
  have e2 : nb b = b := by unfold nb; rw [h]; rfl
  rw [e2] at hQ
  simp only [symA, symB, X.put, X.look, Arg.ev, keepOf, restrict, evs, initEnv, ↓reduceIte, reduceCtorEq, eq_self, goR_call e, goR_call fbits_spec]
  exact hQ _ _ _ rfl ⟨rfl, rfl⟩
theorem nb_lt {b : Nat} (hb : b < 18446744073709551616) : nb b < 18446744073709551616 := by
 unfold nb
 cases nanN b with
 | true => show NANB < _; decide
 | false => exact hb
theorem from_spec {m : Mem} {b : Nat} (hb : b < 18446744073709551616) : Ca 49 [U (b : Int)] m (Fl (nb b)) m := by
 refine callX_of (call_go (F := _) rfl rfl fun Q hQ => ?_)
 have h1 := ffrom_spec (m := m) (n := (b : Int))
 have h2 := ffrom_spec (m := m) (n := (nb b : Int))
 rw [Int.toNat_natCast] at h1 h2
 simp only [symA, symB, X.put, X.look, Arg.ev, keepOf, restrict, evs, initEnv, ↓reduceIte, reduceCtorEq, eq_self, goR_call h1, goR_call (bits_spec hb), goR_call h2]
 exact hQ _ _ _ rfl ⟨rfl, rfl⟩
structure Ver where
 seq : Int
 gone : Bool
 num : Bool
 text : ByteArray
 bits : Nat
namespace Ver
abbrev row (v : Ver) : List Value := [I v.seq, .bool v.gone, .bool v.num, .string v.text, U (v.bits : Int)]
abbrev val (v : Ver) : List Value := [.bool v.num, .string v.text, U (v.bits : Int)]
structure Wf (v : Ver) : Prop where
 lo : -9223372036854775808 ≤ v.seq
 hi : v.seq ≤ 9223372036854775807
 bits : v.bits < 18446744073709551616
end Ver
def vright (n : Bool) (t : ByteArray) (b : Nat) : Bool := bif n then decide (t = .empty) && decide (nb b = b) else decide (b = 0) && decide (t.size ≤ 64)
def isz (v : Ver) : Bool := !v.num && decide (v.text = .empty) && decide (v.bits = 0)
def rightV (v : Ver) : Bool := decide (1 ≤ v.seq) && decide (v.seq ≤ 1073741824) && vright v.num v.text v.bits && (!v.gone || isz v)
theorem calc_len {m : Mem} {t : ByteArray} {n : List Bool} : calcE Try.prog .len [9] 3 n [.string t] m = some (.val (I (t.size : Nat)) m) := by kernel_rfl
theorem eq_val {d : Nat} {n n' : Bool} {t t' : ByteArray} {b b' : Int} : ∀ {fs : Array Field}, Try.prog.underlying 43 = some (.struct fs) →
  eqFs Try.prog (d + 1) ⟨[.bool n, .string t, U b]⟩ ⟨[.bool n', .string t', U b']⟩ fs.toList = some (decide (n = n') && decide (t = t') && decide (b = b')) := by
 intro fs hu
 rw [Try.underlying43] at hu
 cases hu
 have p1 : ans Try.prog (Go.part 4 (⟨[.bool n, .string t, U b]⟩ : Array Value) 0) = some (.bool n) := by kernel_rfl
 have p2 : ans Try.prog (Go.part 4 (⟨[.bool n', .string t', U b']⟩ : Array Value) 0) = some (.bool n') := by kernel_rfl
 have p3 : ans Try.prog (Go.part 9 (⟨[.bool n, .string t, U b]⟩ : Array Value) 1) = some (.string t) := by kernel_rfl
 have p4 : ans Try.prog (Go.part 9 (⟨[.bool n', .string t', U b']⟩ : Array Value) 1) = some (.string t') := by kernel_rfl
 have p5 : ans Try.prog (Go.part 31 (⟨[.bool n, .string t, U b]⟩ : Array Value) 2) = some (U b) := by kernel_rfl
 have p6 : ans Try.prog (Go.part 31 (⟨[.bool n', .string t', U b']⟩ : Array Value) 2) = some (U b') := by kernel_rfl
 have q1 : ans Try.prog (Op.equalIn (d + 1) 4 (.bool n) (.bool n')) = some (n == n') := ans_equal_bool Try.underlying4
 have q2 : ans Try.prog (Op.equalIn (d + 1) 9 (.string t) (.string t')) = some (decide (t = t')) := ans_equal_text Try.underlying9
 have q3 : ans Try.prog (Op.equalIn (d + 1) 31 (U b) (U b')) = some (b == b') := ans_equal_int Try.underlying31
 simp only [eqFs, p1, p2, p3, p4, p5, p6, q1, q2, q3, Option.bind_some]
 by_cases h1 : n = n' <;> by_cases h2 : t = t' <;> by_cases h3 : b = b' <;> simp [h1, h2, h3]
theorem eq31 {m : Mem} {n n' : Bool} {t t' : ByteArray} {b b' : Int} : binE Try.prog .eql 43 (.agg ⟨[.bool n, .string t, U b]⟩) (.agg ⟨[.bool n', .string t', U b']⟩) m = some (.val (.bool (decide (n = n') && decide (t = t') && decide (b = b'))) m) :=
 bin_aeql Try.underlying43 (by kernel_rfl) (by kernel_rfl) rfl rfl (eq_val (d := 9998) Try.underlying43)
theorem ne31 {m : Mem} {n n' : Bool} {t t' : ByteArray} {b b' : Int} : binE Try.prog .neq 43 (.agg ⟨[.bool n, .string t, U b]⟩) (.agg ⟨[.bool n', .string t', U b']⟩) m = some (.val (.bool (!(decide (n = n') && decide (t = t') && decide (b = b')))) m) :=
 bin_aneq Try.underlying43 (by kernel_rfl) (by kernel_rfl) rfl rfl (eq_val (d := 9998) Try.underlying43)
theorem vright_spec {m : Mem} {n : Bool} {t : ByteArray} {b : Nat} (hb : b < 18446744073709551616) : ∃ m', Ca 31 [.agg ⟨[.bool n, .string t, U (b : Int)]⟩] m (.bool (vright n t b)) m' ∧ Nx m m' := by
 refine ⟨m.push { cells := [.bool n, .string t, U (b : Int)], rw := true, spare := none, kin := [] }, callX_of (call_go (F := _) rfl rfl fun Q hQ => ?_), .push⟩
 have hnb := nb_lt hb
 cases n with
 | false =>
  by_cases h1 : (b : Int) = 0
  ·have h1' : b = 0 := by omega
   by_cases h2 : (t.size : Int) ≤ 64
   ·have e : vright false t b = true := by simp [vright, h1']; omega
    rw [e] at hQ
    simp only [symA, symB, wantedX, X.put, X.look, Arg.ev, keepOf, restrict, evs, initEnv, Nat.reduceEqDiff, ↓reduceIte, eq_self, h1, calc_len, h2]
    exact hQ _ _ _ rfl ⟨rfl, by rw [h1]⟩
   ·have e : vright false t b = false := by simp [vright, h1']; omega
    rw [e] at hQ
    simp only [symA, symB, wantedX, X.put, X.look, Arg.ev, keepOf, restrict, evs, initEnv, Nat.reduceEqDiff, ↓reduceIte, eq_self, h1, calc_len, h2]
    exact hQ _ _ _ rfl ⟨rfl, by rw [h1]⟩
  ·have e : vright false t b = false := by simp [vright]; omega
   rw [e] at hQ
   simp only [symA, symB, wantedX, X.put, X.look, Arg.ev, keepOf, restrict, initEnv, Nat.reduceEqDiff, ↓reduceIte, eq_self, undef, h1]
   exact hQ _ _ _ rfl ⟨rfl, rfl⟩
 | true =>
  by_cases h1 : t = .empty
  ·by_cases h2 : nb b = b
   ·have e : vright true t b = true := by simp [vright, h1, h2]
    rw [e] at hQ
    have h3 : ((nb (nb b) : Nat) : Int) = (b : Int) := by rw [nb_nb, h2]
    simp only [symA, go_opsd, symB, wantedX, X.put, X.look, Arg.ev, keepOf, restrict, evs, initEnv, cls, quiet, Nat.reduceEqDiff, ↓reduceIte, reduceCtorEq, eq_self, Nat.reducePow, Nat.reduceDiv, Nat.reduceMod, bin_seql, h1, goDV3c (from_spec hb), goDV3c (bits_spec hnb), h3]
    exact hQ _ _ _ rfl ⟨rfl, by rw [h1]⟩
   ·have e : vright true t b = false := by simp [vright, h1, h2]
    rw [e] at hQ
    have h3 : ¬ ((nb (nb b) : Nat) : Int) = (b : Int) := by rw [nb_nb]; omega
    simp only [symA, go_opsd, symB, wantedX, X.put, X.look, Arg.ev, keepOf, restrict, evs, initEnv, cls, quiet, Nat.reduceEqDiff, ↓reduceIte, reduceCtorEq, eq_self, Nat.reducePow, Nat.reduceDiv, Nat.reduceMod, bin_seql, h1, goDV3c (from_spec hb), goDV3c (bits_spec hnb), h3]
    exact hQ _ _ _ rfl ⟨rfl, by rw [h1]⟩
  ·have e : vright true t b = false := by simp [vright, h1]
   rw [e] at hQ
   simp only [symA, go_opsd, symB, wantedX, X.put, X.look, Arg.ev, keepOf, restrict, initEnv, cls, quiet, Nat.reduceEqDiff, ↓reduceIte, reduceCtorEq, eq_self, undef, Nat.reducePow, Nat.reduceDiv, Nat.reduceMod, bin_seql, h1]
   exact hQ _ _ _ rfl ⟨rfl, rfl⟩
theorem build31 {m : Mem} : buildE m [.bool false, .string .empty, U 0] [(0, 1), (1, 1), (2, 1)] [] = some (.val (.agg ⟨[.bool false, .string .empty, U 0]⟩) m) := by kernel_rfl
theorem isz_eq (v : Ver) : (decide (v.num = false) && decide (v.text = .empty) && decide ((v.bits : Int) = 0)) = isz v := by
 unfold isz
 have : decide ((v.bits : Int) = 0) = decide (v.bits = 0) := decide_eq_decide.2 (by omega)
 rw [this]
 cases v.num <;> simp
theorem right_spec {m : Mem} {v : Ver} (hv : v.Wf) : ∃ m', Ca 55 [.agg ⟨v.row⟩] m (.bool (rightV v)) m' ∧ Nx m m' := by
 obtain ⟨m1, hm1⟩ : ∃ m1, m.push { cells := v.row, rw := true, spare := none, kin := [] } = m1 := ⟨_, rfl⟩
 have g1 : m1.get m.next = some { cells := v.row, rw := true, spare := none, kin := [] } := by rw [← hm1, push_self]
 have f1 : Nx m m1 := hm1 ▸ .push
 have hn1 : m.next < m1.next := by rw [← hm1]; simp
 have l1 : ldA m1 3 (.pointer (some ⟨m.next, 2, none⟩)) = some (.val (.agg ⟨v.val⟩) m1) := by simp [ldA, xload, g1]
 obtain ⟨m2, v1, v2⟩ := vright_spec (m := m1) (n := v.num) (t := v.text) hv.bits
 have g2 : m2.get m.next = some { cells := v.row, rw := true, spare := none, kin := [] } := v2.get hn1 (fun h => h) g1
 have l2 : ldA m2 3 (.pointer (some ⟨m.next, 2, none⟩)) = some (.val (.agg ⟨v.val⟩) m2) := by simp [ldA, xload, g2]
 have e1 := eq31 (m := m2) (n := v.num) (n' := false) (t := v.text) (t' := .empty) (b := (v.bits : Int)) (b' := 0)
 rw [isz_eq] at e1
 by_cases a1 : 1 ≤ v.seq
 ·by_cases a2 : v.seq ≤ 1073741824
  ·refine ⟨m2, callX_of (call_go (F := _) rfl rfl fun Q hQ => ?_), f1.comp v2 fun _ _ h => h⟩
   cases a3 : vright v.num v.text v.bits with
   | false =>
    have e : rightV v = false := by simp [rightV, a3]
    rw [e] at hQ
    rw [a3] at v1
    simp only [symA, symB, wantedX, X.put, X.look, Arg.ev, keepOf, restrict, evs, initEnv, Nat.reduceEqDiff, ↓reduceIte, eq_self, undef, hm1, g1, a1, a2, l1, goR_call v1]
    exact hQ _ _ _ rfl ⟨rfl, rfl⟩
   | true =>
    rw [a3] at v1
    cases a4 : v.gone with
    | false =>
     have e : rightV v = true := by simp [rightV, a1, a2, a3, a4]
     rw [e] at hQ
     simp only [symA, symB, wantedX, X.put, X.look, Arg.ev, keepOf, restrict, evs, initEnv, Nat.reduceEqDiff, ↓reduceIte, eq_self, undef, hm1, g1, a1, a2, l1, goR_call v1, g2, a4]
     exact hQ _ _ _ rfl ⟨rfl, rfl⟩
    | true =>
     have e : rightV v = isz v := by simp [rightV, a1, a2, a3, a4]
     rw [e] at hQ
     simp only [symA, symB, wantedX, X.put, X.look, Arg.ev, keepOf, restrict, evs, initEnv, Nat.reduceEqDiff, ↓reduceIte, eq_self, hm1, g1, a1, a2, l1, goR_call v1, g2, a4, l2, build31, e1]
     exact hQ _ _ _ rfl ⟨rfl, rfl⟩
  ·refine ⟨m1, callX_of (call_go (F := _) rfl rfl fun Q hQ => ?_), f1⟩
   have e : rightV v = false := by simp [rightV, a2]
   rw [e] at hQ
   simp only [symA, symB, wantedX, X.put, X.look, Arg.ev, keepOf, restrict, initEnv, Nat.reduceEqDiff, ↓reduceIte, eq_self, undef, hm1, g1, a1, a2]
   exact hQ _ _ _ rfl ⟨rfl, rfl⟩
 ·refine ⟨m1, callX_of (call_go (F := _) rfl rfl fun Q hQ => ?_), f1⟩
  have e : rightV v = false := by simp [rightV, a1]
  rw [e] at hQ
  simp only [symA, symB, wantedX, X.put, X.look, Arg.ev, keepOf, restrict, initEnv, Nat.reduceEqDiff, ↓reduceIte, eq_self, undef, hm1, g1, a1]
  exact hQ _ _ _ rfl ⟨rfl, rfl⟩
abbrev rowsV (vs : List Ver) : List (List Value) := vs.map Ver.row
abbrev RdV (b : Nat) (m : Mem) (v : Value) (vs : List Ver) : Prop := RdS b m 5 v (rowsV vs)
structure VAt (m : Mem) (b off : Nat) (x : Ver) : Prop where
 o : ∃ o, m.get b = some o ∧ o.cells[off]? = some (I x.seq) ∧ o.cells[off + 1]? = some (.bool x.gone) ∧ o.cells[off + 2]? = some (.bool x.num) ∧ o.cells[off + 2 + 1]? = some (.string x.text) ∧ o.cells[off + 2 + 2]? = some (U (x.bits : Int))
 l5 : ldA m 5 (.pointer (some ⟨b, off, none⟩)) = some (.val (.agg ⟨x.row⟩) m)
 l3 : ldA m 3 (.pointer (some ⟨b, off + 2, none⟩)) = some (.val (.agg ⟨x.val⟩) m)
theorem rdv_slice {b : Nat} {m : Mem} {v : Value} {vs : List Ver} (h : RdV b m v vs) : ∃ p c, v = .slice p vs.length c := by
 obtain ⟨p, c, rfl⟩ := h.slice
 exact ⟨p, c, by simp⟩
theorem rdv_at {b : Nat} {m : Mem} {v : Value} {vs : List Ver} (h : RdV b m v vs) {i : Nat} {x : Ver} (hi : vs[i]? = some x) : ∃ a c, v = .slice (some a) vs.length c ∧ VAt m a.block (a.off + i * 5) x := by
 obtain ⟨p, c, rfl, hc, h⟩ := h
 obtain ⟨h1, a, o, rfl, h3, h4, h5⟩ := h i x.row (by simp [hi])
 refine ⟨a, c, by simp, ⟨o, h4, by simpa using h5 0 (by omega), by simpa using h5 1 (by omega), by simpa using h5 2 (by omega), by simpa using h5 3 (by omega), by simpa using h5 4 (by omega)⟩, ?_, ?_⟩
 ·have := xload_cells (m := m) (b := a.block) (off := a.off + i * 5) (n := 5) (r := x.row) h4 rfl (by omega) h5
  simp [ldA, this]
 ·have := xload_cells (m := m) (b := a.block) (off := a.off + i * 5 + 2) (n := 3) (r := x.val) h4 rfl (by omega) (fun j hj => by
   have := h5 (2 + j) (by omega)
   rw [show a.off + i * 5 + 2 + j = a.off + i * 5 + (2 + j) by omega, this]
   match j, hj with
   | 0, _ => rfl
   | 1, _ => rfl
   | 2, _ => rfl)
  simp [ldA, this]
def okC (last : Int) : List Ver → Bool
 | [] => true
 | x :: r => decide (last < x.seq) && rightV x && okC x.seq r
theorem right_loop {b : Nat} {m : Mem} {v : Value} {vs : List Ver} (h : RdV b m v vs) (hw : ∀ x ∈ vs, x.Wf) (hl : vs.length ≤ 4611686018427387903) (hb : b ≤ m.next) : ∃ m', Ca 40 [v] m (.bool (okC 0 vs)) m' ∧ Nx m m' := by
 have key : Wc 40 [v] m fun r m' => r = .bool (okC 0 vs) ∧ Nx m m' := by
  refine call_go (F := _) rfl rfl fun Q hQ => ?_
  obtain ⟨p, c, rfl⟩ := rdv_slice h
  simp only [symA, symB, X.put, X.look, Arg.ev, keepOf, restrict, initEnv, Nat.reduceEqDiff, ↓reduceIte, reduceCtorEq, goInt, eq_self]
  refine loop_go (fun j e m' => Nx m m' ∧ ∃ (i : Nat) (last : Int), i ≤ vs.length ∧ j = vs.length - i ∧ okC 0 vs = okC last (vs.drop i) ∧ (i = 0 → last = 0) ∧ (∀ k y, i = k + 1 → vs[k]? = some y → last = y.seq) ∧ 0 ≤ last ∧
   e = [(0, .slice p vs.length c), (5, .slice p vs.length c), (6, I vs.length), (7, I i)]) vs.length ⟨.refl, 0, 0, by omega, rfl, rfl, fun _ => rfl, fun k y hk => by omega, by omega, rfl⟩ ?_
  rintro j e m1 N' B' hN hB ⟨hnx, i, last, hi, rfl, hok, hz, hk, h0, rfl⟩
  have h1 := h.fr hnx hb (fun _ h => h.elim)
  by_cases hlt : i < vs.length
  ·have hlt' : (i : Int) < (vs.length : Int) := by omega
   obtain ⟨x, hx⟩ : ∃ x, vs[i]? = some x := ⟨_, List.getElem?_eq_getElem hlt⟩
   have hwx := hw x (List.mem_of_getElem? hx)
   obtain ⟨a, c', hv, ⟨o, hg, c0, c1, c2, c3, c4⟩, l5, l3⟩ := rdv_at h1 hx
   cases hv
   have w1 : IntKind.i64.wrap ((i : Int) + 1) = ((i + 1 : Nat) : Int) := by rw [wrap_i64 (by omega) (by omega)]; omega
   have hd : vs.drop i = x :: vs.drop (i + 1) := by
    obtain ⟨_, rfl⟩ := List.getElem?_eq_some_iff.1 hx
    exact List.drop_eq_getElem_cons hlt
   rw [hd, okC] at hok
   obtain ⟨m2, st, g2, f2, n2⟩ := new_store (m := m1) (z := [I 0, .bool false, .bool false, .string .empty, U 0]) (row := x.row) (n := 5) rfl rfl (by omega)
   have l2 : ldA m2 5 (.pointer (some ⟨m1.next, 0, none⟩)) = some (.val (.agg ⟨x.row⟩) m2) := by simp [ldA, xload, g2]
   obtain ⟨m3, r1, r2⟩ := right_spec (m := m2) hwx
   have g3 : m3.get m1.next = some { cells := x.row, rw := true, spare := none, kin := [] } := r2.get (by omega) (fun h => h) g2
   have f3 : Nx m m3 := (hnx.comp f2 fun _ _ h => h).comp r2 fun _ _ h => h
   cases hr : rightV x with
   | false =>
    rw [hr] at r1
    have e : okC 0 vs = false := by rw [hok, hr]; simp
    rw [e] at hQ
    simp only [symA, go_opsd, symB, wantedX, X.put, X.look, Arg.ev, keepOf, restrict, evs, cls, quiet, Nat.reduceEqDiff, ↓reduceIte, reduceCtorEq, eq_self, undef, Nat.reducePow, Nat.reduceDiv, Nat.reduceMod, hlt, hlt', l5, st, l2, goDV3c r1]
    exact hQ _ _ _ rfl ⟨rfl, f3⟩
   | true =>
    rw [hr] at r1 hok
    have hlast : ∀ k y, i + 1 = k + 1 → vs[k]? = some y → x.seq = y.seq := by
     intro k y hk hy
     have : k = i := by omega
     subst this; rw [hx] at hy; cases hy; rfl
    have hpos : 0 < x.seq := by simp [rightV] at hr; omega
    by_cases hi0 : (0 : Int) < (i : Int)
    ·obtain ⟨y, hy⟩ : ∃ y, vs[i - 1]? = some y := ⟨_, List.getElem?_eq_getElem (by omega)⟩
     have hly := hk (i - 1) y (by omega) hy
     have h3 := h.fr f3 hb (fun _ h => h.elim)
     obtain ⟨a', c'', hv', ⟨o', hg', d0, d1, d2, d3, d4⟩, k5, k3⟩ := rdv_at h3 hy
     cases hv'
     have w2 : IntKind.i64.wrap ((i : Int) - 1) = ((i - 1 : Nat) : Int) := by rw [wrap_i64 (by omega) (by omega)]; omega
     have hlt2 : i - 1 < vs.length := by omega
     by_cases hge : x.seq ≤ y.seq
     ·have e : okC 0 vs = false := by
       have : decide (last < x.seq) = false := by simp; omega
       rw [hok, this]; rfl
      rw [e] at hQ
      simp only [symA, go_opsd, symB, wantedX, X.put, X.look, Arg.ev, keepOf, restrict, evs, cls, quiet, Nat.reduceEqDiff, ↓reduceIte, reduceCtorEq, eq_self, Nat.reducePow, Nat.reduceDiv, Nat.reduceMod, hlt, hlt', l5, st, l2, goDV3c r1, g3, hi0, w2, hlt2, hg', d0, hge]
      exact hQ _ _ _ rfl ⟨rfl, f3⟩
     ·have e : decide (last < x.seq) = true := by simp; omega
      rw [e, Bool.true_and, Bool.true_and] at hok
      simp only [symA, go_opsd, symB, wantedX, X.put, X.look, Arg.ev, keepOf, restrict, evs, cls, quiet, Nat.reduceEqDiff, ↓reduceIte, reduceCtorEq, eq_self, Nat.reducePow, Nat.reduceDiv, Nat.reduceMod, hlt, hlt', l5, st, l2, goDV3c r1, g3, hi0, w2, hlt2, hg', d0, hge, w1]
      exact hN _ _ (vs.length - (i + 1)) (by omega) ⟨f3, i + 1, x.seq, by omega, rfl, hok, by omega, hlast, by omega, rfl⟩
    ·have e : decide (last < x.seq) = true := by have := hz (by omega); simp; omega
     rw [e, Bool.true_and, Bool.true_and] at hok
     simp only [symA, go_opsd, symB, wantedX, X.put, X.look, Arg.ev, keepOf, restrict, evs, cls, quiet, Nat.reduceEqDiff, ↓reduceIte, reduceCtorEq, eq_self, undef, Nat.reducePow, Nat.reduceDiv, Nat.reduceMod, hlt, hlt', l5, st, l2, goDV3c r1, hi0, w1]
     exact hN _ _ (vs.length - (i + 1)) (by omega) ⟨f3, i + 1, x.seq, by omega, rfl, hok, by omega, hlast, by omega, rfl⟩
  ·have hlt' : ¬ (i : Int) < (vs.length : Int) := by omega
   have hd : vs.drop i = [] := List.drop_eq_nil_of_le (by omega)
   rw [hd] at hok
   rw [hok] at hQ
   simp only [symA, symB, X.put, X.look, Arg.ev, keepOf, restrict, Nat.reduceEqDiff, ↓reduceIte, reduceCtorEq, eq_self, hlt']
   refine hB _ _ _ ?_
   simp only [symA, symB, X.put, X.look, Arg.ev, keepOf, restrict, ↓reduceIte, eq_self]
   exact hQ _ _ _ rfl ⟨rfl, hnx⟩
 obtain ⟨r, m', hc, rfl, hf⟩ := key
 exact ⟨m', hc, hf⟩
abbrev Z5 : List Value := [I 0, .bool false, .bool false, .string .empty, U 0]
theorem build5 {m : Mem} {x : Ver} : buildSliceE m Z5 5 1 [(0, .agg ⟨x.row⟩)] = some (.val (.slice (some ⟨m.next, 0, none⟩) 1 1) (m.push { cells := x.row, rw := true, spare := none, kin := [] })) := by kernel_rfl
theorem build50 {m : Mem} : buildSliceE m Z5 5 0 [] = some (.val (.slice (some ⟨m.next, 0, none⟩) 0 0) (m.push { cells := [], rw := true, spare := none, kin := [] })) := by kernel_rfl
abbrev OwnV (F : List Nat) (m : Mem) (v : Value) (vs : List Ver) : Prop := Own2 5 F m v (rowsV vs)
theorem ownv_rd {F : List Nat} {m : Mem} {v : Value} {vs : List Ver} (h : OwnV F m v vs) : RdV m.next m v vs := h.rd (by omega)
theorem clone_spec {b : Nat} {m : Mem} {v : Value} {vs : List Ver} (h : RdV b m v vs) (hb : b ≤ m.next) (hl : vs.length ≤ 1000) : ∃ v' m' F, Ca 45 [v] m v' m' ∧ OwnV F m' v' vs ∧ (∀ i ∈ F, m.next ≤ i) ∧ Nx m m' := by
 obtain ⟨p, c, rfl⟩ := rdv_slice h
 cases p with
 | none =>
  have h0 : vs = [] := by
   cases vs with
   | nil => rfl
   | cons x r =>
    obtain ⟨a, c', hv, _⟩ := rdv_at h (i := 0) (x := x) rfl
    simp at hv
  subst h0
  refine ⟨.slice none 0 0, m, [], ?_, .nil, by simp, .refl⟩
  refine callX_of (call_go (F := _) rfl rfl fun Q hQ => ?_)
  simp only [symA, symB, X.put, X.look, Arg.ev, keepOf, restrict, initEnv, ↓reduceIte, reduceCtorEq, eq_self]
  exact hQ _ _ _ rfl ⟨rfl, rfl⟩
 | some a =>
  have b1 := build50 (m := m)
  have f1 : Nx m (m.push { cells := [], rw := true, spare := none, kin := [] }) := .push
  generalize m.push { cells := [], rw := true, spare := none, kin := [] } = m1 at b1 f1
  have h1 := h.fr f1 hb (fun _ h => h.elim)
  obtain ⟨v', m2, F, a1, a2, a3, a4⟩ := append_all (bytes := 48) (zero := Z5) (s := .slice (some ⟨m.next, 0, none⟩) 0 0) (.inr ⟨_, rfl⟩) h1 rfl (by omega) (by simp; omega) (by simp; omega)
  have hn := f1.next
  refine ⟨v', m2, F, ?_, a2, fun i hi => by have := a4 i hi; omega, f1.comp a3 fun _ _ h => h⟩
  refine callX_of (call_go (F := _) rfl rfl fun Q hQ => ?_)
  simp only [symA, symB, X.put, X.look, Arg.ev, keepOf, restrict, initEnv, Nat.reduceEqDiff, ↓reduceIte, reduceCtorEq, eq_self, b1, a1]
  exact hQ _ _ _ rfl ⟨rfl, rfl⟩
theorem add_spec {b : Nat} {m : Mem} {v : Value} {vs : List Ver} {x : Ver} (h : RdV b m v vs) (hb : b ≤ m.next) (hl : vs.length ≤ 900) (hw : ∀ x ∈ vs, x.Wf) (hx : x.Wf) :
  ∃ v' m' F, Ca 36 [v, .agg ⟨x.row⟩] m (.tuple #[v', I (bif okC 0 (vs ++ [x]) then 0 else 1)]) m' ∧ OwnV F m' v' (bif okC 0 (vs ++ [x]) then vs ++ [x] else []) ∧ (∀ i ∈ F, m.next ≤ i) ∧ Nx m m' := by
 obtain ⟨m1, hm1⟩ : ∃ m1, m.push { cells := x.row, rw := true, spare := none, kin := [] } = m1 := ⟨_, rfl⟩
 have g1 : m1.get m.next = some { cells := x.row, rw := true, spare := none, kin := [] } := by rw [← hm1, push_self]
 have f1 : Nx m m1 := hm1 ▸ .push
 have n1 : m1.next = m.next + 1 := by rw [← hm1]; simp
 have l1 : ldA m1 5 (.pointer (some ⟨m.next, 0, none⟩)) = some (.val (.agg ⟨x.row⟩) m1) := by simp [ldA, xload, g1]
 have b1 := build5 (m := m1) (x := x)
 obtain ⟨m2, hm2⟩ : ∃ m2, m1.push { cells := x.row, rw := true, spare := none, kin := [] } = m2 := ⟨_, rfl⟩
 rw [hm2] at b1
 have g2 : m2.get m1.next = some { cells := x.row, rw := true, spare := none, kin := [] } := by rw [← hm2, push_self]
 have f2 : Nx m1 m2 := hm2 ▸ .push
 have n2 : m2.next = m1.next + 1 := by rw [← hm2]; simp
 have g2' := f2.get (by omega) (fun h => h) g1
 have l2 : ldA m2 5 (.pointer (some ⟨m.next, 0, none⟩)) = some (.val (.agg ⟨x.row⟩) m2) := by simp [ldA, xload, g2']
 have f12 : Nx m m2 := f1.comp f2 fun _ _ h => h
 obtain ⟨v3, m3, F3, c1, c2, c3, c4⟩ := clone_spec (h.fr f12 hb (fun _ h => h.elim)) (by omega) (by omega)
 have g3 := c4.get (by omega) (fun h => h) g2'
 have g3' := c4.get (by omega) (fun h => h) g2
 have l3 : ldA m3 5 (.pointer (some ⟨m.next, 0, none⟩)) = some (.val (.agg ⟨x.row⟩) m3) := by simp [ldA, xload, g3]
 have f13 : Nx m m3 := f12.comp c4 fun _ _ h => h
 have hx3 : xfirst m3 5 1 (.slice (some ⟨m1.next, 0, none⟩) 1 1) = some x.row := by
  simp only [xfirst]
  rw [if_neg (by omega), xload_own g3' (by simp)]
  simp
 obtain ⟨v4, m4, F4, d1, d2, d3, d4, d5⟩ := c2.append (bytes := 48) (zero := Z5) (vx := .slice (some ⟨m1.next, 0, none⟩) 1 1) rfl (by omega) rfl hx3 rfl (by simp; omega) (by simp; omega)
 have f14 : Nx m m4 := f13.comp d3 fun i hi h => by have := c3 i h; omega
 have hn3 := c4.next
 have o4 : OwnV F4 m4 v4 (vs ++ [x]) := by
  have : rowsV (vs ++ [x]) = rowsV vs ++ [x.row] := by simp
  rw [OwnV, this]; exact d2
 have hF4 : ∀ i ∈ F4, m.next ≤ i := fun i hi => (d5 i hi).elim (fun h => by have := c3 i h; omega) (fun h => by omega)
 obtain ⟨m5, r1, r2⟩ := right_loop (ownv_rd o4) (fun y hy => by
  simp only [List.mem_append, List.mem_singleton] at hy
  rcases hy with hy | rfl
  ·exact hw y hy
  ·exact hx) (by simp; omega) (Nat.le_refl _)
 have f15 : Nx m m5 := f14.comp r2 fun _ _ h => h
 cases hr : okC 0 (vs ++ [x]) with
 | false =>
  rw [hr] at r1
  refine ⟨.slice none 0 0, m5, [], ?_, .nil, by simp, f15⟩
  refine callX_of (call_go (F := _) rfl rfl fun Q hQ => ?_)
  simp only [symA, go_opsd, symB, X.put, X.look, Arg.ev, keepOf, restrict, evs, initEnv, noTup, cls, quiet, Nat.reduceEqDiff, ↓reduceIte, reduceCtorEq, eq_self, Nat.reducePow, Nat.reduceDiv, Nat.reduceMod, hm1, l1, b1, l2, goDV3c c1, l3, d1, goR_call r1]
  exact hQ _ _ _ rfl ⟨rfl, rfl⟩
 | true =>
  rw [hr] at r1
  refine ⟨v4, m5, F4, ?_, o4.fr r2 (fun _ _ h => h), hF4, f15⟩
  refine callX_of (call_go (F := _) rfl rfl fun Q hQ => ?_)
  simp only [symA, go_opsd, symB, X.put, X.look, Arg.ev, keepOf, restrict, evs, initEnv, noTup, cls, quiet, Nat.reduceEqDiff, ↓reduceIte, reduceCtorEq, eq_self, Nat.reducePow, Nat.reduceDiv, Nat.reduceMod, hm1, l1, b1, l2, goDV3c c1, l3, d1, goR_call r1]
  exact hQ _ _ _ rfl ⟨rfl, rfl⟩
def below (xs : List Int) (t : Int) : Nat := xs.countP (· < t)
def upto (xs : List Int) (t : Int) : Nat := xs.countP (· ≤ t)
theorem pw_lt {xs : List Int} (hs : xs.Pairwise (· < ·)) {i j : Nat} {x y : Int} (h : i < j) (hx : xs[i]? = some x) (hy : xs[j]? = some y) : x < y := by
 obtain ⟨h1, rfl⟩ := List.getElem?_eq_some_iff.1 hx
 obtain ⟨h2, rfl⟩ := List.getElem?_eq_some_iff.1 hy
 exact List.pairwise_iff_getElem.1 hs i j h1 h2 h
theorem below_eq {xs : List Int} {t : Int} {i : Nat} (hi : i ≤ xs.length) (hlo : ∀ d, d < i → ∀ x, xs[d]? = some x → x < t) (hhi : ∀ d, i ≤ d → ∀ x, xs[d]? = some x → t ≤ x) : below xs t = i := by
 have h1 : xs = xs.take i ++ xs.drop i := (List.take_append_drop i xs).symm
 unfold below
 rw [h1, List.countP_append]
 have h2 : (xs.take i).countP (· < t) = i := by
  rw [List.countP_eq_length.2]
  ·simp [hi]
  ·intro x hx
   obtain ⟨d, hd, rfl⟩ := List.mem_iff_getElem.1 hx
   simp only [List.length_take] at hd
   have := hlo d (by omega) xs[d] (List.getElem?_eq_getElem (by omega))
   simpa using this
 have h3 : (xs.drop i).countP (· < t) = 0 := by
  rw [List.countP_eq_zero]
  intro x hx
  obtain ⟨d, hd, rfl⟩ := List.mem_iff_getElem.1 hx
  simp only [List.length_drop] at hd
  have := hhi (i + d) (by omega) xs[i + d] (List.getElem?_eq_getElem (by omega))
  simp; omega
 omega
theorem upto_eq {xs : List Int} (hs : xs.Pairwise (· < ·)) (t : Int) : upto xs t = below xs t + if t ∈ xs then 1 else 0 := by
 induction xs with
 | nil => simp [upto, below]
 | cons x xs ih =>
  have ih := ih (List.pairwise_cons.1 hs).2
  have hx := (List.pairwise_cons.1 hs).1
  simp only [upto, below, List.countP_cons, List.mem_cons] at ih ⊢
  rcases Int.lt_trichotomy x t with h1 | h1 | h1
  ·have h2 : ¬ t = x := by omega
   have h3 : x ≤ t := by omega
   simp only [h1, h2, h3, decide_true, if_true, false_or]
   omega
  ·subst h1
   have h2 : x ∉ xs := fun h => absurd (hx x h) (by omega)
   have h3 : xs.countP (· < x) = 0 := by rw [List.countP_eq_zero]; intro y hy; have := hx y hy; simp; omega
   have h4 : xs.countP (· ≤ x) = 0 := by rw [List.countP_eq_zero]; intro y hy; have := hx y hy; simp; omega
   simp [h3, h4]
  ·have h2 : t ∉ xs := fun h => absurd (hx t h) (by omega)
   have h3 : xs.countP (· < t) = 0 := by rw [List.countP_eq_zero]; intro y hy; have := hx y hy; simp; omega
   have h4 : xs.countP (· ≤ t) = 0 := by rw [List.countP_eq_zero]; intro y hy; have := hx y hy; simp; omega
   have h5 : ¬ x ≤ t := by omega
   have h6 : ¬ x < t := by omega
   have h7 : ¬ t = x := by omega
   simp [h3, h4, h5, h6, h7, h2]
abbrev seqs (vs : List Ver) : List Int := vs.map Ver.seq
theorem okC_bounds : ∀ {vs : List Ver} {last : Int}, 0 ≤ last → okC last vs = true → (∀ x ∈ vs, last < x.seq ∧ x.seq ≤ 1073741824) ∧ (seqs vs).Pairwise (· < ·)
 | [], last, h0, h => ⟨by simp, .nil⟩
 | x :: vs, last, h0, h => by
  simp only [okC, Bool.and_eq_true, decide_eq_true_eq] at h
  obtain ⟨⟨h1, h2⟩, h3⟩ := h
  have hr : 1 ≤ x.seq ∧ x.seq ≤ 1073741824 := by
   simp only [rightV, Bool.and_eq_true, decide_eq_true_eq] at h2
   exact ⟨h2.1.1.1, h2.1.1.2⟩
  obtain ⟨k1, k2⟩ := okC_bounds (vs := vs) (last := x.seq) (by omega) h3
  refine ⟨fun y hy => ?_, ?_⟩
  ·simp only [List.mem_cons] at hy
   rcases hy with rfl | hy
   ·exact ⟨h1, hr.2⟩
   ·have := k1 y hy; omega
  ·rw [seqs, List.map_cons, List.pairwise_cons]
   refine ⟨fun s hs => ?_, k2⟩
   obtain ⟨y, hy, rfl⟩ := List.mem_map.1 hs
   exact (k1 y hy).1
theorem cmp_spec {m : Mem} {x : Ver} {t : Int} (h : -9223372036854775808 ≤ x.seq - t ∧ x.seq - t ≤ 9223372036854775807) : ∃ m', Ca 57 [.agg ⟨x.row⟩, I t] m (I (x.seq - t)) m' ∧ Nx m m' := by
 refine ⟨m.push { cells := x.row, rw := true, spare := none, kin := [] }, callX_of (call_go (F := _) rfl rfl fun Q hQ => ?_), .push⟩
 have w1 : IntKind.i64.wrap (x.seq - t) = x.seq - t := wrap_i64 h.1 h.2
 simp only [symA, symB, X.put, X.look, Arg.ev, keepOf, restrict, initEnv, Nat.reduceEqDiff, ↓reduceIte, reduceCtorEq, eq_self, w1]
 exact hQ _ _ _ rfl ⟨rfl, rfl⟩
theorem conv_iu {m : Mem} {n : Int} : convE Try.prog 3 120 m (I n) = some (.val (U (IntKind.u64.wrap n)) m) := by kernel_rfl
theorem conv_ui {m : Mem} {n : Int} : convE Try.prog 120 3 m (U n) = some (.val (I (IntKind.i64.wrap n)) m) := by kernel_rfl
theorem bin_shr1 {m : Mem} {n : Int} : binE Try.prog .shr 120 (U n) (U 1) m = some (.val (U (n.fdiv 2)) m) := by kernel_rfl
theorem search_spec {b : Nat} {m : Mem} {v : Value} {vs : List Ver} {t : Int} (h : RdV b m v vs) (hs : (seqs vs).Pairwise (· < ·)) (hbd : ∀ x ∈ vs, 0 < x.seq ∧ x.seq ≤ 1073741824) (h1 : 1 ≤ t) (h2 : t ≤ 9223372036854775807) (hl : vs.length ≤ 4611686018427387903) (hb : b ≤ m.next) :
  ∃ m', Ca 56 [v, I t, .func (.func 57) #[] #[]] m (.tuple #[I (below (seqs vs) t), .bool (decide (t ∈ seqs vs))]) m' ∧ Nx m m' := by
 have key : Wc 56 [v, I t, .func (.func 57) #[] #[]] m fun r m' => r = .tuple #[I (below (seqs vs) t), .bool (decide (t ∈ seqs vs))] ∧ Nx m m' := by
  refine call_go (F := _) rfl rfl fun Q hQ => ?_
  obtain ⟨p, c, rfl⟩ := rdv_slice h
  simp only [symA, symB, X.put, X.look, Arg.ev, keepOf, restrict, initEnv, Nat.reduceAdd, Nat.reduceEqDiff, ↓reduceIte, reduceCtorEq, goInt, eq_self]
  refine loop_go (fun k e m' => Nx m m' ∧ ∃ i j : Nat, i ≤ j ∧ j ≤ vs.length ∧ k = j - i ∧ (∀ d, d < i → ∀ x, (seqs vs)[d]? = some x → x < t) ∧ (∀ d, j ≤ d → ∀ x, (seqs vs)[d]? = some x → t ≤ x) ∧
   e = [(0, .slice p vs.length c), (1, I t), (2, .func (.func 57) #[] #[]), (8, I vs.length), (9, I i), (10, I j)]) vs.length ⟨.refl, 0, vs.length, by omega, by omega, by omega, by intros; omega, (fun d hd x hx => by rw [List.getElem?_eq_none (by simp; omega)] at hx; cases hx), rfl⟩ ?_
  rintro k e m1 N' B' hN hB ⟨hnx, i, j, hij, hj, rfl, hlo, hhi, rfl⟩
  have hr := h.fr hnx hb (fun _ h => h.elim)
  by_cases hlt : i < j
  ·have hlt' : (i : Int) < (j : Int) := by omega
   obtain ⟨x, hx⟩ : ∃ x, vs[(i + j) / 2]? = some x := ⟨_, List.getElem?_eq_getElem (by omega)⟩
   have hxs : (seqs vs)[(i + j) / 2]? = some x.seq := by simp [hx]
   have hxb := hbd x (List.mem_of_getElem? hx)
   obtain ⟨a, c', hv, _, l5, _⟩ := rdv_at hr hx
   cases hv
   obtain ⟨m2, k1, k2⟩ := cmp_spec (m := m1) (x := x) (t := t) ⟨by omega, by omega⟩
   have w1 : IntKind.i64.wrap ((i : Int) + (j : Int)) = ((i + j : Nat) : Int) := by rw [wrap_i64 (by omega) (by omega)]; omega
   have w2 : IntKind.u64.wrap ((i + j : Nat) : Int) = ((i + j : Nat) : Int) := wrap_u64 (by omega) (by omega)
   have w3 : (((i + j : Nat) : Int)).fdiv 2 = (((i + j) / 2 : Nat) : Int) := by rw [Int.fdiv_eq_ediv_of_nonneg _ (by omega)]; omega
   have w4 : IntKind.i64.wrap (((i + j) / 2 : Nat) : Int) = (((i + j) / 2 : Nat) : Int) := wrap_i64 (by omega) (by omega)
   have w5 : IntKind.i64.wrap ((((i + j) / 2 : Nat) : Int) + 1) = (((i + j) / 2 + 1 : Nat) : Int) := by rw [wrap_i64 (by omega) (by omega)]; omega
   have hmid : (i + j) / 2 < vs.length := by omega
   have f2 : Nx m m2 := hnx.comp k2 fun _ _ h => h
   by_cases hxt : x.seq - t < 0
   ·simp only [symA, symB, X.put, X.look, Arg.ev, keepOf, restrict, evs, Nat.reduceEqDiff, ↓reduceIte, reduceCtorEq, eq_self, hlt', w1, conv_iu, w2, bin_shr1, w3, conv_ui, w4, w5, hmid, l5, goR_call k1, hxt]
    refine hN _ _ (j - ((i + j) / 2 + 1)) (by omega) ⟨f2, (i + j) / 2 + 1, j, by omega, hj, rfl, fun d hd y hy => ?_, hhi, rfl⟩
    rcases Nat.lt_or_ge d ((i + j) / 2) with h1 | h1
    ·exact Int.lt_trans (pw_lt hs h1 hy hxs) (by omega)
    ·have : d = (i + j) / 2 := by omega
     subst this
     rw [hxs] at hy; cases hy; omega
   ·simp only [symA, symB, X.put, X.look, Arg.ev, keepOf, restrict, evs, Nat.reduceEqDiff, ↓reduceIte, reduceCtorEq, eq_self, hlt', w1, conv_iu, w2, bin_shr1, w3, conv_ui, w4, hmid, l5, goR_call k1, hxt]
    refine hN _ _ ((i + j) / 2 - i) (by omega) ⟨f2, i, (i + j) / 2, by omega, by omega, rfl, hlo, fun d hd y hy => ?_, rfl⟩
    rcases Nat.lt_or_ge ((i + j) / 2) d with h1 | h1
    ·have := pw_lt hs h1 hxs hy; omega
    ·have : d = (i + j) / 2 := by omega
     subst this
     rw [hxs] at hy; cases hy; omega
  ·have hlt' : ¬ (i : Int) < (j : Int) := by omega
   have hji : i = j := by omega
   subst hji
   have hbl := below_eq (xs := seqs vs) (by simpa using hj) hlo hhi
   simp only [symA, symB, X.put, X.look, Arg.ev, keepOf, restrict, Nat.reduceEqDiff, ↓reduceIte, reduceCtorEq, eq_self, hlt']
   refine hB _ _ _ ?_
   by_cases hi : i < vs.length
   ·have hi' : (i : Int) < (vs.length : Int) := by omega
    obtain ⟨x, hx⟩ : ∃ x, vs[i]? = some x := ⟨_, List.getElem?_eq_getElem hi⟩
    have hxs : (seqs vs)[i]? = some x.seq := by simp [hx]
    have hxb := hbd x (List.mem_of_getElem? hx)
    obtain ⟨a, c', hv, _, l5, _⟩ := rdv_at hr hx
    cases hv
    obtain ⟨m2, k1, k2⟩ := cmp_spec (m := m1) (x := x) (t := t) ⟨by omega, by omega⟩
    have f2 : Nx m m2 := hnx.comp k2 fun _ _ h => h
    by_cases hxt : x.seq - t = 0
    ·have hmem : t ∈ seqs vs := by rw [show t = x.seq by omega]; exact List.mem_of_getElem? hxs
     rw [hbl, decide_eq_true hmem] at hQ
     simp only [symA, symB, wantedX, X.put, X.look, Arg.ev, keepOf, restrict, evs, Nat.reduceEqDiff, ↓reduceIte, reduceCtorEq, eq_self, hi', hi, l5, goR_call k1, hxt]
     exact hQ _ _ _ rfl ⟨rfl, f2⟩
    ·have hmem : t ∉ seqs vs := by
      intro hm
      obtain ⟨d, hd, rfl⟩ := List.mem_iff_getElem.1 hm
      rcases Nat.lt_trichotomy d i with h1 | h1 | h1
      ·exact absurd (hlo d h1 _ (List.getElem?_eq_getElem hd)) (by omega)
      ·subst h1; rw [List.getElem?_eq_getElem hd] at hxs; injection hxs with hxs; omega
      ·have h2 := pw_lt hs h1 hxs (List.getElem?_eq_getElem hd)
       have h3 := hhi i (Nat.le_refl _) _ hxs
       omega
     rw [hbl, decide_eq_false hmem] at hQ
     simp only [symA, symB, wantedX, X.put, X.look, Arg.ev, keepOf, restrict, evs, Nat.reduceEqDiff, ↓reduceIte, reduceCtorEq, eq_self, hi', hi, l5, goR_call k1, hxt]
     exact hQ _ _ _ rfl ⟨rfl, f2⟩
   ·have hi' : ¬ (i : Int) < (vs.length : Int) := by omega
    have hmem : t ∉ seqs vs := by
     intro hm
     obtain ⟨d, hd, rfl⟩ := List.mem_iff_getElem.1 hm
     have hd' : d < vs.length := by simpa using hd
     exact absurd (hlo d (by omega) _ (List.getElem?_eq_getElem hd)) (by omega)
    rw [hbl, decide_eq_false hmem] at hQ
    simp only [symA, symB, wantedX, X.put, X.look, Arg.ev, keepOf, restrict, Nat.reduceEqDiff, ↓reduceIte, reduceCtorEq, eq_self, undef, hi']
    exact hQ _ _ _ rfl ⟨rfl, hnx⟩
 obtain ⟨r, m', hc, rfl, hf⟩ := key
 exact ⟨m', hc, hf⟩
theorem behind_spec {b : Nat} {m : Mem} {v : Value} {vs : List Ver} {t : Int} (h : RdV b m v vs) (hs : (seqs vs).Pairwise (· < ·)) (hbd : ∀ x ∈ vs, 0 < x.seq ∧ x.seq ≤ 1073741824) (h1 : 1 ≤ t) (h2 : t ≤ 9223372036854775807) (hl : vs.length ≤ 1000) (hb : b ≤ m.next) :
  ∃ m', Ca 41 [v, I t] m (I (upto (seqs vs) t)) m' ∧ Nx m m' := by
 obtain ⟨m', k1, k2⟩ := search_spec h hs hbd h1 h2 (by omega) hb
 have hu := upto_eq hs t
 have hle : upto (seqs vs) t ≤ (seqs vs).length := List.countP_le_length
 rw [List.length_map] at hle
 refine ⟨m', callX_of (call_go (F := _) rfl rfl fun Q hQ => ?_), k2⟩
 by_cases hm : t ∈ seqs vs
 ·rw [if_pos hm] at hu
  have w1 : IntKind.i64.wrap ((below (seqs vs) t : Int) + 1) = ((upto (seqs vs) t : Nat) : Int) := by rw [wrap_i64 (by omega) (by omega)]; omega
  rw [decide_eq_true hm] at k1
  simp only [symA, symB, X.put, X.look, Arg.ev, keepOf, restrict, evs, initEnv, Nat.reduceEqDiff, ↓reduceIte, reduceCtorEq, eq_self, goR_call k1, w1]
  exact hQ _ _ _ rfl ⟨rfl, rfl⟩
 ·rw [if_neg hm, Nat.add_zero] at hu
  rw [decide_eq_false hm, ← hu] at k1
  simp only [symA, symB, X.put, X.look, Arg.ev, keepOf, restrict, evs, initEnv, Nat.reduceEqDiff, ↓reduceIte, reduceCtorEq, eq_self, goR_call k1]
  exact hQ _ _ _ rfl ⟨rfl, rfl⟩
def cutV (vs : List Ver) (n : Nat) : Nat := if 0 < n ∧ (vs[n - 1]?.map Ver.gone) = some false then n - 1 else n
def oldV (vs : List Ver) (f : Int) : Nat := if okC 0 vs = true ∧ 1 ≤ f then cutV vs (upto (seqs vs) f) else 0
theorem old_spec {b : Nat} {m : Mem} {v : Value} {vs : List Ver} {f : Int} (h : RdV b m v vs) (hw : ∀ x ∈ vs, x.Wf) (hl : vs.length ≤ 1000) (hf : f ≤ 9223372036854775807) (hb : b ≤ m.next) :
  ∃ m', Ca 19 [v, I f] m (I (oldV vs f)) m' ∧ Nx m m' := by
 obtain ⟨m1, r1, r2⟩ := right_loop h hw (by omega) hb
 obtain ⟨p, c, hv⟩ := rdv_slice h
 cases hr : okC 0 vs with
 | false =>
  rw [hr] at r1
  refine ⟨m1, callX_of (call_go (F := _) rfl rfl fun Q hQ => ?_), r2⟩
  have e : oldV vs f = 0 := by simp [oldV, hr]
  rw [e] at hQ
  simp only [symA, symB, wantedX, X.put, X.look, Arg.ev, keepOf, restrict, evs, initEnv, Nat.reduceEqDiff, ↓reduceIte, reduceCtorEq, eq_self, undef, goR_call r1]
  exact hQ _ _ _ rfl ⟨rfl, rfl⟩
 | true =>
  rw [hr] at r1
  by_cases h1 : f < 1
  ·refine ⟨m1, callX_of (call_go (F := _) rfl rfl fun Q hQ => ?_), r2⟩
   have e : oldV vs f = 0 := by unfold oldV; rw [if_neg (by omega)]
   rw [e] at hQ
   simp only [symA, symB, wantedX, X.put, X.look, Arg.ev, keepOf, restrict, evs, initEnv, Nat.reduceEqDiff, ↓reduceIte, reduceCtorEq, eq_self, goR_call r1, h1]
   exact hQ _ _ _ rfl ⟨rfl, rfl⟩
  ·have e : oldV vs f = cutV vs (upto (seqs vs) f) := by unfold oldV; rw [if_pos ⟨hr, by omega⟩]
   obtain ⟨hbd, hs⟩ := okC_bounds (Int.le_refl 0) hr
   obtain ⟨m2, k1, k2⟩ := behind_spec (h.fr r2 hb (fun _ h => h.elim)) hs hbd (by omega) hf hl (by have := r2.next; omega)
   have f2 : Nx m m2 := r2.comp k2 fun _ _ h => h
   have hle : upto (seqs vs) f ≤ (seqs vs).length := List.countP_le_length
   rw [List.length_map] at hle
   refine ⟨m2, callX_of (call_go (F := _) rfl rfl fun Q hQ => ?_), f2⟩
   rw [e] at hQ
   generalize upto (seqs vs) f = n at k1 hQ hle
   by_cases hn : (0 : Int) < (n : Int)
   ·obtain ⟨x, hx⟩ : ∃ x, vs[n - 1]? = some x := ⟨_, List.getElem?_eq_getElem (by omega)⟩
    obtain ⟨a, c', hv', ⟨o, hg, c0, c1, c2, c3, c4⟩, l5, l3⟩ := rdv_at (h.fr f2 hb (fun _ h => h.elim)) hx
    subst hv'
    have w1 : IntKind.i64.wrap ((n : Int) - 1) = ((n - 1 : Nat) : Int) := by rw [wrap_i64 (by omega) (by omega)]; omega
    have hlt : n - 1 < vs.length := by omega
    cases hgn : x.gone with
    | false =>
     have e2 : cutV vs n = n - 1 := by unfold cutV; rw [if_pos ⟨by omega, by rw [hx]; simp [hgn]⟩]
     rw [e2] at hQ
     simp only [symA, symB, wantedX, X.put, X.look, Arg.ev, keepOf, restrict, evs, initEnv, Nat.reduceEqDiff, ↓reduceIte, reduceCtorEq, eq_self, goR_call r1, h1, goR_call k1, hn, w1, hlt, hg, c1, hgn]
     exact hQ _ _ _ rfl ⟨rfl, rfl⟩
    | true =>
     have e2 : cutV vs n = n := by unfold cutV; rw [if_neg (by rw [hx]; simp [hgn])]
     rw [e2] at hQ
     simp only [symA, symB, wantedX, X.put, X.look, Arg.ev, keepOf, restrict, evs, initEnv, Nat.reduceEqDiff, ↓reduceIte, reduceCtorEq, eq_self, goR_call r1, h1, goR_call k1, hn, w1, hlt, hg, c1, hgn]
     exact hQ _ _ _ rfl ⟨rfl, rfl⟩
   ·have e2 : cutV vs n = n := by unfold cutV; rw [if_neg (by omega)]
    rw [e2] at hQ
    simp only [symA, symB, wantedX, X.put, X.look, Arg.ev, keepOf, restrict, evs, initEnv, Nat.reduceEqDiff, ↓reduceIte, reduceCtorEq, eq_self, undef, goR_call r1, h1, goR_call k1, hn]
    exact hQ _ _ _ rfl ⟨rfl, rfl⟩
theorem okC_weak : ∀ {vs : List Ver} {p : Int}, 0 ≤ p → okC p vs = true → okC 0 vs = true
 | [], p, h0, h => rfl
 | x :: vs, p, h0, h => by
  simp only [okC, Bool.and_eq_true, decide_eq_true_eq] at h ⊢
  exact ⟨⟨by omega, h.1.2⟩, h.2⟩
theorem okC_drop : ∀ {vs : List Ver} (k : Nat), okC 0 vs = true → okC 0 (vs.drop k) = true
 | vs, 0, h => h
 | [], k + 1, h => by simp [okC]
 | x :: vs, k + 1, h => by
  simp only [okC, Bool.and_eq_true, decide_eq_true_eq] at h
  rw [List.drop_succ_cons]
  exact okC_drop k (okC_weak (by omega) h.2)
def sweepV (vs : List Ver) (f : Int) : List Ver := if okC 0 vs = true then vs.drop (oldV vs f) else []
theorem oldV_le (vs : List Ver) (f : Int) : oldV vs f ≤ vs.length := by
 have hle : upto (seqs vs) f ≤ (seqs vs).length := List.countP_le_length
 rw [List.length_map] at hle
 unfold oldV cutV
 split
 ·split <;> omega
 ·omega
theorem sweep_spec {b : Nat} {m : Mem} {v : Value} {vs : List Ver} {f : Int} (h : RdV b m v vs) (hc : ∀ m', Nx m m' → CutOk m' 5 v) (hw : ∀ x ∈ vs, x.Wf) (hl : vs.length ≤ 1000) (hf : f ≤ 9223372036854775807) (hb : b ≤ m.next) :
  ∃ v' m' F, Ca 22 [v, I f] m v' m' ∧ OwnV F m' v' (sweepV vs f) ∧ (∀ i ∈ F, m.next ≤ i) ∧ Nx m m' := by
 obtain ⟨m1, r1, r2⟩ := right_loop h hw (by omega) hb
 cases hr : okC 0 vs with
 | false =>
  rw [hr] at r1
  have e : sweepV vs f = [] := by simp [sweepV, hr]
  rw [e]
  refine ⟨.slice none 0 0, m1, [], callX_of (call_go (F := _) rfl rfl fun Q hQ => ?_), .nil, by simp, r2⟩
  simp only [symA, symB, X.put, X.look, Arg.ev, keepOf, restrict, evs, initEnv, Nat.reduceEqDiff, ↓reduceIte, reduceCtorEq, eq_self, goR_call r1]
  exact hQ _ _ _ rfl ⟨rfl, rfl⟩
 | true =>
  rw [hr] at r1
  have e : sweepV vs f = vs.drop (oldV vs f) := by simp [sweepV, hr]
  rw [e]
  have hb1 : b ≤ m1.next := by have := r2.next; omega
  obtain ⟨m2, k1, k2⟩ := old_spec (f := f) (h.fr r2 hb (fun _ h => h.elim)) hw hl hf hb1
  have f2 : Nx m m2 := r2.comp k2 fun _ _ h => h
  have hb2 : b ≤ m2.next := by have := f2.next; omega
  obtain ⟨v3, s1, s2⟩ := slice_from (k := oldV vs f) (kd := .i64) (h.fr f2 hb (fun _ h => h.elim)) (hc m2 f2) (by rw [List.length_map]; exact oldV_le vs f)
  rw [← List.map_drop] at s2
  obtain ⟨v4, m4, F, c1, c2, c3, c4⟩ := clone_spec s2 hb2 (by rw [List.length_drop]; omega)
  refine ⟨v4, m4, F, callX_of (call_go (F := _) rfl rfl fun Q hQ => ?_), c2, fun i hi => by have := c3 i hi; have := f2.next; omega, f2.comp c4 fun _ _ h => h⟩
  simp only [symA, symB, X.put, X.look, Arg.ev, keepOf, restrict, evs, evO, initEnv, Nat.reduceEqDiff, ↓reduceIte, reduceCtorEq, eq_self, goR_call r1, goR_call k1, s1, goR_call c1]
  exact hQ _ _ _ rfl ⟨rfl, rfl⟩
theorem upto_split : ∀ {xs : List Int} (t : Int), xs.Pairwise (· < ·) → upto xs t ≤ xs.length ∧ (∀ i x, xs[i]? = some x → (i < upto xs t ↔ x ≤ t))
 | [], t, _ => by simp [upto]
 | x :: xs, t, h => by
  obtain ⟨h1, h2⟩ := List.pairwise_cons.1 h
  obtain ⟨k1, k2⟩ := upto_split t h2
  by_cases hx : x ≤ t
  ·have e : upto (x :: xs) t = upto xs t + 1 := by simp [upto, hx]
   rw [e]
   refine ⟨by simp; omega, fun i y hy => ?_⟩
   cases i with
   | zero => simp at hy; subst hy; simp [hx]
   | succ i =>
    simp only [List.getElem?_cons_succ] at hy
    have := k2 i y hy
    omega
  ·have e : upto (x :: xs) t = 0 := by
    unfold upto
    rw [List.countP_eq_zero]
    intro y hy
    simp only [List.mem_cons] at hy
    rcases hy with rfl | hy
    ·simpa using hx
    ·have := h1 y hy; simp; omega
   rw [e]
   refine ⟨by omega, fun i y hy => ?_⟩
   have hm := List.mem_of_getElem? hy
   simp only [List.mem_cons] at hm
   rcases hm with rfl | hm
   ·omega
   ·have := h1 y hm; omega
theorem sweep_ok {vs : List Ver} (h : okC 0 vs = true) (f : Int) : okC 0 (sweepV vs f) = true := by
 unfold sweepV; rw [if_pos h]; exact okC_drop _ h
theorem bin_sadd {m : Mem} {a b : ByteArray} (h : a.size + b.size ≤ 4611686018427387903) : binE Try.prog .add 9 (.string a) (.string b) m = some (.val (.string (a ++ b)) m) := by
 have h1 : ¬ (((a.size + b.size : Nat) : Int) > IntKind.i64.max) := by
  have : IntKind.i64.max = 9223372036854775807 := by decide
  rw [this]; omega
 unfold binE
 rw [if_pos (show (plain (.string a) && plain (.string b)) = true from rfl), ans_bind]
 have hg : ans Try.prog (eqGuard .add 9 (.const (.string a)) (.const (.string b)) (.string a) (.string b)) = some () := rfl
 rw [hg]
 simp only [Option.bind_some, binOp, Op.stringOp]
 rw [if_neg h1]
 rfl
theorem size_append {a b : ByteArray} : (a ++ b).size = a.size + b.size := ByteArray.size_append
def bstrE (m : Mem) (v : Value) : Option XR := (xlen v).bind fun n => (xfirst m 1 n v).bind fun cs => (byteL cs).bind fun bs => match v with
  | .slice _ _ _ => some (.val (.string ⟨bs.toArray⟩) m)
  | _ => none
theorem xi_bstr {e : Env} {m : Mem} {x : Arg} : xi Try.prog e m (.bstr x) = (x.ev e).bind (bstrE m) := (rfl)
def arrSliceE (m : Mem) (n : Nat) : Value → Option XR
 | .pointer (some a) => if a.spot.isNone then some (.val (.slice (some ⟨a.block, a.off, none⟩) n n) m) else none
 | _ => none
theorem xi_arrSlice {e : Env} {m : Mem} {n : Nat} {x : Arg} : xi Try.prog e m (.arrSlice n x) = (x.ev e).bind (arrSliceE m n) := (rfl)
theorem arrSlice_ptr {m : Mem} {n b off : Nat} : arrSliceE m n (.pointer (some ⟨b, off, none⟩)) = some (.val (.slice (some ⟨b, off, none⟩) n n) m) := (rfl)
theorem byteL_len : ∀ {cs : List Value}, (∀ c ∈ cs, ∃ n, c = .int .u8 n) → ∃ bs, byteL cs = some bs ∧ bs.length = cs.length
 | [], _ => ⟨[], rfl, rfl⟩
 | c :: cs, h => by
  obtain ⟨n, rfl⟩ := h c (by simp)
  obtain ⟨bs, h1, h2⟩ := byteL_len (cs := cs) (fun c hc => h c (by simp [hc]))
  exact ⟨_ :: bs, by simp only [byteL, h1, Option.map_some]; rfl, by simp [h2]⟩
theorem bstr_row {m : Mem} {b n : Nat} {o : XObj} (hg : m.get b = some o) (hl : o.cells.length = n) (h0 : 0 < n) (h : ∀ c ∈ o.cells, ∃ k, c = .int .u8 k) : ∃ s, bstrE m (.slice (some ⟨b, 0, none⟩) n n) = some (.val (.string s) m) ∧ s.size = n := by
 obtain ⟨bs, h1, h2⟩ := byteL_len h
 refine ⟨⟨bs.toArray⟩, ?_, by show bs.toArray.size = n; simp [h2, hl]⟩
 have hx : xfirst m 1 n (.slice (some ⟨b, 0, none⟩) n n) = some o.cells := by
  simp only [xfirst]
  rw [if_neg (by omega), xload_own hg (by omega), List.drop_zero, List.take_of_length_le (by omega)]
 simp only [bstrE, xlen, Option.bind_some, hx, h1]
theorem conv_u8 {m : Mem} {n : Int} : convE Try.prog 31 5 m (U n) = some (.val (.int .u8 (IntKind.u8.wrap n)) m) := by kernel_rfl
def Bytes8 (cs : List Value) : Prop := cs.length = 8 ∧ ∀ c ∈ cs, ∃ n, c = .int .u8 n
theorem bytes8_set {cs : List Value} {i : Nat} {n : Int} (h : Bytes8 cs) : Bytes8 (cs.set i (.int .u8 n)) := by
 refine ⟨by simp [h.1], fun c hc => ?_⟩
 rcases List.mem_or_eq_of_mem_set hc with h1 | rfl
 ·exact h.2 c h1
 ·exact ⟨n, rfl⟩
theorem bytes8_zero : Bytes8 [.int .u8 0, .int .u8 0, .int .u8 0, .int .u8 0, .int .u8 0, .int .u8 0, .int .u8 0, .int .u8 0] := ⟨rfl, by simp⟩
theorem shr_any {m : Mem} {p : Int} {i : Nat} (h : i < 8) : ∃ q, binE Try.prog .shr 31 (U p) (I (8 * (7 - (i : Int)))) m = some (.val (U q) m) := by
 have : i = 0 ∨ i = 1 ∨ i = 2 ∨ i = 3 ∨ i = 4 ∨ i = 5 ∨ i = 6 ∨ i = 7 := by omega
 rcases this with rfl | rfl | rfl | rfl | rfl | rfl | rfl | rfl
 ·exact ⟨p.fdiv (2 ^ 56), by kernel_rfl⟩
 ·exact ⟨p.fdiv (2 ^ 48), by kernel_rfl⟩
 ·exact ⟨p.fdiv (2 ^ 40), by kernel_rfl⟩
 ·exact ⟨p.fdiv (2 ^ 32), by kernel_rfl⟩
 ·exact ⟨p.fdiv (2 ^ 24), by kernel_rfl⟩
 ·exact ⟨p.fdiv (2 ^ 16), by kernel_rfl⟩
 ·exact ⟨p.fdiv (2 ^ 8), by kernel_rfl⟩
 ·exact ⟨p.fdiv (2 ^ 0), by kernel_rfl⟩
def indexArrE (m : Mem) (n size : Nat) : Value → Value → Option XR
 | .pointer (some a), vi => (asNat vi).bind fun j => if j < n ∧ a.spot.isNone then some (.val (.pointer (some ⟨a.block, a.off + j * size, none⟩)) m) else none
 | _, _ => none
theorem xi_indexArr {e : Env} {m : Mem} {n size : Nat} {x y : Arg} : xi Try.prog e m (.indexAddrArr n size x y) = (x.ev e).bind fun v => (y.ev e).bind fun vi => indexArrE m n size v vi := by
 simp only [xi]
 congr 1; funext v; congr 1; funext vi
 cases v with
 | pointer p => cases p <;> rfl
 | _ => rfl
theorem indexArr_at {m : Mem} {n size i b off : Nat} {kd : IntKind} (h : i < n) : indexArrE m n size (.pointer (some ⟨b, off, none⟩)) (.int kd (i : Int)) = some (.val (.pointer (some ⟨b, off + i * size, none⟩)) m) := by
 simp [indexArrE, asNat_nat, h]
theorem and_any {m : Mem} {p : Int} : binE Try.prog .and 31 (U p) (U 9223372036854775808) m = some (.val (U (IntKind.u64.wrap ((BitVec.ofInt 64 p) &&& (BitVec.ofInt 64 9223372036854775808)).toNat)) m) := by kernel_rfl
theorem andNot_any {m : Mem} {p : Int} : binE Try.prog .andNot 31 (U p) (U 9223372036854775808) m = some (.val (U (IntKind.u64.wrap ((BitVec.ofInt 64 p) &&& ~~~(BitVec.ofInt 64 9223372036854775808)).toNat)) m) := by kernel_rfl
theorem place_spec {m : Mem} {b : Nat} (hb : b < 18446744073709551616) : ∃ q, Ca 80 [Fl b] m (U q) m := by
 have key : Wc 80 [Fl b] m fun r m' => (∃ q, r = U q) ∧ m' = m := by
  refine call_go (F := _) rfl rfl fun Q hQ => ?_
  by_cases h1 : ((nb b : Nat) : Int) = 9221120237041090561
  ·simp only [symA, symB, X.put, X.look, Arg.ev, keepOf, restrict, evs, initEnv, Nat.reduceEqDiff, ↓reduceIte, reduceCtorEq, eq_self, goR_call (bits_spec hb), h1]
   exact hQ _ _ _ rfl ⟨⟨_, rfl⟩, rfl⟩
  ·obtain ⟨q1, e1⟩ : ∃ q1, binE Try.prog .and 31 (U ((nb b : Nat) : Int)) (U 9223372036854775808) m = some (.val (U q1) m) := ⟨_, and_any⟩
   obtain ⟨q2, e2⟩ : ∃ q2, binE Try.prog .andNot 31 (U ((nb b : Nat) : Int)) (U 9223372036854775808) m = some (.val (U q2) m) := ⟨_, andNot_any⟩
   by_cases h2 : q1 = 0
   ·simp only [symA, symB, X.put, X.look, Arg.ev, keepOf, restrict, evs, initEnv, Nat.reduceEqDiff, ↓reduceIte, reduceCtorEq, eq_self, ne_eq, goR_call (bits_spec hb), h1, e1, h2]
    exact hQ _ _ _ rfl ⟨⟨_, rfl⟩, rfl⟩
   ·simp only [symA, symB, X.put, X.look, Arg.ev, keepOf, restrict, evs, initEnv, Nat.reduceEqDiff, ↓reduceIte, reduceCtorEq, eq_self, ne_eq, goR_call (bits_spec hb), h1, e1, h2, e2]
    exact hQ _ _ _ rfl ⟨⟨_, rfl⟩, rfl⟩
 obtain ⟨r, m', hc, ⟨q, rfl⟩, rfl⟩ := key
 exact ⟨q, hc⟩
theorem key_spec {m : Mem} {b : Nat} (hb : b < 18446744073709551616) : ∃ s m', Ca 68 [Fl b] m (.string s) m' ∧ s.size = 8 ∧ Nx m m' := by
 have key : Wc 68 [Fl b] m fun r m' => (∃ s : ByteArray, r = .string s ∧ s.size = 8) ∧ Nx m m' := by
  refine call_go (F := _) rfl rfl fun Q hQ => ?_
  obtain ⟨m1, hm1⟩ : ∃ m1, m.push { cells := [.int .u8 0, .int .u8 0, .int .u8 0, .int .u8 0, .int .u8 0, .int .u8 0, .int .u8 0, .int .u8 0], rw := true, spare := none, kin := [] } = m1 := ⟨_, rfl⟩
  have g1 : m1.get m.next = some { cells := [.int .u8 0, .int .u8 0, .int .u8 0, .int .u8 0, .int .u8 0, .int .u8 0, .int .u8 0, .int .u8 0], rw := true, spare := none, kin := [] } := by rw [← hm1, push_self]
  have f1 : Nx m m1 := hm1 ▸ .push
  obtain ⟨q, hp⟩ := place_spec (m := m1) hb
  simp only [symA, symB, X.put, X.look, Arg.ev, keepOf, restrict, evs, initEnv, Nat.reduceEqDiff, ↓reduceIte, reduceCtorEq, eq_self, hm1, goR_call hp]
  refine loop_go (fun j e m' => Nx m m' ∧ ∃ (i : Nat) (cs : List Value), i ≤ 8 ∧ j = 8 - i ∧ Bytes8 cs ∧ m'.get m.next = some { cells := cs, rw := true, spare := none, kin := [] } ∧
   e = [(3, .pointer (some ⟨m.next, 0, none⟩)), (4, U q), (8, I i)]) 8 ⟨f1, 0, _, by omega, rfl, bytes8_zero, g1, rfl⟩ ?_
  rintro j e m2 N' B' hN hB ⟨hnx, i, cs, hi, rfl, hcs, hg, rfl⟩
  by_cases hlt : i < 8
  ·have hlt' : (i : Int) < 8 := by omega
   obtain ⟨u, hu⟩ := shr_any (m := m2) (p := q) hlt
   have w1 : IntKind.i64.wrap (7 - (i : Int)) = 7 - i := wrap_i64 (by omega) (by omega)
   have w2 : IntKind.i64.wrap (8 * (7 - (i : Int))) = 8 * (7 - i) := wrap_i64 (by omega) (by omega)
   have w3 : IntKind.i64.wrap ((i : Int) + 1) = ((i + 1 : Nat) : Int) := by rw [wrap_i64 (by omega) (by omega)]; omega
   have st : storeE m2 1 (.pointer (some ⟨m.next, i, none⟩)) (.int .u8 (IntKind.u8.wrap u)) = some (.skip (put1 m2 m.next i { cells := cs, rw := true, spare := none, kin := [] } (.int .u8 (IntKind.u8.wrap u)))) := store1 hg rfl rfl (by show i < cs.length; rw [hcs.1]; exact hlt) rfl rfl
   simp only [symA, symB, X.put, X.look, Arg.ev, keepOf, restrict, Nat.reduceEqDiff, ↓reduceIte, eq_self, hlt', w1, w2, hu, conv_u8, xi_indexArr, indexArr_at hlt, st, w3]
   exact hN _ _ (8 - (i + 1)) (by omega) ⟨hnx.comp (Fm.set (S := (· = m.next)) rfl) (fun i hi h => by omega), i + 1, cs.set i (.int .u8 (IntKind.u8.wrap u)), by omega, rfl, bytes8_set hcs, by simp [put1, Mem.get_set], rfl⟩
  ·have hlt' : ¬ (i : Int) < 8 := by omega
   obtain ⟨s, hs, hsz⟩ := bstr_row hg hcs.1 (by omega) hcs.2
   simp only [symA, symB, X.put, X.look, Arg.ev, keepOf, restrict, Nat.reduceEqDiff, ↓reduceIte, eq_self, hlt']
   refine hB _ _ _ ?_
   simp only [symA, symB, X.put, X.look, Arg.ev, keepOf, restrict, ↓reduceIte, eq_self, xi_arrSlice, arrSlice_ptr, xi_bstr, hs]
   exact hQ _ _ _ rfl ⟨⟨s, rfl, hsz⟩, hnx⟩
 obtain ⟨r, m', hc, ⟨s, rfl, hs⟩, hf⟩ := key
 exact ⟨s, m', hc, hs, hf⟩
def wgtX (x : Ver) : Nat := bif x.num then 9 else 1 + x.text.size
theorem pack_spec {m : Mem} {x : Ver} (hx : x.Wf) (hr : vright x.num x.text x.bits = true) : ∃ s m', Ca 51 [.agg ⟨x.val⟩] m (.tuple #[.string s, I 0]) m' ∧ s.size = wgtX x ∧ Nx m m' := by
 obtain ⟨m1, hm1⟩ : ∃ m1, m.push { cells := x.val, rw := true, spare := none, kin := [] } = m1 := ⟨_, rfl⟩
 have g1 : m1.get m.next = some { cells := x.val, rw := true, spare := none, kin := [] } := by rw [← hm1, push_self]
 have f1 : Nx m m1 := hm1 ▸ .push
 have n1 : m1.next = m.next + 1 := by rw [← hm1]; simp
 have l1 : ldA m1 3 (.pointer (some ⟨m.next, 0, none⟩)) = some (.val (.agg ⟨x.val⟩) m1) := by simp [ldA, xload, g1]
 obtain ⟨m2, v1, v2⟩ := vright_spec (m := m1) (n := x.num) (t := x.text) hx.bits
 rw [hr] at v1
 have g2 := v2.get (by omega) (fun h => h) g1
 have f2 : Nx m m2 := f1.comp v2 fun _ _ h => h
 cases hn : x.num with
 | false =>
  have hsz : x.text.size ≤ 64 := by simp [vright, hn] at hr; omega
  have hadd := bin_sadd (m := m2) (a := ⟨#[0]⟩) (b := x.text) (by show 1 + x.text.size ≤ _; omega)
  refine ⟨⟨#[0]⟩ ++ x.text, m2, callX_of (call_go (F := _) rfl rfl fun Q hQ => ?_), by rw [size_append]; simp [wgtX, hn]; rfl, f2⟩
  simp only [symA, symB, X.put, X.look, Arg.ev, keepOf, restrict, evs, initEnv, Nat.reduceEqDiff, ↓reduceIte, eq_self, hm1, l1, goR_call v1, g2, hn, hadd]
  exact hQ _ _ _ rfl ⟨rfl, rfl⟩
 | true =>
  obtain ⟨s, m3, k1, k2, k3⟩ := key_spec (m := m2) (nb_lt hx.bits)
  have hadd := bin_sadd (m := m3) (a := ⟨#[1]⟩) (b := s) (by show 1 + s.size ≤ _; omega)
  refine ⟨⟨#[1]⟩ ++ s, m3, callX_of (call_go (F := _) rfl rfl fun Q hQ => ?_), by rw [size_append, k2]; simp [wgtX, hn]; rfl, f2.comp k3 fun _ _ h => h⟩
  simp only [symA, symB, X.put, X.look, Arg.ev, keepOf, restrict, evs, initEnv, Nat.reduceEqDiff, ↓reduceIte, eq_self, hm1, l1, goR_call v1, g2, hn, goR_call (from_spec hx.bits), goR_call k1, hadd]
  exact hQ _ _ _ rfl ⟨rfl, rfl⟩
theorem vweight_spec {m : Mem} {x : Ver} (hx : x.Wf) (hr : vright x.num x.text x.bits = true) : ∃ m', Ca 33 [.agg ⟨x.val⟩] m (I (wgtX x : Nat)) m' ∧ Nx m m' := by
 obtain ⟨m1, hm1⟩ : ∃ m1, m.push { cells := x.val, rw := true, spare := none, kin := [] } = m1 := ⟨_, rfl⟩
 have g1 : m1.get m.next = some { cells := x.val, rw := true, spare := none, kin := [] } := by rw [← hm1, push_self]
 have f1 : Nx m m1 := hm1 ▸ .push
 have l1 : ldA m1 3 (.pointer (some ⟨m.next, 0, none⟩)) = some (.val (.agg ⟨x.val⟩) m1) := by simp [ldA, xload, g1]
 obtain ⟨s, m2, p1, p2, p3⟩ := pack_spec (m := m1) hx hr
 refine ⟨m2, callX_of (call_go (F := _) rfl rfl fun Q hQ => ?_), f1.comp p3 fun _ _ h => h⟩
 rw [← p2] at hQ
 simp only [symA, symB, X.put, X.look, Arg.ev, keepOf, restrict, evs, initEnv, Nat.reduceEqDiff, ↓reduceIte, eq_self, hm1, l1, goR_call p1, calc_len]
 exact hQ _ _ _ rfl ⟨rfl, rfl⟩
def zv : Ver := ⟨0, false, false, .empty, 0⟩
theorem build33 {m : Mem} : buildE m Z5 [(0, 1), (1, 1), (2, 3)] [] = some (.val (.agg ⟨zv.row⟩) m) := by kernel_rfl
theorem res_cell {e : Env} {m : Mem} {t u p : Nat} {x : Ver} {b : Bool} (h1 : X.look e t = some (.pointer (some ⟨p, 0, none⟩))) (h2 : X.look e u = some (.bool b)) (h3 : m.get p = some { cells := x.row, rw := true, spare := none, kin := [] }) :
  xres e m [.cell true 5 t, .tmp u] = some [.agg ⟨x.row⟩, .bool b] := by
 simp [xres, h1, h2, xload, h3]
def lastV (vs : List Ver) : Option Ver := if okC 0 vs = true then vs.getLast? else none
def tupV (o : Option Ver) : Value := .tuple #[.agg ⟨(o.getD zv).row⟩, .bool o.isSome]
theorem last_spec {b : Nat} {m : Mem} {v : Value} {vs : List Ver} (h : RdV b m v vs) (hw : ∀ x ∈ vs, x.Wf) (hl : vs.length ≤ 1000) (hb : b ≤ m.next) : ∃ m', Ca 25 [v] m (tupV (lastV vs)) m' ∧ Nx m m' := by
 obtain ⟨m1, hm1⟩ : ∃ m1, m.push { cells := zv.row, rw := true, spare := none, kin := [] } = m1 := ⟨_, rfl⟩
 have g1 : m1.get m.next = some { cells := zv.row, rw := true, spare := none, kin := [] } := by rw [← hm1, push_self]
 have f1 : Nx m m1 := hm1 ▸ .push
 have n1 : m1.next = m.next + 1 := by rw [← hm1]; simp
 have hz : m.push { cells := [I 0, .bool false, .bool false, .string .empty, U 0], rw := true, spare := none, kin := [] } = m1 := hm1
 obtain ⟨m2, r1, r2⟩ := right_loop (h.fr f1 hb (fun _ h => h.elim)) hw (by omega) (by omega)
 have f2 : Nx m m2 := f1.comp r2 fun _ _ h => h
 have g2 := r2.get (by omega) (fun h => h) g1
 obtain ⟨p, c, hv⟩ := rdv_slice h
 obtain ⟨m3, s1, s2, s3, s4⟩ := row_store (n := 5) (row := zv.row) g2 rfl rfl rfl rfl (by omega)
 have f3 : Nx m m3 := f2.comp s3 fun i hi h => by omega
 cases hr : okC 0 vs with
 | false =>
  rw [hr] at r1
  refine ⟨m3, callX_of (call_go (F := _) rfl rfl fun Q hQ => ?_), f3⟩
  have e : lastV vs = none := by simp [lastV, hr]
  rw [e] at hQ
  simp only [symA, symB, wantedX, X.put, X.look, Arg.ev, keepOf, restrict, evs, initEnv, Nat.reduceEqDiff, ↓reduceIte, reduceCtorEq, eq_self, undef, hz, goR_call r1, build33, s1]
  exact hQ _ _ _ (by exact res_cell (x := zv) (b := false) rfl rfl s2) ⟨rfl, rfl⟩
 | true =>
  rw [hr] at r1
  have e : lastV vs = vs.getLast? := by simp [lastV, hr]
  by_cases h0 : (vs.length : Int) = 0
  ·have hnil : vs = [] := List.eq_nil_of_length_eq_zero (by omega)
   refine ⟨m3, callX_of (call_go (F := _) rfl rfl fun Q hQ => ?_), f3⟩
   rw [e, hnil] at hQ
   subst hv
   simp only [symA, symB, wantedX, X.put, X.look, Arg.ev, keepOf, restrict, evs, initEnv, Nat.reduceEqDiff, ↓reduceIte, reduceCtorEq, goInt, eq_self, hz, goR_call r1, h0, build33, s1]
   exact hQ _ _ _ (by exact res_cell (x := zv) (b := false) rfl rfl s2) ⟨rfl, rfl⟩
  ·obtain ⟨x, hx⟩ : ∃ x, vs[vs.length - 1]? = some x := ⟨_, List.getElem?_eq_getElem (by omega)⟩
   obtain ⟨a, c', hv', _, l5, _⟩ := rdv_at (h.fr f2 hb (fun _ h => h.elim)) hx
   obtain ⟨m4, t1, t2, t3, t4⟩ := row_store (n := 5) (row := x.row) g2 rfl rfl rfl rfl (by omega)
   have w1 : IntKind.i64.wrap ((vs.length : Int) - 1) = ((vs.length - 1 : Nat) : Int) := by rw [wrap_i64 (by omega) (by omega)]; omega
   have hlt : vs.length - 1 < vs.length := by omega
   refine ⟨m4, callX_of (call_go (F := _) rfl rfl fun Q hQ => ?_), f2.comp t3 fun i hi h => by omega⟩
   rw [e, List.getLast?_eq_getElem?, hx] at hQ
   subst hv'
   simp only [symA, symB, wantedX, X.put, X.look, Arg.ev, keepOf, restrict, evs, initEnv, Nat.reduceEqDiff, ↓reduceIte, reduceCtorEq, goInt, eq_self, hz, goR_call r1, h0, w1, hlt, l5, t1]
   exact hQ _ _ _ (by exact res_cell (x := x) (b := true) rfl rfl t2) ⟨rfl, rfl⟩
def wgtL (o : Option Ver) : Nat := match o with
 | some x => if x.gone then 0 else wgtX x
 | none => 0
theorem okC_vright : ∀ {vs : List Ver} {p : Int} {x : Ver}, okC p vs = true → x ∈ vs → vright x.num x.text x.bits = true
 | [], p, x, h, hx => by simp at hx
 | y :: vs, p, x, h, hx => by
  simp only [okC, Bool.and_eq_true, decide_eq_true_eq] at h
  simp only [List.mem_cons] at hx
  rcases hx with rfl | hx
  ·have := h.1.2
   simp only [rightV, Bool.and_eq_true] at this
   exact this.1.2
  ·exact okC_vright h.2 hx
theorem weight_spec {b : Nat} {m : Mem} {v : Value} {vs : List Ver} (h : RdV b m v vs) (hw : ∀ x ∈ vs, x.Wf) (hl : vs.length ≤ 1000) (hb : b ≤ m.next) : ∃ m', Ca 50 [v] m (I (wgtL (lastV vs) : Nat)) m' ∧ Nx m m' := by
 obtain ⟨m1, r1, r2⟩ := last_spec h hw hl hb
 obtain ⟨m2, s1, g2, f2, n2⟩ := new_store (m := m1) (z := [I 0, .bool false, .bool false, .string .empty, U 0]) (row := ((lastV vs).getD zv).row) (n := 5) rfl rfl (by omega)
 have f02 : Nx m m2 := r2.comp f2 fun _ _ h => h
 unfold tupV at r1
 cases hla : lastV vs with
 | none =>
  rw [hla] at r1 s1 g2
  refine ⟨m2, callX_of (call_go (F := _) rfl rfl fun Q hQ => ?_), f02⟩
  simp only [Option.getD_none, Option.isSome_none] at r1 s1 g2
  simp only [symA, symB, wantedX, X.put, X.look, Arg.ev, keepOf, restrict, evs, initEnv, Nat.reduceEqDiff, ↓reduceIte, reduceCtorEq, eq_self, undef, goR_call r1, s1]
  exact hQ _ _ _ rfl ⟨rfl, rfl⟩
 | some x =>
  rw [hla] at r1 s1 g2
  simp only [Option.getD_some, Option.isSome_some] at r1 s1 g2
  have hmem : x ∈ vs ∧ okC 0 vs = true := by
   unfold lastV at hla
   split at hla
   ·rename_i hr; exact ⟨List.mem_of_getLast? hla, hr⟩
   ·cases hla
  cases hgn : x.gone with
  | true =>
   refine ⟨m2, callX_of (call_go (F := _) rfl rfl fun Q hQ => ?_), f02⟩
   have e : wgtL (some x) = 0 := by simp [wgtL, hgn]
   rw [e] at hQ
   simp only [symA, symB, wantedX, X.put, X.look, Arg.ev, keepOf, restrict, evs, initEnv, Nat.reduceEqDiff, ↓reduceIte, reduceCtorEq, eq_self, goR_call r1, s1, g2, hgn]
   exact hQ _ _ _ rfl ⟨rfl, rfl⟩
  | false =>
   obtain ⟨m3, k1, k2⟩ := vweight_spec (m := m2) (hw x hmem.1) (okC_vright hmem.2 hmem.1)
   have l3 : ldA m2 3 (.pointer (some ⟨m1.next, 2, none⟩)) = some (.val (.agg ⟨x.val⟩) m2) := by simp [ldA, xload, g2]
   refine ⟨m3, callX_of (call_go (F := _) rfl rfl fun Q hQ => ?_), f02.comp k2 fun _ _ h => h⟩
   have e : wgtL (some x) = wgtX x := by simp [wgtL, hgn]
   rw [e] at hQ
   simp only [symA, symB, wantedX, X.put, X.look, Arg.ev, keepOf, restrict, evs, initEnv, Nat.reduceEqDiff, ↓reduceIte, reduceCtorEq, eq_self, goR_call r1, s1, g2, hgn, l3, goR_call k1]
   exact hQ _ _ _ rfl ⟨rfl, rfl⟩
end Go.Proofs.Ytnlmnejellipdaa.Chn
