/-
  Own work. What the chain's functions come to: values, versions.
-/
import Derived.Test.YtnlmnejellipdaaGreatC1
namespace Go.Proofs.YtnlmnejellipdaaGreat.Chn
open Go X
set_option maxRecDepth 100000
attribute [local irreducible] X.Go' X.GoO X.GoR X.GoG X.GoC X.GoF X.GoFV X.GoFG X.Ex X.GoD X.GoDV X.GoDG
set_option linter.unusedVariables false
set_option linter.unusedSimpArgs false

structure Ver where
  seq : Int
  gone : Bool
  num : Bool
  text : ByteArray
  bits : Nat

namespace Ver
abbrev row (v : Ver) : List Value := [I v.seq, .bool v.gone, .bool v.num, .string v.text, U (v.bits : Int)]
abbrev val (v : Ver) : List Value := [.bool v.num, .string v.text, U (v.bits : Int)]
structure Wf (v : Ver) : Prop where
  lo : -9223372036854775808 ≤ v.seq
  hi : v.seq ≤ 9223372036854775807
  bits : v.bits < 18446744073709551616
end Ver

def vright (n : Bool) (t : ByteArray) (b : Nat) : Bool := bif n then decide (t = .empty) && decide (nb b = b) else decide (b = 0) && decide (t.size ≤ 64)
def isz (v : Ver) : Bool := !v.num && decide (v.text = .empty) && decide (v.bits = 0)
def rightV (v : Ver) : Bool := decide (1 ≤ v.seq) && decide (v.seq ≤ 1073741824) && vright v.num v.text v.bits && (!v.gone || isz v)

theorem calc_len {m : Mem} {t : ByteArray} {n : List Bool} : calcE Tryz.prog .len [9] 3 n [.string t] m = some (.val (I (t.size : Nat)) m) := by kernel_rfl
theorem size_empty {t : ByteArray} : (t.size = 0) ↔ t = .empty := by
  constructor
  · intro h
    obtain ⟨d⟩ := t
    have : d.size = 0 := h
    have : d = #[] := Array.eq_empty_of_size_eq_zero this
    rw [this]; rfl
  · rintro rfl; rfl

theorem eq_val {d : Nat} {n n' : Bool} {t t' : ByteArray} {b b' : Int} : ∀ {fs : Array Field}, Tryz.prog.underlying 45 = some (.struct fs) →
    eqFs Tryz.prog (d + 1) ⟨[.bool n, .string t, U b]⟩ ⟨[.bool n', .string t', U b']⟩ fs.toList = some (decide (n = n') && decide (t = t') && decide (b = b')) := by
  intro fs hu
  rw [Tryz.underlying45] at hu
  cases hu
  have p1 : ans Tryz.prog (Go.part 4 (⟨[.bool n, .string t, U b]⟩ : Array Value) 0) = some (.bool n) := by kernel_rfl
  have p2 : ans Tryz.prog (Go.part 4 (⟨[.bool n', .string t', U b']⟩ : Array Value) 0) = some (.bool n') := by kernel_rfl
  have p3 : ans Tryz.prog (Go.part 9 (⟨[.bool n, .string t, U b]⟩ : Array Value) 1) = some (.string t) := by kernel_rfl
  have p4 : ans Tryz.prog (Go.part 9 (⟨[.bool n', .string t', U b']⟩ : Array Value) 1) = some (.string t') := by kernel_rfl
  have p5 : ans Tryz.prog (Go.part 34 (⟨[.bool n, .string t, U b]⟩ : Array Value) 2) = some (U b) := by kernel_rfl
  have p6 : ans Tryz.prog (Go.part 34 (⟨[.bool n', .string t', U b']⟩ : Array Value) 2) = some (U b') := by kernel_rfl
  have q1 : ans Tryz.prog (Op.equalIn (d + 1) 4 (.bool n) (.bool n')) = some (n == n') := ans_equal_bool Tryz.underlying4
  have q2 : ans Tryz.prog (Op.equalIn (d + 1) 9 (.string t) (.string t')) = some (decide (t = t')) := ans_equal_text Tryz.underlying9
  have q3 : ans Tryz.prog (Op.equalIn (d + 1) 34 (U b) (U b')) = some (b == b') := ans_equal_int Tryz.underlying34
  simp only [eqFs, p1, p2, p3, p4, p5, p6, q1, q2, q3, Option.bind_some]
  by_cases h1 : n = n' <;> by_cases h2 : t = t' <;> by_cases h3 : b = b' <;> simp [h1, h2, h3]

theorem eq31 {m : Mem} {n n' : Bool} {t t' : ByteArray} {b b' : Int} : binE Tryz.prog .eql 45 (.agg ⟨[.bool n, .string t, U b]⟩) (.agg ⟨[.bool n', .string t', U b']⟩) m = some (.val (.bool (decide (n = n') && decide (t = t') && decide (b = b'))) m) :=
  bin_aeql Tryz.underlying45 (by kernel_rfl) (by kernel_rfl) rfl rfl (eq_val (d := 9998) Tryz.underlying45)
theorem ne31 {m : Mem} {n n' : Bool} {t t' : ByteArray} {b b' : Int} : binE Tryz.prog .neq 45 (.agg ⟨[.bool n, .string t, U b]⟩) (.agg ⟨[.bool n', .string t', U b']⟩) m = some (.val (.bool (!(decide (n = n') && decide (t = t') && decide (b = b')))) m) :=
  bin_aneq Tryz.underlying45 (by kernel_rfl) (by kernel_rfl) rfl rfl (eq_val (d := 9998) Tryz.underlying45)

/-- The same version? -/
def sameV (v w : Ver) : Bool := decide (v.seq = w.seq) && decide (v.gone = w.gone) && (decide (v.num = w.num) && decide (v.text = w.text) && decide (v.bits = w.bits))
theorem sameV_iff {v w : Ver} : sameV v w = true ↔ v = w := by
  obtain ⟨a, b, c, d, e⟩ := v
  obtain ⟨a', b', c', d', e'⟩ := w
  simp [sameV, and_assoc]

theorem eq_row {v w : Ver} : ∀ {fs : Array Field}, Tryz.prog.underlying 127 = some (.struct fs) → eqFs Tryz.prog 9999 ⟨v.row⟩ ⟨w.row⟩ fs.toList = some (sameV v w) := by
  intro fs hu
  rw [Tryz.underlying127] at hu
  cases hu
  have p1 : ∀ u : Ver, ans Tryz.prog (Go.part 3 (⟨u.row⟩ : Array Value) 0) = some (I u.seq) := fun u => by kernel_rfl
  have p2 : ∀ u : Ver, ans Tryz.prog (Go.part 4 (⟨u.row⟩ : Array Value) 1) = some (.bool u.gone) := fun u => by kernel_rfl
  have p3 : ∀ u : Ver, ans Tryz.prog (Go.part 45 (⟨u.row⟩ : Array Value) 2) = some (.agg ⟨u.val⟩) := fun u => by kernel_rfl
  have q1 : ans Tryz.prog (Op.equalIn 9999 3 (I v.seq) (I w.seq)) = some (v.seq == w.seq) := ans_equal_int (d := 9998) Tryz.underlying3
  have q2 : ans Tryz.prog (Op.equalIn 9999 4 (.bool v.gone) (.bool w.gone)) = some (v.gone == w.gone) := ans_equal_bool (d := 9998) Tryz.underlying4
  have q3 : ans Tryz.prog (Op.equalIn 9999 45 (.agg ⟨v.val⟩) (.agg ⟨w.val⟩)) = some (decide (v.num = w.num) && decide (v.text = w.text) && decide ((v.bits : Int) = w.bits)) := ans_equal_struct (d := 9998) Tryz.underlying45 (by kernel_rfl) (eq_val (d := 9997) Tryz.underlying45)
  simp only [eqFs, p1, p2, p3, q1, q2, q3, Option.bind_some, sameV]
  have h3 : decide ((v.bits : Int) = w.bits) = decide (v.bits = w.bits) := decide_eq_decide.2 (by omega)
  rw [h3]
  generalize (decide (v.num = w.num) && decide (v.text = w.text) && decide (v.bits = w.bits)) = c
  by_cases h1 : v.seq = w.seq <;> by_cases h2 : v.gone = w.gone <;> cases c <;> simp [h1, h2]

theorem eq33 {m : Mem} {v w : Ver} : binE Tryz.prog .eql 127 (.agg ⟨v.row⟩) (.agg ⟨w.row⟩) m = some (.val (.bool (sameV v w)) m) :=
  bin_aeql Tryz.underlying127 (by kernel_rfl) (by kernel_rfl) rfl rfl (eq_row Tryz.underlying127)
theorem ne33 {m : Mem} {v w : Ver} : binE Tryz.prog .neq 127 (.agg ⟨v.row⟩) (.agg ⟨w.row⟩) m = some (.val (.bool (!sameV v w)) m) :=
  bin_aneq Tryz.underlying127 (by kernel_rfl) (by kernel_rfl) rfl rfl (eq_row Tryz.underlying127)

/-! ## Values -/
theorem vright_spec {m : Mem} {n : Bool} {t : ByteArray} {b : Nat} (hb : b < 18446744073709551616) : ∃ m', Ca 77 [.agg ⟨[.bool n, .string t, U (b : Int)]⟩] m (.bool (vright n t b)) m' ∧ Nx m m' := by
  refine ⟨m.push { cells := [.bool n, .string t, U (b : Int)], rw := true, spare := none, kin := [] }, callX_of (call_go (F := _) rfl rfl fun Q hQ => ?_), .push⟩
  have hnb := nb_lt hb
  cases n with
  | false =>
    by_cases h1 : (b : Int) = 0
    · have h1' : b = 0 := by omega
      by_cases h2 : (t.size : Int) ≤ 64
      · have e : vright false t b = true := by simp [vright, h1']; omega
        rw [e] at hQ
        simp only [symA, go_opsd, symB, wantedX, X.put, X.look, Arg.ev, keepOf, restrict, evs, evO, initEnv, xres, tup, noTup, cls, quiet, Nat.reduceAdd, Nat.reduceEqDiff, ↓reduceIte, reduceCtorEq, goInt, exists_eq_left', eq_self, Int.reduceLT, Int.reduceLE, Int.reduceEq, Int.reduceNeg, Int.reduceAdd, Int.reduceSub, forall_const, ne_eq, undef, Nat.reducePow, Nat.reduceDiv, Nat.reduceMod, h1, calc_len, h2]
        exact hQ _ _ _ rfl ⟨rfl, by rw [h1]⟩
      · have e : vright false t b = false := by simp [vright, h1']; omega
        rw [e] at hQ
        simp only [symA, go_opsd, symB, wantedX, X.put, X.look, Arg.ev, keepOf, restrict, evs, evO, initEnv, xres, tup, noTup, cls, quiet, Nat.reduceAdd, Nat.reduceEqDiff, ↓reduceIte, reduceCtorEq, goInt, exists_eq_left', eq_self, Int.reduceLT, Int.reduceLE, Int.reduceEq, Int.reduceNeg, Int.reduceAdd, Int.reduceSub, forall_const, ne_eq, undef, Nat.reducePow, Nat.reduceDiv, Nat.reduceMod, h1, calc_len, h2]
        exact hQ _ _ _ rfl ⟨rfl, by rw [h1]⟩
    · have e : vright false t b = false := by simp [vright]; omega
      rw [e] at hQ
      simp only [symA, go_opsd, symB, wantedX, X.put, X.look, Arg.ev, keepOf, restrict, evs, evO, initEnv, xres, tup, noTup, cls, quiet, Nat.reduceAdd, Nat.reduceEqDiff, ↓reduceIte, reduceCtorEq, goInt, exists_eq_left', eq_self, Int.reduceLT, Int.reduceLE, Int.reduceEq, Int.reduceNeg, Int.reduceAdd, Int.reduceSub, forall_const, ne_eq, undef, Nat.reducePow, Nat.reduceDiv, Nat.reduceMod, h1]
      exact hQ _ _ _ rfl ⟨rfl, rfl⟩
  | true =>
    by_cases h1 : t = .empty
    · by_cases h2 : nb b = b
      · have e : vright true t b = true := by simp [vright, h1, h2]
        rw [e] at hQ
        have h3 : ((nb (nb b) : Nat) : Int) = (b : Int) := by rw [nb_nb, h2]
        simp only [symA, go_opsd, symB, wantedX, X.put, X.look, Arg.ev, keepOf, restrict, evs, evO, initEnv, xres, tup, noTup, cls, quiet, Nat.reduceAdd, Nat.reduceEqDiff, ↓reduceIte, reduceCtorEq, goInt, exists_eq_left', eq_self, Int.reduceLT, Int.reduceLE, Int.reduceEq, Int.reduceNeg, Int.reduceAdd, Int.reduceSub, forall_const, ne_eq, undef, Nat.reducePow, Nat.reduceDiv, Nat.reduceMod, bin_seql, h1, goR_call (from_spec hb), goDV3c (from_spec hb), goDV3c (bits_spec hnb), h3]
        exact hQ _ _ _ rfl ⟨rfl, by rw [h1]⟩
      · have e : vright true t b = false := by simp [vright, h1, h2]
        rw [e] at hQ
        have h3 : ¬ ((nb (nb b) : Nat) : Int) = (b : Int) := by rw [nb_nb]; omega
        simp only [symA, go_opsd, symB, wantedX, X.put, X.look, Arg.ev, keepOf, restrict, evs, evO, initEnv, xres, tup, noTup, cls, quiet, Nat.reduceAdd, Nat.reduceEqDiff, ↓reduceIte, reduceCtorEq, goInt, exists_eq_left', eq_self, Int.reduceLT, Int.reduceLE, Int.reduceEq, Int.reduceNeg, Int.reduceAdd, Int.reduceSub, forall_const, ne_eq, undef, Nat.reducePow, Nat.reduceDiv, Nat.reduceMod, bin_seql, h1, goDV3c (from_spec hb), goDV3c (bits_spec hnb), h3]
        exact hQ _ _ _ rfl ⟨rfl, by rw [h1]⟩
    · have e : vright true t b = false := by simp [vright, h1]
      rw [e] at hQ
      simp only [symA, go_opsd, symB, wantedX, X.put, X.look, Arg.ev, keepOf, restrict, evs, evO, initEnv, xres, tup, noTup, cls, quiet, Nat.reduceAdd, Nat.reduceEqDiff, ↓reduceIte, reduceCtorEq, goInt, exists_eq_left', eq_self, Int.reduceLT, Int.reduceLE, Int.reduceEq, Int.reduceNeg, Int.reduceAdd, Int.reduceSub, forall_const, ne_eq, undef, Nat.reducePow, Nat.reduceDiv, Nat.reduceMod, bin_seql, h1]
      exact hQ _ _ _ rfl ⟨rfl, rfl⟩

theorem rvright_spec {m : Mem} {n : Bool} {t : ByteArray} {b : Nat} (hb : b < 18446744073709551616) : ∃ m', Ca 40 [.agg ⟨[.bool n, .string t, U (b : Int)]⟩] m (.bool (vright n t b)) m' ∧ Nx m m' := by
  refine ⟨m.push { cells := [.bool n, .string t, U (b : Int)], rw := true, spare := none, kin := [] }, callX_of (call_go (F := _) rfl rfl fun Q hQ => ?_), .push⟩
  cases n with
  | false =>
    by_cases h1 : (b : Int) = 0
    · have h1' : b = 0 := by omega
      by_cases h2 : (t.size : Int) ≤ 64
      · have e : vright false t b = true := by simp [vright, h1']; omega
        rw [e] at hQ
        simp only [symA, go_opsd, symB, wantedX, X.put, X.look, Arg.ev, keepOf, restrict, evs, evO, initEnv, xres, tup, noTup, cls, quiet, Nat.reduceAdd, Nat.reduceEqDiff, ↓reduceIte, reduceCtorEq, goInt, exists_eq_left', eq_self, Int.reduceLT, Int.reduceLE, Int.reduceEq, Int.reduceNeg, Int.reduceAdd, Int.reduceSub, forall_const, ne_eq, undef, Nat.reducePow, Nat.reduceDiv, Nat.reduceMod, h1, calc_len, h2]
        exact hQ _ _ _ rfl ⟨rfl, by rw [h1]⟩
      · have e : vright false t b = false := by simp [vright, h1']; omega
        rw [e] at hQ
        simp only [symA, go_opsd, symB, wantedX, X.put, X.look, Arg.ev, keepOf, restrict, evs, evO, initEnv, xres, tup, noTup, cls, quiet, Nat.reduceAdd, Nat.reduceEqDiff, ↓reduceIte, reduceCtorEq, goInt, exists_eq_left', eq_self, Int.reduceLT, Int.reduceLE, Int.reduceEq, Int.reduceNeg, Int.reduceAdd, Int.reduceSub, forall_const, ne_eq, undef, Nat.reducePow, Nat.reduceDiv, Nat.reduceMod, h1, calc_len, h2]
        exact hQ _ _ _ rfl ⟨rfl, by rw [h1]⟩
    · have e : vright false t b = false := by simp [vright]; omega
      rw [e] at hQ
      simp only [symA, go_opsd, symB, wantedX, X.put, X.look, Arg.ev, keepOf, restrict, evs, evO, initEnv, xres, tup, noTup, cls, quiet, Nat.reduceAdd, Nat.reduceEqDiff, ↓reduceIte, reduceCtorEq, goInt, exists_eq_left', eq_self, Int.reduceLT, Int.reduceLE, Int.reduceEq, Int.reduceNeg, Int.reduceAdd, Int.reduceSub, forall_const, ne_eq, undef, Nat.reducePow, Nat.reduceDiv, Nat.reduceMod, h1]
      exact hQ _ _ _ rfl ⟨rfl, rfl⟩
  | true =>
    have hff : ∀ m, Ca 94 [U (b : Int)] m (Fl b) m := fun m => by
      have := ffrom_spec (m := m) (n := (b : Int))
      rwa [Int.toNat_natCast] at this
    by_cases h1 : (t.size : Int) = 0
    · have h1' : t = .empty := size_empty.1 (by omega)
      by_cases h2 : nb b = b
      · have e : vright true t b = true := by simp [vright, h1', h2]
        rw [e] at hQ
        have h3 : ((nb b : Nat) : Int) = (b : Int) := by rw [h2]
        simp only [symA, go_opsd, symB, wantedX, X.put, X.look, Arg.ev, keepOf, restrict, evs, evO, initEnv, xres, tup, noTup, cls, quiet, Nat.reduceAdd, Nat.reduceEqDiff, ↓reduceIte, reduceCtorEq, goInt, exists_eq_left', eq_self, Int.reduceLT, Int.reduceLE, Int.reduceEq, Int.reduceNeg, Int.reduceAdd, Int.reduceSub, forall_const, ne_eq, undef, Nat.reducePow, Nat.reduceDiv, Nat.reduceMod, calc_len, h1, goDV3c (hff _), goDV3c (rbits_spec hb), h3]
        exact hQ _ _ _ rfl ⟨rfl, rfl⟩
      · have e : vright true t b = false := by simp [vright, h1', h2]
        rw [e] at hQ
        have h3 : ¬ ((nb b : Nat) : Int) = (b : Int) := by omega
        simp only [symA, go_opsd, symB, wantedX, X.put, X.look, Arg.ev, keepOf, restrict, evs, evO, initEnv, xres, tup, noTup, cls, quiet, Nat.reduceAdd, Nat.reduceEqDiff, ↓reduceIte, reduceCtorEq, goInt, exists_eq_left', eq_self, Int.reduceLT, Int.reduceLE, Int.reduceEq, Int.reduceNeg, Int.reduceAdd, Int.reduceSub, forall_const, ne_eq, undef, Nat.reducePow, Nat.reduceDiv, Nat.reduceMod, calc_len, h1, goDV3c (hff _), goDV3c (rbits_spec hb), h3]
        exact hQ _ _ _ rfl ⟨rfl, rfl⟩
    · have h1' : ¬ t = .empty := fun h => h1 (by rw [h]; rfl)
      have e : vright true t b = false := by simp [vright, h1']
      rw [e] at hQ
      simp only [symA, go_opsd, symB, wantedX, X.put, X.look, Arg.ev, keepOf, restrict, evs, evO, initEnv, xres, tup, noTup, cls, quiet, Nat.reduceAdd, Nat.reduceEqDiff, ↓reduceIte, reduceCtorEq, goInt, exists_eq_left', eq_self, Int.reduceLT, Int.reduceLE, Int.reduceEq, Int.reduceNeg, Int.reduceAdd, Int.reduceSub, forall_const, ne_eq, undef, Nat.reducePow, Nat.reduceDiv, Nat.reduceMod, calc_len, h1]
      exact hQ _ _ _ rfl ⟨rfl, rfl⟩

theorem build31 {m : Mem} : buildE m [.bool false, .string .empty, U 0] [(0, 1), (1, 1), (2, 1)] [] = some (.val (.agg ⟨[.bool false, .string .empty, U 0]⟩) m) := by kernel_rfl
theorem isz_eq (v : Ver) : (decide (v.num = false) && decide (v.text = .empty) && decide ((v.bits : Int) = 0)) = isz v := by
  unfold isz
  have : decide ((v.bits : Int) = 0) = decide (v.bits = 0) := decide_eq_decide.2 (by omega)
  rw [this]
  cases v.num <;> simp

theorem right_spec {m : Mem} {v : Ver} (hv : v.Wf) : ∃ m', Ca 140 [.agg ⟨v.row⟩] m (.bool (rightV v)) m' ∧ Nx m m' := by
  obtain ⟨m1, hm1⟩ : ∃ m1, m.push { cells := v.row, rw := true, spare := none, kin := [] } = m1 := ⟨_, rfl⟩
  have g1 : m1.get m.next = some { cells := v.row, rw := true, spare := none, kin := [] } := by rw [← hm1, push_self]
  have f1 : Nx m m1 := hm1 ▸ .push
  have hn1 : m.next < m1.next := by rw [← hm1]; simp
  have l1 : ldA m1 3 (.pointer (some ⟨m.next, 2, none⟩)) = some (.val (.agg ⟨v.val⟩) m1) := by simp [ldA, xload, g1]
  obtain ⟨m2, v1, v2⟩ := vright_spec (m := m1) (n := v.num) (t := v.text) hv.bits
  have g2 : m2.get m.next = some { cells := v.row, rw := true, spare := none, kin := [] } := v2.get hn1 (fun h => h) g1
  have l2 : ldA m2 3 (.pointer (some ⟨m.next, 2, none⟩)) = some (.val (.agg ⟨v.val⟩) m2) := by simp [ldA, xload, g2]
  have e1 := eq31 (m := m2) (n := v.num) (n' := false) (t := v.text) (t' := .empty) (b := (v.bits : Int)) (b' := 0)
  rw [isz_eq] at e1
  by_cases a1 : 1 ≤ v.seq
  · by_cases a2 : v.seq ≤ 1073741824
    · refine ⟨m2, callX_of (call_go (F := _) rfl rfl fun Q hQ => ?_), f1.comp v2 fun _ _ h => h⟩
      cases a3 : vright v.num v.text v.bits with
      | false =>
        have e : rightV v = false := by simp [rightV, a3]
        rw [e] at hQ
        rw [a3] at v1
        simp only [symA, go_opsd, symB, wantedX, X.put, X.look, Arg.ev, keepOf, restrict, evs, evO, initEnv, xres, tup, noTup, cls, quiet, Nat.reduceAdd, Nat.reduceEqDiff, ↓reduceIte, reduceCtorEq, goInt, exists_eq_left', eq_self, Int.reduceLT, Int.reduceLE, Int.reduceEq, Int.reduceNeg, Int.reduceAdd, Int.reduceSub, forall_const, ne_eq, undef, Nat.reducePow, Nat.reduceDiv, Nat.reduceMod, hm1, g1, a1, a2, l1, goR_call v1]
        exact hQ _ _ _ rfl ⟨rfl, rfl⟩
      | true =>
        rw [a3] at v1
        cases a4 : v.gone with
        | false =>
          have e : rightV v = true := by simp [rightV, a1, a2, a3, a4]
          rw [e] at hQ
          simp only [symA, go_opsd, symB, wantedX, X.put, X.look, Arg.ev, keepOf, restrict, evs, evO, initEnv, xres, tup, noTup, cls, quiet, Nat.reduceAdd, Nat.reduceEqDiff, ↓reduceIte, reduceCtorEq, goInt, exists_eq_left', eq_self, Int.reduceLT, Int.reduceLE, Int.reduceEq, Int.reduceNeg, Int.reduceAdd, Int.reduceSub, forall_const, ne_eq, undef, Nat.reducePow, Nat.reduceDiv, Nat.reduceMod, hm1, g1, a1, a2, l1, goR_call v1, g2, a4]
          exact hQ _ _ _ rfl ⟨rfl, rfl⟩
        | true =>
          have e : rightV v = isz v := by simp [rightV, a1, a2, a3, a4]
          rw [e] at hQ
          simp only [symA, go_opsd, symB, wantedX, X.put, X.look, Arg.ev, keepOf, restrict, evs, evO, initEnv, xres, tup, noTup, cls, quiet, Nat.reduceAdd, Nat.reduceEqDiff, ↓reduceIte, reduceCtorEq, goInt, exists_eq_left', eq_self, Int.reduceLT, Int.reduceLE, Int.reduceEq, Int.reduceNeg, Int.reduceAdd, Int.reduceSub, forall_const, ne_eq, undef, Nat.reducePow, Nat.reduceDiv, Nat.reduceMod, hm1, g1, a1, a2, l1, goR_call v1, g2, a4, l2, build31, e1]
          exact hQ _ _ _ rfl ⟨rfl, rfl⟩
    · refine ⟨m1, callX_of (call_go (F := _) rfl rfl fun Q hQ => ?_), f1⟩
      have e : rightV v = false := by simp [rightV, a2]
      rw [e] at hQ
      simp only [symA, go_opsd, symB, wantedX, X.put, X.look, Arg.ev, keepOf, restrict, evs, evO, initEnv, xres, tup, noTup, cls, quiet, Nat.reduceAdd, Nat.reduceEqDiff, ↓reduceIte, reduceCtorEq, goInt, exists_eq_left', eq_self, Int.reduceLT, Int.reduceLE, Int.reduceEq, Int.reduceNeg, Int.reduceAdd, Int.reduceSub, forall_const, ne_eq, undef, Nat.reducePow, Nat.reduceDiv, Nat.reduceMod, hm1, g1, a1, a2]
      exact hQ _ _ _ rfl ⟨rfl, rfl⟩
  · refine ⟨m1, callX_of (call_go (F := _) rfl rfl fun Q hQ => ?_), f1⟩
    have e : rightV v = false := by simp [rightV, a1]
    rw [e] at hQ
    simp only [symA, go_opsd, symB, wantedX, X.put, X.look, Arg.ev, keepOf, restrict, evs, evO, initEnv, xres, tup, noTup, cls, quiet, Nat.reduceAdd, Nat.reduceEqDiff, ↓reduceIte, reduceCtorEq, goInt, exists_eq_left', eq_self, Int.reduceLT, Int.reduceLE, Int.reduceEq, Int.reduceNeg, Int.reduceAdd, Int.reduceSub, forall_const, ne_eq, undef, Nat.reducePow, Nat.reduceDiv, Nat.reduceMod, hm1, g1, a1]
    exact hQ _ _ _ rfl ⟨rfl, rfl⟩

end Go.Proofs.YtnlmnejellipdaaGreat.Chn
