/-
  Own work. What the functions come to: slices of entries, of writes.
-/
import Derived.Test.YtlldfkapaeidoaaD2
namespace Go.Proofs.Ytlldfkapaeidoaa
open Go X
set_option maxRecDepth 100000
set_option linter.unusedVariables false
set_option linter.unusedSimpArgs false

abbrev row5 (k : ByteArray) (s : Value) (n : Bool) (t : ByteArray) (c : Nat) : List Value := [.string k, s, .bool n, .string t, U (c : Int)]
/-- A row stands at an address. -/
structure At5 (m : Mem) (b off : Nat) (k : ByteArray) (s : Value) (n : Bool) (t : ByteArray) (c : Nat) : Prop where
  o : ∃ o, m.get b = some o ∧ o.cells[off]? = some (.string k) ∧ o.cells[off + 1]? = some s ∧ o.cells[off + 2]? = some (.bool n) ∧ o.cells[off + 2 + 1]? = some (.string t) ∧ o.cells[off + 2 + 2]? = some (U (c : Int))
  l5 : ldA m 5 (.pointer (some ⟨b, off, none⟩)) = some (.val (.agg ⟨row5 k s n t c⟩) m)
  l3 : ldA m 3 (.pointer (some ⟨b, off + 2, none⟩)) = some (.val (.agg ⟨valL n t c⟩) m)

theorem row_at {b : Nat} {m : Mem} {v : Value} {rows : List (List Value)} (h : RdS b m 5 v rows) {i : Nat} {k : ByteArray} {s : Value} {n : Bool} {t : ByteArray} {c : Nat} (hi : rows[i]? = some (row5 k s n t c)) :
    ∃ a c', v = .slice (some a) rows.length c' ∧ At5 m a.block (a.off + i * 5) k s n t c := by
  obtain ⟨p, c', rfl, hc, h⟩ := h
  obtain ⟨h1, a, o, rfl, h3, h4, h5⟩ := h i _ hi
  refine ⟨a, c', rfl, ⟨o, h4, h5 0 (by omega), h5 1 (by omega), h5 2 (by omega), h5 3 (by omega), h5 4 (by omega)⟩, ?_, ?_⟩
  · have := xload_cells (m := m) (b := a.block) (off := a.off + i * 5) (n := 5) (r := row5 k s n t c) h4 rfl (by omega) h5
    simp [ldA, this]
  · have := xload_cells (m := m) (b := a.block) (off := a.off + i * 5 + 2) (n := 3) (r := valL n t c) h4 rfl (by omega) (fun j hj => by
      have := h5 (2 + j) (by omega)
      rw [show a.off + i * 5 + 2 + j = a.off + i * 5 + (2 + j) by omega, this]
      match j, hj with
      | 0, _ => rfl
      | 1, _ => rfl
      | 2, _ => rfl)
    simp [ldA, this]

/-- Behind a key. -/
def prevOk : Option ByteArray → ByteArray → Bool
  | none, _ => true
  | some l, k => decide (ltT l k)

/-! ## Ent -/
abbrev rowsE (vs : List Ent) : List (List Value) := vs.map Ent.row
abbrev RdE (b : Nat) (m : Mem) (v : Value) (vs : List Ent) : Prop := RdS b m 5 v (rowsE vs)
theorem rdE_slice {b : Nat} {m : Mem} {v : Value} {vs : List Ent} (h : RdE b m v vs) : ∃ p c, v = .slice p vs.length c := by
  obtain ⟨p, c, rfl⟩ := h.slice
  exact ⟨p, c, by simp⟩
theorem rdE_at {b : Nat} {m : Mem} {v : Value} {vs : List Ent} (h : RdE b m v vs) {i : Nat} {x : Ent} (hi : vs[i]? = some x) : ∃ a c, v = .slice (some a) vs.length c ∧ At5 m a.block (a.off + i * 5) x.key (I x.seq) x.num x.text x.bits := by
  obtain ⟨a, c, h1, h2⟩ := row_at h (i := i) (k := x.key) (s := I x.seq) (n := x.num) (t := x.text) (c := x.bits) (by simp [hi])
  exact ⟨a, c, by rw [h1]; simp, h2⟩
def okE : Option ByteArray → List Ent → Bool
  | _, [] => true
  | last, x :: r => rightE x && prevOk last x.key && okE (some x.key) r
def lastE (vs : List Ent) : Nat → Option ByteArray
  | 0 => none
  | k + 1 => (vs[k]?).map Ent.key
theorem lastE_succ {vs : List Ent} {k : Nat} {y : Ent} (h : vs[k]? = some y) : lastE vs (k + 1) = some y.key := by simp [lastE, h]

/-! ## Wr -/
abbrev rowsW (vs : List Wr) : List (List Value) := vs.map Wr.row
abbrev RdW (b : Nat) (m : Mem) (v : Value) (vs : List Wr) : Prop := RdS b m 5 v (rowsW vs)
theorem rdW_slice {b : Nat} {m : Mem} {v : Value} {vs : List Wr} (h : RdW b m v vs) : ∃ p c, v = .slice p vs.length c := by
  obtain ⟨p, c, rfl⟩ := h.slice
  exact ⟨p, c, by simp⟩
theorem rdW_at {b : Nat} {m : Mem} {v : Value} {vs : List Wr} (h : RdW b m v vs) {i : Nat} {x : Wr} (hi : vs[i]? = some x) : ∃ a c, v = .slice (some a) vs.length c ∧ At5 m a.block (a.off + i * 5) x.key (.bool x.gone) x.num x.text x.bits := by
  obtain ⟨a, c, h1, h2⟩ := row_at h (i := i) (k := x.key) (s := .bool x.gone) (n := x.num) (t := x.text) (c := x.bits) (by simp [hi])
  exact ⟨a, c, by rw [h1]; simp, h2⟩
def okW : Option ByteArray → List Wr → Bool
  | _, [] => true
  | last, x :: r => rightW x && prevOk last x.key && okW (some x.key) r
def lastW (vs : List Wr) : Nat → Option ByteArray
  | 0 => none
  | k + 1 => (vs[k]?).map Wr.key
theorem lastW_succ {vs : List Wr} {k : Nat} {y : Wr} (h : vs[k]? = some y) : lastW vs (k + 1) = some y.key := by simp [lastW, h]

def farE (vs : List Ent) : Bool := decide (60 < vs.length) || vs.any fun x => decide (200 < x.key.size) || decide (200 < x.text.size)
theorem farE_spec {b : Nat} {m : Mem} {v : Value} {vs : List Ent} (h : RdE b m v vs) : Ca 8 [v] m (.bool (farE vs)) m := by
  refine callX_of (call_go (F := _) rfl rfl fun Q hQ => ?_)
  obtain ⟨p, c, rfl⟩ := rdE_slice h
  by_cases h0 : (60 : Int) < (vs.length : Int)
  · have e : farE vs = true := by
      have : 60 < vs.length := by omega
      simp [farE, this]
    rw [e] at hQ
    simp only [symA, go_opsd, symB, wantedX, X.put, X.look, Arg.ev, keepOf, restrict, evs, evO, initEnv, xres, tup, noTup, cls, quiet, Nat.reduceAdd, Nat.reduceEqDiff, ↓reduceIte, reduceCtorEq, goInt, exists_eq_left', eq_self, Int.reduceLT, Int.reduceLE, Int.reduceEq, Int.reduceNeg, Int.reduceAdd, Int.reduceSub, forall_const, ne_eq, undef, Nat.reducePow, Nat.reduceDiv, Nat.reduceMod, h0]
    exact hQ _ _ _ rfl ⟨rfl, rfl⟩
  · simp only [symA, go_opsd, symB, wantedX, X.put, X.look, Arg.ev, keepOf, restrict, evs, evO, initEnv, xres, tup, noTup, cls, quiet, Nat.reduceAdd, Nat.reduceEqDiff, ↓reduceIte, reduceCtorEq, goInt, exists_eq_left', eq_self, Int.reduceLT, Int.reduceLE, Int.reduceEq, Int.reduceNeg, Int.reduceAdd, Int.reduceSub, forall_const, ne_eq, undef, Nat.reducePow, Nat.reduceDiv, Nat.reduceMod, h0]
    have e0 : farE vs = vs.any fun x => decide (200 < x.key.size) || decide (200 < x.text.size) := by
      have : ¬ 60 < vs.length := by omega
      simp [farE, this]
    refine loop_go (fun j e m' => m' = m ∧ ∃ i : Nat, i ≤ vs.length ∧ j = vs.length - i ∧ (vs.any fun x => decide (200 < x.key.size) || decide (200 < x.text.size)) = ((vs.drop i).any fun x => decide (200 < x.key.size) || decide (200 < x.text.size)) ∧ e = [(0, .slice p vs.length c), (3, I i)]) vs.length ⟨rfl, 0, by omega, rfl, rfl, rfl⟩ ?_
    rintro j e m' N' B' hN hB ⟨rfl, i, hi, rfl, hany, rfl⟩
    by_cases hlt : i < vs.length
    · have hlt' : (i : Int) < (vs.length : Int) := by omega
      obtain ⟨x, hx⟩ : ∃ x, vs[i]? = some x := ⟨_, List.getElem?_eq_getElem hlt⟩
      obtain ⟨a, c', hv, ⟨o, hg, c0, c1, c2, c3, c4⟩, l5, l3⟩ := rdE_at h hx
      cases hv
      have w1 : IntKind.i64.wrap ((i : Int) + 1) = ((i + 1 : Nat) : Int) := by rw [wrap_i64 (by omega) (by omega)]; omega
      have hd : vs.drop i = x :: vs.drop (i + 1) := by
        obtain ⟨_, rfl⟩ := List.getElem?_eq_some_iff.1 hx
        exact List.drop_eq_getElem_cons hlt
      rw [hd, List.any_cons] at hany
      by_cases hk : (200 : Int) < (x.key.size : Int)
      · have e : farE vs = true := by
          have : decide (200 < x.key.size) = true := decide_eq_true (by omega)
          rw [e0, hany, this]; rfl
        rw [e] at hQ
        simp only [symA, go_opsd, symB, wantedX, X.put, X.look, Arg.ev, keepOf, restrict, evs, evO, initEnv, xres, tup, noTup, cls, quiet, Nat.reduceAdd, Nat.reduceEqDiff, ↓reduceIte, reduceCtorEq, goInt, exists_eq_left', eq_self, Int.reduceLT, Int.reduceLE, Int.reduceEq, Int.reduceNeg, Int.reduceAdd, Int.reduceSub, forall_const, ne_eq, undef, Nat.reducePow, Nat.reduceDiv, Nat.reduceMod, hlt, hlt', hg, c0, calc_len, hk]
        exact hQ _ _ _ rfl ⟨rfl, rfl⟩
      have hk' : decide (200 < x.key.size) = false := decide_eq_false (by omega)
      rw [hk', Bool.false_or] at hany
      by_cases ht : (200 : Int) < (x.text.size : Int)
      · have e : farE vs = true := by
          have : decide (200 < x.text.size) = true := decide_eq_true (by omega)
          rw [e0, hany, this]; rfl
        rw [e] at hQ
        simp only [symA, go_opsd, symB, wantedX, X.put, X.look, Arg.ev, keepOf, restrict, evs, evO, initEnv, xres, tup, noTup, cls, quiet, Nat.reduceAdd, Nat.reduceEqDiff, ↓reduceIte, reduceCtorEq, goInt, exists_eq_left', eq_self, Int.reduceLT, Int.reduceLE, Int.reduceEq, Int.reduceNeg, Int.reduceAdd, Int.reduceSub, forall_const, ne_eq, undef, Nat.reducePow, Nat.reduceDiv, Nat.reduceMod, hlt, hlt', hg, c0, c3, calc_len, hk, ht]
        exact hQ _ _ _ rfl ⟨rfl, rfl⟩
      · have ht' : decide (200 < x.text.size) = false := decide_eq_false (by omega)
        rw [ht', Bool.false_or] at hany
        simp only [symA, go_opsd, symB, wantedX, X.put, X.look, Arg.ev, keepOf, restrict, evs, evO, initEnv, xres, tup, noTup, cls, quiet, Nat.reduceAdd, Nat.reduceEqDiff, ↓reduceIte, reduceCtorEq, goInt, exists_eq_left', eq_self, Int.reduceLT, Int.reduceLE, Int.reduceEq, Int.reduceNeg, Int.reduceAdd, Int.reduceSub, forall_const, ne_eq, undef, Nat.reducePow, Nat.reduceDiv, Nat.reduceMod, hlt, hlt', hg, c0, c3, calc_len, hk, ht, w1]
        exact hN _ _ (vs.length - (i + 1)) (by omega) ⟨rfl, i + 1, by omega, rfl, hany, rfl⟩
    · have hlt' : ¬ (i : Int) < (vs.length : Int) := by omega
      have hd : vs.drop i = [] := List.drop_eq_nil_of_le (by omega)
      rw [hd] at hany
      have e : farE vs = false := by rw [e0, hany]; rfl
      rw [e] at hQ
      simp only [symA, go_opsd, symB, wantedX, X.put, X.look, Arg.ev, keepOf, restrict, evs, evO, initEnv, xres, tup, noTup, cls, quiet, Nat.reduceAdd, Nat.reduceEqDiff, ↓reduceIte, reduceCtorEq, goInt, exists_eq_left', eq_self, Int.reduceLT, Int.reduceLE, Int.reduceEq, Int.reduceNeg, Int.reduceAdd, Int.reduceSub, forall_const, ne_eq, undef, Nat.reducePow, Nat.reduceDiv, Nat.reduceMod, hlt']
      refine hB _ _ _ ?_
      simp only [symA, go_opsd, symB, wantedX, X.put, X.look, Arg.ev, keepOf, restrict, evs, evO, initEnv, xres, tup, noTup, cls, quiet, Nat.reduceAdd, Nat.reduceEqDiff, ↓reduceIte, reduceCtorEq, goInt, exists_eq_left', eq_self, Int.reduceLT, Int.reduceLE, Int.reduceEq, Int.reduceNeg, Int.reduceAdd, Int.reduceSub, forall_const, ne_eq, undef, Nat.reducePow, Nat.reduceDiv, Nat.reduceMod]
      exact hQ _ _ _ rfl ⟨rfl, rfl⟩

def farW (vs : List Wr) : Bool := decide (100 < vs.length) || vs.any fun x => decide (200 < x.key.size) || decide (200 < x.text.size)
theorem farW_spec {b : Nat} {m : Mem} {v : Value} {vs : List Wr} (h : RdW b m v vs) : Ca 9 [v] m (.bool (farW vs)) m := by
  refine callX_of (call_go (F := _) rfl rfl fun Q hQ => ?_)
  obtain ⟨p, c, rfl⟩ := rdW_slice h
  by_cases h0 : (100 : Int) < (vs.length : Int)
  · have e : farW vs = true := by
      have : 100 < vs.length := by omega
      simp [farW, this]
    rw [e] at hQ
    simp only [symA, go_opsd, symB, wantedX, X.put, X.look, Arg.ev, keepOf, restrict, evs, evO, initEnv, xres, tup, noTup, cls, quiet, Nat.reduceAdd, Nat.reduceEqDiff, ↓reduceIte, reduceCtorEq, goInt, exists_eq_left', eq_self, Int.reduceLT, Int.reduceLE, Int.reduceEq, Int.reduceNeg, Int.reduceAdd, Int.reduceSub, forall_const, ne_eq, undef, Nat.reducePow, Nat.reduceDiv, Nat.reduceMod, h0]
    exact hQ _ _ _ rfl ⟨rfl, rfl⟩
  · simp only [symA, go_opsd, symB, wantedX, X.put, X.look, Arg.ev, keepOf, restrict, evs, evO, initEnv, xres, tup, noTup, cls, quiet, Nat.reduceAdd, Nat.reduceEqDiff, ↓reduceIte, reduceCtorEq, goInt, exists_eq_left', eq_self, Int.reduceLT, Int.reduceLE, Int.reduceEq, Int.reduceNeg, Int.reduceAdd, Int.reduceSub, forall_const, ne_eq, undef, Nat.reducePow, Nat.reduceDiv, Nat.reduceMod, h0]
    have e0 : farW vs = vs.any fun x => decide (200 < x.key.size) || decide (200 < x.text.size) := by
      have : ¬ 100 < vs.length := by omega
      simp [farW, this]
    refine loop_go (fun j e m' => m' = m ∧ ∃ i : Nat, i ≤ vs.length ∧ j = vs.length - i ∧ (vs.any fun x => decide (200 < x.key.size) || decide (200 < x.text.size)) = ((vs.drop i).any fun x => decide (200 < x.key.size) || decide (200 < x.text.size)) ∧ e = [(0, .slice p vs.length c), (3, I i)]) vs.length ⟨rfl, 0, by omega, rfl, rfl, rfl⟩ ?_
    rintro j e m' N' B' hN hB ⟨rfl, i, hi, rfl, hany, rfl⟩
    by_cases hlt : i < vs.length
    · have hlt' : (i : Int) < (vs.length : Int) := by omega
      obtain ⟨x, hx⟩ : ∃ x, vs[i]? = some x := ⟨_, List.getElem?_eq_getElem hlt⟩
      obtain ⟨a, c', hv, ⟨o, hg, c0, c1, c2, c3, c4⟩, l5, l3⟩ := rdW_at h hx
      cases hv
      have w1 : IntKind.i64.wrap ((i : Int) + 1) = ((i + 1 : Nat) : Int) := by rw [wrap_i64 (by omega) (by omega)]; omega
      have hd : vs.drop i = x :: vs.drop (i + 1) := by
        obtain ⟨_, rfl⟩ := List.getElem?_eq_some_iff.1 hx
        exact List.drop_eq_getElem_cons hlt
      rw [hd, List.any_cons] at hany
      by_cases hk : (200 : Int) < (x.key.size : Int)
      · have e : farW vs = true := by
          have : decide (200 < x.key.size) = true := decide_eq_true (by omega)
          rw [e0, hany, this]; rfl
        rw [e] at hQ
        simp only [symA, go_opsd, symB, wantedX, X.put, X.look, Arg.ev, keepOf, restrict, evs, evO, initEnv, xres, tup, noTup, cls, quiet, Nat.reduceAdd, Nat.reduceEqDiff, ↓reduceIte, reduceCtorEq, goInt, exists_eq_left', eq_self, Int.reduceLT, Int.reduceLE, Int.reduceEq, Int.reduceNeg, Int.reduceAdd, Int.reduceSub, forall_const, ne_eq, undef, Nat.reducePow, Nat.reduceDiv, Nat.reduceMod, hlt, hlt', hg, c0, calc_len, hk]
        exact hQ _ _ _ rfl ⟨rfl, rfl⟩
      have hk' : decide (200 < x.key.size) = false := decide_eq_false (by omega)
      rw [hk', Bool.false_or] at hany
      by_cases ht : (200 : Int) < (x.text.size : Int)
      · have e : farW vs = true := by
          have : decide (200 < x.text.size) = true := decide_eq_true (by omega)
          rw [e0, hany, this]; rfl
        rw [e] at hQ
        simp only [symA, go_opsd, symB, wantedX, X.put, X.look, Arg.ev, keepOf, restrict, evs, evO, initEnv, xres, tup, noTup, cls, quiet, Nat.reduceAdd, Nat.reduceEqDiff, ↓reduceIte, reduceCtorEq, goInt, exists_eq_left', eq_self, Int.reduceLT, Int.reduceLE, Int.reduceEq, Int.reduceNeg, Int.reduceAdd, Int.reduceSub, forall_const, ne_eq, undef, Nat.reducePow, Nat.reduceDiv, Nat.reduceMod, hlt, hlt', hg, c0, c3, calc_len, hk, ht]
        exact hQ _ _ _ rfl ⟨rfl, rfl⟩
      · have ht' : decide (200 < x.text.size) = false := decide_eq_false (by omega)
        rw [ht', Bool.false_or] at hany
        simp only [symA, go_opsd, symB, wantedX, X.put, X.look, Arg.ev, keepOf, restrict, evs, evO, initEnv, xres, tup, noTup, cls, quiet, Nat.reduceAdd, Nat.reduceEqDiff, ↓reduceIte, reduceCtorEq, goInt, exists_eq_left', eq_self, Int.reduceLT, Int.reduceLE, Int.reduceEq, Int.reduceNeg, Int.reduceAdd, Int.reduceSub, forall_const, ne_eq, undef, Nat.reducePow, Nat.reduceDiv, Nat.reduceMod, hlt, hlt', hg, c0, c3, calc_len, hk, ht, w1]
        exact hN _ _ (vs.length - (i + 1)) (by omega) ⟨rfl, i + 1, by omega, rfl, hany, rfl⟩
    · have hlt' : ¬ (i : Int) < (vs.length : Int) := by omega
      have hd : vs.drop i = [] := List.drop_eq_nil_of_le (by omega)
      rw [hd] at hany
      have e : farW vs = false := by rw [e0, hany]; rfl
      rw [e] at hQ
      simp only [symA, go_opsd, symB, wantedX, X.put, X.look, Arg.ev, keepOf, restrict, evs, evO, initEnv, xres, tup, noTup, cls, quiet, Nat.reduceAdd, Nat.reduceEqDiff, ↓reduceIte, reduceCtorEq, goInt, exists_eq_left', eq_self, Int.reduceLT, Int.reduceLE, Int.reduceEq, Int.reduceNeg, Int.reduceAdd, Int.reduceSub, forall_const, ne_eq, undef, Nat.reducePow, Nat.reduceDiv, Nat.reduceMod, hlt']
      refine hB _ _ _ ?_
      simp only [symA, go_opsd, symB, wantedX, X.put, X.look, Arg.ev, keepOf, restrict, evs, evO, initEnv, xres, tup, noTup, cls, quiet, Nat.reduceAdd, Nat.reduceEqDiff, ↓reduceIte, reduceCtorEq, goInt, exists_eq_left', eq_self, Int.reduceLT, Int.reduceLE, Int.reduceEq, Int.reduceNeg, Int.reduceAdd, Int.reduceSub, forall_const, ne_eq, undef, Nat.reducePow, Nat.reduceDiv, Nat.reduceMod]
      exact hQ _ _ _ rfl ⟨rfl, rfl⟩

theorem sameE_spec {b b' : Nat} {m : Mem} {v w : Value} {vs ws : List Ent} (h : RdE b m v vs) (h' : RdE b' m w ws) (hl : vs.length ≤ 4611686018427387903) : Ca 11 [v, w] m (.bool (decide (vs = ws))) m := by
  refine callX_of (call_go (F := _) rfl rfl fun Q hQ => ?_)
  obtain ⟨p, c, rfl⟩ := rdE_slice h
  obtain ⟨p', c', rfl⟩ := rdE_slice h'
  by_cases h0 : (vs.length : Int) = (ws.length : Int)
  · have h0' : vs.length = ws.length := by omega
    simp only [symA, go_opsd, symB, wantedX, X.put, X.look, Arg.ev, keepOf, restrict, evs, evO, initEnv, xres, tup, noTup, cls, quiet, Nat.reduceAdd, Nat.reduceEqDiff, ↓reduceIte, reduceCtorEq, goInt, exists_eq_left', eq_self, Int.reduceLT, Int.reduceLE, Int.reduceEq, Int.reduceNeg, Int.reduceAdd, Int.reduceSub, forall_const, ne_eq, undef, Nat.reducePow, Nat.reduceDiv, Nat.reduceMod, h0]
    refine loop_go (fun j e m' => m' = m ∧ ∃ i : Nat, i ≤ vs.length ∧ j = vs.length - i ∧ vs.take i = ws.take i ∧ e = [(0, .slice p vs.length c), (1, .slice p' ws.length c'), (5, I i)]) vs.length ⟨rfl, 0, by omega, rfl, rfl, rfl⟩ ?_
    rintro j e m' N' B' hN hB ⟨rfl, i, hi, rfl, htk, rfl⟩
    by_cases hlt : i < vs.length
    · have hlt' : (i : Int) < (vs.length : Int) := by omega
      have hlt2 : i < ws.length := by omega
      obtain ⟨x, hx⟩ : ∃ x, vs[i]? = some x := ⟨_, List.getElem?_eq_getElem hlt⟩
      obtain ⟨y, hy⟩ : ∃ y, ws[i]? = some y := ⟨_, List.getElem?_eq_getElem hlt2⟩
      obtain ⟨a, d, hv, _, l5, _⟩ := rdE_at h hx
      cases hv
      obtain ⟨a', d', hv', _, k5, _⟩ := rdE_at h' hy
      cases hv'
      have w1 : IntKind.i64.wrap ((i : Int) + 1) = ((i + 1 : Nat) : Int) := by rw [wrap_i64 (by omega) (by omega)]; omega
      cases hs : sameE x y with
      | false =>
        have n1 := ne55 (m := m') (v := x) (w := y)
        rw [hs] at n1
        have e : decide (vs = ws) = false := decide_eq_false fun he => by
          subst he
          rw [hx] at hy
          cases hy
          have := sameE_iff.2 (rfl : x = x)
          rw [hs] at this
          cases this
        rw [e] at hQ
        simp only [symA, go_opsd, symB, wantedX, X.put, X.look, Arg.ev, keepOf, restrict, evs, evO, initEnv, xres, tup, noTup, cls, quiet, Nat.reduceAdd, Nat.reduceEqDiff, ↓reduceIte, reduceCtorEq, goInt, exists_eq_left', eq_self, Int.reduceLT, Int.reduceLE, Int.reduceEq, Int.reduceNeg, Int.reduceAdd, Int.reduceSub, forall_const, ne_eq, undef, Nat.reducePow, Nat.reduceDiv, Nat.reduceMod, hlt, hlt', hlt2, l5, k5, n1]
        exact hQ _ _ _ rfl ⟨rfl, rfl⟩
      | true =>
        have n1 := ne55 (m := m') (v := x) (w := y)
        rw [hs] at n1
        have hxy := sameE_iff.1 hs
        simp only [symA, go_opsd, symB, wantedX, X.put, X.look, Arg.ev, keepOf, restrict, evs, evO, initEnv, xres, tup, noTup, cls, quiet, Nat.reduceAdd, Nat.reduceEqDiff, ↓reduceIte, reduceCtorEq, goInt, exists_eq_left', eq_self, Int.reduceLT, Int.reduceLE, Int.reduceEq, Int.reduceNeg, Int.reduceAdd, Int.reduceSub, forall_const, ne_eq, undef, Nat.reducePow, Nat.reduceDiv, Nat.reduceMod, hlt, hlt', hlt2, l5, k5, n1, w1]
        exact hN _ _ (vs.length - (i + 1)) (by omega) ⟨rfl, i + 1, by omega, rfl, by rw [List.take_add_one, List.take_add_one, htk, hx, hy, hxy], rfl⟩
    · have hlt' : ¬ (i : Int) < (vs.length : Int) := by omega
      rw [List.take_of_length_le (by omega), List.take_of_length_le (by omega)] at htk
      have e : decide (vs = ws) = true := decide_eq_true htk
      rw [e] at hQ
      simp only [symA, go_opsd, symB, wantedX, X.put, X.look, Arg.ev, keepOf, restrict, evs, evO, initEnv, xres, tup, noTup, cls, quiet, Nat.reduceAdd, Nat.reduceEqDiff, ↓reduceIte, reduceCtorEq, goInt, exists_eq_left', eq_self, Int.reduceLT, Int.reduceLE, Int.reduceEq, Int.reduceNeg, Int.reduceAdd, Int.reduceSub, forall_const, ne_eq, undef, Nat.reducePow, Nat.reduceDiv, Nat.reduceMod, hlt']
      refine hB _ _ _ ?_
      simp only [symA, go_opsd, symB, wantedX, X.put, X.look, Arg.ev, keepOf, restrict, evs, evO, initEnv, xres, tup, noTup, cls, quiet, Nat.reduceAdd, Nat.reduceEqDiff, ↓reduceIte, reduceCtorEq, goInt, exists_eq_left', eq_self, Int.reduceLT, Int.reduceLE, Int.reduceEq, Int.reduceNeg, Int.reduceAdd, Int.reduceSub, forall_const, ne_eq, undef, Nat.reducePow, Nat.reduceDiv, Nat.reduceMod]
      exact hQ _ _ _ rfl ⟨rfl, rfl⟩
  · have e : decide (vs = ws) = false := decide_eq_false fun he => h0 (by rw [he])
    rw [e] at hQ
    simp only [symA, go_opsd, symB, wantedX, X.put, X.look, Arg.ev, keepOf, restrict, evs, evO, initEnv, xres, tup, noTup, cls, quiet, Nat.reduceAdd, Nat.reduceEqDiff, ↓reduceIte, reduceCtorEq, goInt, exists_eq_left', eq_self, Int.reduceLT, Int.reduceLE, Int.reduceEq, Int.reduceNeg, Int.reduceAdd, Int.reduceSub, forall_const, ne_eq, undef, Nat.reducePow, Nat.reduceDiv, Nat.reduceMod, h0]
    exact hQ _ _ _ rfl ⟨rfl, rfl⟩
end Go.Proofs.Ytlldfkapaeidoaa
