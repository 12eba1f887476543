/-
  Own work. What the functions come to: slices of entries, of writes. What the functions come to: may entries be. What the functions come to: may writes be.
-/
import Derived.Test.YtlldfkapaeidoaaD2
namespace Go.Proofs.Ytlldfkapaeidoaa
open Go X
set_option maxRecDepth 100000
set_option linter.unusedVariables false
set_option linter.unusedSimpArgs false

abbrev row5 (k : ByteArray) (s : Value) (n : Bool) (t : ByteArray) (c : Nat) : List Value := [.string k, s, .bool n, .string t, U (c : Int)]
/-- A row stands at an address. -/
structure At5 (m : Mem) (b off : Nat) (k : ByteArray) (s : Value) (n : Bool) (t : ByteArray) (c : Nat) : Prop where
  o : ∃ o, m.get b = some o ∧ o.cells[off]? = some (.string k) ∧ o.cells[off + 1]? = some s ∧ o.cells[off + 2]? = some (.bool n) ∧ o.cells[off + 2 + 1]? = some (.string t) ∧ o.cells[off + 2 + 2]? = some (U (c : Int))
  l5 : ldA m 5 (.pointer (some ⟨b, off, none⟩)) = some (.val (.agg ⟨row5 k s n t c⟩) m)
  l3 : ldA m 3 (.pointer (some ⟨b, off + 2, none⟩)) = some (.val (.agg ⟨valL n t c⟩) m)

theorem row_at {b : Nat} {m : Mem} {v : Value} {rows : List (List Value)} (h : RdS b m 5 v rows) {i : Nat} {k : ByteArray} {s : Value} {n : Bool} {t : ByteArray} {c : Nat} (hi : rows[i]? = some (row5 k s n t c)) :
    ∃ a c', v = .slice (some a) rows.length c' ∧ At5 m a.block (a.off + i * 5) k s n t c := by
  obtain ⟨p, c', rfl, hc, h⟩ := h
  obtain ⟨h1, a, o, rfl, h3, h4, h5⟩ := h i _ hi
  refine ⟨a, c', rfl, ⟨o, h4, h5 0 (by omega), h5 1 (by omega), h5 2 (by omega), h5 3 (by omega), h5 4 (by omega)⟩, ?_, ?_⟩
  · have := xload_cells (m := m) (b := a.block) (off := a.off + i * 5) (n := 5) (r := row5 k s n t c) h4 rfl (by omega) h5
    simp [ldA, this]
  · have := xload_cells (m := m) (b := a.block) (off := a.off + i * 5 + 2) (n := 3) (r := valL n t c) h4 rfl (by omega) (fun j hj => by
      have := h5 (2 + j) (by omega)
      rw [show a.off + i * 5 + 2 + j = a.off + i * 5 + (2 + j) by omega, this]
      match j, hj with
      | 0, _ => rfl
      | 1, _ => rfl
      | 2, _ => rfl)
    simp [ldA, this]

/-- Behind a key. -/
def prevOk : Option ByteArray → ByteArray → Bool
  | none, _ => true
  | some l, k => decide (ltT l k)

/-! ## Ent -/
abbrev rowsE (vs : List Ent) : List (List Value) := vs.map Ent.row
abbrev RdE (b : Nat) (m : Mem) (v : Value) (vs : List Ent) : Prop := RdS b m 5 v (rowsE vs)
theorem rdE_slice {b : Nat} {m : Mem} {v : Value} {vs : List Ent} (h : RdE b m v vs) : ∃ p c, v = .slice p vs.length c := by
  obtain ⟨p, c, rfl⟩ := h.slice
  exact ⟨p, c, by simp⟩
theorem rdE_at {b : Nat} {m : Mem} {v : Value} {vs : List Ent} (h : RdE b m v vs) {i : Nat} {x : Ent} (hi : vs[i]? = some x) : ∃ a c, v = .slice (some a) vs.length c ∧ At5 m a.block (a.off + i * 5) x.key (I x.seq) x.num x.text x.bits := by
  obtain ⟨a, c, h1, h2⟩ := row_at h (i := i) (k := x.key) (s := I x.seq) (n := x.num) (t := x.text) (c := x.bits) (by simp [hi])
  exact ⟨a, c, by rw [h1]; simp, h2⟩
def okE : Option ByteArray → List Ent → Bool
  | _, [] => true
  | last, x :: r => rightE x && prevOk last x.key && okE (some x.key) r
def lastE (vs : List Ent) : Nat → Option ByteArray
  | 0 => none
  | k + 1 => (vs[k]?).map Ent.key
theorem lastE_succ {vs : List Ent} {k : Nat} {y : Ent} (h : vs[k]? = some y) : lastE vs (k + 1) = some y.key := by simp [lastE, h]

/-! ## Wr -/
abbrev rowsW (vs : List Wr) : List (List Value) := vs.map Wr.row
abbrev RdW (b : Nat) (m : Mem) (v : Value) (vs : List Wr) : Prop := RdS b m 5 v (rowsW vs)
theorem rdW_slice {b : Nat} {m : Mem} {v : Value} {vs : List Wr} (h : RdW b m v vs) : ∃ p c, v = .slice p vs.length c := by
  obtain ⟨p, c, rfl⟩ := h.slice
  exact ⟨p, c, by simp⟩
theorem rdW_at {b : Nat} {m : Mem} {v : Value} {vs : List Wr} (h : RdW b m v vs) {i : Nat} {x : Wr} (hi : vs[i]? = some x) : ∃ a c, v = .slice (some a) vs.length c ∧ At5 m a.block (a.off + i * 5) x.key (.bool x.gone) x.num x.text x.bits := by
  obtain ⟨a, c, h1, h2⟩ := row_at h (i := i) (k := x.key) (s := .bool x.gone) (n := x.num) (t := x.text) (c := x.bits) (by simp [hi])
  exact ⟨a, c, by rw [h1]; simp, h2⟩
def okW : Option ByteArray → List Wr → Bool
  | _, [] => true
  | last, x :: r => rightW x && prevOk last x.key && okW (some x.key) r
def lastW (vs : List Wr) : Nat → Option ByteArray
  | 0 => none
  | k + 1 => (vs[k]?).map Wr.key
theorem lastW_succ {vs : List Wr} {k : Nat} {y : Wr} (h : vs[k]? = some y) : lastW vs (k + 1) = some y.key := by simp [lastW, h]

def farE (vs : List Ent) : Bool := decide (60 < vs.length) || vs.any fun x => decide (200 < x.key.size) || decide (200 < x.text.size)
theorem farE_spec {b : Nat} {m : Mem} {v : Value} {vs : List Ent} (h : RdE b m v vs) : Ca 8 [v] m (.bool (farE vs)) m := by
  refine callX_of (call_go (F := _) rfl rfl fun Q hQ => ?_)
  obtain ⟨p, c, rfl⟩ := rdE_slice h
  by_cases h0 : (60 : Int) < (vs.length : Int)
  · have e : farE vs = true := by
      have : 60 < vs.length := by omega
      simp [farE, this]
    rw [e] at hQ
    simp only [symA, go_opsd, symB, wantedX, X.put, X.look, Arg.ev, keepOf, restrict, evs, evO, initEnv, xres, tup, noTup, cls, quiet, Nat.reduceAdd, Nat.reduceEqDiff, ↓reduceIte, reduceCtorEq, goInt, exists_eq_left', eq_self, Int.reduceLT, Int.reduceLE, Int.reduceEq, Int.reduceNeg, Int.reduceAdd, Int.reduceSub, forall_const, ne_eq, undef, Nat.reducePow, Nat.reduceDiv, Nat.reduceMod, h0]
    exact hQ _ _ _ rfl ⟨rfl, rfl⟩
  · simp only [symA, go_opsd, symB, wantedX, X.put, X.look, Arg.ev, keepOf, restrict, evs, evO, initEnv, xres, tup, noTup, cls, quiet, Nat.reduceAdd, Nat.reduceEqDiff, ↓reduceIte, reduceCtorEq, goInt, exists_eq_left', eq_self, Int.reduceLT, Int.reduceLE, Int.reduceEq, Int.reduceNeg, Int.reduceAdd, Int.reduceSub, forall_const, ne_eq, undef, Nat.reducePow, Nat.reduceDiv, Nat.reduceMod, h0]
    have e0 : farE vs = vs.any fun x => decide (200 < x.key.size) || decide (200 < x.text.size) := by
      have : ¬ 60 < vs.length := by omega
      simp [farE, this]
    refine loop_go (fun j e m' => m' = m ∧ ∃ i : Nat, i ≤ vs.length ∧ j = vs.length - i ∧ (vs.any fun x => decide (200 < x.key.size) || decide (200 < x.text.size)) = ((vs.drop i).any fun x => decide (200 < x.key.size) || decide (200 < x.text.size)) ∧ e = [(0, .slice p vs.length c), (3, I i)]) vs.length ⟨rfl, 0, by omega, rfl, rfl, rfl⟩ ?_
    rintro j e m' N' B' hN hB ⟨rfl, i, hi, rfl, hany, rfl⟩
    by_cases hlt : i < vs.length
    · have hlt' : (i : Int) < (vs.length : Int) := by omega
      obtain ⟨x, hx⟩ : ∃ x, vs[i]? = some x := ⟨_, List.getElem?_eq_getElem hlt⟩
      obtain ⟨a, c', hv, ⟨o, hg, c0, c1, c2, c3, c4⟩, l5, l3⟩ := rdE_at h hx
      cases hv
      have w1 : IntKind.i64.wrap ((i : Int) + 1) = ((i + 1 : Nat) : Int) := by rw [wrap_i64 (by omega) (by omega)]; omega
      have hd : vs.drop i = x :: vs.drop (i + 1) := by
        obtain ⟨_, rfl⟩ := List.getElem?_eq_some_iff.1 hx
        exact List.drop_eq_getElem_cons hlt
      rw [hd, List.any_cons] at hany
      by_cases hk : (200 : Int) < (x.key.size : Int)
      · have e : farE vs = true := by
          have : decide (200 < x.key.size) = true := decide_eq_true (by omega)
          rw [e0, hany, this]; rfl
        rw [e] at hQ
        simp only [symA, go_opsd, symB, wantedX, X.put, X.look, Arg.ev, keepOf, restrict, evs, evO, initEnv, xres, tup, noTup, cls, quiet, Nat.reduceAdd, Nat.reduceEqDiff, ↓reduceIte, reduceCtorEq, goInt, exists_eq_left', eq_self, Int.reduceLT, Int.reduceLE, Int.reduceEq, Int.reduceNeg, Int.reduceAdd, Int.reduceSub, forall_const, ne_eq, undef, Nat.reducePow, Nat.reduceDiv, Nat.reduceMod, hlt, hlt', hg, c0, calc_len, hk]
        exact hQ _ _ _ rfl ⟨rfl, rfl⟩
      have hk' : decide (200 < x.key.size) = false := decide_eq_false (by omega)
      rw [hk', Bool.false_or] at hany
      by_cases ht : (200 : Int) < (x.text.size : Int)
      · have e : farE vs = true := by
          have : decide (200 < x.text.size) = true := decide_eq_true (by omega)
          rw [e0, hany, this]; rfl
        rw [e] at hQ
        simp only [symA, go_opsd, symB, wantedX, X.put, X.look, Arg.ev, keepOf, restrict, evs, evO, initEnv, xres, tup, noTup, cls, quiet, Nat.reduceAdd, Nat.reduceEqDiff, ↓reduceIte, reduceCtorEq, goInt, exists_eq_left', eq_self, Int.reduceLT, Int.reduceLE, Int.reduceEq, Int.reduceNeg, Int.reduceAdd, Int.reduceSub, forall_const, ne_eq, undef, Nat.reducePow, Nat.reduceDiv, Nat.reduceMod, hlt, hlt', hg, c0, c3, calc_len, hk, ht]
        exact hQ _ _ _ rfl ⟨rfl, rfl⟩
      · have ht' : decide (200 < x.text.size) = false := decide_eq_false (by omega)
        rw [ht', Bool.false_or] at hany
        simp only [symA, go_opsd, symB, wantedX, X.put, X.look, Arg.ev, keepOf, restrict, evs, evO, initEnv, xres, tup, noTup, cls, quiet, Nat.reduceAdd, Nat.reduceEqDiff, ↓reduceIte, reduceCtorEq, goInt, exists_eq_left', eq_self, Int.reduceLT, Int.reduceLE, Int.reduceEq, Int.reduceNeg, Int.reduceAdd, Int.reduceSub, forall_const, ne_eq, undef, Nat.reducePow, Nat.reduceDiv, Nat.reduceMod, hlt, hlt', hg, c0, c3, calc_len, hk, ht, w1]
        exact hN _ _ (vs.length - (i + 1)) (by omega) ⟨rfl, i + 1, by omega, rfl, hany, rfl⟩
    · have hlt' : ¬ (i : Int) < (vs.length : Int) := by omega
      have hd : vs.drop i = [] := List.drop_eq_nil_of_le (by omega)
      rw [hd] at hany
      have e : farE vs = false := by rw [e0, hany]; rfl
      rw [e] at hQ
      simp only [symA, go_opsd, symB, wantedX, X.put, X.look, Arg.ev, keepOf, restrict, evs, evO, initEnv, xres, tup, noTup, cls, quiet, Nat.reduceAdd, Nat.reduceEqDiff, ↓reduceIte, reduceCtorEq, goInt, exists_eq_left', eq_self, Int.reduceLT, Int.reduceLE, Int.reduceEq, Int.reduceNeg, Int.reduceAdd, Int.reduceSub, forall_const, ne_eq, undef, Nat.reducePow, Nat.reduceDiv, Nat.reduceMod, hlt']
      refine hB _ _ _ ?_
      simp only [symA, go_opsd, symB, wantedX, X.put, X.look, Arg.ev, keepOf, restrict, evs, evO, initEnv, xres, tup, noTup, cls, quiet, Nat.reduceAdd, Nat.reduceEqDiff, ↓reduceIte, reduceCtorEq, goInt, exists_eq_left', eq_self, Int.reduceLT, Int.reduceLE, Int.reduceEq, Int.reduceNeg, Int.reduceAdd, Int.reduceSub, forall_const, ne_eq, undef, Nat.reducePow, Nat.reduceDiv, Nat.reduceMod]
      exact hQ _ _ _ rfl ⟨rfl, rfl⟩

def farW (vs : List Wr) : Bool := decide (100 < vs.length) || vs.any fun x => decide (200 < x.key.size) || decide (200 < x.text.size)
theorem farW_spec {b : Nat} {m : Mem} {v : Value} {vs : List Wr} (h : RdW b m v vs) : Ca 9 [v] m (.bool (farW vs)) m := by
  refine callX_of (call_go (F := _) rfl rfl fun Q hQ => ?_)
  obtain ⟨p, c, rfl⟩ := rdW_slice h
  by_cases h0 : (100 : Int) < (vs.length : Int)
  · have e : farW vs = true := by
      have : 100 < vs.length := by omega
      simp [farW, this]
    rw [e] at hQ
    simp only [symA, go_opsd, symB, wantedX, X.put, X.look, Arg.ev, keepOf, restrict, evs, evO, initEnv, xres, tup, noTup, cls, quiet, Nat.reduceAdd, Nat.reduceEqDiff, ↓reduceIte, reduceCtorEq, goInt, exists_eq_left', eq_self, Int.reduceLT, Int.reduceLE, Int.reduceEq, Int.reduceNeg, Int.reduceAdd, Int.reduceSub, forall_const, ne_eq, undef, Nat.reducePow, Nat.reduceDiv, Nat.reduceMod, h0]
    exact hQ _ _ _ rfl ⟨rfl, rfl⟩
  · simp only [symA, go_opsd, symB, wantedX, X.put, X.look, Arg.ev, keepOf, restrict, evs, evO, initEnv, xres, tup, noTup, cls, quiet, Nat.reduceAdd, Nat.reduceEqDiff, ↓reduceIte, reduceCtorEq, goInt, exists_eq_left', eq_self, Int.reduceLT, Int.reduceLE, Int.reduceEq, Int.reduceNeg, Int.reduceAdd, Int.reduceSub, forall_const, ne_eq, undef, Nat.reducePow, Nat.reduceDiv, Nat.reduceMod, h0]
    have e0 : farW vs = vs.any fun x => decide (200 < x.key.size) || decide (200 < x.text.size) := by
      have : ¬ 100 < vs.length := by omega
      simp [farW, this]
    refine loop_go (fun j e m' => m' = m ∧ ∃ i : Nat, i ≤ vs.length ∧ j = vs.length - i ∧ (vs.any fun x => decide (200 < x.key.size) || decide (200 < x.text.size)) = ((vs.drop i).any fun x => decide (200 < x.key.size) || decide (200 < x.text.size)) ∧ e = [(0, .slice p vs.length c), (3, I i)]) vs.length ⟨rfl, 0, by omega, rfl, rfl, rfl⟩ ?_
    rintro j e m' N' B' hN hB ⟨rfl, i, hi, rfl, hany, rfl⟩
    by_cases hlt : i < vs.length
    · have hlt' : (i : Int) < (vs.length : Int) := by omega
      obtain ⟨x, hx⟩ : ∃ x, vs[i]? = some x := ⟨_, List.getElem?_eq_getElem hlt⟩
      obtain ⟨a, c', hv, ⟨o, hg, c0, c1, c2, c3, c4⟩, l5, l3⟩ := rdW_at h hx
      cases hv
      have w1 : IntKind.i64.wrap ((i : Int) + 1) = ((i + 1 : Nat) : Int) := by rw [wrap_i64 (by omega) (by omega)]; omega
      have hd : vs.drop i = x :: vs.drop (i + 1) := by
        obtain ⟨_, rfl⟩ := List.getElem?_eq_some_iff.1 hx
        exact List.drop_eq_getElem_cons hlt
      rw [hd, List.any_cons] at hany
      by_cases hk : (200 : Int) < (x.key.size : Int)
      · have e : farW vs = true := by
          have : decide (200 < x.key.size) = true := decide_eq_true (by omega)
          rw [e0, hany, this]; rfl
        rw [e] at hQ
        simp only [symA, go_opsd, symB, wantedX, X.put, X.look, Arg.ev, keepOf, restrict, evs, evO, initEnv, xres, tup, noTup, cls, quiet, Nat.reduceAdd, Nat.reduceEqDiff, ↓reduceIte, reduceCtorEq, goInt, exists_eq_left', eq_self, Int.reduceLT, Int.reduceLE, Int.reduceEq, Int.reduceNeg, Int.reduceAdd, Int.reduceSub, forall_const, ne_eq, undef, Nat.reducePow, Nat.reduceDiv, Nat.reduceMod, hlt, hlt', hg, c0, calc_len, hk]
        exact hQ _ _ _ rfl ⟨rfl, rfl⟩
      have hk' : decide (200 < x.key.size) = false := decide_eq_false (by omega)
      rw [hk', Bool.false_or] at hany
      by_cases ht : (200 : Int) < (x.text.size : Int)
      · have e : farW vs = true := by
          have : decide (200 < x.text.size) = true := decide_eq_true (by omega)
          rw [e0, hany, this]; rfl
        rw [e] at hQ
        simp only [symA, go_opsd, symB, wantedX, X.put, X.look, Arg.ev, keepOf, restrict, evs, evO, initEnv, xres, tup, noTup, cls, quiet, Nat.reduceAdd, Nat.reduceEqDiff, ↓reduceIte, reduceCtorEq, goInt, exists_eq_left', eq_self, Int.reduceLT, Int.reduceLE, Int.reduceEq, Int.reduceNeg, Int.reduceAdd, Int.reduceSub, forall_const, ne_eq, undef, Nat.reducePow, Nat.reduceDiv, Nat.reduceMod, hlt, hlt', hg, c0, c3, calc_len, hk, ht]
        exact hQ _ _ _ rfl ⟨rfl, rfl⟩
      · have ht' : decide (200 < x.text.size) = false := decide_eq_false (by omega)
        rw [ht', Bool.false_or] at hany
        simp only [symA, go_opsd, symB, wantedX, X.put, X.look, Arg.ev, keepOf, restrict, evs, evO, initEnv, xres, tup, noTup, cls, quiet, Nat.reduceAdd, Nat.reduceEqDiff, ↓reduceIte, reduceCtorEq, goInt, exists_eq_left', eq_self, Int.reduceLT, Int.reduceLE, Int.reduceEq, Int.reduceNeg, Int.reduceAdd, Int.reduceSub, forall_const, ne_eq, undef, Nat.reducePow, Nat.reduceDiv, Nat.reduceMod, hlt, hlt', hg, c0, c3, calc_len, hk, ht, w1]
        exact hN _ _ (vs.length - (i + 1)) (by omega) ⟨rfl, i + 1, by omega, rfl, hany, rfl⟩
    · have hlt' : ¬ (i : Int) < (vs.length : Int) := by omega
      have hd : vs.drop i = [] := List.drop_eq_nil_of_le (by omega)
      rw [hd] at hany
      have e : farW vs = false := by rw [e0, hany]; rfl
      rw [e] at hQ
      simp only [symA, go_opsd, symB, wantedX, X.put, X.look, Arg.ev, keepOf, restrict, evs, evO, initEnv, xres, tup, noTup, cls, quiet, Nat.reduceAdd, Nat.reduceEqDiff, ↓reduceIte, reduceCtorEq, goInt, exists_eq_left', eq_self, Int.reduceLT, Int.reduceLE, Int.reduceEq, Int.reduceNeg, Int.reduceAdd, Int.reduceSub, forall_const, ne_eq, undef, Nat.reducePow, Nat.reduceDiv, Nat.reduceMod, hlt']
      refine hB _ _ _ ?_
      simp only [symA, go_opsd, symB, wantedX, X.put, X.look, Arg.ev, keepOf, restrict, evs, evO, initEnv, xres, tup, noTup, cls, quiet, Nat.reduceAdd, Nat.reduceEqDiff, ↓reduceIte, reduceCtorEq, goInt, exists_eq_left', eq_self, Int.reduceLT, Int.reduceLE, Int.reduceEq, Int.reduceNeg, Int.reduceAdd, Int.reduceSub, forall_const, ne_eq, undef, Nat.reducePow, Nat.reduceDiv, Nat.reduceMod]
      exact hQ _ _ _ rfl ⟨rfl, rfl⟩

theorem sameE_spec {b b' : Nat} {m : Mem} {v w : Value} {vs ws : List Ent} (h : RdE b m v vs) (h' : RdE b' m w ws) (hl : vs.length ≤ 4611686018427387903) : Ca 11 [v, w] m (.bool (decide (vs = ws))) m := by
  refine callX_of (call_go (F := _) rfl rfl fun Q hQ => ?_)
  obtain ⟨p, c, rfl⟩ := rdE_slice h
  obtain ⟨p', c', rfl⟩ := rdE_slice h'
  by_cases h0 : (vs.length : Int) = (ws.length : Int)
  · have h0' : vs.length = ws.length := by omega
    simp only [symA, go_opsd, symB, wantedX, X.put, X.look, Arg.ev, keepOf, restrict, evs, evO, initEnv, xres, tup, noTup, cls, quiet, Nat.reduceAdd, Nat.reduceEqDiff, ↓reduceIte, reduceCtorEq, goInt, exists_eq_left', eq_self, Int.reduceLT, Int.reduceLE, Int.reduceEq, Int.reduceNeg, Int.reduceAdd, Int.reduceSub, forall_const, ne_eq, undef, Nat.reducePow, Nat.reduceDiv, Nat.reduceMod, h0]
    refine loop_go (fun j e m' => m' = m ∧ ∃ i : Nat, i ≤ vs.length ∧ j = vs.length - i ∧ vs.take i = ws.take i ∧ e = [(0, .slice p vs.length c), (1, .slice p' ws.length c'), (5, I i)]) vs.length ⟨rfl, 0, by omega, rfl, rfl, rfl⟩ ?_
    rintro j e m' N' B' hN hB ⟨rfl, i, hi, rfl, htk, rfl⟩
    by_cases hlt : i < vs.length
    · have hlt' : (i : Int) < (vs.length : Int) := by omega
      have hlt2 : i < ws.length := by omega
      obtain ⟨x, hx⟩ : ∃ x, vs[i]? = some x := ⟨_, List.getElem?_eq_getElem hlt⟩
      obtain ⟨y, hy⟩ : ∃ y, ws[i]? = some y := ⟨_, List.getElem?_eq_getElem hlt2⟩
      obtain ⟨a, d, hv, _, l5, _⟩ := rdE_at h hx
      cases hv
      obtain ⟨a', d', hv', _, k5, _⟩ := rdE_at h' hy
      cases hv'
      have w1 : IntKind.i64.wrap ((i : Int) + 1) = ((i + 1 : Nat) : Int) := by rw [wrap_i64 (by omega) (by omega)]; omega
      cases hs : sameE x y with
      | false =>
        have n1 := ne55 (m := m') (v := x) (w := y)
        rw [hs] at n1
        have e : decide (vs = ws) = false := decide_eq_false fun he => by
          subst he
          rw [hx] at hy
          cases hy
          have := sameE_iff.2 (rfl : x = x)
          rw [hs] at this
          cases this
        rw [e] at hQ
        simp only [symA, go_opsd, symB, wantedX, X.put, X.look, Arg.ev, keepOf, restrict, evs, evO, initEnv, xres, tup, noTup, cls, quiet, Nat.reduceAdd, Nat.reduceEqDiff, ↓reduceIte, reduceCtorEq, goInt, exists_eq_left', eq_self, Int.reduceLT, Int.reduceLE, Int.reduceEq, Int.reduceNeg, Int.reduceAdd, Int.reduceSub, forall_const, ne_eq, undef, Nat.reducePow, Nat.reduceDiv, Nat.reduceMod, hlt, hlt', hlt2, l5, k5, n1]
        exact hQ _ _ _ rfl ⟨rfl, rfl⟩
      | true =>
        have n1 := ne55 (m := m') (v := x) (w := y)
        rw [hs] at n1
        have hxy := sameE_iff.1 hs
        simp only [symA, go_opsd, symB, wantedX, X.put, X.look, Arg.ev, keepOf, restrict, evs, evO, initEnv, xres, tup, noTup, cls, quiet, Nat.reduceAdd, Nat.reduceEqDiff, ↓reduceIte, reduceCtorEq, goInt, exists_eq_left', eq_self, Int.reduceLT, Int.reduceLE, Int.reduceEq, Int.reduceNeg, Int.reduceAdd, Int.reduceSub, forall_const, ne_eq, undef, Nat.reducePow, Nat.reduceDiv, Nat.reduceMod, hlt, hlt', hlt2, l5, k5, n1, w1]
        exact hN _ _ (vs.length - (i + 1)) (by omega) ⟨rfl, i + 1, by omega, rfl, by rw [List.take_add_one, List.take_add_one, htk, hx, hy, hxy], rfl⟩
    · have hlt' : ¬ (i : Int) < (vs.length : Int) := by omega
      rw [List.take_of_length_le (by omega), List.take_of_length_le (by omega)] at htk
      have e : decide (vs = ws) = true := decide_eq_true htk
      rw [e] at hQ
      simp only [symA, go_opsd, symB, wantedX, X.put, X.look, Arg.ev, keepOf, restrict, evs, evO, initEnv, xres, tup, noTup, cls, quiet, Nat.reduceAdd, Nat.reduceEqDiff, ↓reduceIte, reduceCtorEq, goInt, exists_eq_left', eq_self, Int.reduceLT, Int.reduceLE, Int.reduceEq, Int.reduceNeg, Int.reduceAdd, Int.reduceSub, forall_const, ne_eq, undef, Nat.reducePow, Nat.reduceDiv, Nat.reduceMod, hlt']
      refine hB _ _ _ ?_
      simp only [symA, go_opsd, symB, wantedX, X.put, X.look, Arg.ev, keepOf, restrict, evs, evO, initEnv, xres, tup, noTup, cls, quiet, Nat.reduceAdd, Nat.reduceEqDiff, ↓reduceIte, reduceCtorEq, goInt, exists_eq_left', eq_self, Int.reduceLT, Int.reduceLE, Int.reduceEq, Int.reduceNeg, Int.reduceAdd, Int.reduceSub, forall_const, ne_eq, undef, Nat.reducePow, Nat.reduceDiv, Nat.reduceMod]
      exact hQ _ _ _ rfl ⟨rfl, rfl⟩
  · have e : decide (vs = ws) = false := decide_eq_false fun he => h0 (by rw [he])
    rw [e] at hQ
    simp only [symA, go_opsd, symB, wantedX, X.put, X.look, Arg.ev, keepOf, restrict, evs, evO, initEnv, xres, tup, noTup, cls, quiet, Nat.reduceAdd, Nat.reduceEqDiff, ↓reduceIte, reduceCtorEq, goInt, exists_eq_left', eq_self, Int.reduceLT, Int.reduceLE, Int.reduceEq, Int.reduceNeg, Int.reduceAdd, Int.reduceSub, forall_const, ne_eq, undef, Nat.reducePow, Nat.reduceDiv, Nat.reduceMod, h0]
    exact hQ _ _ _ rfl ⟨rfl, rfl⟩
end Go.Proofs.Ytlldfkapaeidoaa

namespace Go.Proofs.Ytlldfkapaeidoaa
open Go X
set_option maxRecDepth 100000
set_option linter.unusedVariables false
set_option linter.unusedSimpArgs false

theorem right {b : Nat} {m : Mem} {v : Value} {vs : List Ent} (h : RdE b m v vs) (hw : ∀ x ∈ vs, x.Wf) (hl : vs.length ≤ 4611686018427387903) (hb : b ≤ m.next) : ∃ m', Ca 23 [v] m (.bool (okE none vs)) m' ∧ Nx m m' := by
  have key : Wc 23 [v] m fun r m' => r = .bool (okE none vs) ∧ Nx m m' := by
    refine call_go (F := _) rfl rfl fun Q hQ => ?_
    obtain ⟨p, c, rfl⟩ := rdE_slice h
    simp only [symA, go_opsd, symB, wantedX, X.put, X.look, Arg.ev, keepOf, restrict, evs, evO, initEnv, xres, tup, noTup, cls, quiet, Nat.reduceAdd, Nat.reduceEqDiff, ↓reduceIte, reduceCtorEq, goInt, exists_eq_left', eq_self, Int.reduceLT, Int.reduceLE, Int.reduceEq, Int.reduceNeg, Int.reduceAdd, Int.reduceSub, forall_const, ne_eq, undef, Nat.reducePow, Nat.reduceDiv, Nat.reduceMod]
    refine loop_go (fun j e m' => Nx m m' ∧ ∃ i : Nat, i ≤ vs.length ∧ j = vs.length - i ∧ okE none vs = okE (lastE vs i) (vs.drop i) ∧ e = [(0, .slice p vs.length c), (5, .slice p vs.length c), (6, I vs.length), (7, I i)]) vs.length ⟨.refl, 0, by omega, rfl, rfl, rfl⟩ ?_
    rintro j e m1 N' B' hN hB ⟨hnx, i, hi, rfl, hok, rfl⟩
    have h1 := h.fr hnx hb (fun _ h => h.elim)
    by_cases hlt : i < vs.length
    · have hlt' : (i : Int) < (vs.length : Int) := by omega
      obtain ⟨x, hx⟩ : ∃ x, vs[i]? = some x := ⟨_, List.getElem?_eq_getElem hlt⟩
      have hwx := hw x (List.mem_of_getElem? hx)
      obtain ⟨a, c', hv, ⟨o, hg, c0, c1, c2, c3, c4⟩, l5, l3⟩ := rdE_at h1 hx
      cases hv
      have w1 : IntKind.i64.wrap ((i : Int) + 1) = ((i + 1 : Nat) : Int) := by rw [wrap_i64 (by omega) (by omega)]; omega
      have hd : vs.drop i = x :: vs.drop (i + 1) := by
        obtain ⟨_, rfl⟩ := List.getElem?_eq_some_iff.1 hx
        exact List.drop_eq_getElem_cons hlt
      rw [hd, okE] at hok
      have hnext := lastE_succ hx
      obtain ⟨m2, st, g2, f2, n2⟩ := new_store (m := m1) (z := [.string .empty, I 0, .bool false, .string .empty, U 0]) (row := x.row) (n := 5) rfl rfl (by omega)
      have f12 : Nx m m2 := hnx.comp f2 fun _ _ h => h
      have k1 := key_spec (m := m2) (t := x.key)
      have l2 : ldA m2 3 (.pointer (some ⟨m1.next, 2, none⟩)) = some (.val (.agg ⟨valL x.num x.text x.bits⟩) m2) := by simp [ldA, xload, g2]
      obtain ⟨m3, r1, r2⟩ := vright_spec (m := m2) (n := x.num) (t := x.text) hwx.bits
      have g3 : m3.get m1.next = some { cells := x.row, rw := true, spare := none, kin := [] } := r2.get (by omega) (fun h => h) g2
      have l4 : ldA m3 3 (.pointer (some ⟨m1.next, 2, none⟩)) = some (.val (.agg ⟨valL x.num x.text x.bits⟩) m3) := by simp [ldA, xload, g3]
      have f3 : Nx m m3 := f12.comp r2 fun _ _ h => h
      cases hk : keyOk x.key with
      | false =>
        rw [hk] at k1
        have e : okE none vs = false := by rw [hok, rightE, hk]; simp
        rw [e] at hQ
        simp only [symA, go_opsd, symB, wantedX, X.put, X.look, Arg.ev, keepOf, restrict, evs, evO, initEnv, xres, tup, noTup, cls, quiet, Nat.reduceAdd, Nat.reduceEqDiff, ↓reduceIte, reduceCtorEq, goInt, exists_eq_left', eq_self, Int.reduceLT, Int.reduceLE, Int.reduceEq, Int.reduceNeg, Int.reduceAdd, Int.reduceSub, forall_const, ne_eq, undef, Nat.reducePow, Nat.reduceDiv, Nat.reduceMod, hlt, hlt', l5, st, g2, goDV3c k1]
        exact hQ _ _ _ rfl ⟨rfl, f12⟩
      | true =>
      rw [hk] at k1
      cases hr : vright x.num x.text x.bits with
      | false =>
        rw [hr] at r1
        have e : okE none vs = false := by rw [hok, rightE, hr]; simp
        rw [e] at hQ
        simp only [symA, go_opsd, symB, wantedX, X.put, X.look, Arg.ev, keepOf, restrict, evs, evO, initEnv, xres, tup, noTup, cls, quiet, Nat.reduceAdd, Nat.reduceEqDiff, ↓reduceIte, reduceCtorEq, goInt, exists_eq_left', eq_self, Int.reduceLT, Int.reduceLE, Int.reduceEq, Int.reduceNeg, Int.reduceAdd, Int.reduceSub, forall_const, ne_eq, undef, Nat.reducePow, Nat.reduceDiv, Nat.reduceMod, hlt, hlt', l5, st, g2, goDV3c k1, l2, goDV3c r1]
        exact hQ _ _ _ rfl ⟨rfl, f3⟩
      | true =>
      rw [hr] at r1
      by_cases hs : x.seq < 1
      · have hs' : decide (1 ≤ x.seq) = false := decide_eq_false (by omega)
        have e : okE none vs = false := by rw [hok, rightE, hs']; simp
        rw [e] at hQ
        simp only [symA, go_opsd, symB, wantedX, X.put, X.look, Arg.ev, keepOf, restrict, evs, evO, initEnv, xres, tup, noTup, cls, quiet, Nat.reduceAdd, Nat.reduceEqDiff, ↓reduceIte, reduceCtorEq, goInt, exists_eq_left', eq_self, Int.reduceLT, Int.reduceLE, Int.reduceEq, Int.reduceNeg, Int.reduceAdd, Int.reduceSub, forall_const, ne_eq, undef, Nat.reducePow, Nat.reduceDiv, Nat.reduceMod, hlt, hlt', l5, st, g2, goDV3c k1, l2, goDV3c r1, g3, hs]
        exact hQ _ _ _ rfl ⟨rfl, f3⟩
      have hre : rightE x = true := by
        have hs' : decide (1 ≤ x.seq) = true := decide_eq_true (by omega)
        rw [rightE, hk, hr, hs']; rfl
      rw [hre, Bool.true_and] at hok
      by_cases hi0 : (0 : Int) < (i : Int)
      · obtain ⟨y, hy⟩ : ∃ y, vs[i - 1]? = some y := ⟨_, List.getElem?_eq_getElem (by omega)⟩
        obtain ⟨a', c'', hv', ⟨o', hg', d0, d1, d2, d3, d4⟩, k5, k3⟩ := rdE_at (h.fr f3 hb (fun _ h => h.elim)) hy
        cases hv'
        have w2 : IntKind.i64.wrap ((i : Int) - 1) = ((i - 1 : Nat) : Int) := by rw [wrap_i64 (by omega) (by omega)]; omega
        have hlt2 : i - 1 < vs.length := by omega
        have hla : lastE vs i = some y.key := by
          obtain ⟨k, rfl⟩ : ∃ k, i = k + 1 := ⟨i - 1, by omega⟩
          exact lastE_succ hy
        rw [hla, prevOk] at hok
        by_cases hge : ltT y.key x.key
        · have hdec : decide (ltT y.key x.key) = true := decide_eq_true hge
          rw [hdec, Bool.true_and, ← hnext] at hok
          simp only [symA, go_opsd, symB, wantedX, X.put, X.look, Arg.ev, keepOf, restrict, evs, evO, initEnv, xres, tup, noTup, cls, quiet, Nat.reduceAdd, Nat.reduceEqDiff, ↓reduceIte, reduceCtorEq, goInt, exists_eq_left', eq_self, Int.reduceLT, Int.reduceLE, Int.reduceEq, Int.reduceNeg, Int.reduceAdd, Int.reduceSub, forall_const, ne_eq, undef, Nat.reducePow, Nat.reduceDiv, Nat.reduceMod, hlt, hlt', l5, st, g2, goDV3c k1, l2, goDV3c r1, g3, hs, hi0, w2, hlt2, hg', d0, bin_sgeq, hge, w1]
          exact hN _ _ (vs.length - (i + 1)) (by omega) ⟨f3, i + 1, by omega, rfl, hok, rfl⟩
        · have hdec : decide (ltT y.key x.key) = false := decide_eq_false hge
          have e : okE none vs = false := by rw [hok, hdec]; rfl
          rw [e] at hQ
          simp only [symA, go_opsd, symB, wantedX, X.put, X.look, Arg.ev, keepOf, restrict, evs, evO, initEnv, xres, tup, noTup, cls, quiet, Nat.reduceAdd, Nat.reduceEqDiff, ↓reduceIte, reduceCtorEq, goInt, exists_eq_left', eq_self, Int.reduceLT, Int.reduceLE, Int.reduceEq, Int.reduceNeg, Int.reduceAdd, Int.reduceSub, forall_const, ne_eq, undef, Nat.reducePow, Nat.reduceDiv, Nat.reduceMod, hlt, hlt', l5, st, g2, goDV3c k1, l2, goDV3c r1, g3, hs, hi0, w2, hlt2, hg', d0, bin_sgeq, hge]
          exact hQ _ _ _ rfl ⟨rfl, f3⟩
      · have hla : lastE vs i = none := by rw [show i = 0 by omega]; rfl
        rw [hla, prevOk, Bool.true_and, ← hnext] at hok
        simp only [symA, go_opsd, symB, wantedX, X.put, X.look, Arg.ev, keepOf, restrict, evs, evO, initEnv, xres, tup, noTup, cls, quiet, Nat.reduceAdd, Nat.reduceEqDiff, ↓reduceIte, reduceCtorEq, goInt, exists_eq_left', eq_self, Int.reduceLT, Int.reduceLE, Int.reduceEq, Int.reduceNeg, Int.reduceAdd, Int.reduceSub, forall_const, ne_eq, undef, Nat.reducePow, Nat.reduceDiv, Nat.reduceMod, hlt, hlt', l5, st, g2, goDV3c k1, l2, goDV3c r1, g3, hs, hi0, w1]
        exact hN _ _ (vs.length - (i + 1)) (by omega) ⟨f3, i + 1, by omega, rfl, hok, rfl⟩
    · have hlt' : ¬ (i : Int) < (vs.length : Int) := by omega
      have hd : vs.drop i = [] := List.drop_eq_nil_of_le (by omega)
      rw [hd] at hok
      rw [hok] at hQ
      simp only [symA, go_opsd, symB, wantedX, X.put, X.look, Arg.ev, keepOf, restrict, evs, evO, initEnv, xres, tup, noTup, cls, quiet, Nat.reduceAdd, Nat.reduceEqDiff, ↓reduceIte, reduceCtorEq, goInt, exists_eq_left', eq_self, Int.reduceLT, Int.reduceLE, Int.reduceEq, Int.reduceNeg, Int.reduceAdd, Int.reduceSub, forall_const, ne_eq, undef, Nat.reducePow, Nat.reduceDiv, Nat.reduceMod, hlt']
      refine hB _ _ _ ?_
      simp only [symA, go_opsd, symB, wantedX, X.put, X.look, Arg.ev, keepOf, restrict, evs, evO, initEnv, xres, tup, noTup, cls, quiet, Nat.reduceAdd, Nat.reduceEqDiff, ↓reduceIte, reduceCtorEq, goInt, exists_eq_left', eq_self, Int.reduceLT, Int.reduceLE, Int.reduceEq, Int.reduceNeg, Int.reduceAdd, Int.reduceSub, forall_const, ne_eq, undef, Nat.reducePow, Nat.reduceDiv, Nat.reduceMod]
      exact hQ _ _ _ rfl ⟨rfl, hnx⟩
  obtain ⟨r, m', hc, rfl, hf⟩ := key
  exact ⟨m', hc, hf⟩

theorem rright {b : Nat} {m : Mem} {v : Value} {vs : List Ent} (h : RdE b m v vs) (hw : ∀ x ∈ vs, x.Wf) (hl : vs.length ≤ 4611686018427387903) (hb : b ≤ m.next) : ∃ m', Ca 12 [v] m (.bool (okE none vs)) m' ∧ Nx m m' := by
  have key : Wc 12 [v] m fun r m' => r = .bool (okE none vs) ∧ Nx m m' := by
    refine call_go (F := _) rfl rfl fun Q hQ => ?_
    obtain ⟨p, c, rfl⟩ := rdE_slice h
    simp only [symA, go_opsd, symB, wantedX, X.put, X.look, Arg.ev, keepOf, restrict, evs, evO, initEnv, xres, tup, noTup, cls, quiet, Nat.reduceAdd, Nat.reduceEqDiff, ↓reduceIte, reduceCtorEq, goInt, exists_eq_left', eq_self, Int.reduceLT, Int.reduceLE, Int.reduceEq, Int.reduceNeg, Int.reduceAdd, Int.reduceSub, forall_const, ne_eq, undef, Nat.reducePow, Nat.reduceDiv, Nat.reduceMod]
    refine loop_go (fun j e m' => Nx m m' ∧ ∃ i : Nat, i ≤ vs.length ∧ j = vs.length - i ∧ okE none vs = okE (lastE vs i) (vs.drop i) ∧ e = [(0, .slice p vs.length c), (3, I i)]) vs.length ⟨.refl, 0, by omega, rfl, rfl, rfl⟩ ?_
    rintro j e m1 N' B' hN hB ⟨hnx, i, hi, rfl, hok, rfl⟩
    have h1 := h.fr hnx hb (fun _ h => h.elim)
    by_cases hlt : i < vs.length
    · have hlt' : (i : Int) < (vs.length : Int) := by omega
      obtain ⟨x, hx⟩ : ∃ x, vs[i]? = some x := ⟨_, List.getElem?_eq_getElem hlt⟩
      have hwx := hw x (List.mem_of_getElem? hx)
      obtain ⟨a, c', hv, ⟨o, hg, c0, c1, c2, c3, c4⟩, l5, l3⟩ := rdE_at h1 hx
      cases hv
      have w1 : IntKind.i64.wrap ((i : Int) + 1) = ((i + 1 : Nat) : Int) := by rw [wrap_i64 (by omega) (by omega)]; omega
      have hd : vs.drop i = x :: vs.drop (i + 1) := by
        obtain ⟨_, rfl⟩ := List.getElem?_eq_some_iff.1 hx
        exact List.drop_eq_getElem_cons hlt
      rw [hd, okE] at hok
      have hnext := lastE_succ hx
      have f12 := hnx
      have k1 := rkey_spec (m := m1) (t := x.key)
      obtain ⟨m3, r1, r2⟩ := rvright_spec (m := m1) (n := x.num) (t := x.text) hwx.bits
      have f3 : Nx m m3 := f12.comp r2 fun _ _ h => h
      obtain ⟨a2, c2', hv2, ⟨o2, hg2, x0, x1, x2, x3, x4⟩, _, l4⟩ := rdE_at (h.fr f3 hb (fun _ h => h.elim)) hx
      cases hv2
      cases hk : keyOk x.key with
      | false =>
        rw [hk] at k1
        have e : okE none vs = false := by rw [hok, rightE, hk]; simp
        rw [e] at hQ
        simp only [symA, go_opsd, symB, wantedX, X.put, X.look, Arg.ev, keepOf, restrict, evs, evO, initEnv, xres, tup, noTup, cls, quiet, Nat.reduceAdd, Nat.reduceEqDiff, ↓reduceIte, reduceCtorEq, goInt, exists_eq_left', eq_self, Int.reduceLT, Int.reduceLE, Int.reduceEq, Int.reduceNeg, Int.reduceAdd, Int.reduceSub, forall_const, ne_eq, undef, Nat.reducePow, Nat.reduceDiv, Nat.reduceMod, hlt, hlt', hg, c0, goDV3c k1]
        exact hQ _ _ _ rfl ⟨rfl, f12⟩
      | true =>
      rw [hk] at k1
      cases hr : vright x.num x.text x.bits with
      | false =>
        rw [hr] at r1
        have e : okE none vs = false := by rw [hok, rightE, hr]; simp
        rw [e] at hQ
        simp only [symA, go_opsd, symB, wantedX, X.put, X.look, Arg.ev, keepOf, restrict, evs, evO, initEnv, xres, tup, noTup, cls, quiet, Nat.reduceAdd, Nat.reduceEqDiff, ↓reduceIte, reduceCtorEq, goInt, exists_eq_left', eq_self, Int.reduceLT, Int.reduceLE, Int.reduceEq, Int.reduceNeg, Int.reduceAdd, Int.reduceSub, forall_const, ne_eq, undef, Nat.reducePow, Nat.reduceDiv, Nat.reduceMod, hlt, hlt', hg, c0, goDV3c k1, l3, goDV3c r1]
        exact hQ _ _ _ rfl ⟨rfl, f3⟩
      | true =>
      rw [hr] at r1
      by_cases hs : x.seq < 1
      · have hs' : decide (1 ≤ x.seq) = false := decide_eq_false (by omega)
        have e : okE none vs = false := by rw [hok, rightE, hs']; simp
        rw [e] at hQ
        simp only [symA, go_opsd, symB, wantedX, X.put, X.look, Arg.ev, keepOf, restrict, evs, evO, initEnv, xres, tup, noTup, cls, quiet, Nat.reduceAdd, Nat.reduceEqDiff, ↓reduceIte, reduceCtorEq, goInt, exists_eq_left', eq_self, Int.reduceLT, Int.reduceLE, Int.reduceEq, Int.reduceNeg, Int.reduceAdd, Int.reduceSub, forall_const, ne_eq, undef, Nat.reducePow, Nat.reduceDiv, Nat.reduceMod, hlt, hlt', hg, c0, goDV3c k1, l3, goDV3c r1, hg2, x1, hs]
        exact hQ _ _ _ rfl ⟨rfl, f3⟩
      have hre : rightE x = true := by
        have hs' : decide (1 ≤ x.seq) = true := decide_eq_true (by omega)
        rw [rightE, hk, hr, hs']; rfl
      rw [hre, Bool.true_and] at hok
      by_cases hi0 : (0 : Int) < (i : Int)
      · obtain ⟨y, hy⟩ : ∃ y, vs[i - 1]? = some y := ⟨_, List.getElem?_eq_getElem (by omega)⟩
        obtain ⟨a', c'', hv', ⟨o', hg', d0, d1, d2, d3, d4⟩, k5, k3⟩ := rdE_at (h.fr f3 hb (fun _ h => h.elim)) hy
        cases hv'
        rw [hg2] at hg'
        cases hg'
        have w2 : IntKind.i64.wrap ((i : Int) - 1) = ((i - 1 : Nat) : Int) := by rw [wrap_i64 (by omega) (by omega)]; omega
        have hlt2 : i - 1 < vs.length := by omega
        have hla : lastE vs i = some y.key := by
          obtain ⟨k, rfl⟩ : ∃ k, i = k + 1 := ⟨i - 1, by omega⟩
          exact lastE_succ hy
        rw [hla, prevOk] at hok
        by_cases hge : ltT y.key x.key
        · have hdec : decide (ltT y.key x.key) = true := decide_eq_true hge
          rw [hdec, Bool.true_and, ← hnext] at hok
          simp only [symA, go_opsd, symB, wantedX, X.put, X.look, Arg.ev, keepOf, restrict, evs, evO, initEnv, xres, tup, noTup, cls, quiet, Nat.reduceAdd, Nat.reduceEqDiff, ↓reduceIte, reduceCtorEq, goInt, exists_eq_left', eq_self, Int.reduceLT, Int.reduceLE, Int.reduceEq, Int.reduceNeg, Int.reduceAdd, Int.reduceSub, forall_const, ne_eq, undef, Nat.reducePow, Nat.reduceDiv, Nat.reduceMod, hlt, hlt', hg, c0, goDV3c k1, l3, goDV3c r1, hg2, x1, hs, hi0, w2, hlt2, d0, x0, bin_sgeq, hge, w1]
          exact hN _ _ (vs.length - (i + 1)) (by omega) ⟨f3, i + 1, by omega, rfl, hok, rfl⟩
        · have hdec : decide (ltT y.key x.key) = false := decide_eq_false hge
          have e : okE none vs = false := by rw [hok, hdec]; rfl
          rw [e] at hQ
          simp only [symA, go_opsd, symB, wantedX, X.put, X.look, Arg.ev, keepOf, restrict, evs, evO, initEnv, xres, tup, noTup, cls, quiet, Nat.reduceAdd, Nat.reduceEqDiff, ↓reduceIte, reduceCtorEq, goInt, exists_eq_left', eq_self, Int.reduceLT, Int.reduceLE, Int.reduceEq, Int.reduceNeg, Int.reduceAdd, Int.reduceSub, forall_const, ne_eq, undef, Nat.reducePow, Nat.reduceDiv, Nat.reduceMod, hlt, hlt', hg, c0, goDV3c k1, l3, goDV3c r1, hg2, x1, hs, hi0, w2, hlt2, d0, x0, bin_sgeq, hge]
          exact hQ _ _ _ rfl ⟨rfl, f3⟩
      · have hla : lastE vs i = none := by rw [show i = 0 by omega]; rfl
        rw [hla, prevOk, Bool.true_and, ← hnext] at hok
        simp only [symA, go_opsd, symB, wantedX, X.put, X.look, Arg.ev, keepOf, restrict, evs, evO, initEnv, xres, tup, noTup, cls, quiet, Nat.reduceAdd, Nat.reduceEqDiff, ↓reduceIte, reduceCtorEq, goInt, exists_eq_left', eq_self, Int.reduceLT, Int.reduceLE, Int.reduceEq, Int.reduceNeg, Int.reduceAdd, Int.reduceSub, forall_const, ne_eq, undef, Nat.reducePow, Nat.reduceDiv, Nat.reduceMod, hlt, hlt', hg, c0, goDV3c k1, l3, goDV3c r1, hg2, x1, hs, hi0, w1]
        exact hN _ _ (vs.length - (i + 1)) (by omega) ⟨f3, i + 1, by omega, rfl, hok, rfl⟩
    · have hlt' : ¬ (i : Int) < (vs.length : Int) := by omega
      have hd : vs.drop i = [] := List.drop_eq_nil_of_le (by omega)
      rw [hd] at hok
      rw [hok] at hQ
      simp only [symA, go_opsd, symB, wantedX, X.put, X.look, Arg.ev, keepOf, restrict, evs, evO, initEnv, xres, tup, noTup, cls, quiet, Nat.reduceAdd, Nat.reduceEqDiff, ↓reduceIte, reduceCtorEq, goInt, exists_eq_left', eq_self, Int.reduceLT, Int.reduceLE, Int.reduceEq, Int.reduceNeg, Int.reduceAdd, Int.reduceSub, forall_const, ne_eq, undef, Nat.reducePow, Nat.reduceDiv, Nat.reduceMod, hlt']
      refine hB _ _ _ ?_
      simp only [symA, go_opsd, symB, wantedX, X.put, X.look, Arg.ev, keepOf, restrict, evs, evO, initEnv, xres, tup, noTup, cls, quiet, Nat.reduceAdd, Nat.reduceEqDiff, ↓reduceIte, reduceCtorEq, goInt, exists_eq_left', eq_self, Int.reduceLT, Int.reduceLE, Int.reduceEq, Int.reduceNeg, Int.reduceAdd, Int.reduceSub, forall_const, ne_eq, undef, Nat.reducePow, Nat.reduceDiv, Nat.reduceMod]
      exact hQ _ _ _ rfl ⟨rfl, hnx⟩
  obtain ⟨r, m', hc, rfl, hf⟩ := key
  exact ⟨m', hc, hf⟩
end Go.Proofs.Ytlldfkapaeidoaa

namespace Go.Proofs.Ytlldfkapaeidoaa
open Go X
set_option maxRecDepth 100000
set_option linter.unusedVariables false
set_option linter.unusedSimpArgs false

theorem done {b : Nat} {m : Mem} {v : Value} {vs : List Wr} (h : RdW b m v vs) (hw : ∀ x ∈ vs, x.Wf) (hl : vs.length ≤ 4611686018427387903) (hb : b ≤ m.next) : ∃ m', Ca 26 [v] m (.bool (okW none vs)) m' ∧ Nx m m' := by
  have key : Wc 26 [v] m fun r m' => r = .bool (okW none vs) ∧ Nx m m' := by
    refine call_go (F := _) rfl rfl fun Q hQ => ?_
    obtain ⟨p, c, rfl⟩ := rdW_slice h
    simp only [symA, go_opsd, symB, wantedX, X.put, X.look, Arg.ev, keepOf, restrict, evs, evO, initEnv, xres, tup, noTup, cls, quiet, Nat.reduceAdd, Nat.reduceEqDiff, ↓reduceIte, reduceCtorEq, goInt, exists_eq_left', eq_self, Int.reduceLT, Int.reduceLE, Int.reduceEq, Int.reduceNeg, Int.reduceAdd, Int.reduceSub, forall_const, ne_eq, undef, Nat.reducePow, Nat.reduceDiv, Nat.reduceMod]
    refine loop_go (fun j e m' => Nx m m' ∧ ∃ i : Nat, i ≤ vs.length ∧ j = vs.length - i ∧ okW none vs = okW (lastW vs i) (vs.drop i) ∧ e = [(0, .slice p vs.length c), (5, .slice p vs.length c), (6, I vs.length), (7, I i)]) vs.length ⟨.refl, 0, by omega, rfl, rfl, rfl⟩ ?_
    rintro j e m1 N' B' hN hB ⟨hnx, i, hi, rfl, hok, rfl⟩
    have h1 := h.fr hnx hb (fun _ h => h.elim)
    by_cases hlt : i < vs.length
    · have hlt' : (i : Int) < (vs.length : Int) := by omega
      obtain ⟨x, hx⟩ : ∃ x, vs[i]? = some x := ⟨_, List.getElem?_eq_getElem hlt⟩
      have hwx := hw x (List.mem_of_getElem? hx)
      obtain ⟨a, c', hv, ⟨o, hg, c0, c1, c2, c3, c4⟩, l5, l3⟩ := rdW_at h1 hx
      cases hv
      have w1 : IntKind.i64.wrap ((i : Int) + 1) = ((i + 1 : Nat) : Int) := by rw [wrap_i64 (by omega) (by omega)]; omega
      have hd : vs.drop i = x :: vs.drop (i + 1) := by
        obtain ⟨_, rfl⟩ := List.getElem?_eq_some_iff.1 hx
        exact List.drop_eq_getElem_cons hlt
      rw [hd, okW] at hok
      have hnext := lastW_succ hx
      obtain ⟨m2, st, g2, f2, n2⟩ := new_store (m := m1) (z := [.string .empty, .bool false, .bool false, .string .empty, U 0]) (row := x.row) (n := 5) rfl rfl (by omega)
      have f12 : Nx m m2 := hnx.comp f2 fun _ _ h => h
      have k1 := key_spec (m := m2) (t := x.key)
      have l2 : ldA m2 3 (.pointer (some ⟨m1.next, 2, none⟩)) = some (.val (.agg ⟨valL x.num x.text x.bits⟩) m2) := by simp [ldA, xload, g2]
      obtain ⟨m3, r1, r2⟩ := vright_spec (m := m2) (n := x.num) (t := x.text) hwx.bits
      have g3 : m3.get m1.next = some { cells := x.row, rw := true, spare := none, kin := [] } := r2.get (by omega) (fun h => h) g2
      have l4 : ldA m3 3 (.pointer (some ⟨m1.next, 2, none⟩)) = some (.val (.agg ⟨valL x.num x.text x.bits⟩) m3) := by simp [ldA, xload, g3]
      have f3 : Nx m m3 := f12.comp r2 fun _ _ h => h
      cases hk : keyOk x.key with
      | false =>
        rw [hk] at k1
        have e : okW none vs = false := by rw [hok, rightW, hk]; simp
        rw [e] at hQ
        simp only [symA, go_opsd, symB, wantedX, X.put, X.look, Arg.ev, keepOf, restrict, evs, evO, initEnv, xres, tup, noTup, cls, quiet, Nat.reduceAdd, Nat.reduceEqDiff, ↓reduceIte, reduceCtorEq, goInt, exists_eq_left', eq_self, Int.reduceLT, Int.reduceLE, Int.reduceEq, Int.reduceNeg, Int.reduceAdd, Int.reduceSub, forall_const, ne_eq, undef, Nat.reducePow, Nat.reduceDiv, Nat.reduceMod, hlt, hlt', l5, st, g2, goDV3c k1]
        exact hQ _ _ _ rfl ⟨rfl, f12⟩
      | true =>
      rw [hk] at k1
      cases hr : vright x.num x.text x.bits with
      | false =>
        rw [hr] at r1
        have e : okW none vs = false := by rw [hok, rightW, hr]; simp
        rw [e] at hQ
        simp only [symA, go_opsd, symB, wantedX, X.put, X.look, Arg.ev, keepOf, restrict, evs, evO, initEnv, xres, tup, noTup, cls, quiet, Nat.reduceAdd, Nat.reduceEqDiff, ↓reduceIte, reduceCtorEq, goInt, exists_eq_left', eq_self, Int.reduceLT, Int.reduceLE, Int.reduceEq, Int.reduceNeg, Int.reduceAdd, Int.reduceSub, forall_const, ne_eq, undef, Nat.reducePow, Nat.reduceDiv, Nat.reduceMod, hlt, hlt', l5, st, g2, goDV3c k1, l2, goDV3c r1]
        exact hQ _ _ _ rfl ⟨rfl, f3⟩
      | true =>
      rw [hr] at r1
      cases hgn : x.gone with
      | false =>
        have hre : rightW x = true := by rw [rightW, hk, hr, hgn]; rfl
        rw [hre, Bool.true_and] at hok
        by_cases hi0 : (0 : Int) < (i : Int)
        · obtain ⟨y, hy⟩ : ∃ y, vs[i - 1]? = some y := ⟨_, List.getElem?_eq_getElem (by omega)⟩
          obtain ⟨a', c'', hv', ⟨o', hg', d0, d1, d2, d3, d4⟩, k5, k3⟩ := rdW_at (h.fr f3 hb (fun _ h => h.elim)) hy
          cases hv'
          have w2 : IntKind.i64.wrap ((i : Int) - 1) = ((i - 1 : Nat) : Int) := by rw [wrap_i64 (by omega) (by omega)]; omega
          have hlt2 : i - 1 < vs.length := by omega
          have hla : lastW vs i = some y.key := by
            obtain ⟨k, rfl⟩ : ∃ k, i = k + 1 := ⟨i - 1, by omega⟩
            exact lastW_succ hy
          rw [hla, prevOk] at hok
          by_cases hge : ltT y.key x.key
          · have hdec : decide (ltT y.key x.key) = true := decide_eq_true hge
            rw [hdec, Bool.true_and, ← hnext] at hok
            simp only [symA, go_opsd, symB, wantedX, X.put, X.look, Arg.ev, keepOf, restrict, evs, evO, initEnv, xres, tup, noTup, cls, quiet, Nat.reduceAdd, Nat.reduceEqDiff, ↓reduceIte, reduceCtorEq, goInt, exists_eq_left', eq_self, Int.reduceLT, Int.reduceLE, Int.reduceEq, Int.reduceNeg, Int.reduceAdd, Int.reduceSub, forall_const, ne_eq, undef, Nat.reducePow, Nat.reduceDiv, Nat.reduceMod, hlt, hlt', l5, st, g2, goDV3c k1, l2, goDV3c r1, g3]
            simp only [symA, go_opsd, symB, wantedX, X.put, X.look, Arg.ev, keepOf, restrict, evs, evO, initEnv, xres, tup, noTup, cls, quiet, Nat.reduceAdd, Nat.reduceEqDiff, ↓reduceIte, reduceCtorEq, goInt, exists_eq_left', eq_self, Int.reduceLT, Int.reduceLE, Int.reduceEq, Int.reduceNeg, Int.reduceAdd, Int.reduceSub, forall_const, ne_eq, undef, Nat.reducePow, Nat.reduceDiv, Nat.reduceMod, hlt, hlt', l5, st, g2, goDV3c k1, l2, goDV3c r1, g3, hgn, hi0, w2, hlt2, hg', d0, bin_sgeq, hge, w1]
            exact hN _ _ (vs.length - (i + 1)) (by omega) ⟨f3, i + 1, by omega, rfl, hok, rfl⟩
          · have hdec : decide (ltT y.key x.key) = false := decide_eq_false hge
            have e : okW none vs = false := by rw [hok, hdec]; rfl
            rw [e] at hQ
            simp only [symA, go_opsd, symB, wantedX, X.put, X.look, Arg.ev, keepOf, restrict, evs, evO, initEnv, xres, tup, noTup, cls, quiet, Nat.reduceAdd, Nat.reduceEqDiff, ↓reduceIte, reduceCtorEq, goInt, exists_eq_left', eq_self, Int.reduceLT, Int.reduceLE, Int.reduceEq, Int.reduceNeg, Int.reduceAdd, Int.reduceSub, forall_const, ne_eq, undef, Nat.reducePow, Nat.reduceDiv, Nat.reduceMod, hlt, hlt', l5, st, g2, goDV3c k1, l2, goDV3c r1, g3]
            simp only [symA, go_opsd, symB, wantedX, X.put, X.look, Arg.ev, keepOf, restrict, evs, evO, initEnv, xres, tup, noTup, cls, quiet, Nat.reduceAdd, Nat.reduceEqDiff, ↓reduceIte, reduceCtorEq, goInt, exists_eq_left', eq_self, Int.reduceLT, Int.reduceLE, Int.reduceEq, Int.reduceNeg, Int.reduceAdd, Int.reduceSub, forall_const, ne_eq, undef, Nat.reducePow, Nat.reduceDiv, Nat.reduceMod, hlt, hlt', l5, st, g2, goDV3c k1, l2, goDV3c r1, g3, hgn, hi0, w2, hlt2, hg', d0, bin_sgeq, hge]
            exact hQ _ _ _ rfl ⟨rfl, f3⟩
        · have hla : lastW vs i = none := by rw [show i = 0 by omega]; rfl
          rw [hla, prevOk, Bool.true_and, ← hnext] at hok
          simp only [symA, go_opsd, symB, wantedX, X.put, X.look, Arg.ev, keepOf, restrict, evs, evO, initEnv, xres, tup, noTup, cls, quiet, Nat.reduceAdd, Nat.reduceEqDiff, ↓reduceIte, reduceCtorEq, goInt, exists_eq_left', eq_self, Int.reduceLT, Int.reduceLE, Int.reduceEq, Int.reduceNeg, Int.reduceAdd, Int.reduceSub, forall_const, ne_eq, undef, Nat.reducePow, Nat.reduceDiv, Nat.reduceMod, hlt, hlt', l5, st, g2, goDV3c k1, l2, goDV3c r1, g3]
          simp only [symA, go_opsd, symB, wantedX, X.put, X.look, Arg.ev, keepOf, restrict, evs, evO, initEnv, xres, tup, noTup, cls, quiet, Nat.reduceAdd, Nat.reduceEqDiff, ↓reduceIte, reduceCtorEq, goInt, exists_eq_left', eq_self, Int.reduceLT, Int.reduceLE, Int.reduceEq, Int.reduceNeg, Int.reduceAdd, Int.reduceSub, forall_const, ne_eq, undef, Nat.reducePow, Nat.reduceDiv, Nat.reduceMod, hlt, hlt', l5, st, g2, goDV3c k1, l2, goDV3c r1, g3, hgn, hi0, w1]
          exact hN _ _ (vs.length - (i + 1)) (by omega) ⟨f3, i + 1, by omega, rfl, hok, rfl⟩
      | true =>
        have n1 := ne34 (m := m3) (n := x.num) (n' := false) (t := x.text) (t' := .empty) (b := (x.bits : Int)) (b' := 0)
        rw [iszV_eq] at n1
        cases hz : iszV x.num x.text x.bits with
        | false =>
          rw [hz] at n1
          have e : okW none vs = false := by rw [hok, rightW, hgn, hz]; simp
          rw [e] at hQ
          simp only [symA, go_opsd, symB, wantedX, X.put, X.look, Arg.ev, keepOf, restrict, evs, evO, initEnv, xres, tup, noTup, cls, quiet, Nat.reduceAdd, Nat.reduceEqDiff, ↓reduceIte, reduceCtorEq, goInt, exists_eq_left', eq_self, Int.reduceLT, Int.reduceLE, Int.reduceEq, Int.reduceNeg, Int.reduceAdd, Int.reduceSub, forall_const, ne_eq, undef, Nat.reducePow, Nat.reduceDiv, Nat.reduceMod, hlt, hlt', l5, st, g2, goDV3c k1, l2, goDV3c r1, g3]
          simp only [symA, go_opsd, symB, wantedX, X.put, X.look, Arg.ev, keepOf, restrict, evs, evO, initEnv, xres, tup, noTup, cls, quiet, Nat.reduceAdd, Nat.reduceEqDiff, ↓reduceIte, reduceCtorEq, goInt, exists_eq_left', eq_self, Int.reduceLT, Int.reduceLE, Int.reduceEq, Int.reduceNeg, Int.reduceAdd, Int.reduceSub, forall_const, ne_eq, undef, Nat.reducePow, Nat.reduceDiv, Nat.reduceMod, hlt, hlt', l5, st, g2, goDV3c k1, l2, goDV3c r1, g3, hgn, l4, build34, n1]
          exact hQ _ _ _ rfl ⟨rfl, f3⟩
        | true =>
          rw [hz] at n1
          have hre : rightW x = true := by rw [rightW, hk, hr, hgn, hz]; rfl
          rw [hre, Bool.true_and] at hok
          by_cases hi0 : (0 : Int) < (i : Int)
          · obtain ⟨y, hy⟩ : ∃ y, vs[i - 1]? = some y := ⟨_, List.getElem?_eq_getElem (by omega)⟩
            obtain ⟨a', c'', hv', ⟨o', hg', d0, d1, d2, d3, d4⟩, k5, k3⟩ := rdW_at (h.fr f3 hb (fun _ h => h.elim)) hy
            cases hv'
            have w2 : IntKind.i64.wrap ((i : Int) - 1) = ((i - 1 : Nat) : Int) := by rw [wrap_i64 (by omega) (by omega)]; omega
            have hlt2 : i - 1 < vs.length := by omega
            have hla : lastW vs i = some y.key := by
              obtain ⟨k, rfl⟩ : ∃ k, i = k + 1 := ⟨i - 1, by omega⟩
              exact lastW_succ hy
            rw [hla, prevOk] at hok
            by_cases hge : ltT y.key x.key
            · have hdec : decide (ltT y.key x.key) = true := decide_eq_true hge
              rw [hdec, Bool.true_and, ← hnext] at hok
              simp only [symA, go_opsd, symB, wantedX, X.put, X.look, Arg.ev, keepOf, restrict, evs, evO, initEnv, xres, tup, noTup, cls, quiet, Nat.reduceAdd, Nat.reduceEqDiff, ↓reduceIte, reduceCtorEq, goInt, exists_eq_left', eq_self, Int.reduceLT, Int.reduceLE, Int.reduceEq, Int.reduceNeg, Int.reduceAdd, Int.reduceSub, forall_const, ne_eq, undef, Nat.reducePow, Nat.reduceDiv, Nat.reduceMod, hlt, hlt', l5, st, g2, goDV3c k1, l2, goDV3c r1, g3]
              simp only [symA, go_opsd, symB, wantedX, X.put, X.look, Arg.ev, keepOf, restrict, evs, evO, initEnv, xres, tup, noTup, cls, quiet, Nat.reduceAdd, Nat.reduceEqDiff, ↓reduceIte, reduceCtorEq, goInt, exists_eq_left', eq_self, Int.reduceLT, Int.reduceLE, Int.reduceEq, Int.reduceNeg, Int.reduceAdd, Int.reduceSub, forall_const, ne_eq, undef, Nat.reducePow, Nat.reduceDiv, Nat.reduceMod, hlt, hlt', l5, st, g2, goDV3c k1, l2, goDV3c r1, g3, hgn, l4, build34, n1, hi0, w2, hlt2, hg', d0, bin_sgeq, hge, w1]
              exact hN _ _ (vs.length - (i + 1)) (by omega) ⟨f3, i + 1, by omega, rfl, hok, rfl⟩
            · have hdec : decide (ltT y.key x.key) = false := decide_eq_false hge
              have e : okW none vs = false := by rw [hok, hdec]; rfl
              rw [e] at hQ
              simp only [symA, go_opsd, symB, wantedX, X.put, X.look, Arg.ev, keepOf, restrict, evs, evO, initEnv, xres, tup, noTup, cls, quiet, Nat.reduceAdd, Nat.reduceEqDiff, ↓reduceIte, reduceCtorEq, goInt, exists_eq_left', eq_self, Int.reduceLT, Int.reduceLE, Int.reduceEq, Int.reduceNeg, Int.reduceAdd, Int.reduceSub, forall_const, ne_eq, undef, Nat.reducePow, Nat.reduceDiv, Nat.reduceMod, hlt, hlt', l5, st, g2, goDV3c k1, l2, goDV3c r1, g3]
              simp only [symA, go_opsd, symB, wantedX, X.put, X.look, Arg.ev, keepOf, restrict, evs, evO, initEnv, xres, tup, noTup, cls, quiet, Nat.reduceAdd, Nat.reduceEqDiff, ↓reduceIte, reduceCtorEq, goInt, exists_eq_left', eq_self, Int.reduceLT, Int.reduceLE, Int.reduceEq, Int.reduceNeg, Int.reduceAdd, Int.reduceSub, forall_const, ne_eq, undef, Nat.reducePow, Nat.reduceDiv, Nat.reduceMod, hlt, hlt', l5, st, g2, goDV3c k1, l2, goDV3c r1, g3, hgn, l4, build34, n1, hi0, w2, hlt2, hg', d0, bin_sgeq, hge]
              exact hQ _ _ _ rfl ⟨rfl, f3⟩
          · have hla : lastW vs i = none := by rw [show i = 0 by omega]; rfl
            rw [hla, prevOk, Bool.true_and, ← hnext] at hok
            simp only [symA, go_opsd, symB, wantedX, X.put, X.look, Arg.ev, keepOf, restrict, evs, evO, initEnv, xres, tup, noTup, cls, quiet, Nat.reduceAdd, Nat.reduceEqDiff, ↓reduceIte, reduceCtorEq, goInt, exists_eq_left', eq_self, Int.reduceLT, Int.reduceLE, Int.reduceEq, Int.reduceNeg, Int.reduceAdd, Int.reduceSub, forall_const, ne_eq, undef, Nat.reducePow, Nat.reduceDiv, Nat.reduceMod, hlt, hlt', l5, st, g2, goDV3c k1, l2, goDV3c r1, g3]
            simp only [symA, go_opsd, symB, wantedX, X.put, X.look, Arg.ev, keepOf, restrict, evs, evO, initEnv, xres, tup, noTup, cls, quiet, Nat.reduceAdd, Nat.reduceEqDiff, ↓reduceIte, reduceCtorEq, goInt, exists_eq_left', eq_self, Int.reduceLT, Int.reduceLE, Int.reduceEq, Int.reduceNeg, Int.reduceAdd, Int.reduceSub, forall_const, ne_eq, undef, Nat.reducePow, Nat.reduceDiv, Nat.reduceMod, hlt, hlt', l5, st, g2, goDV3c k1, l2, goDV3c r1, g3, hgn, l4, build34, n1, hi0, w1]
            exact hN _ _ (vs.length - (i + 1)) (by omega) ⟨f3, i + 1, by omega, rfl, hok, rfl⟩
    · have hlt' : ¬ (i : Int) < (vs.length : Int) := by omega
      have hd : vs.drop i = [] := List.drop_eq_nil_of_le (by omega)
      rw [hd] at hok
      rw [hok] at hQ
      simp only [symA, go_opsd, symB, wantedX, X.put, X.look, Arg.ev, keepOf, restrict, evs, evO, initEnv, xres, tup, noTup, cls, quiet, Nat.reduceAdd, Nat.reduceEqDiff, ↓reduceIte, reduceCtorEq, goInt, exists_eq_left', eq_self, Int.reduceLT, Int.reduceLE, Int.reduceEq, Int.reduceNeg, Int.reduceAdd, Int.reduceSub, forall_const, ne_eq, undef, Nat.reducePow, Nat.reduceDiv, Nat.reduceMod, hlt']
      refine hB _ _ _ ?_
      simp only [symA, go_opsd, symB, wantedX, X.put, X.look, Arg.ev, keepOf, restrict, evs, evO, initEnv, xres, tup, noTup, cls, quiet, Nat.reduceAdd, Nat.reduceEqDiff, ↓reduceIte, reduceCtorEq, goInt, exists_eq_left', eq_self, Int.reduceLT, Int.reduceLE, Int.reduceEq, Int.reduceNeg, Int.reduceAdd, Int.reduceSub, forall_const, ne_eq, undef, Nat.reducePow, Nat.reduceDiv, Nat.reduceMod]
      exact hQ _ _ _ rfl ⟨rfl, hnx⟩
  obtain ⟨r, m', hc, rfl, hf⟩ := key
  exact ⟨m', hc, hf⟩

theorem may {b : Nat} {m : Mem} {v : Value} {vs : List Wr} (h : RdW b m v vs) (hw : ∀ x ∈ vs, x.Wf) (h0 : 1 ≤ vs.length) (h16 : vs.length ≤ 16) (hl : vs.length ≤ 4611686018427387903) (hb : b ≤ m.next) : ∃ m', Ca 29 [v] m (.bool (okW none vs)) m' ∧ Nx m m' := by
  have key : Wc 29 [v] m fun r m' => r = .bool (okW none vs) ∧ Nx m m' := by
    refine call_go (F := _) rfl rfl fun Q hQ => ?_
    obtain ⟨p, c, rfl⟩ := rdW_slice h
    have h0' : ¬ (vs.length : Int) < 1 := by omega
    have h16' : ¬ (16 : Int) < (vs.length : Int) := by omega
    simp only [symA, go_opsd, symB, wantedX, X.put, X.look, Arg.ev, keepOf, restrict, evs, evO, initEnv, xres, tup, noTup, cls, quiet, Nat.reduceAdd, Nat.reduceEqDiff, ↓reduceIte, reduceCtorEq, goInt, exists_eq_left', eq_self, Int.reduceLT, Int.reduceLE, Int.reduceEq, Int.reduceNeg, Int.reduceAdd, Int.reduceSub, forall_const, ne_eq, undef, Nat.reducePow, Nat.reduceDiv, Nat.reduceMod, h0', h16']
    refine loop_go (fun j e m' => Nx m m' ∧ ∃ i : Nat, i ≤ vs.length ∧ j = vs.length - i ∧ okW none vs = okW (lastW vs i) (vs.drop i) ∧ e = [(0, .slice p vs.length c), (3, I i)]) vs.length ⟨.refl, 0, by omega, rfl, rfl, rfl⟩ ?_
    rintro j e m1 N' B' hN hB ⟨hnx, i, hi, rfl, hok, rfl⟩
    have h1 := h.fr hnx hb (fun _ h => h.elim)
    by_cases hlt : i < vs.length
    · have hlt' : (i : Int) < (vs.length : Int) := by omega
      obtain ⟨x, hx⟩ : ∃ x, vs[i]? = some x := ⟨_, List.getElem?_eq_getElem hlt⟩
      have hwx := hw x (List.mem_of_getElem? hx)
      obtain ⟨a, c', hv, ⟨o, hg, c0, c1, c2, c3, c4⟩, l5, l3⟩ := rdW_at h1 hx
      cases hv
      have w1 : IntKind.i64.wrap ((i : Int) + 1) = ((i + 1 : Nat) : Int) := by rw [wrap_i64 (by omega) (by omega)]; omega
      have hd : vs.drop i = x :: vs.drop (i + 1) := by
        obtain ⟨_, rfl⟩ := List.getElem?_eq_some_iff.1 hx
        exact List.drop_eq_getElem_cons hlt
      rw [hd, okW] at hok
      have hnext := lastW_succ hx
      have f12 := hnx
      have k1 := rkey_spec (m := m1) (t := x.key)
      obtain ⟨m3, r1, r2⟩ := rvright_spec (m := m1) (n := x.num) (t := x.text) hwx.bits
      have f3 : Nx m m3 := f12.comp r2 fun _ _ h => h
      obtain ⟨a2, c2', hv2, ⟨o2, hg2, x0, x1, x2, x3, x4⟩, _, l4⟩ := rdW_at (h.fr f3 hb (fun _ h => h.elim)) hx
      cases hv2
      cases hk : keyOk x.key with
      | false =>
        rw [hk] at k1
        have e : okW none vs = false := by rw [hok, rightW, hk]; simp
        rw [e] at hQ
        simp only [symA, go_opsd, symB, wantedX, X.put, X.look, Arg.ev, keepOf, restrict, evs, evO, initEnv, xres, tup, noTup, cls, quiet, Nat.reduceAdd, Nat.reduceEqDiff, ↓reduceIte, reduceCtorEq, goInt, exists_eq_left', eq_self, Int.reduceLT, Int.reduceLE, Int.reduceEq, Int.reduceNeg, Int.reduceAdd, Int.reduceSub, forall_const, ne_eq, undef, Nat.reducePow, Nat.reduceDiv, Nat.reduceMod, hlt, hlt', hg, c0, goDV3c k1]
        exact hQ _ _ _ rfl ⟨rfl, f12⟩
      | true =>
      rw [hk] at k1
      cases hr : vright x.num x.text x.bits with
      | false =>
        rw [hr] at r1
        have e : okW none vs = false := by rw [hok, rightW, hr]; simp
        rw [e] at hQ
        simp only [symA, go_opsd, symB, wantedX, X.put, X.look, Arg.ev, keepOf, restrict, evs, evO, initEnv, xres, tup, noTup, cls, quiet, Nat.reduceAdd, Nat.reduceEqDiff, ↓reduceIte, reduceCtorEq, goInt, exists_eq_left', eq_self, Int.reduceLT, Int.reduceLE, Int.reduceEq, Int.reduceNeg, Int.reduceAdd, Int.reduceSub, forall_const, ne_eq, undef, Nat.reducePow, Nat.reduceDiv, Nat.reduceMod, hlt, hlt', hg, c0, goDV3c k1, l3, goDV3c r1]
        exact hQ _ _ _ rfl ⟨rfl, f3⟩
      | true =>
      rw [hr] at r1
      cases hgn : x.gone with
      | false =>
        have hre : rightW x = true := by rw [rightW, hk, hr, hgn]; rfl
        rw [hre, Bool.true_and] at hok
        by_cases hi0 : (0 : Int) < (i : Int)
        · obtain ⟨y, hy⟩ : ∃ y, vs[i - 1]? = some y := ⟨_, List.getElem?_eq_getElem (by omega)⟩
          obtain ⟨a', c'', hv', ⟨o', hg', d0, d1, d2, d3, d4⟩, k5, k3⟩ := rdW_at (h.fr f3 hb (fun _ h => h.elim)) hy
          cases hv'
          rw [hg2] at hg'
          cases hg'
          have w2 : IntKind.i64.wrap ((i : Int) - 1) = ((i - 1 : Nat) : Int) := by rw [wrap_i64 (by omega) (by omega)]; omega
          have hlt2 : i - 1 < vs.length := by omega
          have hla : lastW vs i = some y.key := by
            obtain ⟨k, rfl⟩ : ∃ k, i = k + 1 := ⟨i - 1, by omega⟩
            exact lastW_succ hy
          rw [hla, prevOk] at hok
          by_cases hge : ltT y.key x.key
          · have hdec : decide (ltT y.key x.key) = true := decide_eq_true hge
            rw [hdec, Bool.true_and, ← hnext] at hok
            simp only [symA, go_opsd, symB, wantedX, X.put, X.look, Arg.ev, keepOf, restrict, evs, evO, initEnv, xres, tup, noTup, cls, quiet, Nat.reduceAdd, Nat.reduceEqDiff, ↓reduceIte, reduceCtorEq, goInt, exists_eq_left', eq_self, Int.reduceLT, Int.reduceLE, Int.reduceEq, Int.reduceNeg, Int.reduceAdd, Int.reduceSub, forall_const, ne_eq, undef, Nat.reducePow, Nat.reduceDiv, Nat.reduceMod, hlt, hlt', hg, c0, goDV3c k1, l3, goDV3c r1, hg2, x1, hgn, hi0, w2, hlt2, d0, x0, bin_sgeq, hge, w1]
            exact hN _ _ (vs.length - (i + 1)) (by omega) ⟨f3, i + 1, by omega, rfl, hok, rfl⟩
          · have hdec : decide (ltT y.key x.key) = false := decide_eq_false hge
            have e : okW none vs = false := by rw [hok, hdec]; rfl
            rw [e] at hQ
            simp only [symA, go_opsd, symB, wantedX, X.put, X.look, Arg.ev, keepOf, restrict, evs, evO, initEnv, xres, tup, noTup, cls, quiet, Nat.reduceAdd, Nat.reduceEqDiff, ↓reduceIte, reduceCtorEq, goInt, exists_eq_left', eq_self, Int.reduceLT, Int.reduceLE, Int.reduceEq, Int.reduceNeg, Int.reduceAdd, Int.reduceSub, forall_const, ne_eq, undef, Nat.reducePow, Nat.reduceDiv, Nat.reduceMod, hlt, hlt', hg, c0, goDV3c k1, l3, goDV3c r1, hg2, x1, hgn, hi0, w2, hlt2, d0, x0, bin_sgeq, hge]
            exact hQ _ _ _ rfl ⟨rfl, f3⟩
        · have hla : lastW vs i = none := by rw [show i = 0 by omega]; rfl
          rw [hla, prevOk, Bool.true_and, ← hnext] at hok
          simp only [symA, go_opsd, symB, wantedX, X.put, X.look, Arg.ev, keepOf, restrict, evs, evO, initEnv, xres, tup, noTup, cls, quiet, Nat.reduceAdd, Nat.reduceEqDiff, ↓reduceIte, reduceCtorEq, goInt, exists_eq_left', eq_self, Int.reduceLT, Int.reduceLE, Int.reduceEq, Int.reduceNeg, Int.reduceAdd, Int.reduceSub, forall_const, ne_eq, undef, Nat.reducePow, Nat.reduceDiv, Nat.reduceMod, hlt, hlt', hg, c0, goDV3c k1, l3, goDV3c r1, hg2, x1, hgn, hi0, w1]
          exact hN _ _ (vs.length - (i + 1)) (by omega) ⟨f3, i + 1, by omega, rfl, hok, rfl⟩
      | true =>
        have n1 := ne34 (m := m3) (n := x.num) (n' := false) (t := x.text) (t' := .empty) (b := (x.bits : Int)) (b' := 0)
        rw [iszV_eq] at n1
        cases hz : iszV x.num x.text x.bits with
        | false =>
          rw [hz] at n1
          have e : okW none vs = false := by rw [hok, rightW, hgn, hz]; simp
          rw [e] at hQ
          skip
          simp only [symA, go_opsd, symB, wantedX, X.put, X.look, Arg.ev, keepOf, restrict, evs, evO, initEnv, xres, tup, noTup, cls, quiet, Nat.reduceAdd, Nat.reduceEqDiff, ↓reduceIte, reduceCtorEq, goInt, exists_eq_left', eq_self, Int.reduceLT, Int.reduceLE, Int.reduceEq, Int.reduceNeg, Int.reduceAdd, Int.reduceSub, forall_const, ne_eq, undef, Nat.reducePow, Nat.reduceDiv, Nat.reduceMod, hlt, hlt', hg, c0, goDV3c k1, l3, goDV3c r1, hg2, x1, hgn, l4, build34, n1]
          exact hQ _ _ _ rfl ⟨rfl, f3⟩
        | true =>
          rw [hz] at n1
          have hre : rightW x = true := by rw [rightW, hk, hr, hgn, hz]; rfl
          rw [hre, Bool.true_and] at hok
          by_cases hi0 : (0 : Int) < (i : Int)
          · obtain ⟨y, hy⟩ : ∃ y, vs[i - 1]? = some y := ⟨_, List.getElem?_eq_getElem (by omega)⟩
            obtain ⟨a', c'', hv', ⟨o', hg', d0, d1, d2, d3, d4⟩, k5, k3⟩ := rdW_at (h.fr f3 hb (fun _ h => h.elim)) hy
            cases hv'
            rw [hg2] at hg'
            cases hg'
            have w2 : IntKind.i64.wrap ((i : Int) - 1) = ((i - 1 : Nat) : Int) := by rw [wrap_i64 (by omega) (by omega)]; omega
            have hlt2 : i - 1 < vs.length := by omega
            have hla : lastW vs i = some y.key := by
              obtain ⟨k, rfl⟩ : ∃ k, i = k + 1 := ⟨i - 1, by omega⟩
              exact lastW_succ hy
            rw [hla, prevOk] at hok
            by_cases hge : ltT y.key x.key
            · have hdec : decide (ltT y.key x.key) = true := decide_eq_true hge
              rw [hdec, Bool.true_and, ← hnext] at hok
              simp only [symA, go_opsd, symB, wantedX, X.put, X.look, Arg.ev, keepOf, restrict, evs, evO, initEnv, xres, tup, noTup, cls, quiet, Nat.reduceAdd, Nat.reduceEqDiff, ↓reduceIte, reduceCtorEq, goInt, exists_eq_left', eq_self, Int.reduceLT, Int.reduceLE, Int.reduceEq, Int.reduceNeg, Int.reduceAdd, Int.reduceSub, forall_const, ne_eq, undef, Nat.reducePow, Nat.reduceDiv, Nat.reduceMod, hlt, hlt', hg, c0, goDV3c k1, l3, goDV3c r1, hg2, x1, hgn, l4, build34, n1, hi0, w2, hlt2, d0, x0, bin_sgeq, hge, w1]
              exact hN _ _ (vs.length - (i + 1)) (by omega) ⟨f3, i + 1, by omega, rfl, hok, rfl⟩
            · have hdec : decide (ltT y.key x.key) = false := decide_eq_false hge
              have e : okW none vs = false := by rw [hok, hdec]; rfl
              rw [e] at hQ
              simp only [symA, go_opsd, symB, wantedX, X.put, X.look, Arg.ev, keepOf, restrict, evs, evO, initEnv, xres, tup, noTup, cls, quiet, Nat.reduceAdd, Nat.reduceEqDiff, ↓reduceIte, reduceCtorEq, goInt, exists_eq_left', eq_self, Int.reduceLT, Int.reduceLE, Int.reduceEq, Int.reduceNeg, Int.reduceAdd, Int.reduceSub, forall_const, ne_eq, undef, Nat.reducePow, Nat.reduceDiv, Nat.reduceMod, hlt, hlt', hg, c0, goDV3c k1, l3, goDV3c r1, hg2, x1, hgn, l4, build34, n1, hi0, w2, hlt2, d0, x0, bin_sgeq, hge]
              exact hQ _ _ _ rfl ⟨rfl, f3⟩
          · have hla : lastW vs i = none := by rw [show i = 0 by omega]; rfl
            rw [hla, prevOk, Bool.true_and, ← hnext] at hok
            simp only [symA, go_opsd, symB, wantedX, X.put, X.look, Arg.ev, keepOf, restrict, evs, evO, initEnv, xres, tup, noTup, cls, quiet, Nat.reduceAdd, Nat.reduceEqDiff, ↓reduceIte, reduceCtorEq, goInt, exists_eq_left', eq_self, Int.reduceLT, Int.reduceLE, Int.reduceEq, Int.reduceNeg, Int.reduceAdd, Int.reduceSub, forall_const, ne_eq, undef, Nat.reducePow, Nat.reduceDiv, Nat.reduceMod, hlt, hlt', hg, c0, goDV3c k1, l3, goDV3c r1, hg2, x1, hgn, l4, build34, n1, hi0, w1]
            exact hN _ _ (vs.length - (i + 1)) (by omega) ⟨f3, i + 1, by omega, rfl, hok, rfl⟩
    · have hlt' : ¬ (i : Int) < (vs.length : Int) := by omega
      have hd : vs.drop i = [] := List.drop_eq_nil_of_le (by omega)
      rw [hd] at hok
      rw [hok] at hQ
      simp only [symA, go_opsd, symB, wantedX, X.put, X.look, Arg.ev, keepOf, restrict, evs, evO, initEnv, xres, tup, noTup, cls, quiet, Nat.reduceAdd, Nat.reduceEqDiff, ↓reduceIte, reduceCtorEq, goInt, exists_eq_left', eq_self, Int.reduceLT, Int.reduceLE, Int.reduceEq, Int.reduceNeg, Int.reduceAdd, Int.reduceSub, forall_const, ne_eq, undef, Nat.reducePow, Nat.reduceDiv, Nat.reduceMod, hlt']
      refine hB _ _ _ ?_
      simp only [symA, go_opsd, symB, wantedX, X.put, X.look, Arg.ev, keepOf, restrict, evs, evO, initEnv, xres, tup, noTup, cls, quiet, Nat.reduceAdd, Nat.reduceEqDiff, ↓reduceIte, reduceCtorEq, goInt, exists_eq_left', eq_self, Int.reduceLT, Int.reduceLE, Int.reduceEq, Int.reduceNeg, Int.reduceAdd, Int.reduceSub, forall_const, ne_eq, undef, Nat.reducePow, Nat.reduceDiv, Nat.reduceMod]
      exact hQ _ _ _ rfl ⟨rfl, hnx⟩
  obtain ⟨r, m', hc, rfl, hf⟩ := key
  exact ⟨m', hc, hf⟩

theorem rdone {b : Nat} {m : Mem} {v : Value} {vs : List Wr} (h : RdW b m v vs) (hc : CutB b m 5 v) (hw : ∀ x ∈ vs, x.Wf) (hl : vs.length ≤ 4611686018427387903) (hb : b ≤ m.next) : ∃ m', Ca 13 [v] m (.bool (okW none vs)) m' ∧ Nx m m' := by
  have key : Wc 13 [v] m fun r m' => r = .bool (okW none vs) ∧ Nx m m' := by
    refine call_go (F := _) rfl rfl fun Q hQ => ?_
    obtain ⟨p, c, rfl⟩ := rdW_slice h
    simp only [symA, go_opsd, symB, wantedX, X.put, X.look, Arg.ev, keepOf, restrict, evs, evO, initEnv, xres, tup, noTup, cls, quiet, Nat.reduceAdd, Nat.reduceEqDiff, ↓reduceIte, reduceCtorEq, goInt, exists_eq_left', eq_self, Int.reduceLT, Int.reduceLE, Int.reduceEq, Int.reduceNeg, Int.reduceAdd, Int.reduceSub, forall_const, ne_eq, undef, Nat.reducePow, Nat.reduceDiv, Nat.reduceMod]
    refine loop_go (fun j e m' => Nx m m' ∧ ∃ i : Nat, i ≤ vs.length ∧ j = vs.length - i ∧ okW none vs = okW (lastW vs i) (vs.drop i) ∧ e = [(0, .slice p vs.length c), (3, I i)]) vs.length ⟨.refl, 0, by omega, rfl, rfl, rfl⟩ ?_
    rintro j e m1 N' B' hN hB ⟨hnx, i, hi, rfl, hok, rfl⟩
    have h1 := h.fr hnx hb (fun _ h => h.elim)
    by_cases hlt : i < vs.length
    · have hlt' : (i : Int) < (vs.length : Int) := by omega
      obtain ⟨x, hx⟩ : ∃ x, vs[i]? = some x := ⟨_, List.getElem?_eq_getElem hlt⟩
      have hwx := hw x (List.mem_of_getElem? hx)
      have w1 : IntKind.i64.wrap ((i : Int) + 1) = ((i + 1 : Nat) : Int) := by rw [wrap_i64 (by omega) (by omega)]; omega
      have hd : vs.drop i = x :: vs.drop (i + 1) := by
        obtain ⟨_, rfl⟩ := List.getElem?_eq_some_iff.1 hx
        exact List.drop_eq_getElem_cons hlt
      rw [hd, okW] at hok
      have hnext := lastW_succ hx
      obtain ⟨v1, s1, s2, s3⟩ := slice_part (k := .i64) (k' := .i64) (l := i) (h := i + 1) h1 (hc.fr hnx hb (fun _ h => h.elim)) (by omega) (by rw [List.length_map]; omega)
      have hone : ((rowsW vs).take (i + 1)).drop i = rowsW [x] := by
        rw [List.take_add_one, List.drop_append_of_le_length (by simp; omega), List.drop_eq_nil_of_le (by rw [List.length_take]; omega)]
        simp [hx]
      rw [hone] at s2
      obtain ⟨q1, q2, rfl⟩ := rdW_slice s2
      obtain ⟨m3, r1, r2⟩ := may (m := m1) (vs := [x]) s2 (fun y hy => by rw [List.mem_singleton.1 hy]; exact hwx) (by simp) (by simp) (by simp) (Nat.le_trans hb hnx.next)
      have f3 : Nx m m3 := hnx.comp r2 fun _ _ h => h
      have e1 : okW none [x] = rightW x := by simp [okW, prevOk]
      rw [e1] at r1
      obtain ⟨a2, c2', hv2, ⟨o2, hg2, x0, x1, x2, x3, x4⟩, _, l4⟩ := rdW_at (h.fr f3 hb (fun _ h => h.elim)) hx
      cases hv2
      cases hr : rightW x with
      | false =>
        rw [hr] at r1
        have e : okW none vs = false := by rw [hok, hr]; rfl
        rw [e] at hQ
        simp only [symA, go_opsd, symB, wantedX, X.put, X.look, Arg.ev, keepOf, restrict, evs, evO, initEnv, xres, tup, noTup, cls, quiet, Nat.reduceAdd, Nat.reduceEqDiff, ↓reduceIte, reduceCtorEq, goInt, exists_eq_left', eq_self, Int.reduceLT, Int.reduceLE, Int.reduceEq, Int.reduceNeg, Int.reduceAdd, Int.reduceSub, forall_const, ne_eq, undef, Nat.reducePow, Nat.reduceDiv, Nat.reduceMod, hlt, hlt', w1, s1, goDV3c r1]
        exact hQ _ _ _ rfl ⟨rfl, f3⟩
      | true =>
      rw [hr] at r1
      rw [hr, Bool.true_and] at hok
      by_cases hi0 : (0 : Int) < (i : Int)
      · obtain ⟨y, hy⟩ : ∃ y, vs[i - 1]? = some y := ⟨_, List.getElem?_eq_getElem (by omega)⟩
        obtain ⟨a', c'', hv', ⟨o', hg', d0, d1, d2, d3, d4⟩, k5, k3⟩ := rdW_at (h.fr f3 hb (fun _ h => h.elim)) hy
        cases hv'
        rw [hg2] at hg'
        cases hg'
        have w2 : IntKind.i64.wrap ((i : Int) - 1) = ((i - 1 : Nat) : Int) := by rw [wrap_i64 (by omega) (by omega)]; omega
        have hlt2 : i - 1 < vs.length := by omega
        have hla : lastW vs i = some y.key := by
          obtain ⟨k, rfl⟩ : ∃ k, i = k + 1 := ⟨i - 1, by omega⟩
          exact lastW_succ hy
        rw [hla, prevOk] at hok
        by_cases hge : ltT y.key x.key
        · have hdec : decide (ltT y.key x.key) = true := decide_eq_true hge
          rw [hdec, Bool.true_and, ← hnext] at hok
          simp only [symA, go_opsd, symB, wantedX, X.put, X.look, Arg.ev, keepOf, restrict, evs, evO, initEnv, xres, tup, noTup, cls, quiet, Nat.reduceAdd, Nat.reduceEqDiff, ↓reduceIte, reduceCtorEq, goInt, exists_eq_left', eq_self, Int.reduceLT, Int.reduceLE, Int.reduceEq, Int.reduceNeg, Int.reduceAdd, Int.reduceSub, forall_const, ne_eq, undef, Nat.reducePow, Nat.reduceDiv, Nat.reduceMod, hlt, hlt', w1, s1, goDV3c r1, hi0, w2, hlt2, d0, hg2, x0, bin_sgeq, hge]
          exact hN _ _ (vs.length - (i + 1)) (by omega) ⟨f3, i + 1, by omega, rfl, hok, rfl⟩
        · have hdec : decide (ltT y.key x.key) = false := decide_eq_false hge
          have e : okW none vs = false := by rw [hok, hdec]; rfl
          rw [e] at hQ
          simp only [symA, go_opsd, symB, wantedX, X.put, X.look, Arg.ev, keepOf, restrict, evs, evO, initEnv, xres, tup, noTup, cls, quiet, Nat.reduceAdd, Nat.reduceEqDiff, ↓reduceIte, reduceCtorEq, goInt, exists_eq_left', eq_self, Int.reduceLT, Int.reduceLE, Int.reduceEq, Int.reduceNeg, Int.reduceAdd, Int.reduceSub, forall_const, ne_eq, undef, Nat.reducePow, Nat.reduceDiv, Nat.reduceMod, hlt, hlt', w1, s1, goDV3c r1, hi0, w2, hlt2, d0, hg2, x0, bin_sgeq, hge]
          exact hQ _ _ _ rfl ⟨rfl, f3⟩
      · have hla : lastW vs i = none := by rw [show i = 0 by omega]; rfl
        rw [hla, prevOk, Bool.true_and, ← hnext] at hok
        simp only [symA, go_opsd, symB, wantedX, X.put, X.look, Arg.ev, keepOf, restrict, evs, evO, initEnv, xres, tup, noTup, cls, quiet, Nat.reduceAdd, Nat.reduceEqDiff, ↓reduceIte, reduceCtorEq, goInt, exists_eq_left', eq_self, Int.reduceLT, Int.reduceLE, Int.reduceEq, Int.reduceNeg, Int.reduceAdd, Int.reduceSub, forall_const, ne_eq, undef, Nat.reducePow, Nat.reduceDiv, Nat.reduceMod, hlt, hlt', w1, s1, goDV3c r1, hi0]
        exact hN _ _ (vs.length - (i + 1)) (by omega) ⟨f3, i + 1, by omega, rfl, hok, rfl⟩
    · have hlt' : ¬ (i : Int) < (vs.length : Int) := by omega
      have hd : vs.drop i = [] := List.drop_eq_nil_of_le (by omega)
      rw [hd] at hok
      rw [hok] at hQ
      simp only [symA, go_opsd, symB, wantedX, X.put, X.look, Arg.ev, keepOf, restrict, evs, evO, initEnv, xres, tup, noTup, cls, quiet, Nat.reduceAdd, Nat.reduceEqDiff, ↓reduceIte, reduceCtorEq, goInt, exists_eq_left', eq_self, Int.reduceLT, Int.reduceLE, Int.reduceEq, Int.reduceNeg, Int.reduceAdd, Int.reduceSub, forall_const, ne_eq, undef, Nat.reducePow, Nat.reduceDiv, Nat.reduceMod, hlt']
      refine hB _ _ _ ?_
      simp only [symA, go_opsd, symB, wantedX, X.put, X.look, Arg.ev, keepOf, restrict, evs, evO, initEnv, xres, tup, noTup, cls, quiet, Nat.reduceAdd, Nat.reduceEqDiff, ↓reduceIte, reduceCtorEq, goInt, exists_eq_left', eq_self, Int.reduceLT, Int.reduceLE, Int.reduceEq, Int.reduceNeg, Int.reduceAdd, Int.reduceSub, forall_const, ne_eq, undef, Nat.reducePow, Nat.reduceDiv, Nat.reduceMod]
      exact hQ _ _ _ rfl ⟨rfl, hnx⟩
  obtain ⟨r, m', hc, rfl, hf⟩ := key
  exact ⟨m', hc, hf⟩
end Go.Proofs.Ytlldfkapaeidoaa
