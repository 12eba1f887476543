/-
  Own work. The law's comparison of entries: keys and values.
-/
import Derived.Test.YtlldfkapaeidoaaEB
namespace Go.Proofs.Ytlldfkapaeidoaa
open Go X
set_option maxRecDepth 100000
attribute [local irreducible] X.Go' X.GoO X.GoR X.GoG X.GoC X.GoF X.GoFV X.GoFG X.Ex X.GoD X.GoDV X.GoDG
set_option linter.unusedVariables false
set_option linter.unusedSimpArgs false

theorem like_spec {b b' : Nat} {m : Mem} {v w : Value} {vs ws : List Ent} (h : RdE b m v vs) (h' : RdE b' m w ws) (ha : Alike vs ws) (hl : vs.length ≤ 1000000) : Ca 21 [v, w] m (.bool true) m := by
  refine callX_of (call_go (F := _) rfl rfl fun Q hQ => ?_)
  obtain ⟨p, c, rfl⟩ := rdE_slice h
  obtain ⟨p', c', rfl⟩ := rdE_slice h'
  have h0 : (vs.length : Int) = (ws.length : Int) := by rw [ha.1]
  simp only [symA, go_opsd, symB, wantedX, X.put, X.look, Arg.ev, keepOf, restrict, evs, evO, initEnv, xres, tup, noTup, cls, quiet, Nat.reduceAdd, Nat.reduceEqDiff, ↓reduceIte, reduceCtorEq, goInt, exists_eq_left', eq_self, Int.reduceLT, Int.reduceLE, Int.reduceEq, Int.reduceNeg, Int.reduceAdd, Int.reduceSub, forall_const, ne_eq, undef, Nat.reducePow, Nat.reduceDiv, Nat.reduceMod, h0]
  refine loop_go (fun j e m' => m' = m ∧ ∃ i : Nat, i ≤ vs.length ∧ j = vs.length - i ∧ e = [(0, .slice p vs.length c), (1, .slice p' ws.length c'), (5, I i)]) vs.length ⟨rfl, 0, by omega, rfl, rfl⟩ ?_
  rintro j e m' N' B' hN hB ⟨rfl, i, hi, rfl, rfl⟩
  by_cases hlt : i < vs.length
  · have hlt' : (i : Int) < (vs.length : Int) := by omega
    have hlt2 : i < ws.length := by omega
    obtain ⟨x, hx⟩ : ∃ x, vs[i]? = some x := ⟨_, List.getElem?_eq_getElem hlt⟩
    obtain ⟨y, hy⟩ : ∃ y, ws[i]? = some y := ⟨_, List.getElem?_eq_getElem hlt2⟩
    obtain ⟨a, d, hv, ⟨o, hg, c0, _⟩, l5, l3⟩ := rdE_at h hx
    cases hv
    obtain ⟨a', d', hv', ⟨o', hg', c0', _⟩, k5, k3⟩ := rdE_at h' hy
    cases hv'
    obtain ⟨e1, e2⟩ := ha.2 i x y hx hy
    have w1 : IntKind.i64.wrap ((i : Int) + 1) = ((i + 1 : Nat) : Int) := by rw [wrap_i64 (by omega) (by omega)]; omega
    simp only [symA, go_opsd, symB, wantedX, X.put, X.look, Arg.ev, keepOf, restrict, evs, evO, initEnv, xres, tup, noTup, cls, quiet, Nat.reduceAdd, Nat.reduceEqDiff, ↓reduceIte, reduceCtorEq, goInt, exists_eq_left', eq_self, Int.reduceLT, Int.reduceLE, Int.reduceEq, Int.reduceNeg, Int.reduceAdd, Int.reduceSub, forall_const, ne_eq, undef, Nat.reducePow, Nat.reduceDiv, Nat.reduceMod, hlt, hlt', hlt2, hg, c0, hg', c0', bin_sneq, e1, l3, k3, neV, e2, w1]
    exact hN _ _ (vs.length - (i + 1)) (by omega) ⟨rfl, i + 1, by omega, rfl, rfl⟩
  · have hlt' : ¬ (i : Int) < (vs.length : Int) := by omega
    simp only [symA, go_opsd, symB, wantedX, X.put, X.look, Arg.ev, keepOf, restrict, evs, evO, initEnv, xres, tup, noTup, cls, quiet, Nat.reduceAdd, Nat.reduceEqDiff, ↓reduceIte, reduceCtorEq, goInt, exists_eq_left', eq_self, Int.reduceLT, Int.reduceLE, Int.reduceEq, Int.reduceNeg, Int.reduceAdd, Int.reduceSub, forall_const, ne_eq, undef, Nat.reducePow, Nat.reduceDiv, Nat.reduceMod, hlt']
    refine hB _ _ _ ?_
    simp only [symA, go_opsd, symB, wantedX, X.put, X.look, Arg.ev, keepOf, restrict, evs, evO, initEnv, xres, tup, noTup, cls, quiet, Nat.reduceAdd, Nat.reduceEqDiff, ↓reduceIte, reduceCtorEq, goInt, exists_eq_left', eq_self, Int.reduceLT, Int.reduceLE, Int.reduceEq, Int.reduceNeg, Int.reduceAdd, Int.reduceSub, forall_const, ne_eq, undef, Nat.reducePow, Nat.reduceDiv, Nat.reduceMod]
    exact hQ _ _ _ rfl ⟨rfl, rfl⟩
end Go.Proofs.Ytlldfkapaeidoaa
