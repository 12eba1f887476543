/-
  Own work. The tree and the document's: what is told of a key; both side by side.
-/
import Derived.Test.YtecceimgpeookaaS8
namespace Go.Proofs.Ytecceimgpeookaa
open Go X
set_option maxRecDepth 100000
attribute [local irreducible] X.Go' X.GoO X.GoR X.GoG X.GoC X.GoF X.GoFV X.GoFG X.Ex X.GoD X.GoDV X.GoDG
set_option linter.unusedVariables false
set_option linter.unusedSimpArgs false

section
variable {H FK FN : List Nat} {σ σ' : Nat → Tag} {m m' : Mem} {d p k : Nat} {vk vn v : Value} {es : List Ent} {key : Key} {x : Int} {xs : List Value}
theorem neb {m : Mem} {t : Bool} : binE Try.prog .neq 4 (.bool t) (.bool t) m = some (.val (.bool false) m) := by cases t <;> kernel_rfl
/-- A place that is told: its number, or -1. -/
def idx (j : Nat) (es : List Ent) : Int := if j < es.length then (j : Int) else -1
set_option maxHeartbeats 2000000 in
theorem told_spec (h : TreeM σ m p es k) (hr : RefT H m d es) (hk : k ≤ 1000) : Ca 34 [Pt p, Pt d, .string key] m (.bool true) m := by
  obtain ⟨FK, FN, vk, vn, hr⟩ := hr
  have hs := h.sort
  have hlen := h.len
  have hg := hr.get
  have c1 := Get_spec (key := key) h
  have c2 := at_spec (key := key) hr hs (by omega)
  have c3 := Seek_spec (key := key) h
  have c4 := After_spec (key := key) h
  have c5 := Before_spec (key := key) h
  have c6 := from_spec (key := key) (ab := false) hr hs (by omega)
  have c7 := from_spec (key := key) (ab := true) hr hs (by omega)
  have c8 := Len_spec h
  obtain ⟨l1, l2, l3, l4⟩ := leafE (key := key) (above := true) hs
  have l5 : fstE false key es = es[fromE false key es]? := by
    rw [seek_at hs]; unfold fromE; simp
  have l6 : fstE true key es = es[fromE true key es]? := l3
  rw [l5] at c3
  rw [l6] at c4
  rw [l4] at c5
  have hle := posE_le (key := key) (es := es)
  have P : ∀ j, (∃ e, j < es.length ∧ es[j]? = some e) ∨ (¬ j < es.length ∧ es[j]? = none) := fun j => by
    by_cases hj : j < es.length
    · exact .inl ⟨_, hj, List.getElem?_eq_getElem hj⟩
    · exact .inr ⟨hj, List.getElem?_eq_none (by omega)⟩
  have Z : hasE key es = false ∨ ∃ w, hasE key es = true ∧ posE key es < es.length ∧ es[posE key es]? = some (key, w) ∧ getE key es = some w := by
    cases hb : hasE key es with
    | false => exact .inl rfl
    | true =>
      obtain ⟨w, q1, q2⟩ := l1 hb
      exact .inr ⟨w, rfl, (List.getElem?_eq_some_iff.1 q1).1, q1, q2⟩
  have z1 : zeroE.1 = ByteArray.empty := rfl
  have z2 : zeroE.2 = 0 := rfl
  refine callX_of (call_go (F := _) rfl rfl fun Q hQ => ?_)
  by_cases h0 : es = []
  · subst h0
    have e1 : hasE key ([] : List Ent) = false := rfl
    have e2 : posE key ([] : List Ent) = 0 := rfl
    have e3 : getE key ([] : List Ent) = none := rfl
    have e4 : ∀ ab, fromE ab key ([] : List Ent) = 0 := fun ab => by cases ab <;> rfl
    obtain ⟨qk, ck, hvk⟩ := hr.ks
    rw [e3] at c1
    rw [e1, e2] at c2
    rw [e4] at c3 c4 c6 c7
    rw [show posK key (([] : List Ent).map (·.1)) = 0 from rfl, if_pos rfl] at c5
    simp only [List.length_nil, Nat.lt_irrefl, ↓reduceIte] at c6 c7
    simp only [tupF, List.getElem?_nil] at c3 c4 c5
    subst hvk
    simp only [symA, go_opsd, symB, wantedX, X.put, X.look, Arg.ev, keepOf, restrict, evs, evO, initEnv, xres, tup, noTup, cls, quiet, Nat.reduceAdd, Nat.reduceEqDiff, ↓reduceIte, reduceCtorEq, goInt, exists_eq_left', eq_self, Int.reduceLT, Int.reduceLE, Int.reduceEq, Int.reduceNeg, Int.reduceAdd, Int.reduceSub, forall_const, ne_eq, undef, Nat.reducePow, Nat.reduceDiv, Nat.reduceMod, goR_call c1, goR_call c2, goR_call c3, goR_call c4, goR_call c5, goR_call c6, goR_call c7, Option.getD_none, Option.isSome_none, neb, bin_sneq, z1, z2, not_true, decide_false, hg, goDV3c c8, List.length_nil]
    exact hQ _ _ _ rfl ⟨rfl, rfl⟩
  · obtain ⟨ak, ck, ok, hvk, gk, kc⟩ : ∃ a c o, vk = .slice (some a) es.length c ∧ m.get a.block = some o ∧ ∀ i e, es[i]? = some e → o.cells[a.off + i]? = some (.string e.1) := by
      obtain ⟨e0, he0⟩ : ∃ e, es[0]? = some e := ⟨_, List.getElem?_eq_getElem (List.length_pos_iff.2 h0)⟩
      obtain ⟨a, c, o, h1, h2, _⟩ := hr.keyAt he0
      refine ⟨a, c, o, h1, h2, fun i e he => ?_⟩
      obtain ⟨a', c', o', h1', h2', h3'⟩ := hr.keyAt he
      rw [h1] at h1'
      cases h1'
      rw [h2] at h2'
      cases h2'
      exact h3'
    obtain ⟨an, cn, on, hvn, gn, nc⟩ : ∃ a c o, vn = .slice (some a) es.length c ∧ m.get a.block = some o ∧ ∀ i e, es[i]? = some e → o.cells[a.off + i]? = some (I e.2) := by
      obtain ⟨e0, he0⟩ : ∃ e, es[0]? = some e := ⟨_, List.getElem?_eq_getElem (List.length_pos_iff.2 h0)⟩
      obtain ⟨a, c, o, h1, h2, _⟩ := hr.numAt he0
      refine ⟨a, c, o, h1, h2, fun i e he => ?_⟩
      obtain ⟨a', c', o', h1', h2', h3'⟩ := hr.numAt he
      rw [h1] at h1'
      cases h1'
      rw [h2] at h2'
      cases h2'
      exact h3'
    subst hvk hvn
    have X : (posK key (es.map (·.1)) = 0 ∧ posE key es = 0) ∨ ∃ q e, posE key es = q + 1 ∧ q < es.length ∧ es[q]? = some e ∧ IntKind.i64.wrap ((posE key es : Int) - 1) = (q : Int) ∧ (0 : Int) < (posE key es : Int) ∧ lastE key es = some e := by
      by_cases hz : posE key es = 0
      · exact .inl ⟨hz, hz⟩
      · refine .inr ⟨posE key es - 1, es[posE key es - 1]'(by omega), by omega, by omega, List.getElem?_eq_getElem _, ?_, by omega, ?_⟩
        · rw [wrap_i64 (by omega) (by omega)]; omega
        · rw [l4, if_neg hz]
          exact List.getElem?_eq_getElem _
    generalize hj1 : fromE false key es = j1 at *
    generalize hj2 : fromE true key es = j2 at *
    have B5 : (∃ q e, (Ca 57 [Pt p, .string key] m (tupF (some e)) m) ∧ es[q]? = some e ∧ q < es.length ∧ IntKind.i64.wrap ((posE key es : Int) - 1) = (q : Int) ∧ (0 : Int) < (posE key es : Int)) ∨ (Ca 57 [Pt p, .string key] m (tupF none) m ∧ ¬ (0 : Int) < (posE key es : Int)) := by
      rcases X with ⟨x1, x2⟩ | ⟨q, e, x1, x2, x3, x4, x5, x6⟩
      · rw [if_pos x1] at c5
        exact .inr ⟨c5, by omega⟩
      · rw [← l4, x6] at c5
        exact .inl ⟨q, e, c5, x3, x2, x4, x5⟩
    have B1 : (∃ w, Ca 53 [Pt p, .string key] m (.tuple #[I w, .bool true]) m ∧ hasE key es = true ∧ posE key es < es.length ∧ on.cells[an.off + posE key es]? = some (I w)) ∨ (Ca 53 [Pt p, .string key] m (.tuple #[I 0, .bool false]) m ∧ hasE key es = false) := by
      rcases Z with z | ⟨w, z, y1, y2, y3⟩
      · rw [getE_no z] at c1
        exact .inr ⟨c1, z⟩
      · rw [y3] at c1
        exact .inl ⟨w, c1, z, y1, nc _ _ y2⟩
    have B3 : (∃ e, Ca 29 [Pt p, .string key] m (tupF (some e)) m ∧ es[j1]? = some e ∧ j1 < es.length ∧ Ca 58 [Pt d, .string key, .bool false] m (I (j1 : Int)) m) ∨ (Ca 29 [Pt p, .string key] m (tupF none) m ∧ Ca 58 [Pt d, .string key, .bool false] m (I (-1)) m) := by
      rcases P j1 with ⟨e, y1, y2⟩ | ⟨y1, y2⟩
      · rw [y2] at c3; rw [if_pos y1] at c6; exact .inl ⟨e, c3, y2, y1, c6⟩
      · rw [y2] at c3; rw [if_neg y1] at c6; exact .inr ⟨c3, c6⟩
    have B4 : (∃ e, Ca 31 [Pt p, .string key] m (tupF (some e)) m ∧ es[j2]? = some e ∧ j2 < es.length ∧ Ca 58 [Pt d, .string key, .bool true] m (I (j2 : Int)) m) ∨ (Ca 31 [Pt p, .string key] m (tupF none) m ∧ Ca 58 [Pt d, .string key, .bool true] m (I (-1)) m) := by
      rcases P j2 with ⟨e, y1, y2⟩ | ⟨y1, y2⟩
      · rw [y2] at c4; rw [if_pos y1] at c7; exact .inl ⟨e, c4, y2, y1, c7⟩
      · rw [y2] at c4; rw [if_neg y1] at c7; exact .inr ⟨c4, c7⟩
    clear c1 c3 c4 c5 c6 c7 X Z P l1 l2 l3 l4 l5 l6
    have nn : ∀ n : Nat, (0 : Int) ≤ (n : Int) := fun n => by omega
    rcases B1 with ⟨w, b1, b2, b3, b4⟩ | ⟨b1, b2⟩
    · rw [b2] at c2
      rcases B3 with ⟨e3, d1, d2, d3, d4⟩ | ⟨d1, d4⟩
      · rcases B4 with ⟨e4, f1, f2, f3, f4⟩ | ⟨f1, f4⟩
        · rcases B5 with ⟨q, e5, g1, g2, g3, g4, g5⟩ | ⟨g1, g5⟩
          · simp only [tupF] at d1 f1 g1
            simp only [symA, go_opsd, symB, wantedX, X.put, X.look, Arg.ev, keepOf, restrict, evs, evO, initEnv, xres, tup, noTup, cls, quiet, Nat.reduceAdd, Nat.reduceEqDiff, ↓reduceIte, reduceCtorEq, goInt, exists_eq_left', eq_self, Int.reduceLT, Int.reduceLE, Int.reduceEq, Int.reduceNeg, Int.reduceAdd, Int.reduceSub, forall_const, ne_eq, undef, Nat.reducePow, Nat.reduceDiv, Nat.reduceMod, goR_call b1, goR_call c2, goR_call d1, goR_call f1, goR_call g1, goR_call d4, goR_call f4, g5, nn, Option.getD_some, Option.isSome_some, Option.getD_none, Option.isSome_none, neb, bin_sneq, z1, z2, not_true, decide_false, decide_true, hg, gk, gn, goDV3c c8, b3, b4, d3, kc _ _ d2, nc _ _ d2, f3, kc _ _ f2, nc _ _ f2, g3, g4, kc _ _ g2, nc _ _ g2]
            exact hQ _ _ _ rfl ⟨rfl, rfl⟩
          · simp only [tupF] at d1 f1 g1
            simp only [symA, go_opsd, symB, wantedX, X.put, X.look, Arg.ev, keepOf, restrict, evs, evO, initEnv, xres, tup, noTup, cls, quiet, Nat.reduceAdd, Nat.reduceEqDiff, ↓reduceIte, reduceCtorEq, goInt, exists_eq_left', eq_self, Int.reduceLT, Int.reduceLE, Int.reduceEq, Int.reduceNeg, Int.reduceAdd, Int.reduceSub, forall_const, ne_eq, undef, Nat.reducePow, Nat.reduceDiv, Nat.reduceMod, goR_call b1, goR_call c2, goR_call d1, goR_call f1, goR_call g1, goR_call d4, goR_call f4, g5, nn, Option.getD_some, Option.isSome_some, Option.getD_none, Option.isSome_none, neb, bin_sneq, z1, z2, not_true, decide_false, decide_true, hg, gk, gn, goDV3c c8, b3, b4, d3, kc _ _ d2, nc _ _ d2, f3, kc _ _ f2, nc _ _ f2]
            exact hQ _ _ _ rfl ⟨rfl, rfl⟩
        · rcases B5 with ⟨q, e5, g1, g2, g3, g4, g5⟩ | ⟨g1, g5⟩
          · simp only [tupF] at d1 f1 g1
            simp only [symA, go_opsd, symB, wantedX, X.put, X.look, Arg.ev, keepOf, restrict, evs, evO, initEnv, xres, tup, noTup, cls, quiet, Nat.reduceAdd, Nat.reduceEqDiff, ↓reduceIte, reduceCtorEq, goInt, exists_eq_left', eq_self, Int.reduceLT, Int.reduceLE, Int.reduceEq, Int.reduceNeg, Int.reduceAdd, Int.reduceSub, forall_const, ne_eq, undef, Nat.reducePow, Nat.reduceDiv, Nat.reduceMod, goR_call b1, goR_call c2, goR_call d1, goR_call f1, goR_call g1, goR_call d4, goR_call f4, g5, nn, Option.getD_some, Option.isSome_some, Option.getD_none, Option.isSome_none, neb, bin_sneq, z1, z2, not_true, decide_false, decide_true, hg, gk, gn, goDV3c c8, b3, b4, d3, kc _ _ d2, nc _ _ d2, g3, g4, kc _ _ g2, nc _ _ g2]
            exact hQ _ _ _ rfl ⟨rfl, rfl⟩
          · simp only [tupF] at d1 f1 g1
            simp only [symA, go_opsd, symB, wantedX, X.put, X.look, Arg.ev, keepOf, restrict, evs, evO, initEnv, xres, tup, noTup, cls, quiet, Nat.reduceAdd, Nat.reduceEqDiff, ↓reduceIte, reduceCtorEq, goInt, exists_eq_left', eq_self, Int.reduceLT, Int.reduceLE, Int.reduceEq, Int.reduceNeg, Int.reduceAdd, Int.reduceSub, forall_const, ne_eq, undef, Nat.reducePow, Nat.reduceDiv, Nat.reduceMod, goR_call b1, goR_call c2, goR_call d1, goR_call f1, goR_call g1, goR_call d4, goR_call f4, g5, nn, Option.getD_some, Option.isSome_some, Option.getD_none, Option.isSome_none, neb, bin_sneq, z1, z2, not_true, decide_false, decide_true, hg, gk, gn, goDV3c c8, b3, b4, d3, kc _ _ d2, nc _ _ d2]
            exact hQ _ _ _ rfl ⟨rfl, rfl⟩
      · rcases B4 with ⟨e4, f1, f2, f3, f4⟩ | ⟨f1, f4⟩
        · rcases B5 with ⟨q, e5, g1, g2, g3, g4, g5⟩ | ⟨g1, g5⟩
          · simp only [tupF] at d1 f1 g1
            simp only [symA, go_opsd, symB, wantedX, X.put, X.look, Arg.ev, keepOf, restrict, evs, evO, initEnv, xres, tup, noTup, cls, quiet, Nat.reduceAdd, Nat.reduceEqDiff, ↓reduceIte, reduceCtorEq, goInt, exists_eq_left', eq_self, Int.reduceLT, Int.reduceLE, Int.reduceEq, Int.reduceNeg, Int.reduceAdd, Int.reduceSub, forall_const, ne_eq, undef, Nat.reducePow, Nat.reduceDiv, Nat.reduceMod, goR_call b1, goR_call c2, goR_call d1, goR_call f1, goR_call g1, goR_call d4, goR_call f4, g5, nn, Option.getD_some, Option.isSome_some, Option.getD_none, Option.isSome_none, neb, bin_sneq, z1, z2, not_true, decide_false, decide_true, hg, gk, gn, goDV3c c8, b3, b4, f3, kc _ _ f2, nc _ _ f2, g3, g4, kc _ _ g2, nc _ _ g2]
            exact hQ _ _ _ rfl ⟨rfl, rfl⟩
          · simp only [tupF] at d1 f1 g1
            simp only [symA, go_opsd, symB, wantedX, X.put, X.look, Arg.ev, keepOf, restrict, evs, evO, initEnv, xres, tup, noTup, cls, quiet, Nat.reduceAdd, Nat.reduceEqDiff, ↓reduceIte, reduceCtorEq, goInt, exists_eq_left', eq_self, Int.reduceLT, Int.reduceLE, Int.reduceEq, Int.reduceNeg, Int.reduceAdd, Int.reduceSub, forall_const, ne_eq, undef, Nat.reducePow, Nat.reduceDiv, Nat.reduceMod, goR_call b1, goR_call c2, goR_call d1, goR_call f1, goR_call g1, goR_call d4, goR_call f4, g5, nn, Option.getD_some, Option.isSome_some, Option.getD_none, Option.isSome_none, neb, bin_sneq, z1, z2, not_true, decide_false, decide_true, hg, gk, gn, goDV3c c8, b3, b4, f3, kc _ _ f2, nc _ _ f2]
            exact hQ _ _ _ rfl ⟨rfl, rfl⟩
        · rcases B5 with ⟨q, e5, g1, g2, g3, g4, g5⟩ | ⟨g1, g5⟩
          · simp only [tupF] at d1 f1 g1
            simp only [symA, go_opsd, symB, wantedX, X.put, X.look, Arg.ev, keepOf, restrict, evs, evO, initEnv, xres, tup, noTup, cls, quiet, Nat.reduceAdd, Nat.reduceEqDiff, ↓reduceIte, reduceCtorEq, goInt, exists_eq_left', eq_self, Int.reduceLT, Int.reduceLE, Int.reduceEq, Int.reduceNeg, Int.reduceAdd, Int.reduceSub, forall_const, ne_eq, undef, Nat.reducePow, Nat.reduceDiv, Nat.reduceMod, goR_call b1, goR_call c2, goR_call d1, goR_call f1, goR_call g1, goR_call d4, goR_call f4, g5, nn, Option.getD_some, Option.isSome_some, Option.getD_none, Option.isSome_none, neb, bin_sneq, z1, z2, not_true, decide_false, decide_true, hg, gk, gn, goDV3c c8, b3, b4, g3, g4, kc _ _ g2, nc _ _ g2]
            exact hQ _ _ _ rfl ⟨rfl, rfl⟩
          · simp only [tupF] at d1 f1 g1
            simp only [symA, go_opsd, symB, wantedX, X.put, X.look, Arg.ev, keepOf, restrict, evs, evO, initEnv, xres, tup, noTup, cls, quiet, Nat.reduceAdd, Nat.reduceEqDiff, ↓reduceIte, reduceCtorEq, goInt, exists_eq_left', eq_self, Int.reduceLT, Int.reduceLE, Int.reduceEq, Int.reduceNeg, Int.reduceAdd, Int.reduceSub, forall_const, ne_eq, undef, Nat.reducePow, Nat.reduceDiv, Nat.reduceMod, goR_call b1, goR_call c2, goR_call d1, goR_call f1, goR_call g1, goR_call d4, goR_call f4, g5, nn, Option.getD_some, Option.isSome_some, Option.getD_none, Option.isSome_none, neb, bin_sneq, z1, z2, not_true, decide_false, decide_true, hg, gk, gn, goDV3c c8, b3, b4]
            exact hQ _ _ _ rfl ⟨rfl, rfl⟩
    · rw [b2] at c2
      rcases B3 with ⟨e3, d1, d2, d3, d4⟩ | ⟨d1, d4⟩
      · rcases B4 with ⟨e4, f1, f2, f3, f4⟩ | ⟨f1, f4⟩
        · rcases B5 with ⟨q, e5, g1, g2, g3, g4, g5⟩ | ⟨g1, g5⟩
          · simp only [tupF] at d1 f1 g1
            simp only [symA, go_opsd, symB, wantedX, X.put, X.look, Arg.ev, keepOf, restrict, evs, evO, initEnv, xres, tup, noTup, cls, quiet, Nat.reduceAdd, Nat.reduceEqDiff, ↓reduceIte, reduceCtorEq, goInt, exists_eq_left', eq_self, Int.reduceLT, Int.reduceLE, Int.reduceEq, Int.reduceNeg, Int.reduceAdd, Int.reduceSub, forall_const, ne_eq, undef, Nat.reducePow, Nat.reduceDiv, Nat.reduceMod, goR_call b1, goR_call c2, goR_call d1, goR_call f1, goR_call g1, goR_call d4, goR_call f4, g5, nn, Option.getD_some, Option.isSome_some, Option.getD_none, Option.isSome_none, neb, bin_sneq, z1, z2, not_true, decide_false, decide_true, hg, gk, gn, goDV3c c8, d3, kc _ _ d2, nc _ _ d2, f3, kc _ _ f2, nc _ _ f2, g3, g4, kc _ _ g2, nc _ _ g2]
            exact hQ _ _ _ rfl ⟨rfl, rfl⟩
          · simp only [tupF] at d1 f1 g1
            simp only [symA, go_opsd, symB, wantedX, X.put, X.look, Arg.ev, keepOf, restrict, evs, evO, initEnv, xres, tup, noTup, cls, quiet, Nat.reduceAdd, Nat.reduceEqDiff, ↓reduceIte, reduceCtorEq, goInt, exists_eq_left', eq_self, Int.reduceLT, Int.reduceLE, Int.reduceEq, Int.reduceNeg, Int.reduceAdd, Int.reduceSub, forall_const, ne_eq, undef, Nat.reducePow, Nat.reduceDiv, Nat.reduceMod, goR_call b1, goR_call c2, goR_call d1, goR_call f1, goR_call g1, goR_call d4, goR_call f4, g5, nn, Option.getD_some, Option.isSome_some, Option.getD_none, Option.isSome_none, neb, bin_sneq, z1, z2, not_true, decide_false, decide_true, hg, gk, gn, goDV3c c8, d3, kc _ _ d2, nc _ _ d2, f3, kc _ _ f2, nc _ _ f2]
            exact hQ _ _ _ rfl ⟨rfl, rfl⟩
        · rcases B5 with ⟨q, e5, g1, g2, g3, g4, g5⟩ | ⟨g1, g5⟩
          · simp only [tupF] at d1 f1 g1
            simp only [symA, go_opsd, symB, wantedX, X.put, X.look, Arg.ev, keepOf, restrict, evs, evO, initEnv, xres, tup, noTup, cls, quiet, Nat.reduceAdd, Nat.reduceEqDiff, ↓reduceIte, reduceCtorEq, goInt, exists_eq_left', eq_self, Int.reduceLT, Int.reduceLE, Int.reduceEq, Int.reduceNeg, Int.reduceAdd, Int.reduceSub, forall_const, ne_eq, undef, Nat.reducePow, Nat.reduceDiv, Nat.reduceMod, goR_call b1, goR_call c2, goR_call d1, goR_call f1, goR_call g1, goR_call d4, goR_call f4, g5, nn, Option.getD_some, Option.isSome_some, Option.getD_none, Option.isSome_none, neb, bin_sneq, z1, z2, not_true, decide_false, decide_true, hg, gk, gn, goDV3c c8, d3, kc _ _ d2, nc _ _ d2, g3, g4, kc _ _ g2, nc _ _ g2]
            exact hQ _ _ _ rfl ⟨rfl, rfl⟩
          · simp only [tupF] at d1 f1 g1
            simp only [symA, go_opsd, symB, wantedX, X.put, X.look, Arg.ev, keepOf, restrict, evs, evO, initEnv, xres, tup, noTup, cls, quiet, Nat.reduceAdd, Nat.reduceEqDiff, ↓reduceIte, reduceCtorEq, goInt, exists_eq_left', eq_self, Int.reduceLT, Int.reduceLE, Int.reduceEq, Int.reduceNeg, Int.reduceAdd, Int.reduceSub, forall_const, ne_eq, undef, Nat.reducePow, Nat.reduceDiv, Nat.reduceMod, goR_call b1, goR_call c2, goR_call d1, goR_call f1, goR_call g1, goR_call d4, goR_call f4, g5, nn, Option.getD_some, Option.isSome_some, Option.getD_none, Option.isSome_none, neb, bin_sneq, z1, z2, not_true, decide_false, decide_true, hg, gk, gn, goDV3c c8, d3, kc _ _ d2, nc _ _ d2]
            exact hQ _ _ _ rfl ⟨rfl, rfl⟩
      · rcases B4 with ⟨e4, f1, f2, f3, f4⟩ | ⟨f1, f4⟩
        · rcases B5 with ⟨q, e5, g1, g2, g3, g4, g5⟩ | ⟨g1, g5⟩
          · simp only [tupF] at d1 f1 g1
            simp only [symA, go_opsd, symB, wantedX, X.put, X.look, Arg.ev, keepOf, restrict, evs, evO, initEnv, xres, tup, noTup, cls, quiet, Nat.reduceAdd, Nat.reduceEqDiff, ↓reduceIte, reduceCtorEq, goInt, exists_eq_left', eq_self, Int.reduceLT, Int.reduceLE, Int.reduceEq, Int.reduceNeg, Int.reduceAdd, Int.reduceSub, forall_const, ne_eq, undef, Nat.reducePow, Nat.reduceDiv, Nat.reduceMod, goR_call b1, goR_call c2, goR_call d1, goR_call f1, goR_call g1, goR_call d4, goR_call f4, g5, nn, Option.getD_some, Option.isSome_some, Option.getD_none, Option.isSome_none, neb, bin_sneq, z1, z2, not_true, decide_false, decide_true, hg, gk, gn, goDV3c c8, f3, kc _ _ f2, nc _ _ f2, g3, g4, kc _ _ g2, nc _ _ g2]
            exact hQ _ _ _ rfl ⟨rfl, rfl⟩
          · simp only [tupF] at d1 f1 g1
            simp only [symA, go_opsd, symB, wantedX, X.put, X.look, Arg.ev, keepOf, restrict, evs, evO, initEnv, xres, tup, noTup, cls, quiet, Nat.reduceAdd, Nat.reduceEqDiff, ↓reduceIte, reduceCtorEq, goInt, exists_eq_left', eq_self, Int.reduceLT, Int.reduceLE, Int.reduceEq, Int.reduceNeg, Int.reduceAdd, Int.reduceSub, forall_const, ne_eq, undef, Nat.reducePow, Nat.reduceDiv, Nat.reduceMod, goR_call b1, goR_call c2, goR_call d1, goR_call f1, goR_call g1, goR_call d4, goR_call f4, g5, nn, Option.getD_some, Option.isSome_some, Option.getD_none, Option.isSome_none, neb, bin_sneq, z1, z2, not_true, decide_false, decide_true, hg, gk, gn, goDV3c c8, f3, kc _ _ f2, nc _ _ f2]
            exact hQ _ _ _ rfl ⟨rfl, rfl⟩
        · rcases B5 with ⟨q, e5, g1, g2, g3, g4, g5⟩ | ⟨g1, g5⟩
          · simp only [tupF] at d1 f1 g1
            simp only [symA, go_opsd, symB, wantedX, X.put, X.look, Arg.ev, keepOf, restrict, evs, evO, initEnv, xres, tup, noTup, cls, quiet, Nat.reduceAdd, Nat.reduceEqDiff, ↓reduceIte, reduceCtorEq, goInt, exists_eq_left', eq_self, Int.reduceLT, Int.reduceLE, Int.reduceEq, Int.reduceNeg, Int.reduceAdd, Int.reduceSub, forall_const, ne_eq, undef, Nat.reducePow, Nat.reduceDiv, Nat.reduceMod, goR_call b1, goR_call c2, goR_call d1, goR_call f1, goR_call g1, goR_call d4, goR_call f4, g5, nn, Option.getD_some, Option.isSome_some, Option.getD_none, Option.isSome_none, neb, bin_sneq, z1, z2, not_true, decide_false, decide_true, hg, gk, gn, goDV3c c8, g3, g4, kc _ _ g2, nc _ _ g2]
            exact hQ _ _ _ rfl ⟨rfl, rfl⟩
          · simp only [tupF] at d1 f1 g1
            simp only [symA, go_opsd, symB, wantedX, X.put, X.look, Arg.ev, keepOf, restrict, evs, evO, initEnv, xres, tup, noTup, cls, quiet, Nat.reduceAdd, Nat.reduceEqDiff, ↓reduceIte, reduceCtorEq, goInt, exists_eq_left', eq_self, Int.reduceLT, Int.reduceLE, Int.reduceEq, Int.reduceNeg, Int.reduceAdd, Int.reduceSub, forall_const, ne_eq, undef, Nat.reducePow, Nat.reduceDiv, Nat.reduceMod, goR_call b1, goR_call c2, goR_call d1, goR_call f1, goR_call g1, goR_call d4, goR_call f4, g5, nn, Option.getD_some, Option.isSome_some, Option.getD_none, Option.isSome_none, neb, bin_sneq, z1, z2, not_true, decide_false, decide_true, hg, gk, gn, goDV3c c8]
            exact hQ _ _ _ rfl ⟨rfl, rfl⟩
end
section
variable {b k p d : Nat} {σ σ' : Nat → Tag} {m m' : Mem} {es : List Ent} {H H' : List Nat} {key : Key} {x : Int}
/-- Both trees. -/
structure Both (b : Nat) (σ : Nat → Tag) (H : List Nat) (m : Mem) (p d : Nat) (es : List Ent) (k : Nat) : Prop where
  t : TreeB b σ m p es k
  r : RefT H m d es
  hn : ∀ i ∈ H, σ i = .no
  hb : ∀ i ∈ H, b ≤ i
theorem RefT.lt (h : RefT H m d es) : ∀ i ∈ H, i < m.next := by
  obtain ⟨FK, FN, vk, vn, h⟩ := h
  exact h.lt
theorem Both.nx (h : Both b σ H m p d es k) (f : Nx m m') : Both b σ H m' p d es k := ⟨h.t.nx f, h.r.nx f, h.hn, h.hb⟩
theorem Both.le' {k' : Nat} (h : Both b σ H m p d es k) (hk : k ≤ k') : Both b σ H m p d es k' := ⟨h.t.le' hk, h.r, h.hn, h.hb⟩
/-- The one's call, and the other's. -/
theorem Both.step {m2 : Mem} {es' : List Ent} {k' : Nat} (h : Both b σ H m p d es k) (t : TreeB b σ' m' p es' k') (g : Gr σ σ' m m') (r : RefT H' m2 d es') (f : Fm (· ∈ H) m' m2) (hn : ∀ i ∈ H', i ∈ H ∨ m'.next ≤ i) : Both b σ' H' m2 p d es' k' ∧ Fm (b ≤ ·) m' m2 := by
  have hs : ∀ i ∈ H, σ' i = .no := fun i hi => by rw [g.out i (h.r.lt i hi) (by rw [h.hn i hi]; rfl)]; exact h.hn i hi
  refine ⟨⟨⟨t.tree.ch ⟨fun _ _ => rfl, f.mono fun j _ hj => hs j hj, fun _ _ => rfl⟩, t.low, Nat.le_trans t.le f.next⟩, r, fun i hi => ?_, fun i hi => ?_⟩, f.mono fun j _ hj => h.hb j hj⟩
  · rcases hn i hi with q | q
    · exact hs i q
    · exact t.fresh i q
  · rcases hn i hi with q | q
    · exact h.hb i q
    · have := t.le; omega
theorem Both.put (h : Both b σ H m p d es k) (hk : k ≤ 900) : ∃ m1 m2 σ' H', Ca 27 [Pt p, .string key, I x] m (.tuple #[I ((getE key es).getD 0), .bool (getE key es).isSome, I 0]) m1 ∧ Fm (b ≤ ·) m m1 ∧
    Ca 32 [Pt d, .string key, I x] m1 (.tuple #[I ((getE key es).getD 0), .bool (getE key es).isSome]) m2 ∧ Fm (b ≤ ·) m1 m2 ∧ Both b σ' H' m2 p d (putE key x es) (k + 1) ∧ Gr σ σ' m m1 ∧ Fm (· ∈ H) m1 m2 := by
  obtain ⟨m1, σ', c1, c2, c3, c4⟩ := h.t.put (key := key) (x := x) (by omega)
  have hl := h.t.tree.len
  have hr1 := h.r.fr c4.fm fun i hi q => by rw [h.hn i hi] at q; simp [tr] at q
  obtain ⟨m2, H', e1, e2, e3, e4⟩ := rput_spec (key := key) (x := x) hr1 h.t.sort (by omega)
  obtain ⟨k1, k2⟩ := h.step c2 c4 e2 e3 e4
  exact ⟨m1, m2, σ', H', c1, c3, e1, k2, k1, c4, e3⟩
theorem Both.del (h : Both b σ H m p d es k) (hk : k ≤ 900) : ∃ m1 m2 σ' H', Ca 30 [Pt p, .string key] m (.tuple #[I ((getE key es).getD 0), .bool (getE key es).isSome]) m1 ∧ Fm (b ≤ ·) m m1 ∧
    Ca 33 [Pt d, .string key] m1 (.tuple #[I ((getE key es).getD 0), .bool (getE key es).isSome]) m2 ∧ Fm (b ≤ ·) m1 m2 ∧ Both b σ' H' m2 p d (delE key es) k ∧ Gr σ σ' m m1 ∧ Fm (· ∈ H) m1 m2 := by
  obtain ⟨m1, σ', c1, c2, c3, c4⟩ := h.t.del (key := key) (by omega)
  have hl := h.t.tree.len
  have hr1 := h.r.fr c4.fm fun i hi q => by rw [h.hn i hi] at q; simp [tr] at q
  obtain ⟨m2, H', e1, e2, e3, e4⟩ := rdel_spec (key := key) hr1 h.t.sort (by omega)
  obtain ⟨k1, k2⟩ := h.step c2 c4 e2 e3 e4
  exact ⟨m1, m2, σ', H', c1, c3, e1, k2, k1, c4, e3⟩
theorem Both.told (h : Both b σ H m p d es k) (hk : k ≤ 900) : Ca 34 [Pt p, Pt d, .string key] m (.bool true) m := told_spec h.t.tree h.r (by omega)
end
end Go.Proofs.Ytecceimgpeookaa
