/-
  Own work. What the functions come to: one write done to entries, as the document does it.
-/
import Derived.Test.YtlldfkapaeidoaaD6
namespace Go.Proofs.Ytlldfkapaeidoaa
open Go X
set_option maxRecDepth 100000
set_option linter.unusedVariables false
set_option linter.unusedSimpArgs false

theorem ap_length {s : Int} {y : Wr} : ∀ {l : List Ent} {put : Bool}, (ap s y put l).length ≤ l.length + 1 ∧ (put = true → (ap s y put l).length ≤ l.length)
  | [], put => by cases put <;> simp [ap]
  | x :: l, put => by
    have h1 := @ap_length s y l put
    have h2 := @ap_length s y l true
    rw [ap]
    split
    · rename_i h
      refine ⟨?_, fun hp => by rw [hp] at h; cases h.1⟩
      have := h2.2 rfl
      split <;> simp <;> omega
    · refine ⟨?_, fun hp => ?_⟩
      · split <;> simp <;> omega
      · have := h1.2 hp
        split <;> simp <;> omega
theorem apply_length {s : Int} {y : Wr} {l : List Ent} : (apply1 s l y).length ≤ l.length + 1 := ap_length.1

theorem rapply {b : Nat} {m : Mem} {lv : Value} {vs : List Ent} {y : Wr} {s : Int} (h : RdE b m lv vs) (hl : vs.length ≤ 100000) (hb : b ≤ m.next) :
    ∃ r m' F, Ca 14 [lv, .agg ⟨y.row⟩, I s] m r m' ∧ OwnE F m' r (apply1 s vs y) ∧ (∀ i ∈ F, m.next ≤ i) ∧ Nx m m' := by
  have key : Wc 14 [lv, .agg ⟨y.row⟩, I s] m fun r m' => ∃ F, OwnE F m' r (apply1 s vs y) ∧ (∀ i ∈ F, m.next ≤ i) ∧ Nx m m' := by
    refine call_go (F := _) rfl rfl fun Q hQ => ?_
    obtain ⟨p, c, rfl⟩ := rdE_slice h
    obtain ⟨m0, hm0⟩ : ∃ m0, m.push { cells := y.row, rw := true, spare := none, kin := [] } = m0 := ⟨_, rfl⟩
    have g0 : m0.get m.next = some { cells := y.row, rw := true, spare := none, kin := [] } := by rw [← hm0, push_self]
    have n0 : m0.next = m.next + 1 := by rw [← hm0]; simp
    have f0 : Nx m m0 := by rw [← hm0]; exact .push
    obtain ⟨m00, hm00⟩ : ∃ m00, m0.push { cells := [], rw := true, spare := none, kin := [] } = m00 := ⟨_, rfl⟩
    have f00 : Nx m0 m00 := by rw [← hm00]; exact .push
    have g00 : m00.get m.next = some { cells := y.row, rw := true, spare := none, kin := [] } := f00.get (by omega) (fun h => h) g0
    have n00 : m00.next = m0.next + 1 := by rw [← hm00]; simp
    simp only [symA, go_opsd, symB, wantedX, X.put, X.look, Arg.ev, keepOf, restrict, evs, evO, initEnv, xres, tup, noTup, cls, quiet, Nat.reduceAdd, Nat.reduceEqDiff, ↓reduceIte, reduceCtorEq, goInt, exists_eq_left', eq_self, Int.reduceLT, Int.reduceLE, Int.reduceEq, Int.reduceNeg, Int.reduceAdd, Int.reduceSub, forall_const, ne_eq, undef, Nat.reducePow, Nat.reduceDiv, Nat.reduceMod, hm0, build50, hm00, g00]
    refine loop_go (fun j e m' => Nx m m' ∧ ∃ (i : Nat) (put : Bool) (acc : List Ent) (out : Value) (F : List Nat), i ≤ vs.length ∧ j = vs.length - i ∧ acc ++ ap s y put (vs.drop i) = apply1 s vs y ∧ acc.length ≤ 2 * i ∧ m'.get m.next = some { cells := y.row, rw := true, spare := none, kin := [] } ∧ m.next < m'.next ∧ OwnE F m' out acc ∧ (∀ i ∈ F, m.next < i) ∧ e = [(0, .slice p vs.length c), (2, I s), (4, .pointer (some ⟨m.next, 0, none⟩)), (7, out), (8, .bool put), (9, I i)]) vs.length ⟨f0.comp f00 fun _ _ h => h, 0, y.gone, [], _, [], by omega, rfl, rfl, by simp, g00, by omega, ⟨by simp, .inr ⟨rfl, by simp, _, rfl⟩⟩, by simp, rfl⟩ ?_
    rintro j e m1 N' B' hN hB ⟨hnx, i, put, acc, out, F, hi, rfl, hac, hal, hg, hgn, hown, hF, rfl⟩
    have lb : ldA m1 3 (.pointer (some ⟨m.next, 2, none⟩)) = some (.val (.agg ⟨valL y.num y.text y.bits⟩) m1) := by simp [ldA, xload, hg]
    by_cases hlt : i < vs.length
    · have hlt' : (i : Int) < (vs.length : Int) := by omega
      obtain ⟨x, hx⟩ : ∃ x, vs[i]? = some x := ⟨_, List.getElem?_eq_getElem hlt⟩
      obtain ⟨a, c', hv, ⟨o, hgx, c0, c1, c2, c3, c4⟩, l5, l3⟩ := rdE_at (h.fr hnx hb (fun _ h => h.elim)) hx
      cases hv
      have w1 : IntKind.i64.wrap ((i : Int) + 1) = ((i + 1 : Nat) : Int) := by rw [wrap_i64 (by omega) (by omega)]; omega
      have hd : vs.drop i = x :: vs.drop (i + 1) := by
        obtain ⟨_, rfl⟩ := List.getElem?_eq_some_iff.1 hx
        exact List.drop_eq_getElem_cons hlt
      rw [hd, ap] at hac
      cases put with
      | true =>
        rw [if_neg (by simp)] at hac
        by_cases he : x.key = y.key
        · rw [if_pos he] at hac
          simp only [symA, go_opsd, symB, wantedX, X.put, X.look, Arg.ev, keepOf, restrict, evs, evO, initEnv, xres, tup, noTup, cls, quiet, Nat.reduceAdd, Nat.reduceEqDiff, ↓reduceIte, reduceCtorEq, goInt, exists_eq_left', eq_self, Int.reduceLT, Int.reduceLE, Int.reduceEq, Int.reduceNeg, Int.reduceAdd, Int.reduceSub, forall_const, ne_eq, undef, Nat.reducePow, Nat.reduceDiv, Nat.reduceMod, hlt, hlt', hgx, c0, hg, l5, bin_sneq, he, w1]
          exact hN _ _ (vs.length - (i + 1)) (by omega) ⟨hnx, i + 1, true, acc, out, F, by omega, rfl, by simpa using hac, by omega, hg, hgn, hown, hF, rfl⟩
        · rw [if_neg he] at hac
          obtain ⟨out2, m5, F2, q1, q2, q3, q4⟩ := ownE_one (hown) x (by omega)
          have b6 := build5 (m := m1) (k := x.key) (t := x.text) (s := x.seq) (n := x.num) (c := x.bits)
          obtain ⟨mq, hq⟩ : ∃ mq, (m1).push { cells := row5 x.key (I x.seq) x.num x.text x.bits, rw := true, spare := none, kin := [] } = mq := ⟨_, rfl⟩
          rw [hq] at q1 b6
          simp only [symA, go_opsd, symB, wantedX, X.put, X.look, Arg.ev, keepOf, restrict, evs, evO, initEnv, xres, tup, noTup, cls, quiet, Nat.reduceAdd, Nat.reduceEqDiff, ↓reduceIte, reduceCtorEq, goInt, exists_eq_left', eq_self, Int.reduceLT, Int.reduceLE, Int.reduceEq, Int.reduceNeg, Int.reduceAdd, Int.reduceSub, forall_const, ne_eq, undef, Nat.reducePow, Nat.reduceDiv, Nat.reduceMod, hlt, hlt', hgx, c0, hg, l5, bin_sneq, he, b6, q1, w1]
          exact hN _ _ (vs.length - (i + 1)) (by omega) ⟨(hnx).comp q3 fun i hi h => by have := hF i h; omega, i + 1, true, acc ++ [x], out2, F2, by omega, rfl, by simpa using hac, by rw [List.length_append, List.length_singleton]; omega, q3.get hgn (fun h => by have := hF _ h; omega) hg, Nat.lt_of_lt_of_le hgn q3.next, q2, fun i hi => (q4 i hi).elim (fun h => hF i h) (fun h => by have := hgn; omega), rfl⟩
      | false =>
        by_cases hge : ltT x.key y.key
        · rw [if_neg (fun hh => hh.2 hge)] at hac
          have he : ¬ x.key = y.key := ltT_ne hge
          rw [if_neg he] at hac
          obtain ⟨out2, m5, F2, q1, q2, q3, q4⟩ := ownE_one (hown) x (by omega)
          have b6 := build5 (m := m1) (k := x.key) (t := x.text) (s := x.seq) (n := x.num) (c := x.bits)
          obtain ⟨mq, hq⟩ : ∃ mq, (m1).push { cells := row5 x.key (I x.seq) x.num x.text x.bits, rw := true, spare := none, kin := [] } = mq := ⟨_, rfl⟩
          rw [hq] at q1 b6
          simp only [symA, go_opsd, symB, wantedX, X.put, X.look, Arg.ev, keepOf, restrict, evs, evO, initEnv, xres, tup, noTup, cls, quiet, Nat.reduceAdd, Nat.reduceEqDiff, ↓reduceIte, reduceCtorEq, goInt, exists_eq_left', eq_self, Int.reduceLT, Int.reduceLE, Int.reduceEq, Int.reduceNeg, Int.reduceAdd, Int.reduceSub, forall_const, ne_eq, undef, Nat.reducePow, Nat.reduceDiv, Nat.reduceMod, hlt, hlt', hgx, c0, hg, l5, bin_sgeq, bin_sneq, hge, he, b6, q1, w1]
          exact hN _ _ (vs.length - (i + 1)) (by omega) ⟨(hnx).comp q3 fun i hi h => by have := hF i h; omega, i + 1, false, acc ++ [x], out2, F2, by omega, rfl, by simpa using hac, by rw [List.length_append, List.length_singleton]; omega, q3.get hgn (fun h => by have := hF _ h; omega) hg, Nat.lt_of_lt_of_le hgn q3.next, q2, fun i hi => (q4 i hi).elim (fun h => hF i h) (fun h => by have := hgn; omega), rfl⟩
        · rw [if_pos ⟨rfl, hge⟩] at hac
          obtain ⟨out', m4, F', d1, d2, d3, d4⟩ := ownE_one hown (y.ent s) (by omega)
          have b5 := build5 (m := m1) (k := (y.ent s).key) (t := (y.ent s).text) (s := (y.ent s).seq) (n := (y.ent s).num) (c := (y.ent s).bits)
          obtain ⟨mp, hp⟩ : ∃ mp, m1.push { cells := row5 (y.ent s).key (I (y.ent s).seq) (y.ent s).num (y.ent s).text (y.ent s).bits, rw := true, spare := none, kin := [] } = mp := ⟨_, rfl⟩
          rw [hp] at d1 b5
          simp only [Wr.ent] at d1 b5
          have hnx4 : Nx m m4 := hnx.comp d3 fun i hi h => by have := hF i h; omega
          have hg4 := d3.get hgn (fun h => by have := hF _ h; omega) hg
          have hgn4 : m.next < m4.next := Nat.lt_of_lt_of_le hgn d3.next
          have hF4 : ∀ i ∈ F', m.next < i := fun i hi => (d4 i hi).elim (fun h => hF i h) (fun h => by omega)
          obtain ⟨a', c'', hv', ⟨o', hgx4, e0, e1, e2, e3, e4⟩, l54, l34⟩ := rdE_at (h.fr hnx4 hb (fun _ h => h.elim)) hx
          cases hv'
          have hir := ltT_irrefl y.key
          by_cases he : x.key = y.key
          · rw [if_pos he] at hac
            simp only [symA, go_opsd, symB, wantedX, X.put, X.look, Arg.ev, keepOf, restrict, evs, evO, initEnv, xres, tup, noTup, cls, quiet, Nat.reduceAdd, Nat.reduceEqDiff, ↓reduceIte, reduceCtorEq, goInt, exists_eq_left', eq_self, Int.reduceLT, Int.reduceLE, Int.reduceEq, Int.reduceNeg, Int.reduceAdd, Int.reduceSub, forall_const, ne_eq, undef, Nat.reducePow, Nat.reduceDiv, Nat.reduceMod, hlt, hlt', hgx, c0, hg, lb, bin_sgeq, bin_sneq, hge, buildEnt, b5, d1, hgx4, e0, hg4, l54, he, hir, w1]
            exact hN _ _ (vs.length - (i + 1)) (by omega) ⟨hnx4, i + 1, true, acc ++ [y.ent s], out', F', by omega, rfl, by simpa using hac, by rw [List.length_append, List.length_singleton]; omega, hg4, hgn4, d2, hF4, rfl⟩
          · rw [if_neg he] at hac
            obtain ⟨out2, m5, F2, q1, q2, q3, q4⟩ := ownE_one (d2) x (by rw [List.length_append, List.length_singleton]; omega)
            have b6 := build5 (m := m4) (k := x.key) (t := x.text) (s := x.seq) (n := x.num) (c := x.bits)
            obtain ⟨mq, hq⟩ : ∃ mq, (m4).push { cells := row5 x.key (I x.seq) x.num x.text x.bits, rw := true, spare := none, kin := [] } = mq := ⟨_, rfl⟩
            rw [hq] at q1 b6
            simp only [symA, go_opsd, symB, wantedX, X.put, X.look, Arg.ev, keepOf, restrict, evs, evO, initEnv, xres, tup, noTup, cls, quiet, Nat.reduceAdd, Nat.reduceEqDiff, ↓reduceIte, reduceCtorEq, goInt, exists_eq_left', eq_self, Int.reduceLT, Int.reduceLE, Int.reduceEq, Int.reduceNeg, Int.reduceAdd, Int.reduceSub, forall_const, ne_eq, undef, Nat.reducePow, Nat.reduceDiv, Nat.reduceMod, hlt, hlt', hgx, c0, hg, lb, bin_sgeq, bin_sneq, hge, buildEnt, b5, d1, hgx4, e0, hg4, l54, he, b6, q1, w1]
            exact hN _ _ (vs.length - (i + 1)) (by omega) ⟨(hnx4).comp q3 fun i hi h => by have := hF4 i h; omega, i + 1, true, acc ++ [y.ent s] ++ [x], out2, F2, by omega, rfl, by simpa using hac, by rw [List.length_append, List.length_append, List.length_singleton, List.length_singleton]; omega, q3.get hgn4 (fun h => by have := hF4 _ h; omega) hg4, Nat.lt_of_lt_of_le hgn4 q3.next, q2, fun i hi => (q4 i hi).elim (fun h => hF4 i h) (fun h => by have := hgn4; omega), rfl⟩
    · have hlt' : ¬ (i : Int) < (vs.length : Int) := by omega
      have hd : vs.drop i = [] := List.drop_eq_nil_of_le (by omega)
      rw [hd, ap] at hac
      simp only [symA, go_opsd, symB, wantedX, X.put, X.look, Arg.ev, keepOf, restrict, evs, evO, initEnv, xres, tup, noTup, cls, quiet, Nat.reduceAdd, Nat.reduceEqDiff, ↓reduceIte, reduceCtorEq, goInt, exists_eq_left', eq_self, Int.reduceLT, Int.reduceLE, Int.reduceEq, Int.reduceNeg, Int.reduceAdd, Int.reduceSub, forall_const, ne_eq, undef, Nat.reducePow, Nat.reduceDiv, Nat.reduceMod, hlt']
      refine hB _ _ _ ?_
      cases put with
      | true =>
        rw [if_pos rfl, List.append_nil] at hac
        rw [hac] at hown
        simp only [symA, go_opsd, symB, wantedX, X.put, X.look, Arg.ev, keepOf, restrict, evs, evO, initEnv, xres, tup, noTup, cls, quiet, Nat.reduceAdd, Nat.reduceEqDiff, ↓reduceIte, reduceCtorEq, goInt, exists_eq_left', eq_self, Int.reduceLT, Int.reduceLE, Int.reduceEq, Int.reduceNeg, Int.reduceAdd, Int.reduceSub, forall_const, ne_eq, undef, Nat.reducePow, Nat.reduceDiv, Nat.reduceMod]
        exact hQ _ _ _ rfl ⟨F, hown, fun i hi => Nat.le_of_lt (hF i hi), hnx⟩
      | false =>
        rw [if_neg (by simp)] at hac
        obtain ⟨out', m4, F', d1, d2, d3, d4⟩ := ownE_one hown (y.ent s) (by omega)
        have b5 := build5 (m := m1) (k := (y.ent s).key) (t := (y.ent s).text) (s := (y.ent s).seq) (n := (y.ent s).num) (c := (y.ent s).bits)
        obtain ⟨mp, hp⟩ : ∃ mp, m1.push { cells := row5 (y.ent s).key (I (y.ent s).seq) (y.ent s).num (y.ent s).text (y.ent s).bits, rw := true, spare := none, kin := [] } = mp := ⟨_, rfl⟩
        rw [hp] at d1 b5
        simp only [Wr.ent] at d1 b5
        rw [hac] at d2
        simp only [symA, go_opsd, symB, wantedX, X.put, X.look, Arg.ev, keepOf, restrict, evs, evO, initEnv, xres, tup, noTup, cls, quiet, Nat.reduceAdd, Nat.reduceEqDiff, ↓reduceIte, reduceCtorEq, goInt, exists_eq_left', eq_self, Int.reduceLT, Int.reduceLE, Int.reduceEq, Int.reduceNeg, Int.reduceAdd, Int.reduceSub, forall_const, ne_eq, undef, Nat.reducePow, Nat.reduceDiv, Nat.reduceMod, hg, lb, buildEnt, b5, d1]
        exact hQ _ _ _ rfl ⟨F', d2, fun i hi => (d4 i hi).elim (fun h => Nat.le_of_lt (hF i h)) (fun h => by omega), hnx.comp d3 fun i hi h => by have := hF i h; omega⟩
  obtain ⟨r, m', hc, F, k1, k2, k3⟩ := key
  exact ⟨r, m', F, hc, k1, k2, k3⟩
end Go.Proofs.Ytlldfkapaeidoaa
