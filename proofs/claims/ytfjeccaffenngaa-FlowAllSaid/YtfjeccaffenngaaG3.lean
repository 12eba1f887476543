/-
  Own work. Rooms, anybody, who is trusted.
-/
import Derived.Test.YtfjeccaffenngaaG1
namespace Go.Proofs.Ytfjeccaffenngaa
open Go X
set_option maxRecDepth 100000
set_option linter.unusedVariables false
set_option linter.unusedSimpArgs false

/-! ## Slices of labels -/
def RdRooms (b : Nat) (m : Mem) (v : Value) (rooms : List (List Int)) : Prop :=
  ∃ vals : List Value, vals.length = rooms.length ∧ RdS b m 1 v (vals.map fun x => [x]) ∧ ∀ (i : Nat) ns, rooms[i]? = some ns → ∃ x, vals[i]? = some x ∧ RdU b m x ns
section
variable {b : Nat} {m m' : Mem} {v : Value} {rooms : List (List Int)}
theorem RdRooms.fr {S : Nat → Prop} (h : RdRooms b m v rooms) (hf : Fm S m m') (hb : b ≤ m.next) (hs : ∀ i, S i → b ≤ i) : RdRooms b m' v rooms := by
  obtain ⟨vals, h1, h2, h3⟩ := h
  refine ⟨vals, h1, h2.fr hf hb hs, fun i ns hi => ?_⟩
  obtain ⟨x, h4, h5⟩ := h3 i ns hi
  exact ⟨x, h4, h5.fr hf hb hs⟩
theorem RdRooms.slice (h : RdRooms b m v rooms) : ∃ p c, v = .slice p rooms.length c := by
  obtain ⟨vals, h1, h2, h3⟩ := h
  obtain ⟨p, c, rfl⟩ := RdS.slice h2
  exact ⟨p, c, by simp [h1]⟩
theorem RdRooms.at (h : RdRooms b m v rooms) {i : Nat} {ns : List Int} (hi : rooms[i]? = some ns) : ∃ a c o p' c', v = .slice (some a) rooms.length c ∧ m.get a.block = some o ∧ o.cells[a.off + i]? = some (.slice p' ns.length c') ∧ RdU b m (.slice p' ns.length c') ns := by
  obtain ⟨vals, h1, h2, h3⟩ := h
  obtain ⟨x, h4, h5⟩ := h3 i ns hi
  obtain ⟨p, c, rfl, hc, h⟩ := h2
  obtain ⟨k1, a, o, rfl, k3, k4, k5⟩ := h i [x] (by simp [h4])
  obtain ⟨p', c', rfl⟩ := rdu_slice h5
  exact ⟨a, c, o, p', c', by simp [h1], k4, by simpa using k5 0 (by omega), h5⟩

theorem right_any {ns : List Int} (h : RdU b m v ns) : Ca 30 [v] m (.bool (rightL ns)) m := by
  by_cases hl : ns.length ≤ 4611686018427387903
  · exact right_spec h hl
  · refine callX_of (call_go (F := _) rfl rfl fun Q hQ => ?_)
    obtain ⟨p, c, rfl⟩ := rdu_slice h
    have h6 : (6 : Int) < (ns.length : Int) := by omega
    have e : rightL ns = false := by unfold rightL; rw [decide_eq_false (by omega)]; rfl
    rw [e] at hQ
    simp only [symA, go_opsd, symB, wantedX, X.put, X.look, Arg.ev, keepOf, restrict, evs, evO, initEnv, xres, tup, noTup, cls, quiet, Nat.reduceAdd, Nat.reduceEqDiff, ↓reduceIte, reduceCtorEq, goInt, exists_eq_left', eq_self, Int.reduceLT, Int.reduceLE, Int.reduceEq, Int.reduceNeg, Int.reduceAdd, Int.reduceSub, forall_const, ne_eq, undef, Nat.reducePow, Nat.reduceDiv, Nat.reduceMod, h6]
    exact hQ _ _ _ rfl ⟨rfl, rfl⟩
theorem wrong_spec {ns : List Int} (h : RdU b m v ns) : Ca 42 [v] m (.bool (!rightL ns)) m := by
  refine callX_of (call_go (F := _) rfl rfl fun Q hQ => ?_)
  obtain ⟨p, c, rfl⟩ := rdu_slice h
  simp only [symA, go_opsd, symB, wantedX, X.put, X.look, Arg.ev, keepOf, restrict, evs, evO, initEnv, xres, tup, noTup, cls, quiet, Nat.reduceAdd, Nat.reduceEqDiff, ↓reduceIte, reduceCtorEq, goInt, exists_eq_left', eq_self, Int.reduceLT, Int.reduceLE, Int.reduceEq, Int.reduceNeg, Int.reduceAdd, Int.reduceSub, forall_const, ne_eq, undef, Nat.reducePow, Nat.reduceDiv, Nat.reduceMod, goR_call (right_any h)]
  exact hQ _ _ _ rfl ⟨rfl, rfl⟩
def wrongR (rooms : List (List Int)) : Bool := rooms.any fun l => !rightL l
theorem indexW_spec (h : RdRooms b m v rooms) (hl : rooms.length ≤ 8) : Wc 57 [v, .func (.func 42) #[] #[]] m fun r m' => m' = m ∧ ∃ x, r = I x ∧ decide (0 ≤ x) = wrongR rooms := by
  refine call_go (F := _) rfl rfl fun Q hQ => ?_
  obtain ⟨p, c, rfl⟩ := h.slice
  simp only [symA, go_opsd, symB, wantedX, X.put, X.look, Arg.ev, keepOf, restrict, evs, evO, initEnv, xres, tup, noTup, cls, quiet, Nat.reduceAdd, Nat.reduceEqDiff, ↓reduceIte, reduceCtorEq, goInt, exists_eq_left', eq_self, Int.reduceLT, Int.reduceLE, Int.reduceEq, Int.reduceNeg, Int.reduceAdd, Int.reduceSub, forall_const, ne_eq, undef, Nat.reducePow, Nat.reduceDiv, Nat.reduceMod]
  refine loop_go (fun j e m' => m' = m ∧ ∃ i : Nat, i ≤ rooms.length ∧ j = rooms.length - i ∧ wrongR rooms = ((rooms.drop i).any fun l => !rightL l) ∧ e = [(0, .slice p rooms.length c), (1, .func (.func 42) #[] #[]), (7, I rooms.length), (8, I i)]) rooms.length ⟨rfl, 0, by omega, rfl, rfl, rfl⟩ ?_
  rintro j e m' N' B' hN hB ⟨rfl, i, hi, rfl, hix, rfl⟩
  by_cases hlt : i < rooms.length
  · have hlt' : (i : Int) < (rooms.length : Int) := by omega
    obtain ⟨x, hx⟩ : ∃ x, rooms[i]? = some x := ⟨_, List.getElem?_eq_getElem hlt⟩
    obtain ⟨a, c', o, p', c'', hv, ho, hc, hr⟩ := h.at hx
    cases hv
    have w1 : IntKind.i64.wrap ((i : Int) + 1) = ((i + 1 : Nat) : Int) := by rw [wrap_i64 (by omega) (by omega)]; omega
    have hd : rooms.drop i = x :: rooms.drop (i + 1) := by
      obtain ⟨_, rfl⟩ := List.getElem?_eq_some_iff.1 hx
      exact List.drop_eq_getElem_cons hlt
    rw [hd, List.any_cons] at hix
    have k1 := wrong_spec hr
    cases hq : !rightL x with
    | true =>
      rw [hq] at hix k1
      simp only [symA, go_opsd, symB, wantedX, X.put, X.look, Arg.ev, keepOf, restrict, evs, evO, initEnv, xres, tup, noTup, cls, quiet, Nat.reduceAdd, Nat.reduceEqDiff, ↓reduceIte, reduceCtorEq, goInt, exists_eq_left', eq_self, Int.reduceLT, Int.reduceLE, Int.reduceEq, Int.reduceNeg, Int.reduceAdd, Int.reduceSub, forall_const, ne_eq, undef, Nat.reducePow, Nat.reduceDiv, Nat.reduceMod, hlt, hlt', ho, hc, goR_call k1]
      exact hQ _ _ _ rfl ⟨rfl, (i : Int), rfl, by rw [hix, Bool.true_or]; exact decide_eq_true (by omega)⟩
    | false =>
      rw [hq] at hix k1
      simp only [symA, go_opsd, symB, wantedX, X.put, X.look, Arg.ev, keepOf, restrict, evs, evO, initEnv, xres, tup, noTup, cls, quiet, Nat.reduceAdd, Nat.reduceEqDiff, ↓reduceIte, reduceCtorEq, goInt, exists_eq_left', eq_self, Int.reduceLT, Int.reduceLE, Int.reduceEq, Int.reduceNeg, Int.reduceAdd, Int.reduceSub, forall_const, ne_eq, undef, Nat.reducePow, Nat.reduceDiv, Nat.reduceMod, hlt, hlt', ho, hc, goR_call k1, w1]
      exact hN _ _ (rooms.length - (i + 1)) (by omega) ⟨rfl, i + 1, by omega, rfl, by rw [hix, Bool.false_or], rfl⟩
  · have hlt' : ¬ (i : Int) < (rooms.length : Int) := by omega
    rw [List.drop_eq_nil_of_le (by omega)] at hix
    simp only [symA, go_opsd, symB, wantedX, X.put, X.look, Arg.ev, keepOf, restrict, evs, evO, initEnv, xres, tup, noTup, cls, quiet, Nat.reduceAdd, Nat.reduceEqDiff, ↓reduceIte, reduceCtorEq, goInt, exists_eq_left', eq_self, Int.reduceLT, Int.reduceLE, Int.reduceEq, Int.reduceNeg, Int.reduceAdd, Int.reduceSub, forall_const, ne_eq, undef, Nat.reducePow, Nat.reduceDiv, Nat.reduceMod, hlt']
    refine hB _ _ _ ?_
    simp only [symA, go_opsd, symB, wantedX, X.put, X.look, Arg.ev, keepOf, restrict, evs, evO, initEnv, xres, tup, noTup, cls, quiet, Nat.reduceAdd, Nat.reduceEqDiff, ↓reduceIte, reduceCtorEq, goInt, exists_eq_left', eq_self, Int.reduceLT, Int.reduceLE, Int.reduceEq, Int.reduceNeg, Int.reduceAdd, Int.reduceSub, forall_const, ne_eq, undef, Nat.reducePow, Nat.reduceDiv, Nat.reduceMod]
    exact hQ _ _ _ rfl ⟨rfl, -1, rfl, by rw [hix]; rfl⟩
theorem containsW_spec (h : RdRooms b m v rooms) (hl : rooms.length ≤ 8) : Ca 43 [v, .func (.func 42) #[] #[]] m (.bool (wrongR rooms)) m := by
  refine callX_of (call_go (F := _) rfl rfl fun Q hQ => ?_)
  obtain ⟨p, c, rfl⟩ := h.slice
  simp only [symA, go_opsd, symB, wantedX, X.put, X.look, Arg.ev, keepOf, restrict, evs, evO, initEnv, xres, tup, noTup, cls, quiet, Nat.reduceAdd, Nat.reduceEqDiff, ↓reduceIte, reduceCtorEq, goInt, exists_eq_left', eq_self, Int.reduceLT, Int.reduceLE, Int.reduceEq, Int.reduceNeg, Int.reduceAdd, Int.reduceSub, forall_const, ne_eq, undef, Nat.reducePow, Nat.reduceDiv, Nat.reduceMod]
  refine goR_wp (indexW_spec h hl) ?_
  rintro _ m' ⟨rfl, x, rfl, hx⟩
  simp only [symA, go_opsd, symB, wantedX, X.put, X.look, Arg.ev, keepOf, restrict, evs, evO, initEnv, xres, tup, noTup, cls, quiet, Nat.reduceAdd, Nat.reduceEqDiff, ↓reduceIte, reduceCtorEq, goInt, exists_eq_left', eq_self, Int.reduceLT, Int.reduceLE, Int.reduceEq, Int.reduceNeg, Int.reduceAdd, Int.reduceSub, forall_const, ne_eq, undef, Nat.reducePow, Nat.reduceDiv, Nat.reduceMod, hx]
  exact hQ _ _ _ rfl ⟨rfl, rfl⟩

/-! ## Somebody, anybody -/
variable {t r : Nat} {T : Tb} {who : Int} {va vb : Value} {us ws : List Int}
theorem may_spec (h : TabAt m t r T) (hw : T.Wf) (ha : RdU b m va us) (hb : RdU b m vb ws) (hm : b ≤ m.next) (hla : us.length ≤ 4611686018427387903) (hlb : ws.length ≤ 4611686018427387903) :
    ∃ m', Ca 14 [Pt t, I who, va, vb] m (.bool (mayT T who us ws)) m' ∧ Nx m m' := by
  obtain ⟨m1, k1, f1⟩ := clear_spec (who := who) h hw ha hm hla
  have hn := f1.next
  obtain ⟨m2, k2, f2⟩ := comes_spec (who := who) (h.nx f1) hw (ha.fr f1 hm (fun _ h => h.elim)) (hb.fr f1 hm (fun _ h => h.elim)) (by omega) hla hlb
  obtain ⟨pa, ca, rfl⟩ := rdu_slice ha
  obtain ⟨pb, cb, rfl⟩ := rdu_slice hb
  cases hc : clearT T who us with
  | false =>
    refine ⟨m1, callX_of (call_go (F := _) rfl rfl fun Q hQ => ?_), f1⟩
    have e : mayT T who us ws = false := by unfold mayT; rw [hc]; rfl
    rw [e] at hQ
    rw [hc] at k1
    simp only [symA, go_opsd, symB, wantedX, X.put, X.look, Arg.ev, keepOf, restrict, evs, evO, initEnv, xres, tup, noTup, cls, quiet, Nat.reduceAdd, Nat.reduceEqDiff, ↓reduceIte, reduceCtorEq, goInt, exists_eq_left', eq_self, Int.reduceLT, Int.reduceLE, Int.reduceEq, Int.reduceNeg, Int.reduceAdd, Int.reduceSub, forall_const, ne_eq, undef, Nat.reducePow, Nat.reduceDiv, Nat.reduceMod, goR_call k1]
    exact hQ _ _ _ rfl ⟨rfl, rfl⟩
  | true =>
    refine ⟨m2, callX_of (call_go (F := _) rfl rfl fun Q hQ => ?_), f1.trans f2⟩
    have e : mayT T who us ws = comesT T who us ws := by unfold mayT; rw [hc]; rfl
    rw [e] at hQ
    rw [hc] at k1
    simp only [symA, go_opsd, symB, wantedX, X.put, X.look, Arg.ev, keepOf, restrict, evs, evO, initEnv, xres, tup, noTup, cls, quiet, Nat.reduceAdd, Nat.reduceEqDiff, ↓reduceIte, reduceCtorEq, goInt, exists_eq_left', eq_self, Int.reduceLT, Int.reduceLE, Int.reduceEq, Int.reduceNeg, Int.reduceAdd, Int.reduceSub, forall_const, ne_eq, undef, Nat.reducePow, Nat.reduceDiv, Nat.reduceMod, goR_call k1, goR_call k2]
    exact hQ _ _ _ rfl ⟨rfl, rfl⟩
theorem any_drop {n : Nat} {p : Nat → Bool} {i : Nat} (hi : i < n) : ((List.range n).drop i).any p = (p i || ((List.range n).drop (i + 1)).any p) := by
  have : (List.range n).drop i = i :: (List.range n).drop (i + 1) := by
    rw [List.drop_eq_getElem_cons (by simpa using hi)]
    simp
  rw [this, List.any_cons]
theorem any_spec (h : TabAt m t r T) (hw : T.Wf) (ha : RdU b m va us) (hb : RdU b m vb ws) (hm : b ≤ m.next) (hla : us.length ≤ 4611686018427387903) (hlb : ws.length ≤ 4611686018427387903) :
    ∃ m', Ca 44 [Pt t, va, vb] m (.bool (anyT T us ws)) m' ∧ Nx m m' := by
  have key : Wc 44 [Pt t, va, vb] m fun v m' => v = .bool (anyT T us ws) ∧ Nx m m' := by
    refine call_go (F := _) rfl rfl fun Q hQ => ?_
    obtain ⟨pa, ca, rfl⟩ := rdu_slice ha
    obtain ⟨pb, cb, rfl⟩ := rdu_slice hb
    have hhi := hw.hi
    simp only [symA, go_opsd, symB, wantedX, X.put, X.look, Arg.ev, keepOf, restrict, evs, evO, initEnv, xres, tup, noTup, cls, quiet, Nat.reduceAdd, Nat.reduceEqDiff, ↓reduceIte, reduceCtorEq, goInt, exists_eq_left', eq_self, Int.reduceLT, Int.reduceLE, Int.reduceEq, Int.reduceNeg, Int.reduceAdd, Int.reduceSub, forall_const, ne_eq, undef, Nat.reducePow, Nat.reduceDiv, Nat.reduceMod, goR_call (people_spec h)]
    refine loop_go (fun j e m' => Nx m m' ∧ ∃ i : Nat, i ≤ T.l.length ∧ j = T.l.length - i ∧ anyT T us ws = (((List.range T.l.length).drop i).any fun i => mayT T (i : Int) us ws) ∧ e = [(0, Pt t), (1, .slice pa us.length ca), (2, .slice pb ws.length cb), (9, I T.l.length), (10, I i)]) T.l.length ⟨.refl, 0, by omega, rfl, rfl, rfl⟩ ?_
    rintro j e m' N' B' hN hB ⟨hf, i, hi, rfl, hix, rfl⟩
    have hn := hf.next
    by_cases hlt : i < T.l.length
    · have hlt' : (i : Int) < (T.l.length : Int) := by omega
      have w1 : IntKind.i64.wrap ((i : Int) + 1) = ((i + 1 : Nat) : Int) := by rw [wrap_i64 (by omega) (by omega)]; omega
      obtain ⟨m2, k2, f2⟩ := may_spec (who := (i : Int)) (h.nx hf) hw (ha.fr hf hm (fun _ h => h.elim)) (hb.fr hf hm (fun _ h => h.elim)) (by omega) hla hlb
      rw [any_drop hlt] at hix
      cases hq : mayT T (i : Int) us ws with
      | true =>
        rw [hq] at hix k2
        simp only [symA, go_opsd, symB, wantedX, X.put, X.look, Arg.ev, keepOf, restrict, evs, evO, initEnv, xres, tup, noTup, cls, quiet, Nat.reduceAdd, Nat.reduceEqDiff, ↓reduceIte, reduceCtorEq, goInt, exists_eq_left', eq_self, Int.reduceLT, Int.reduceLE, Int.reduceEq, Int.reduceNeg, Int.reduceAdd, Int.reduceSub, forall_const, ne_eq, undef, Nat.reducePow, Nat.reduceDiv, Nat.reduceMod, hlt', goR_call k2]
        exact hQ _ _ _ rfl ⟨by rw [hix, Bool.true_or]; rfl, hf.trans f2⟩
      | false =>
        rw [hq] at hix k2
        simp only [symA, go_opsd, symB, wantedX, X.put, X.look, Arg.ev, keepOf, restrict, evs, evO, initEnv, xres, tup, noTup, cls, quiet, Nat.reduceAdd, Nat.reduceEqDiff, ↓reduceIte, reduceCtorEq, goInt, exists_eq_left', eq_self, Int.reduceLT, Int.reduceLE, Int.reduceEq, Int.reduceNeg, Int.reduceAdd, Int.reduceSub, forall_const, ne_eq, undef, Nat.reducePow, Nat.reduceDiv, Nat.reduceMod, hlt', goR_call k2, w1]
        exact hN _ _ (T.l.length - (i + 1)) (by omega) ⟨hf.trans f2, i + 1, by omega, rfl, by rw [hix, Bool.false_or], rfl⟩
    · have hlt' : ¬ (i : Int) < (T.l.length : Int) := by omega
      rw [List.drop_eq_nil_of_le (by simp; omega)] at hix
      simp only [symA, go_opsd, symB, wantedX, X.put, X.look, Arg.ev, keepOf, restrict, evs, evO, initEnv, xres, tup, noTup, cls, quiet, Nat.reduceAdd, Nat.reduceEqDiff, ↓reduceIte, reduceCtorEq, goInt, exists_eq_left', eq_self, Int.reduceLT, Int.reduceLE, Int.reduceEq, Int.reduceNeg, Int.reduceAdd, Int.reduceSub, forall_const, ne_eq, undef, Nat.reducePow, Nat.reduceDiv, Nat.reduceMod, hlt']
      refine hB _ _ _ ?_
      simp only [symA, go_opsd, symB, wantedX, X.put, X.look, Arg.ev, keepOf, restrict, evs, evO, initEnv, xres, tup, noTup, cls, quiet, Nat.reduceAdd, Nat.reduceEqDiff, ↓reduceIte, reduceCtorEq, goInt, exists_eq_left', eq_self, Int.reduceLT, Int.reduceLE, Int.reduceEq, Int.reduceNeg, Int.reduceAdd, Int.reduceSub, forall_const, ne_eq, undef, Nat.reducePow, Nat.reduceDiv, Nat.reduceMod]
      exact hQ _ _ _ rfl ⟨by rw [hix]; rfl, hf⟩
  obtain ⟨v', m', k1, rfl, k2⟩ := key
  exact ⟨m', k1, k2⟩

/-! ## Who may drop a tag -/
def trusted (T : Tb) (g : Int) : List Nat := (List.range T.l.length).filter fun i : Nat => mayDrop T (i : Int) g
theorem trusted_spec {g : Int} (h : TabAt m t r T) (hw : T.Wf) : ∃ v' m' F, Ca 20 [Pt t, U g] m v' m' ∧ OwnS 1 F m' v' (trusted T g).length ((trusted T g).map fun i : Nat => I (i : Int)) ∧ Nx m m' := by
  have key : Wc 20 [Pt t, U g] m fun v' m' => ∃ F, OwnS 1 F m' v' (trusted T g).length ((trusted T g).map fun i : Nat => I (i : Int)) ∧ Nx m m' := by
    refine call_go (F := _) rfl rfl fun Q hQ => ?_
    have hhi := hw.hi
    simp only [symA, go_opsd, symB, wantedX, X.put, X.look, Arg.ev, keepOf, restrict, evs, evO, initEnv, xres, tup, noTup, cls, quiet, Nat.reduceAdd, Nat.reduceEqDiff, ↓reduceIte, reduceCtorEq, goInt, exists_eq_left', eq_self, Int.reduceLT, Int.reduceLE, Int.reduceEq, Int.reduceNeg, Int.reduceAdd, Int.reduceSub, forall_const, ne_eq, undef, Nat.reducePow, Nat.reduceDiv, Nat.reduceMod, goR_call (people_spec h)]
    refine loop_go (fun j e m' => Nx m m' ∧ ∃ (i : Nat) (F : List Nat) (v' : Value) (l : List Nat), i ≤ T.l.length ∧ j = T.l.length - i ∧ l = (List.range i).filter (fun i : Nat => mayDrop T (i : Int) g) ∧ l.length ≤ i ∧ OwnS 1 F m' v' l.length (l.map fun i : Nat => I (i : Int)) ∧ (∀ x ∈ F, m.next ≤ x) ∧
      e = [(0, Pt t), (1, U g), (5, v'), (8, I T.l.length), (9, I i)]) T.l.length ⟨.refl, 0, [], .slice none 0 0, [], by omega, rfl, rfl, by simp, .nil (by simp), by simp, rfl⟩ ?_
    rintro j e m' N' B' hN hB ⟨hf, i, F, v', l, hi, rfl, hl, hll, ho, hF, rfl⟩
    have hn := hf.next
    by_cases hlt : i < T.l.length
    · have hlt' : (i : Int) < (T.l.length : Int) := by omega
      have w1 : IntKind.i64.wrap ((i : Int) + 1) = ((i + 1 : Nat) : Int) := by rw [wrap_i64 (by omega) (by omega)]; omega
      have k1 := mayDrop_spec (who := (i : Int)) (x := g) (h.nx hf) hw
      have hnext : (List.range (i + 1)).filter (fun i : Nat => mayDrop T (i : Int) g) = l ++ (bif mayDrop T (i : Int) g then [i] else []) := by
        rw [List.range_succ, List.filter_append, ← hl, List.filter_cons, List.filter_nil]
        cases mayDrop T (i : Int) g <;> rfl
      cases hq : mayDrop T (i : Int) g with
      | true =>
        rw [hq] at k1 hnext
        obtain ⟨m2, hm2⟩ : ∃ m2, m'.push { cells := [I (i : Int)], rw := true, spare := none, kin := [] } = m2 := ⟨_, rfl⟩
        have f2 : Nx m' m2 := hm2 ▸ .push
        have bs : buildSliceE m' [I 0] 1 1 [(0, I (i : Int))] = some (.val (.slice (some ⟨m'.next, 0, none⟩) 1 1) m2) := by rw [← hm2]; exact buildSlice_one rfl
        have g2 : m2.get m'.next = some { cells := [I (i : Int)], rw := true, spare := none, kin := [] } := by rw [← hm2, push_self]
        obtain ⟨v2, m3, F', a1, a2, a3, a4, a5⟩ := (ho.fr f2 (fun _ _ h => h)).append (bytes := 8) (zero := [I 0]) (new := [I (i : Int)]) (vx := .slice (some ⟨m'.next, 0, none⟩) 1 1) rfl (by omega) rfl (by simp [xfirst, xload, g2]) rfl (by omega) (by omega)
        have hn2 := f2.next
        simp only [symA, go_opsd, symB, wantedX, X.put, X.look, Arg.ev, keepOf, restrict, evs, evO, initEnv, xres, tup, noTup, cls, quiet, Nat.reduceAdd, Nat.reduceEqDiff, ↓reduceIte, reduceCtorEq, goInt, exists_eq_left', eq_self, Int.reduceLT, Int.reduceLE, Int.reduceEq, Int.reduceNeg, Int.reduceAdd, Int.reduceSub, forall_const, ne_eq, undef, Nat.reducePow, Nat.reduceDiv, Nat.reduceMod, hlt', goR_call k1, bs, a1, w1]
        refine hN _ _ (T.l.length - (i + 1)) (by omega) ⟨(hf.trans f2).comp a3 (fun x hx h => by have := hF x h; omega), i + 1, F', v2, l ++ [i], by omega, rfl, by rw [hnext]; rfl, by simp; omega, ?_, fun x hx => ?_, rfl⟩
        · rw [List.length_append, List.map_append]; exact a2
        · rcases a5 x hx with h | h
          · exact hF x h
          · omega
      | false =>
        rw [hq] at k1 hnext
        simp only [symA, go_opsd, symB, wantedX, X.put, X.look, Arg.ev, keepOf, restrict, evs, evO, initEnv, xres, tup, noTup, cls, quiet, Nat.reduceAdd, Nat.reduceEqDiff, ↓reduceIte, reduceCtorEq, goInt, exists_eq_left', eq_self, Int.reduceLT, Int.reduceLE, Int.reduceEq, Int.reduceNeg, Int.reduceAdd, Int.reduceSub, forall_const, ne_eq, undef, Nat.reducePow, Nat.reduceDiv, Nat.reduceMod, hlt', goR_call k1, w1]
        exact hN _ _ (T.l.length - (i + 1)) (by omega) ⟨hf, i + 1, F, v', l, by omega, rfl, by rw [hnext]; simp, by omega, ho, hF, rfl⟩
    · have hlt' : ¬ (i : Int) < (T.l.length : Int) := by omega
      have hie : i = T.l.length := by omega
      subst hie
      simp only [symA, go_opsd, symB, wantedX, X.put, X.look, Arg.ev, keepOf, restrict, evs, evO, initEnv, xres, tup, noTup, cls, quiet, Nat.reduceAdd, Nat.reduceEqDiff, ↓reduceIte, reduceCtorEq, goInt, exists_eq_left', eq_self, Int.reduceLT, Int.reduceLE, Int.reduceEq, Int.reduceNeg, Int.reduceAdd, Int.reduceSub, forall_const, ne_eq, undef, Nat.reducePow, Nat.reduceDiv, Nat.reduceMod, hlt']
      refine hB _ _ _ ?_
      simp only [symA, go_opsd, symB, wantedX, X.put, X.look, Arg.ev, keepOf, restrict, evs, evO, initEnv, xres, tup, noTup, cls, quiet, Nat.reduceAdd, Nat.reduceEqDiff, ↓reduceIte, reduceCtorEq, goInt, exists_eq_left', eq_self, Int.reduceLT, Int.reduceLE, Int.reduceEq, Int.reduceNeg, Int.reduceAdd, Int.reduceSub, forall_const, ne_eq, undef, Nat.reducePow, Nat.reduceDiv, Nat.reduceMod]
      refine hQ _ _ _ rfl ⟨F, ?_, hf⟩
      unfold trusted
      rw [← hl]; exact ho
  obtain ⟨v', m', k1, F, k2, k3⟩ := key
  exact ⟨v', m', F, k1, k2, k3⟩

/-! ## The document's Has -/
theorem rhasL_spec {g : Int} (h : RdU b m va us) (hl : us.length ≤ 4611686018427387903) : Ca 22 [va, U g] m (.bool (hasL us g)) m := by
  refine callX_of (call_go (F := _) rfl rfl fun Q hQ => ?_)
  obtain ⟨p, c, rfl⟩ := rdu_slice h
  simp only [symA, go_opsd, symB, wantedX, X.put, X.look, Arg.ev, keepOf, restrict, evs, evO, initEnv, xres, tup, noTup, cls, quiet, Nat.reduceAdd, Nat.reduceEqDiff, ↓reduceIte, reduceCtorEq, goInt, exists_eq_left', eq_self, Int.reduceLT, Int.reduceLE, Int.reduceEq, Int.reduceNeg, Int.reduceAdd, Int.reduceSub, forall_const, ne_eq, undef, Nat.reducePow, Nat.reduceDiv, Nat.reduceMod]
  refine loop_go (fun j e m' => m' = m ∧ ∃ i : Nat, i ≤ us.length ∧ j = us.length - i ∧ hasL us g = ((us.drop i).any fun x => decide (g = x)) ∧ e = [(0, .slice p us.length c), (1, U g), (5, I i)]) us.length ⟨rfl, 0, by omega, rfl, rfl, rfl⟩ ?_
  rintro j e m' N' B' hN hB ⟨rfl, i, hi, rfl, hix, rfl⟩
  by_cases hlt : i < us.length
  · have hlt' : (i : Int) < (us.length : Int) := by omega
    obtain ⟨x, hx⟩ : ∃ x, us[i]? = some x := ⟨_, List.getElem?_eq_getElem hlt⟩
    obtain ⟨a, c', o, hv, ho, hc⟩ := rdu_at h hx
    cases hv
    have w1 : IntKind.i64.wrap ((i : Int) + 1) = ((i + 1 : Nat) : Int) := by rw [wrap_i64 (by omega) (by omega)]; omega
    have hd : us.drop i = x :: us.drop (i + 1) := by
      obtain ⟨_, rfl⟩ := List.getElem?_eq_some_iff.1 hx
      exact List.drop_eq_getElem_cons hlt
    rw [hd, List.any_cons] at hix
    by_cases ht : x = g
    · rw [decide_eq_true ht.symm, Bool.true_or] at hix
      rw [hix] at hQ
      simp only [symA, go_opsd, symB, wantedX, X.put, X.look, Arg.ev, keepOf, restrict, evs, evO, initEnv, xres, tup, noTup, cls, quiet, Nat.reduceAdd, Nat.reduceEqDiff, ↓reduceIte, reduceCtorEq, goInt, exists_eq_left', eq_self, Int.reduceLT, Int.reduceLE, Int.reduceEq, Int.reduceNeg, Int.reduceAdd, Int.reduceSub, forall_const, ne_eq, undef, Nat.reducePow, Nat.reduceDiv, Nat.reduceMod, hlt, hlt', ho, hc, ht]
      exact hQ _ _ _ rfl ⟨rfl, rfl⟩
    · rw [decide_eq_false (fun q => ht q.symm), Bool.false_or] at hix
      simp only [symA, go_opsd, symB, wantedX, X.put, X.look, Arg.ev, keepOf, restrict, evs, evO, initEnv, xres, tup, noTup, cls, quiet, Nat.reduceAdd, Nat.reduceEqDiff, ↓reduceIte, reduceCtorEq, goInt, exists_eq_left', eq_self, Int.reduceLT, Int.reduceLE, Int.reduceEq, Int.reduceNeg, Int.reduceAdd, Int.reduceSub, forall_const, ne_eq, undef, Nat.reducePow, Nat.reduceDiv, Nat.reduceMod, hlt, hlt', ho, hc, ht, w1]
      exact hN _ _ (us.length - (i + 1)) (by omega) ⟨rfl, i + 1, by omega, rfl, hix, rfl⟩
  · have hlt' : ¬ (i : Int) < (us.length : Int) := by omega
    rw [List.drop_eq_nil_of_le (by omega)] at hix
    rw [hix] at hQ
    simp only [symA, go_opsd, symB, wantedX, X.put, X.look, Arg.ev, keepOf, restrict, evs, evO, initEnv, xres, tup, noTup, cls, quiet, Nat.reduceAdd, Nat.reduceEqDiff, ↓reduceIte, reduceCtorEq, goInt, exists_eq_left', eq_self, Int.reduceLT, Int.reduceLE, Int.reduceEq, Int.reduceNeg, Int.reduceAdd, Int.reduceSub, forall_const, ne_eq, undef, Nat.reducePow, Nat.reduceDiv, Nat.reduceMod, hlt']
    refine hB _ _ _ ?_
    simp only [symA, go_opsd, symB, wantedX, X.put, X.look, Arg.ev, keepOf, restrict, evs, evO, initEnv, xres, tup, noTup, cls, quiet, Nat.reduceAdd, Nat.reduceEqDiff, ↓reduceIte, reduceCtorEq, goInt, exists_eq_left', eq_self, Int.reduceLT, Int.reduceLE, Int.reduceEq, Int.reduceNeg, Int.reduceAdd, Int.reduceSub, forall_const, ne_eq, undef, Nat.reducePow, Nat.reduceDiv, Nat.reduceMod]
    exact hQ _ _ _ rfl ⟨rfl, rfl⟩
end
end Go.Proofs.Ytfjeccaffenngaa
