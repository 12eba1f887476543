/-
  Own work. The document's functions of labels.
-/
import Derived.Test.YtfjeccaffenngaaH2
import Derived.Test.YtfjeccaffenngaaG3
import Derived.Test.YtfjeccaffenngaaXOwn4
namespace Go.Proofs.Ytfjeccaffenngaa
open Go X
set_option maxRecDepth 100000
set_option linter.unusedVariables false
set_option linter.unusedSimpArgs false

structure RdT (b : Nat) (m : Mem) (v : Value) (ns : List Int) : Prop where
  rd : RdU b m v ns
  len : ns.length ≤ 9223372036854775807
  nn : ∀ x ∈ ns, 0 ≤ x
theorem rowsU_vals (ns : List Int) : rowsU ns = (ns.map U).map fun x => [x] := by simp

section
variable {b b' : Nat} {m : Mem} {v va vb : Value} {ns us ws : List Int}
theorem rright_spec (h : RdT b m v ns) : Ca 23 [v] m (.bool (rightL ns)) m := by
  refine callX_of (call_go (F := _) rfl rfl fun Q hQ => ?_)
  have hl := h.len
  obtain ⟨p, c, rfl⟩ := rdu_slice h.rd
  simp only [symA, go_opsd, symB, wantedX, X.put, X.look, Arg.ev, keepOf, restrict, evs, evO, initEnv, xres, tup, noTup, cls, quiet, Nat.reduceAdd, Nat.reduceEqDiff, ↓reduceIte, reduceCtorEq, goInt, exists_eq_left', eq_self, Int.reduceLT, Int.reduceLE, Int.reduceEq, Int.reduceNeg, Int.reduceAdd, Int.reduceSub, forall_const, ne_eq, undef, Nat.reducePow, Nat.reduceDiv, Nat.reduceMod]
  refine loop_go (fun j e m' => m' = m ∧ ∃ i : Nat, i ≤ ns.length ∧ j = ns.length - i ∧ incL 0 ns = incL (if i = 0 then 0 else (ns[i - 1]?.getD 0)) (ns.drop i) ∧ e = [(0, .slice p ns.length c), (3, I i)]) ns.length ⟨rfl, 0, by omega, rfl, rfl, rfl⟩ ?_
  rintro j e m' N' B' hN hB ⟨rfl, i, hi, rfl, hix, rfl⟩
  by_cases hlt : i < ns.length
  · have hlt' : (i : Int) < (ns.length : Int) := by omega
    obtain ⟨x, hx⟩ : ∃ x, ns[i]? = some x := ⟨_, List.getElem?_eq_getElem hlt⟩
    obtain ⟨a, c', o, hv, ho, hc⟩ := rdu_at h.rd hx
    cases hv
    have hx0 := h.nn x (List.mem_of_getElem? hx)
    have w1 : IntKind.i64.wrap ((i : Int) + 1) = ((i + 1 : Nat) : Int) := by rw [wrap_i64 (by omega) (by omega)]; omega
    have hd : ns.drop i = x :: ns.drop (i + 1) := by
      obtain ⟨_, rfl⟩ := List.getElem?_eq_some_iff.1 hx
      exact List.drop_eq_getElem_cons hlt
    rw [hd] at hix
    simp only [incL] at hix
    have bad : ¬ (if i = 0 then 0 else (ns[i - 1]?.getD 0)) < x → rightL ns = false := fun hq => by
      unfold rightL
      rw [hix, decide_eq_false hq]; simp
    have good : (if i = 0 then 0 else (ns[i - 1]?.getD 0)) < x → N' [(0, .slice (some a) ns.length c), (3, I ((i + 1 : Nat) : Int))] m' := fun hq => by
      refine hN _ _ (ns.length - (i + 1)) (by omega) ⟨rfl, i + 1, by omega, rfl, ?_, rfl⟩
      rw [hix, decide_eq_true hq, Bool.true_and, if_neg (by omega)]
      simp [hx]
    by_cases h0 : x = 0
    · subst h0
      have hb := bad (by
        split
        · omega
        · cases hp : ns[i - 1]? with
          | none => simp
          | some y => have := h.nn y (List.mem_of_getElem? hp); simp; omega)
      rw [hb] at hQ
      simp only [symA, go_opsd, symB, wantedX, X.put, X.look, Arg.ev, keepOf, restrict, evs, evO, initEnv, xres, tup, noTup, cls, quiet, Nat.reduceAdd, Nat.reduceEqDiff, ↓reduceIte, reduceCtorEq, goInt, exists_eq_left', eq_self, Int.reduceLT, Int.reduceLE, Int.reduceEq, Int.reduceNeg, Int.reduceAdd, Int.reduceSub, forall_const, ne_eq, undef, Nat.reducePow, Nat.reduceDiv, Nat.reduceMod, hlt, hlt', ho, hc]
      exact hQ _ _ _ rfl ⟨rfl, rfl⟩
    · by_cases hi0 : i = 0
      · have hg := good (by rw [if_pos hi0]; omega)
        have z : ¬ (0 : Int) < (i : Int) := by omega
        simp only [symA, go_opsd, symB, wantedX, X.put, X.look, Arg.ev, keepOf, restrict, evs, evO, initEnv, xres, tup, noTup, cls, quiet, Nat.reduceAdd, Nat.reduceEqDiff, ↓reduceIte, reduceCtorEq, goInt, exists_eq_left', eq_self, Int.reduceLT, Int.reduceLE, Int.reduceEq, Int.reduceNeg, Int.reduceAdd, Int.reduceSub, forall_const, ne_eq, undef, Nat.reducePow, Nat.reduceDiv, Nat.reduceMod, hlt, hlt', ho, hc, h0, z, w1]
        exact hg
      · obtain ⟨y, hy⟩ : ∃ y, ns[i - 1]? = some y := ⟨_, List.getElem?_eq_getElem (by omega)⟩
        obtain ⟨a2, c2, o2, hv2, ho2, hc2⟩ := rdu_at h.rd hy
        cases hv2
        rw [ho] at ho2
        cases ho2
        rw [if_neg hi0, hy, Option.getD_some] at bad good
        have z : (0 : Int) < (i : Int) := by omega
        have w2 : IntKind.i64.wrap ((i : Int) - 1) = ((i - 1 : Nat) : Int) := by rw [wrap_i64 (by omega) (by omega)]; omega
        have hlt2 : i - 1 < ns.length := by omega
        by_cases hxy : y < x
        · have hg := good hxy
          have hxy' : ¬ x ≤ y := by omega
          simp only [symA, go_opsd, symB, wantedX, X.put, X.look, Arg.ev, keepOf, restrict, evs, evO, initEnv, xres, tup, noTup, cls, quiet, Nat.reduceAdd, Nat.reduceEqDiff, ↓reduceIte, reduceCtorEq, goInt, exists_eq_left', eq_self, Int.reduceLT, Int.reduceLE, Int.reduceEq, Int.reduceNeg, Int.reduceAdd, Int.reduceSub, forall_const, ne_eq, undef, Nat.reducePow, Nat.reduceDiv, Nat.reduceMod, hlt, hlt', hlt2, ho, hc, hc2, h0, z, w1, w2, hxy']
          exact hg
        · rw [bad hxy] at hQ
          have hxy' : x ≤ y := by omega
          simp only [symA, go_opsd, symB, wantedX, X.put, X.look, Arg.ev, keepOf, restrict, evs, evO, initEnv, xres, tup, noTup, cls, quiet, Nat.reduceAdd, Nat.reduceEqDiff, ↓reduceIte, reduceCtorEq, goInt, exists_eq_left', eq_self, Int.reduceLT, Int.reduceLE, Int.reduceEq, Int.reduceNeg, Int.reduceAdd, Int.reduceSub, forall_const, ne_eq, undef, Nat.reducePow, Nat.reduceDiv, Nat.reduceMod, hlt, hlt', hlt2, ho, hc, hc2, h0, z, w2, hxy']
          exact hQ _ _ _ rfl ⟨rfl, rfl⟩
  · have hlt' : ¬ (i : Int) < (ns.length : Int) := by omega
    rw [List.drop_eq_nil_of_le (by omega)] at hix
    have e : rightL ns = decide ((ns.length : Int) ≤ 6) := by
      unfold rightL
      rw [hix]
      simp only [incL, Bool.and_true]
      exact decide_eq_decide.2 (by omega)
    rw [e] at hQ
    simp only [symA, go_opsd, symB, wantedX, X.put, X.look, Arg.ev, keepOf, restrict, evs, evO, initEnv, xres, tup, noTup, cls, quiet, Nat.reduceAdd, Nat.reduceEqDiff, ↓reduceIte, reduceCtorEq, goInt, exists_eq_left', eq_self, Int.reduceLT, Int.reduceLE, Int.reduceEq, Int.reduceNeg, Int.reduceAdd, Int.reduceSub, forall_const, ne_eq, undef, Nat.reducePow, Nat.reduceDiv, Nat.reduceMod, hlt']
    refine hB _ _ _ ?_
    simp only [symA, go_opsd, symB, wantedX, X.put, X.look, Arg.ev, keepOf, restrict, evs, evO, initEnv, xres, tup, noTup, cls, quiet, Nat.reduceAdd, Nat.reduceEqDiff, ↓reduceIte, reduceCtorEq, goInt, exists_eq_left', eq_self, Int.reduceLT, Int.reduceLE, Int.reduceEq, Int.reduceNeg, Int.reduceAdd, Int.reduceSub, forall_const, ne_eq, undef, Nat.reducePow, Nat.reduceDiv, Nat.reduceMod]
    exact hQ _ _ _ rfl ⟨rfl, rfl⟩

def fewL (ns : List Int) : Bool := ns.all (fun x => decide (x ≤ 8)) && rightL ns
theorem few_spec (h : RdT b m v ns) : Ca 12 [v] m (.bool (fewL ns)) m := by
  refine callX_of (call_go (F := _) rfl rfl fun Q hQ => ?_)
  have hl := h.len
  have hr := rright_spec h
  obtain ⟨p, c, rfl⟩ := rdu_slice h.rd
  simp only [symA, go_opsd, symB, wantedX, X.put, X.look, Arg.ev, keepOf, restrict, evs, evO, initEnv, xres, tup, noTup, cls, quiet, Nat.reduceAdd, Nat.reduceEqDiff, ↓reduceIte, reduceCtorEq, goInt, exists_eq_left', eq_self, Int.reduceLT, Int.reduceLE, Int.reduceEq, Int.reduceNeg, Int.reduceAdd, Int.reduceSub, forall_const, ne_eq, undef, Nat.reducePow, Nat.reduceDiv, Nat.reduceMod]
  refine loop_go (fun j e m' => m' = m ∧ ∃ i : Nat, i ≤ ns.length ∧ j = ns.length - i ∧ (ns.all fun x => decide (x ≤ 8)) = ((ns.drop i).all fun x => decide (x ≤ 8)) ∧ e = [(0, .slice p ns.length c), (3, I i)]) ns.length ⟨rfl, 0, by omega, rfl, rfl, rfl⟩ ?_
  rintro j e m' N' B' hN hB ⟨rfl, i, hi, rfl, hix, rfl⟩
  by_cases hlt : i < ns.length
  · have hlt' : (i : Int) < (ns.length : Int) := by omega
    obtain ⟨x, hx⟩ : ∃ x, ns[i]? = some x := ⟨_, List.getElem?_eq_getElem hlt⟩
    obtain ⟨a, c', o, hv, ho, hc⟩ := rdu_at h.rd hx
    cases hv
    have w1 : IntKind.i64.wrap ((i : Int) + 1) = ((i + 1 : Nat) : Int) := by rw [wrap_i64 (by omega) (by omega)]; omega
    have hd : ns.drop i = x :: ns.drop (i + 1) := by
      obtain ⟨_, rfl⟩ := List.getElem?_eq_some_iff.1 hx
      exact List.drop_eq_getElem_cons hlt
    rw [hd, List.all_cons] at hix
    by_cases h8 : 8 < x
    · have e : fewL ns = false := by unfold fewL; rw [hix, decide_eq_false (by omega)]; rfl
      rw [e] at hQ
      simp only [symA, go_opsd, symB, wantedX, X.put, X.look, Arg.ev, keepOf, restrict, evs, evO, initEnv, xres, tup, noTup, cls, quiet, Nat.reduceAdd, Nat.reduceEqDiff, ↓reduceIte, reduceCtorEq, goInt, exists_eq_left', eq_self, Int.reduceLT, Int.reduceLE, Int.reduceEq, Int.reduceNeg, Int.reduceAdd, Int.reduceSub, forall_const, ne_eq, undef, Nat.reducePow, Nat.reduceDiv, Nat.reduceMod, hlt, hlt', ho, hc, h8]
      exact hQ _ _ _ rfl ⟨rfl, rfl⟩
    · rw [decide_eq_true (by omega), Bool.true_and] at hix
      simp only [symA, go_opsd, symB, wantedX, X.put, X.look, Arg.ev, keepOf, restrict, evs, evO, initEnv, xres, tup, noTup, cls, quiet, Nat.reduceAdd, Nat.reduceEqDiff, ↓reduceIte, reduceCtorEq, goInt, exists_eq_left', eq_self, Int.reduceLT, Int.reduceLE, Int.reduceEq, Int.reduceNeg, Int.reduceAdd, Int.reduceSub, forall_const, ne_eq, undef, Nat.reducePow, Nat.reduceDiv, Nat.reduceMod, hlt, hlt', ho, hc, h8, w1]
      exact hN _ _ (ns.length - (i + 1)) (by omega) ⟨rfl, i + 1, by omega, rfl, hix, rfl⟩
  · have hlt' : ¬ (i : Int) < (ns.length : Int) := by omega
    rw [List.drop_eq_nil_of_le (by omega)] at hix
    have e : fewL ns = rightL ns := by unfold fewL; rw [hix]; rfl
    rw [e] at hQ
    simp only [symA, go_opsd, symB, wantedX, X.put, X.look, Arg.ev, keepOf, restrict, evs, evO, initEnv, xres, tup, noTup, cls, quiet, Nat.reduceAdd, Nat.reduceEqDiff, ↓reduceIte, reduceCtorEq, goInt, exists_eq_left', eq_self, Int.reduceLT, Int.reduceLE, Int.reduceEq, Int.reduceNeg, Int.reduceAdd, Int.reduceSub, forall_const, ne_eq, undef, Nat.reducePow, Nat.reduceDiv, Nat.reduceMod, hlt']
    refine hB _ _ _ ?_
    simp only [symA, go_opsd, symB, wantedX, X.put, X.look, Arg.ev, keepOf, restrict, evs, evO, initEnv, xres, tup, noTup, cls, quiet, Nat.reduceAdd, Nat.reduceEqDiff, ↓reduceIte, reduceCtorEq, goInt, exists_eq_left', eq_self, Int.reduceLT, Int.reduceLE, Int.reduceEq, Int.reduceNeg, Int.reduceAdd, Int.reduceSub, forall_const, ne_eq, undef, Nat.reducePow, Nat.reduceDiv, Nat.reduceMod, goR_call hr]
    exact hQ _ _ _ rfl ⟨rfl, rfl⟩

/-! ## Put -/
theorem putL_step {put : Bool} {t x : Int} {i : Nat} (hx : ns[i]? = some x) : putL put (ns.drop i) t = (bif !put && decide (t ≤ x) then [t] else []) ++ ((bif decide (x = t) then [] else [x]) ++ putL (put || decide (t ≤ x)) (ns.drop (i + 1)) t) := by
  have hd : ns.drop i = x :: ns.drop (i + 1) := by
    obtain ⟨hlt, rfl⟩ := List.getElem?_eq_some_iff.1 hx
    exact List.drop_eq_getElem_cons hlt
  rw [hd]; rfl
theorem put_spec {t : Int} (h : RdU b m v ns) (hb : b ≤ m.next) (hl : ns.length ≤ 6) : ∃ v' m' F, Ca 39 [v, U t] m v' m' ∧ Own3 1 F m' v' (rowsU (putL false ns t)) ∧ Nx m m' ∧ ∀ i ∈ F, m.next ≤ i := by
  have key : Wc 39 [v, U t] m fun v' m' => ∃ F, Own3 1 F m' v' (rowsU (putL false ns t)) ∧ Nx m m' ∧ ∀ i ∈ F, m.next ≤ i := by
    refine call_go (F := _) rfl rfl fun Q hQ => ?_
    obtain ⟨p, c, rfl⟩ := rdu_slice h
    obtain ⟨m1, hm1⟩ : ∃ m1, m.push { cells := [], rw := true, spare := none, kin := [] } = m1 := ⟨_, rfl⟩
    have f1 : Nx m m1 := hm1 ▸ .push
    have bz : buildSliceE m [U 0] 1 0 [] = some (.val (.slice (some ⟨m.next, 0, none⟩) 0 0) m1) := by rw [← hm1]; exact buildSlice_zero
    simp only [symA, go_opsd, symB, wantedX, X.put, X.look, Arg.ev, keepOf, restrict, evs, evO, initEnv, xres, tup, noTup, cls, quiet, Nat.reduceAdd, Nat.reduceEqDiff, ↓reduceIte, reduceCtorEq, goInt, exists_eq_left', eq_self, Int.reduceLT, Int.reduceLE, Int.reduceEq, Int.reduceNeg, Int.reduceAdd, Int.reduceSub, forall_const, ne_eq, undef, Nat.reducePow, Nat.reduceDiv, Nat.reduceMod, bz]
    refine loop_go (fun j e m' => ∃ (i : Nat) (F : List Nat) (ov : Value) (acc : List Int) (put : Bool), i ≤ ns.length ∧ j = ns.length - i ∧ Own3 1 F m' ov ((acc.map U).map fun x => [x]) ∧ acc ++ putL put (ns.drop i) t = putL false ns t ∧ acc.length ≤ 2 * i ∧ Nx m m' ∧ (∀ x ∈ F, m.next ≤ x) ∧
      e = [(0, .slice p ns.length c), (1, U t), (5, ov), (6, .bool put), (7, I i)]) ns.length ⟨0, [], _, [], false, by omega, rfl, .inl ⟨by simp, .inr ⟨rfl, by simp, m.next, rfl⟩⟩, rfl, by simp, f1, by simp, rfl⟩ ?_
    rintro j e m' N' B' hN hB' ⟨i, F, ov, acc, put, hi, rfl, hO, hP, hA, fm, hF, rfl⟩
    have hn := fm.next
    by_cases hlt : i < ns.length
    · have hlt' : (i : Int) < (ns.length : Int) := by omega
      obtain ⟨x, hx⟩ : ∃ x, ns[i]? = some x := ⟨_, List.getElem?_eq_getElem hlt⟩
      have wi : IntKind.i64.wrap ((i : Int) + 1) = ((i + 1 : Nat) : Int) := by rw [wrap_i64 (by omega) (by omega)]; omega
      rw [putL_step hx] at hP
      have rd : ∀ {m2}, Nx m m2 → ∃ a o, p = some a ∧ m2.get a.block = some o ∧ o.cells[a.off + i]? = some (U x) := fun f => by
        obtain ⟨a, c', o, hva, ho, hc⟩ := rdu_at (h.fr f hb (fun _ h => h.elim)) hx
        cases hva
        exact ⟨a, o, rfl, ho, hc⟩
      obtain ⟨a, o, rfl, ho, hc⟩ := rd fm
      -- behind the first part
      have fin : ∀ (m2 : Mem) (F2 : List Nat) (ov2 : Value) (acc2 : List Int) (put2 : Bool), Own3 1 F2 m2 ov2 ((acc2.map U).map fun x => [x]) → acc2 ++ ((bif decide (x = t) then [] else [x]) ++ putL put2 (ns.drop (i + 1)) t) = putL false ns t → acc2.length ≤ 2 * i + 1 → Nx m m2 → (∀ x ∈ F2, m.next ≤ x) →
          ((x = t → N' [(0, .slice (some a) ns.length c), (1, U t), (5, ov2), (6, .bool put2), (7, I ((i + 1 : Nat) : Int))] m2) ∧
           (x ≠ t → ∃ m3 v' m4, buildSliceE m2 [U 0] 1 1 [(0, U x)] = some (.val (.slice (some ⟨m2.next, 0, none⟩) 1 1) m3) ∧ appendE m3 1 8 [U 0] ov2 (.slice (some ⟨m2.next, 0, none⟩) 1 1) = some (.val v' m4) ∧
             N' [(0, .slice (some a) ns.length c), (1, U t), (5, v'), (6, .bool put2), (7, I ((i + 1 : Nat) : Int))] m4)) := fun m2 F2 ov2 acc2 put2 h2 hP2 hA2 fm2 hF2 => by
        refine ⟨fun hq => ?_, fun hq => ?_⟩
        · rw [decide_eq_true hq] at hP2
          exact hN _ _ (ns.length - (i + 1)) (by omega) ⟨i + 1, F2, ov2, acc2, put2, by omega, rfl, h2, hP2, by omega, fm2, hF2, rfl⟩
        · rw [decide_eq_false hq] at hP2
          obtain ⟨m3, v', m4, F', k1, k2, k3, k4, k5, k6⟩ := h2.app1 (bytes := 8) (zero := U 0) (x := U x) rfl (by simp; omega) (by simp; omega)
          have hn2 := fm2.next
          refine ⟨m3, v', m4, k1, k2, hN _ _ (ns.length - (i + 1)) (by omega) ⟨i + 1, F', v', acc2 ++ [x], put2, by omega, rfl, by rw [List.map_append]; exact k3, by rw [List.append_assoc]; exact hP2, by simp; omega, fm2.comp k4 (fun y hy hq => by have := hF2 y hq; omega), fun y hy => ?_, rfl⟩⟩
          rcases k6 y hy with h | h
          · exact hF2 y h
          · omega
      by_cases hadd : put = false ∧ t ≤ x
      · obtain ⟨rfl, htx⟩ := hadd
        rw [decide_eq_true htx] at hP
        obtain ⟨m3, v', m4, F', k1, k2, k3, k4, k5, k6⟩ := hO.app1 (bytes := 8) (zero := U 0) (x := U t) rfl (by simp; omega) (by simp; omega)
        have fm4 : Nx m m4 := fm.comp k4 (fun y hy hq => by have := hF y hq; omega)
        obtain ⟨a4, o4, ha4, ho4, hc4⟩ := rd fm4
        cases ha4
        have F4 := fin m4 F' v' (acc ++ [t]) true (by rw [List.map_append]; exact k3) (by rw [List.append_assoc]; exact hP) (by simp; omega) fm4 (fun y hy => by
          rcases k6 y hy with h | h
          · exact hF y h
          · omega)
        by_cases hxt : x = t
        · have hd := F4.1 hxt
          simp only [symA, go_opsd, symB, wantedX, X.put, X.look, Arg.ev, keepOf, restrict, evs, evO, initEnv, xres, tup, noTup, cls, quiet, Nat.reduceAdd, Nat.reduceEqDiff, ↓reduceIte, reduceCtorEq, goInt, exists_eq_left', eq_self, Int.reduceLT, Int.reduceLE, Int.reduceEq, Int.reduceNeg, Int.reduceAdd, Int.reduceSub, forall_const, ne_eq, undef, Nat.reducePow, Nat.reduceDiv, Nat.reduceMod, hlt, hlt', ho, hc, htx, k1, k2, ho4, hc4, hxt, wi]
          subst hxt
          simp only [symA, go_opsd, symB, wantedX, X.put, X.look, Arg.ev, keepOf, restrict, evs, evO, initEnv, xres, tup, noTup, cls, quiet, Nat.reduceAdd, Nat.reduceEqDiff, ↓reduceIte, reduceCtorEq, goInt, exists_eq_left', eq_self, Int.reduceLT, Int.reduceLE, Int.reduceEq, Int.reduceNeg, Int.reduceAdd, Int.reduceSub, forall_const, ne_eq, undef, Nat.reducePow, Nat.reduceDiv, Nat.reduceMod, hlt, hlt', ho, hc, htx, k1, k2, ho4, hc4, wi]
          exact hd
        · obtain ⟨m5, v5, m6, q1, q2, hd⟩ := F4.2 hxt
          simp only [symA, go_opsd, symB, wantedX, X.put, X.look, Arg.ev, keepOf, restrict, evs, evO, initEnv, xres, tup, noTup, cls, quiet, Nat.reduceAdd, Nat.reduceEqDiff, ↓reduceIte, reduceCtorEq, goInt, exists_eq_left', eq_self, Int.reduceLT, Int.reduceLE, Int.reduceEq, Int.reduceNeg, Int.reduceAdd, Int.reduceSub, forall_const, ne_eq, undef, Nat.reducePow, Nat.reduceDiv, Nat.reduceMod, hlt, hlt', ho, hc, htx, k1, k2, ho4, hc4, hxt, q1, q2, wi]
          exact hd
      · have hP' : acc ++ ((bif decide (x = t) then [] else [x]) ++ putL put (ns.drop (i + 1)) t) = putL false ns t := by
          rw [← hP]
          cases put with
          | true => simp
          | false => have : ¬ t ≤ x := fun h => hadd ⟨rfl, h⟩; simp [this]
        have F4 := fin m' F ov acc put hO hP' (by omega) fm hF
        cases put with
        | true =>
          by_cases hxt : x = t
          · have hd := F4.1 hxt
            subst hxt
            simp only [symA, go_opsd, symB, wantedX, X.put, X.look, Arg.ev, keepOf, restrict, evs, evO, initEnv, xres, tup, noTup, cls, quiet, Nat.reduceAdd, Nat.reduceEqDiff, ↓reduceIte, reduceCtorEq, goInt, exists_eq_left', eq_self, Int.reduceLT, Int.reduceLE, Int.reduceEq, Int.reduceNeg, Int.reduceAdd, Int.reduceSub, forall_const, ne_eq, undef, Nat.reducePow, Nat.reduceDiv, Nat.reduceMod, hlt, hlt', ho, hc, wi]
            exact hd
          · obtain ⟨m5, v5, m6, q1, q2, hd⟩ := F4.2 hxt
            simp only [symA, go_opsd, symB, wantedX, X.put, X.look, Arg.ev, keepOf, restrict, evs, evO, initEnv, xres, tup, noTup, cls, quiet, Nat.reduceAdd, Nat.reduceEqDiff, ↓reduceIte, reduceCtorEq, goInt, exists_eq_left', eq_self, Int.reduceLT, Int.reduceLE, Int.reduceEq, Int.reduceNeg, Int.reduceAdd, Int.reduceSub, forall_const, ne_eq, undef, Nat.reducePow, Nat.reduceDiv, Nat.reduceMod, hlt, hlt', ho, hc, hxt, q1, q2, wi]
            exact hd
        | false =>
          have htx : ¬ t ≤ x := fun h => hadd ⟨rfl, h⟩
          have hxt : x ≠ t := by omega
          obtain ⟨m5, v5, m6, q1, q2, hd⟩ := F4.2 hxt
          simp only [symA, go_opsd, symB, wantedX, X.put, X.look, Arg.ev, keepOf, restrict, evs, evO, initEnv, xres, tup, noTup, cls, quiet, Nat.reduceAdd, Nat.reduceEqDiff, ↓reduceIte, reduceCtorEq, goInt, exists_eq_left', eq_self, Int.reduceLT, Int.reduceLE, Int.reduceEq, Int.reduceNeg, Int.reduceAdd, Int.reduceSub, forall_const, ne_eq, undef, Nat.reducePow, Nat.reduceDiv, Nat.reduceMod, hlt, hlt', ho, hc, htx, hxt, q1, q2, wi]
          exact hd
    · have hlt' : ¬ (i : Int) < (ns.length : Int) := by omega
      rw [List.drop_eq_nil_of_le (by omega)] at hP
      cases put with
      | true =>
        have hP' : acc = putL false ns t := by rw [← hP]; simp [putL]
        simp only [symA, go_opsd, symB, wantedX, X.put, X.look, Arg.ev, keepOf, restrict, evs, evO, initEnv, xres, tup, noTup, cls, quiet, Nat.reduceAdd, Nat.reduceEqDiff, ↓reduceIte, reduceCtorEq, goInt, exists_eq_left', eq_self, Int.reduceLT, Int.reduceLE, Int.reduceEq, Int.reduceNeg, Int.reduceAdd, Int.reduceSub, forall_const, ne_eq, undef, Nat.reducePow, Nat.reduceDiv, Nat.reduceMod, hlt']
        refine hB' _ _ _ ?_
        simp only [symA, go_opsd, symB, wantedX, X.put, X.look, Arg.ev, keepOf, restrict, evs, evO, initEnv, xres, tup, noTup, cls, quiet, Nat.reduceAdd, Nat.reduceEqDiff, ↓reduceIte, reduceCtorEq, goInt, exists_eq_left', eq_self, Int.reduceLT, Int.reduceLE, Int.reduceEq, Int.reduceNeg, Int.reduceAdd, Int.reduceSub, forall_const, ne_eq, undef, Nat.reducePow, Nat.reduceDiv, Nat.reduceMod]
        exact hQ _ _ _ rfl ⟨F, by rw [rowsU_vals, ← hP']; exact hO, fm, hF⟩
      | false =>
        have hP' : acc ++ [t] = putL false ns t := by rw [← hP]; simp [putL]
        obtain ⟨m3, v', m4, F', k1, k2, k3, k4, k5, k6⟩ := hO.app1 (bytes := 8) (zero := U 0) (x := U t) rfl (by simp; omega) (by simp; omega)
        simp only [symA, go_opsd, symB, wantedX, X.put, X.look, Arg.ev, keepOf, restrict, evs, evO, initEnv, xres, tup, noTup, cls, quiet, Nat.reduceAdd, Nat.reduceEqDiff, ↓reduceIte, reduceCtorEq, goInt, exists_eq_left', eq_self, Int.reduceLT, Int.reduceLE, Int.reduceEq, Int.reduceNeg, Int.reduceAdd, Int.reduceSub, forall_const, ne_eq, undef, Nat.reducePow, Nat.reduceDiv, Nat.reduceMod, hlt']
        refine hB' _ _ _ ?_
        simp only [symA, go_opsd, symB, wantedX, X.put, X.look, Arg.ev, keepOf, restrict, evs, evO, initEnv, xres, tup, noTup, cls, quiet, Nat.reduceAdd, Nat.reduceEqDiff, ↓reduceIte, reduceCtorEq, goInt, exists_eq_left', eq_self, Int.reduceLT, Int.reduceLE, Int.reduceEq, Int.reduceNeg, Int.reduceAdd, Int.reduceSub, forall_const, ne_eq, undef, Nat.reducePow, Nat.reduceDiv, Nat.reduceMod, k1, k2]
        refine hQ _ _ _ rfl ⟨F', ?_, fm.comp k4 (fun y hy hq => by have := hF y hq; omega), fun y hy => ?_⟩
        · rw [rowsU_vals, ← hP', List.map_append]; exact k3
        · rcases k6 y hy with h | h
          · exact hF y h
          · omega
  obtain ⟨v', m', k1, F, k2, k3, k4⟩ := key
  exact ⟨v', m', F, k1, k2, k3, k4⟩

/-! ## Are they the same? -/
theorem compare_spec (ha : RdU b m va us) (hb : RdU b' m vb ws) (hla : us.length ≤ 4611686018427387903) : Wc 55 [va, vb] m fun r m' => m' = m ∧ ∃ k : Int, r = I k ∧ (k = 0 ↔ us = ws) := by
  refine call_go (F := _) rfl rfl fun Q hQ => ?_
  obtain ⟨p, c, rfl⟩ := rdu_slice ha
  obtain ⟨q, d, rfl⟩ := rdu_slice hb
  by_cases h1 : (us.length : Int) < (ws.length : Int)
  · simp only [symA, go_opsd, symB, wantedX, X.put, X.look, Arg.ev, keepOf, restrict, evs, evO, initEnv, xres, tup, noTup, cls, quiet, Nat.reduceAdd, Nat.reduceEqDiff, ↓reduceIte, reduceCtorEq, goInt, exists_eq_left', eq_self, Int.reduceLT, Int.reduceLE, Int.reduceEq, Int.reduceNeg, Int.reduceAdd, Int.reduceSub, forall_const, ne_eq, undef, Nat.reducePow, Nat.reduceDiv, Nat.reduceMod, h1]
    refine hQ _ _ _ rfl ⟨rfl, -1, rfl, ⟨fun h => by omega, fun h => by subst h; omega⟩⟩
  · by_cases h2 : (ws.length : Int) < (us.length : Int)
    · simp only [symA, go_opsd, symB, wantedX, X.put, X.look, Arg.ev, keepOf, restrict, evs, evO, initEnv, xres, tup, noTup, cls, quiet, Nat.reduceAdd, Nat.reduceEqDiff, ↓reduceIte, reduceCtorEq, goInt, exists_eq_left', eq_self, Int.reduceLT, Int.reduceLE, Int.reduceEq, Int.reduceNeg, Int.reduceAdd, Int.reduceSub, forall_const, ne_eq, undef, Nat.reducePow, Nat.reduceDiv, Nat.reduceMod, h1, h2]
      refine hQ _ _ _ rfl ⟨rfl, 1, rfl, ⟨fun h => by omega, fun h => by subst h; omega⟩⟩
    · have hlen : us.length = ws.length := by omega
      simp only [symA, go_opsd, symB, wantedX, X.put, X.look, Arg.ev, keepOf, restrict, evs, evO, initEnv, xres, tup, noTup, cls, quiet, Nat.reduceAdd, Nat.reduceEqDiff, ↓reduceIte, reduceCtorEq, goInt, exists_eq_left', eq_self, Int.reduceLT, Int.reduceLE, Int.reduceEq, Int.reduceNeg, Int.reduceAdd, Int.reduceSub, forall_const, ne_eq, undef, Nat.reducePow, Nat.reduceDiv, Nat.reduceMod, h1, h2]
      refine loop_go (fun j e m' => m' = m ∧ ∃ i : Nat, i ≤ us.length ∧ j = us.length - i ∧ us.take i = ws.take i ∧ e = [(0, .slice p us.length c), (1, .slice q ws.length d), (5, I i)]) us.length ⟨rfl, 0, by omega, rfl, rfl, rfl⟩ ?_
      rintro j e m' N' B' hN hB ⟨rfl, i, hi, rfl, ht, rfl⟩
      by_cases hlt : i < us.length
      · have hlt' : (i : Int) < (us.length : Int) := by omega
        have hltw : i < ws.length := by omega
        obtain ⟨x, hx⟩ : ∃ x, us[i]? = some x := ⟨_, List.getElem?_eq_getElem hlt⟩
        obtain ⟨y, hy⟩ : ∃ y, ws[i]? = some y := ⟨_, List.getElem?_eq_getElem hltw⟩
        obtain ⟨a, c', o, hv, ho, hc⟩ := rdu_at ha hx
        cases hv
        obtain ⟨a2, c2, o2, hv2, ho2, hc2⟩ := rdu_at hb hy
        cases hv2
        have w1 : IntKind.i64.wrap ((i : Int) + 1) = ((i + 1 : Nat) : Int) := by rw [wrap_i64 (by omega) (by omega)]; omega
        have ne : x ≠ y → us ≠ ws := fun hne h => by
          subst h
          rw [hx] at hy
          exact hne (Option.some.inj hy)
        by_cases k1 : x < y
        · simp only [symA, go_opsd, symB, wantedX, X.put, X.look, Arg.ev, keepOf, restrict, evs, evO, initEnv, xres, tup, noTup, cls, quiet, Nat.reduceAdd, Nat.reduceEqDiff, ↓reduceIte, reduceCtorEq, goInt, exists_eq_left', eq_self, Int.reduceLT, Int.reduceLE, Int.reduceEq, Int.reduceNeg, Int.reduceAdd, Int.reduceSub, forall_const, ne_eq, undef, Nat.reducePow, Nat.reduceDiv, Nat.reduceMod, hlt, hltw, hlt', ho, hc, ho2, hc2, k1]
          exact hQ _ _ _ rfl ⟨rfl, -1, rfl, ⟨fun h => by omega, fun h => absurd h (ne (by omega))⟩⟩
        · by_cases k2 : y < x
          · simp only [symA, go_opsd, symB, wantedX, X.put, X.look, Arg.ev, keepOf, restrict, evs, evO, initEnv, xres, tup, noTup, cls, quiet, Nat.reduceAdd, Nat.reduceEqDiff, ↓reduceIte, reduceCtorEq, goInt, exists_eq_left', eq_self, Int.reduceLT, Int.reduceLE, Int.reduceEq, Int.reduceNeg, Int.reduceAdd, Int.reduceSub, forall_const, ne_eq, undef, Nat.reducePow, Nat.reduceDiv, Nat.reduceMod, hlt, hltw, hlt', ho, hc, ho2, hc2, k1, k2]
            exact hQ _ _ _ rfl ⟨rfl, 1, rfl, ⟨fun h => by omega, fun h => absurd h (ne (by omega))⟩⟩
          · have : x = y := by omega
            subst this
            simp only [symA, go_opsd, symB, wantedX, X.put, X.look, Arg.ev, keepOf, restrict, evs, evO, initEnv, xres, tup, noTup, cls, quiet, Nat.reduceAdd, Nat.reduceEqDiff, ↓reduceIte, reduceCtorEq, goInt, exists_eq_left', eq_self, Int.reduceLT, Int.reduceLE, Int.reduceEq, Int.reduceNeg, Int.reduceAdd, Int.reduceSub, forall_const, ne_eq, undef, Nat.reducePow, Nat.reduceDiv, Nat.reduceMod, hlt, hltw, hlt', ho, hc, ho2, hc2, k1, k2, w1]
            refine hN _ _ (us.length - (i + 1)) (by omega) ⟨rfl, i + 1, by omega, rfl, ?_, rfl⟩
            rw [List.take_add_one, List.take_add_one, ht, hx, hy]
      · have hlt' : ¬ (i : Int) < (us.length : Int) := by omega
        rw [List.take_of_length_le (by omega), List.take_of_length_le (by omega)] at ht
        simp only [symA, go_opsd, symB, wantedX, X.put, X.look, Arg.ev, keepOf, restrict, evs, evO, initEnv, xres, tup, noTup, cls, quiet, Nat.reduceAdd, Nat.reduceEqDiff, ↓reduceIte, reduceCtorEq, goInt, exists_eq_left', eq_self, Int.reduceLT, Int.reduceLE, Int.reduceEq, Int.reduceNeg, Int.reduceAdd, Int.reduceSub, forall_const, ne_eq, undef, Nat.reducePow, Nat.reduceDiv, Nat.reduceMod, hlt']
        refine hB _ _ _ ?_
        simp only [symA, go_opsd, symB, wantedX, X.put, X.look, Arg.ev, keepOf, restrict, evs, evO, initEnv, xres, tup, noTup, cls, quiet, Nat.reduceAdd, Nat.reduceEqDiff, ↓reduceIte, reduceCtorEq, goInt, exists_eq_left', eq_self, Int.reduceLT, Int.reduceLE, Int.reduceEq, Int.reduceNeg, Int.reduceAdd, Int.reduceSub, forall_const, ne_eq, undef, Nat.reducePow, Nat.reduceDiv, Nat.reduceMod]
        exact hQ _ _ _ rfl ⟨rfl, 0, rfl, ⟨fun _ => ht, fun _ => rfl⟩⟩
theorem same_spec (ha : RdU b m va us) (hb : RdU b' m vb ws) (hla : us.length ≤ 4611686018427387903) : Ca 40 [va, vb] m (.bool (decide (us = ws))) m := by
  refine callX_of (call_go (F := _) rfl rfl fun Q hQ => ?_)
  simp only [symA, go_opsd, symB, wantedX, X.put, X.look, Arg.ev, keepOf, restrict, evs, evO, initEnv, xres, tup, noTup, cls, quiet, Nat.reduceAdd, Nat.reduceEqDiff, ↓reduceIte, reduceCtorEq, goInt, exists_eq_left', eq_self, Int.reduceLT, Int.reduceLE, Int.reduceEq, Int.reduceNeg, Int.reduceAdd, Int.reduceSub, forall_const, ne_eq, undef, Nat.reducePow, Nat.reduceDiv, Nat.reduceMod]
  refine goR_wp (compare_spec ha hb hla) ?_
  rintro _ _ ⟨rfl, k, rfl, hk⟩
  have e : decide (us = ws) = decide (k = 0) := decide_eq_decide.2 hk.symm
  rw [e] at hQ
  simp only [symA, go_opsd, symB, wantedX, X.put, X.look, Arg.ev, keepOf, restrict, evs, evO, initEnv, xres, tup, noTup, cls, quiet, Nat.reduceAdd, Nat.reduceEqDiff, ↓reduceIte, reduceCtorEq, goInt, exists_eq_left', eq_self, Int.reduceLT, Int.reduceLE, Int.reduceEq, Int.reduceNeg, Int.reduceAdd, Int.reduceSub, forall_const, ne_eq, undef, Nat.reducePow, Nat.reduceDiv, Nat.reduceMod]
  exact hQ _ _ _ rfl ⟨rfl, rfl⟩

/-! ## Where a label stands -/
theorem at_where {rooms : List (List Int)} (h : RdRooms b m v rooms) (hx : RdU b' m va ws) (hl : rooms.length ≤ 4611686018427387903) (hls : ∀ us ∈ rooms, us.length ≤ 4611686018427387903) :
    Wc 16 [v, va] m fun r m' => m' = m ∧ ∃ k : Int, r = I k ∧ ((k = -1 ∧ ws ∉ rooms) ∨ ∃ n : Nat, k = (n : Int) ∧ rooms[n]? = some ws) := by
  refine call_go (F := _) rfl rfl fun Q hQ => ?_
  obtain ⟨p, c, rfl⟩ := h.slice
  simp only [symA, go_opsd, symB, wantedX, X.put, X.look, Arg.ev, keepOf, restrict, evs, evO, initEnv, xres, tup, noTup, cls, quiet, Nat.reduceAdd, Nat.reduceEqDiff, ↓reduceIte, reduceCtorEq, goInt, exists_eq_left', eq_self, Int.reduceLT, Int.reduceLE, Int.reduceEq, Int.reduceNeg, Int.reduceAdd, Int.reduceSub, forall_const, ne_eq, undef, Nat.reducePow, Nat.reduceDiv, Nat.reduceMod]
  refine loop_go (fun j e m' => m' = m ∧ ∃ i : Nat, i ≤ rooms.length ∧ j = rooms.length - i ∧ ws ∉ rooms.take i ∧ e = [(0, .slice p rooms.length c), (1, va), (5, I i)]) rooms.length ⟨rfl, 0, by omega, rfl, by simp, rfl⟩ ?_
  rintro j e m' N' B' hN hB ⟨rfl, i, hi, rfl, ht, rfl⟩
  by_cases hlt : i < rooms.length
  · have hlt' : (i : Int) < (rooms.length : Int) := by omega
    obtain ⟨us, hus⟩ : ∃ us, rooms[i]? = some us := ⟨_, List.getElem?_eq_getElem hlt⟩
    obtain ⟨a, c', o, p', c'', hva, ho, hc, hru⟩ := h.at hus
    cases hva
    have w1 : IntKind.i64.wrap ((i : Int) + 1) = ((i + 1 : Nat) : Int) := by rw [wrap_i64 (by omega) (by omega)]; omega
    have k1 := same_spec hru hx (hls us (List.mem_of_getElem? hus))
    by_cases he : us = ws
    · rw [decide_eq_true he] at k1
      simp only [symA, go_opsd, symB, wantedX, X.put, X.look, Arg.ev, keepOf, restrict, evs, evO, initEnv, xres, tup, noTup, cls, quiet, Nat.reduceAdd, Nat.reduceEqDiff, ↓reduceIte, reduceCtorEq, goInt, exists_eq_left', eq_self, Int.reduceLT, Int.reduceLE, Int.reduceEq, Int.reduceNeg, Int.reduceAdd, Int.reduceSub, forall_const, ne_eq, undef, Nat.reducePow, Nat.reduceDiv, Nat.reduceMod, hlt, hlt', ho, hc, goR_call k1]
      exact hQ _ _ _ rfl ⟨rfl, i, rfl, .inr ⟨i, rfl, by rw [hus, he]⟩⟩
    · rw [decide_eq_false he] at k1
      simp only [symA, go_opsd, symB, wantedX, X.put, X.look, Arg.ev, keepOf, restrict, evs, evO, initEnv, xres, tup, noTup, cls, quiet, Nat.reduceAdd, Nat.reduceEqDiff, ↓reduceIte, reduceCtorEq, goInt, exists_eq_left', eq_self, Int.reduceLT, Int.reduceLE, Int.reduceEq, Int.reduceNeg, Int.reduceAdd, Int.reduceSub, forall_const, ne_eq, undef, Nat.reducePow, Nat.reduceDiv, Nat.reduceMod, hlt, hlt', ho, hc, goR_call k1, w1]
      refine hN _ _ (rooms.length - (i + 1)) (by omega) ⟨rfl, i + 1, by omega, rfl, ?_, rfl⟩
      rw [List.take_add_one, hus]
      simp only [Option.toList_some, List.mem_append, List.mem_singleton, not_or]
      exact ⟨ht, fun h => he h.symm⟩
  · have hlt' : ¬ (i : Int) < (rooms.length : Int) := by omega
    rw [List.take_of_length_le (by omega)] at ht
    simp only [symA, go_opsd, symB, wantedX, X.put, X.look, Arg.ev, keepOf, restrict, evs, evO, initEnv, xres, tup, noTup, cls, quiet, Nat.reduceAdd, Nat.reduceEqDiff, ↓reduceIte, reduceCtorEq, goInt, exists_eq_left', eq_self, Int.reduceLT, Int.reduceLE, Int.reduceEq, Int.reduceNeg, Int.reduceAdd, Int.reduceSub, forall_const, ne_eq, undef, Nat.reducePow, Nat.reduceDiv, Nat.reduceMod, hlt']
    refine hB _ _ _ ?_
    simp only [symA, go_opsd, symB, wantedX, X.put, X.look, Arg.ev, keepOf, restrict, evs, evO, initEnv, xres, tup, noTup, cls, quiet, Nat.reduceAdd, Nat.reduceEqDiff, ↓reduceIte, reduceCtorEq, goInt, exists_eq_left', eq_self, Int.reduceLT, Int.reduceLE, Int.reduceEq, Int.reduceNeg, Int.reduceAdd, Int.reduceSub, forall_const, ne_eq, undef, Nat.reducePow, Nat.reduceDiv, Nat.reduceMod]
    exact hQ _ _ _ rfl ⟨rfl, -1, rfl, .inl ⟨rfl, ht⟩⟩

/-! ## The document's Clear -/
theorem rclear_spec {bp : Nat} {F : List Nat} {pq : Option Addr} {R : Rf} {w : Int} (h : RefAt m bp F pq R) (hl : R.l.length ≤ 100000) (hv : RdU b m v ns) (ha : RdU b' m va []) (hn : ns.length ≤ 4611686018427387903) :
    Ca 41 [Pt bp, I w, va, v] m (.bool (ns.all (fun g => hasR R (w, g, false)) && oneR R w)) m := by
  refine callX_of (call_go (F := _) rfl rfl fun Q hQ => ?_)
  obtain ⟨p, c, rfl⟩ := rdu_slice hv
  simp only [symA, go_opsd, symB, wantedX, X.put, X.look, Arg.ev, keepOf, restrict, evs, evO, initEnv, xres, tup, noTup, cls, quiet, Nat.reduceAdd, Nat.reduceEqDiff, ↓reduceIte, reduceCtorEq, goInt, exists_eq_left', eq_self, Int.reduceLT, Int.reduceLE, Int.reduceEq, Int.reduceNeg, Int.reduceAdd, Int.reduceSub, forall_const, ne_eq, undef, Nat.reducePow, Nat.reduceDiv, Nat.reduceMod]
  refine loop_go (fun j e m' => m' = m ∧ ∃ i : Nat, i ≤ ns.length ∧ j = ns.length - i ∧ (ns.all fun g => hasR R (w, g, false)) = ((ns.drop i).all fun g => hasR R (w, g, false)) ∧ e = [(0, Pt bp), (1, I w), (2, va), (3, .slice p ns.length c), (9, I i)]) ns.length ⟨rfl, 0, by omega, rfl, rfl, rfl⟩ ?_
  rintro j e m' N' B' hN hB ⟨rfl, i, hi, rfl, hix, rfl⟩
  by_cases hlt : i < ns.length
  · have hlt' : (i : Int) < (ns.length : Int) := by omega
    obtain ⟨x, hx⟩ : ∃ x, ns[i]? = some x := ⟨_, List.getElem?_eq_getElem hlt⟩
    obtain ⟨a, c', o, hva, ho, hc⟩ := rdu_at hv hx
    cases hva
    have w1 : IntKind.i64.wrap ((i : Int) + 1) = ((i + 1 : Nat) : Int) := by rw [wrap_i64 (by omega) (by omega)]; omega
    have hd : ns.drop i = x :: ns.drop (i + 1) := by
      obtain ⟨_, rfl⟩ := List.getElem?_eq_some_iff.1 hx
      exact List.drop_eq_getElem_cons hlt
    rw [hd, List.all_cons] at hix
    have k1 : Ca 22 [va, U x] m' (.bool false) m' := rhasL_spec ha (by simp)
    have k2 := rhas_spec (w := w) (g := x) (dm := false) h hl
    cases hq : hasR R (w, x, false) with
    | true =>
      rw [hq] at k2
      rw [hq, Bool.true_and] at hix
      simp only [symA, go_opsd, symB, wantedX, X.put, X.look, Arg.ev, keepOf, restrict, evs, evO, initEnv, xres, tup, noTup, cls, quiet, Nat.reduceAdd, Nat.reduceEqDiff, ↓reduceIte, reduceCtorEq, goInt, exists_eq_left', eq_self, Int.reduceLT, Int.reduceLE, Int.reduceEq, Int.reduceNeg, Int.reduceAdd, Int.reduceSub, forall_const, ne_eq, undef, Nat.reducePow, Nat.reduceDiv, Nat.reduceMod, hlt, hlt', ho, hc, goR_call k1, goR_call k2, w1]
      exact hN _ _ (ns.length - (i + 1)) (by omega) ⟨rfl, i + 1, by omega, rfl, hix, rfl⟩
    | false =>
      rw [hq] at k2
      rw [hq, Bool.false_and] at hix
      rw [hix, Bool.false_and] at hQ
      simp only [symA, go_opsd, symB, wantedX, X.put, X.look, Arg.ev, keepOf, restrict, evs, evO, initEnv, xres, tup, noTup, cls, quiet, Nat.reduceAdd, Nat.reduceEqDiff, ↓reduceIte, reduceCtorEq, goInt, exists_eq_left', eq_self, Int.reduceLT, Int.reduceLE, Int.reduceEq, Int.reduceNeg, Int.reduceAdd, Int.reduceSub, forall_const, ne_eq, undef, Nat.reducePow, Nat.reduceDiv, Nat.reduceMod, hlt, hlt', ho, hc, goR_call k1, goR_call k2]
      exact hQ _ _ _ rfl ⟨rfl, rfl⟩
  · have hlt' : ¬ (i : Int) < (ns.length : Int) := by omega
    rw [List.drop_eq_nil_of_le (by omega)] at hix
    have e : (ns.all (fun g => hasR R (w, g, false)) && oneR R w) = oneR R w := by rw [hix]; rfl
    rw [e] at hQ
    simp only [symA, go_opsd, symB, wantedX, X.put, X.look, Arg.ev, keepOf, restrict, evs, evO, initEnv, xres, tup, noTup, cls, quiet, Nat.reduceAdd, Nat.reduceEqDiff, ↓reduceIte, reduceCtorEq, goInt, exists_eq_left', eq_self, Int.reduceLT, Int.reduceLE, Int.reduceEq, Int.reduceNeg, Int.reduceAdd, Int.reduceSub, forall_const, ne_eq, undef, Nat.reducePow, Nat.reduceDiv, Nat.reduceMod, hlt']
    refine hB _ _ _ ?_
    simp only [symA, go_opsd, symB, wantedX, X.put, X.look, Arg.ev, keepOf, restrict, evs, evO, initEnv, xres, tup, noTup, cls, quiet, Nat.reduceAdd, Nat.reduceEqDiff, ↓reduceIte, reduceCtorEq, goInt, exists_eq_left', eq_self, Int.reduceLT, Int.reduceLE, Int.reduceEq, Int.reduceNeg, Int.reduceAdd, Int.reduceSub, forall_const, ne_eq, undef, Nat.reducePow, Nat.reduceDiv, Nat.reduceMod, goR_call (rone_spec h)]
    exact hQ _ _ _ rfl ⟨rfl, rfl⟩
end
end Go.Proofs.Ytfjeccaffenngaa
