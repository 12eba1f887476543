/-
  Own work. What the functions of labels come to, whatever the data.
-/
import Derived.Test.YtfjeccaffenngaaXProg
import Derived.Test.YtfjeccaffenngaaXOwn4
import Derived.Test.YtfjeccaffenngaaXAll
namespace Go.Proofs.Ytfjeccaffenngaa
open Go X
set_option maxRecDepth 100000
set_option linter.unusedVariables false
set_option linter.unusedSimpArgs false

theorem awake_known : FnIs Try.prog 8 (.known (.bool true)) := known_of mixed tab_is (n := 2000) rfl (by kernel_rfl) rfl
def tabK (f : FuncId) : Option XDecl := if f = 8 then some (.known (.bool true)) else tab f
theorem tabK_is : ∀ f d, tabK f = some d → FnIs Try.prog f d := by
  intro f d h
  unfold tabK at h
  split at h
  · rename_i hf
    cases h; subst hf; exact awake_known
  · exact tab_is f d h

abbrev Ca (f : FuncId) (args : List Value) (m : Mem) (v : Value) (m' : Mem) : Prop := CallX Try.prog tabK f args m v m'
abbrev Wc (f : FuncId) (args : List Value) (m : Mem) (K : Value → Mem → Prop) : Prop := wpCall Try.prog tabK f args m K
theorem awake_call (m : Mem) : Ca 8 [] m (.bool true) m := ⟨0, rfl⟩

abbrev U (n : Int) : Value := .int .u64 n
abbrev I (n : Int) : Value := .int .i64 n
abbrev Pt (p : Nat) : Value := .pointer (some ⟨p, 0, none⟩)
/-- It grows. -/
abbrev Nx (m m' : Mem) : Prop := Fm (fun _ => False) m m'
abbrev rowsU (ns : List Int) : List (List Value) := ns.map fun n => [U n]
abbrev RdU (b : Nat) (m : Mem) (v : Value) (ns : List Int) : Prop := RdS b m 1 v (rowsU ns)

theorem rowsU_flat (ns : List Int) : (rowsU ns).flatten = ns.map U := by
  induction ns with
  | nil => rfl
  | cons x l ih => simp only [List.map_cons, List.flatten_cons, ih]; rfl

section
variable {b : Nat} {m : Mem} {v : Value} {ns : List Int}
theorem rdu_slice (h : RdU b m v ns) : ∃ p c, v = .slice p ns.length c := by
  obtain ⟨p, c, rfl⟩ := h.slice
  exact ⟨p, c, by simp⟩
theorem rdu_at (h : RdU b m v ns) {i : Nat} {x : Int} (hi : ns[i]? = some x) : ∃ a c o, v = .slice (some a) ns.length c ∧ m.get a.block = some o ∧ o.cells[a.off + i]? = some (U x) := by
  obtain ⟨p, c, rfl, hc, h⟩ := h
  obtain ⟨h1, a, o, rfl, h3, h4, h5⟩ := h i [U x] (by simp [hi])
  exact ⟨a, c, o, by simp, h4, by simpa using h5 0 (by omega)⟩
end

/-! ## Where something stands -/
def idxF (p : Int → Bool) : Nat → List Int → Int
  | _, [] => -1
  | i, x :: l => bif p x then (i : Int) else idxF p (i + 1) l
theorem idxF_any {p : Int → Bool} : ∀ (l : List Int) (i : Nat), decide (0 ≤ idxF p i l) = l.any p
  | [], i => rfl
  | x :: l, i => by
    rw [idxF, List.any_cons, ← idxF_any l (i + 1)]
    cases p x with
    | true => simp
    | false => simp
theorem idxF_cases {p : Int → Bool} : ∀ (l : List Int) (k : Nat), (idxF p k l = -1 ∧ ∀ x ∈ l, p x = false) ∨ ∃ i x, idxF p k l = ((k + i : Nat) : Int) ∧ l[i]? = some x ∧ p x = true ∧ ∀ y ∈ l.take i, p y = false
  | [], k => .inl ⟨rfl, by simp⟩
  | x :: l, k => by
    cases h : p x with
    | true => exact .inr ⟨0, x, by rw [idxF, h]; simp, rfl, h, by simp⟩
    | false =>
      rcases idxF_cases (p := p) l (k + 1) with ⟨h1, h2⟩ | ⟨i, y, h1, h2, h3, h4⟩
      · refine .inl ⟨by rw [idxF, h]; exact h1, fun y hy => ?_⟩
        rcases List.mem_cons.1 hy with rfl | hy
        · exact h
        · exact h2 y hy
      · refine .inr ⟨i + 1, y, by rw [idxF, h]; simp only [cond_false, h1]; omega, by simpa using h2, h3, fun z hz => ?_⟩
        rw [List.take_succ_cons] at hz
        rcases List.mem_cons.1 hz with rfl | hz
        · exact h
        · exact h4 z hz

section
variable {b : Nat} {m : Mem} {v : Value} {ns : List Int} {t : Int}
theorem index_spec (h : RdU b m v ns) (hl : ns.length ≤ 4611686018427387903) : Ca 63 [v, U t] m (I (idxF (fun x => decide (t = x)) 0 ns)) m := by
  refine callX_of (call_go (F := _) rfl rfl fun Q hQ => ?_)
  obtain ⟨p, c, rfl⟩ := rdu_slice h
  simp only [symA, go_opsd, symB, wantedX, X.put, X.look, Arg.ev, keepOf, restrict, evs, evO, initEnv, xres, tup, noTup, cls, quiet, Nat.reduceAdd, Nat.reduceEqDiff, ↓reduceIte, reduceCtorEq, goInt, exists_eq_left', eq_self, Int.reduceLT, Int.reduceLE, Int.reduceEq, Int.reduceNeg, Int.reduceAdd, Int.reduceSub, forall_const, ne_eq, undef, Nat.reducePow, Nat.reduceDiv, Nat.reduceMod]
  refine loop_go (fun j e m' => m' = m ∧ ∃ i : Nat, i ≤ ns.length ∧ j = ns.length - i ∧ idxF (fun x => decide (t = x)) 0 ns = idxF (fun x => decide (t = x)) i (ns.drop i) ∧ e = [(0, .slice p ns.length c), (1, U t), (7, I ns.length), (8, I i)]) ns.length ⟨rfl, 0, by omega, rfl, rfl, rfl⟩ ?_
  rintro j e m' N' B' hN hB ⟨rfl, i, hi, rfl, hix, rfl⟩
  by_cases hlt : i < ns.length
  · have hlt' : (i : Int) < (ns.length : Int) := by omega
    obtain ⟨x, hx⟩ : ∃ x, ns[i]? = some x := ⟨_, List.getElem?_eq_getElem hlt⟩
    obtain ⟨a, c', o, hv, ho, hc⟩ := rdu_at h hx
    cases hv
    have w1 : IntKind.i64.wrap ((i : Int) + 1) = ((i + 1 : Nat) : Int) := by rw [wrap_i64 (by omega) (by omega)]; omega
    have hd : ns.drop i = x :: ns.drop (i + 1) := by
      obtain ⟨_, rfl⟩ := List.getElem?_eq_some_iff.1 hx
      exact List.drop_eq_getElem_cons hlt
    rw [hd, idxF] at hix
    by_cases ht : t = x
    · rw [hix] at hQ
      simp only [symA, go_opsd, symB, wantedX, X.put, X.look, Arg.ev, keepOf, restrict, evs, evO, initEnv, xres, tup, noTup, cls, quiet, Nat.reduceAdd, Nat.reduceEqDiff, ↓reduceIte, reduceCtorEq, goInt, exists_eq_left', eq_self, Int.reduceLT, Int.reduceLE, Int.reduceEq, Int.reduceNeg, Int.reduceAdd, Int.reduceSub, forall_const, ne_eq, undef, Nat.reducePow, Nat.reduceDiv, Nat.reduceMod, hlt, hlt', ho, hc, ht]
      exact hQ _ _ _ rfl ⟨by rw [decide_eq_true ht]; rfl, rfl⟩
    · simp only [ht, decide_false, cond_false] at hix
      simp only [symA, go_opsd, symB, wantedX, X.put, X.look, Arg.ev, keepOf, restrict, evs, evO, initEnv, xres, tup, noTup, cls, quiet, Nat.reduceAdd, Nat.reduceEqDiff, ↓reduceIte, reduceCtorEq, goInt, exists_eq_left', eq_self, Int.reduceLT, Int.reduceLE, Int.reduceEq, Int.reduceNeg, Int.reduceAdd, Int.reduceSub, forall_const, ne_eq, undef, Nat.reducePow, Nat.reduceDiv, Nat.reduceMod, hlt, hlt', ho, hc, ht, w1]
      exact hN _ _ (ns.length - (i + 1)) (by omega) ⟨rfl, i + 1, by omega, rfl, hix, rfl⟩
  · have hlt' : ¬ (i : Int) < (ns.length : Int) := by omega
    rw [List.drop_eq_nil_of_le (by omega)] at hix
    rw [hix] at hQ
    simp only [symA, go_opsd, symB, wantedX, X.put, X.look, Arg.ev, keepOf, restrict, evs, evO, initEnv, xres, tup, noTup, cls, quiet, Nat.reduceAdd, Nat.reduceEqDiff, ↓reduceIte, reduceCtorEq, goInt, exists_eq_left', eq_self, Int.reduceLT, Int.reduceLE, Int.reduceEq, Int.reduceNeg, Int.reduceAdd, Int.reduceSub, forall_const, ne_eq, undef, Nat.reducePow, Nat.reduceDiv, Nat.reduceMod, hlt']
    refine hB _ _ _ ?_
    simp only [symA, go_opsd, symB, wantedX, X.put, X.look, Arg.ev, keepOf, restrict, evs, evO, initEnv, xres, tup, noTup, cls, quiet, Nat.reduceAdd, Nat.reduceEqDiff, ↓reduceIte, reduceCtorEq, goInt, exists_eq_left', eq_self, Int.reduceLT, Int.reduceLE, Int.reduceEq, Int.reduceNeg, Int.reduceAdd, Int.reduceSub, forall_const, ne_eq, undef, Nat.reducePow, Nat.reduceDiv, Nat.reduceMod]
    exact hQ _ _ _ rfl ⟨rfl, rfl⟩

def hasL (ns : List Int) (t : Int) : Bool := ns.any fun x => decide (t = x)
theorem hasL_iff : hasL ns t = true ↔ t ∈ ns := by simp [hasL]
theorem contains_spec (h : RdU b m v ns) (hl : ns.length ≤ 4611686018427387903) : Ca 62 [v, U t] m (.bool (hasL ns t)) m := by
  refine callX_of (call_go (F := _) rfl rfl fun Q hQ => ?_)
  rw [hasL, ← idxF_any ns 0] at hQ
  simp only [symA, go_opsd, symB, wantedX, X.put, X.look, Arg.ev, keepOf, restrict, evs, evO, initEnv, xres, tup, noTup, cls, quiet, Nat.reduceAdd, Nat.reduceEqDiff, ↓reduceIte, reduceCtorEq, goInt, exists_eq_left', eq_self, Int.reduceLT, Int.reduceLE, Int.reduceEq, Int.reduceNeg, Int.reduceAdd, Int.reduceSub, forall_const, ne_eq, undef, Nat.reducePow, Nat.reduceDiv, Nat.reduceMod, goR_call (index_spec (t := t) h hl)]
  exact hQ _ _ _ rfl ⟨rfl, rfl⟩
theorem has_spec (h : RdU b m v ns) (hl : ns.length ≤ 4611686018427387903) : Ca 54 [v, U t] m (.bool (hasL ns t)) m := by
  refine callX_of (call_go (F := _) rfl rfl fun Q hQ => ?_)
  simp only [symA, go_opsd, symB, wantedX, X.put, X.look, Arg.ev, keepOf, restrict, evs, evO, initEnv, xres, tup, noTup, cls, quiet, Nat.reduceAdd, Nat.reduceEqDiff, ↓reduceIte, reduceCtorEq, goInt, exists_eq_left', eq_self, Int.reduceLT, Int.reduceLE, Int.reduceEq, Int.reduceNeg, Int.reduceAdd, Int.reduceSub, forall_const, ne_eq, undef, Nat.reducePow, Nat.reduceDiv, Nat.reduceMod, goR_call (contains_spec (t := t) h hl)]
  exact hQ _ _ _ rfl ⟨rfl, rfl⟩

/-! ## With a function -/
abbrev Clo (g : FuncId) (cap : List Value) : Value := .func (.func g) #[] ⟨cap⟩
variable {g : FuncId} {cap : List Value} {q : Int → Bool}
theorem indexF_spec (h : RdU b m v ns) (hl : ns.length ≤ 4611686018427387903) (hf : ∀ x ∈ ns, Ca g ([U x] ++ cap) m (.bool (q x)) m) : Ca 51 [v, Clo g cap] m (I (idxF q 0 ns)) m := by
  refine callX_of (call_go (F := _) rfl rfl fun Q hQ => ?_)
  obtain ⟨p, c, rfl⟩ := rdu_slice h
  simp only [symA, go_opsd, symB, wantedX, X.put, X.look, Arg.ev, keepOf, restrict, evs, evO, initEnv, xres, tup, noTup, cls, quiet, Nat.reduceAdd, Nat.reduceEqDiff, ↓reduceIte, reduceCtorEq, goInt, exists_eq_left', eq_self, Int.reduceLT, Int.reduceLE, Int.reduceEq, Int.reduceNeg, Int.reduceAdd, Int.reduceSub, forall_const, ne_eq, undef, Nat.reducePow, Nat.reduceDiv, Nat.reduceMod]
  refine loop_go (fun j e m' => m' = m ∧ ∃ i : Nat, i ≤ ns.length ∧ j = ns.length - i ∧ idxF q 0 ns = idxF q i (ns.drop i) ∧ e = [(0, .slice p ns.length c), (1, Clo g cap), (7, I ns.length), (8, I i)]) ns.length ⟨rfl, 0, by omega, rfl, rfl, rfl⟩ ?_
  rintro j e m' N' B' hN hB ⟨rfl, i, hi, rfl, hix, rfl⟩
  by_cases hlt : i < ns.length
  · have hlt' : (i : Int) < (ns.length : Int) := by omega
    obtain ⟨x, hx⟩ : ∃ x, ns[i]? = some x := ⟨_, List.getElem?_eq_getElem hlt⟩
    obtain ⟨a, c', o, hv, ho, hc⟩ := rdu_at h hx
    cases hv
    have w1 : IntKind.i64.wrap ((i : Int) + 1) = ((i + 1 : Nat) : Int) := by rw [wrap_i64 (by omega) (by omega)]; omega
    have hd : ns.drop i = x :: ns.drop (i + 1) := by
      obtain ⟨_, rfl⟩ := List.getElem?_eq_some_iff.1 hx
      exact List.drop_eq_getElem_cons hlt
    rw [hd, idxF] at hix
    have hc2 := hf x (List.mem_of_getElem? hx)
    cases hq : q x with
    | true =>
      rw [hq] at hix hc2
      rw [hix] at hQ
      simp only [symA, go_opsd, symB, wantedX, X.put, X.look, Arg.ev, keepOf, restrict, evs, evO, initEnv, xres, tup, noTup, cls, quiet, Nat.reduceAdd, Nat.reduceEqDiff, ↓reduceIte, reduceCtorEq, goInt, exists_eq_left', eq_self, Int.reduceLT, Int.reduceLE, Int.reduceEq, Int.reduceNeg, Int.reduceAdd, Int.reduceSub, forall_const, ne_eq, undef, Nat.reducePow, Nat.reduceDiv, Nat.reduceMod, hlt, hlt', ho, hc, call_clo, goR_call hc2]
      exact hQ _ _ _ rfl ⟨rfl, rfl⟩
    | false =>
      rw [hq] at hix hc2
      simp only [symA, go_opsd, symB, wantedX, X.put, X.look, Arg.ev, keepOf, restrict, evs, evO, initEnv, xres, tup, noTup, cls, quiet, Nat.reduceAdd, Nat.reduceEqDiff, ↓reduceIte, reduceCtorEq, goInt, exists_eq_left', eq_self, Int.reduceLT, Int.reduceLE, Int.reduceEq, Int.reduceNeg, Int.reduceAdd, Int.reduceSub, forall_const, ne_eq, undef, Nat.reducePow, Nat.reduceDiv, Nat.reduceMod, hlt, hlt', ho, hc, call_clo, goR_call hc2, w1]
      exact hN _ _ (ns.length - (i + 1)) (by omega) ⟨rfl, i + 1, by omega, rfl, hix, rfl⟩
  · have hlt' : ¬ (i : Int) < (ns.length : Int) := by omega
    rw [List.drop_eq_nil_of_le (by omega)] at hix
    rw [hix] at hQ
    simp only [symA, go_opsd, symB, wantedX, X.put, X.look, Arg.ev, keepOf, restrict, evs, evO, initEnv, xres, tup, noTup, cls, quiet, Nat.reduceAdd, Nat.reduceEqDiff, ↓reduceIte, reduceCtorEq, goInt, exists_eq_left', eq_self, Int.reduceLT, Int.reduceLE, Int.reduceEq, Int.reduceNeg, Int.reduceAdd, Int.reduceSub, forall_const, ne_eq, undef, Nat.reducePow, Nat.reduceDiv, Nat.reduceMod, hlt']
    refine hB _ _ _ ?_
    simp only [symA, go_opsd, symB, wantedX, X.put, X.look, Arg.ev, keepOf, restrict, evs, evO, initEnv, xres, tup, noTup, cls, quiet, Nat.reduceAdd, Nat.reduceEqDiff, ↓reduceIte, reduceCtorEq, goInt, exists_eq_left', eq_self, Int.reduceLT, Int.reduceLE, Int.reduceEq, Int.reduceNeg, Int.reduceAdd, Int.reduceSub, forall_const, ne_eq, undef, Nat.reducePow, Nat.reduceDiv, Nat.reduceMod]
    exact hQ _ _ _ rfl ⟨rfl, rfl⟩
theorem containsF_spec (h : RdU b m v ns) (hl : ns.length ≤ 4611686018427387903) (hf : ∀ x ∈ ns, Ca g ([U x] ++ cap) m (.bool (q x)) m) : Ca 33 [v, Clo g cap] m (.bool (ns.any q)) m := by
  refine callX_of (call_go (F := _) rfl rfl fun Q hQ => ?_)
  rw [← idxF_any ns 0] at hQ
  simp only [symA, go_opsd, symB, wantedX, X.put, X.look, Arg.ev, keepOf, restrict, evs, evO, initEnv, xres, tup, noTup, cls, quiet, Nat.reduceAdd, Nat.reduceEqDiff, ↓reduceIte, reduceCtorEq, goInt, exists_eq_left', eq_self, Int.reduceLT, Int.reduceLE, Int.reduceEq, Int.reduceNeg, Int.reduceAdd, Int.reduceSub, forall_const, ne_eq, undef, Nat.reducePow, Nat.reduceDiv, Nat.reduceMod, goR_call (indexF_spec h hl hf)]
  exact hQ _ _ _ rfl ⟨rfl, rfl⟩

/-! ## Is it a label? -/
def incL (last : Int) : List Int → Bool
  | [] => true
  | x :: l => decide (last < x) && incL x l
def rightL (ns : List Int) : Bool := decide (ns.length ≤ 6) && incL 0 ns
theorem right_spec (h : RdU b m v ns) (hl : ns.length ≤ 4611686018427387903) : Ca 30 [v] m (.bool (rightL ns)) m := by
  refine callX_of (call_go (F := _) rfl rfl fun Q hQ => ?_)
  obtain ⟨p, c, rfl⟩ := rdu_slice h
  by_cases h6 : (6 : Int) < (ns.length : Int)
  · have e : rightL ns = false := by unfold rightL; rw [decide_eq_false (by omega)]; rfl
    rw [e] at hQ
    simp only [symA, go_opsd, symB, wantedX, X.put, X.look, Arg.ev, keepOf, restrict, evs, evO, initEnv, xres, tup, noTup, cls, quiet, Nat.reduceAdd, Nat.reduceEqDiff, ↓reduceIte, reduceCtorEq, goInt, exists_eq_left', eq_self, Int.reduceLT, Int.reduceLE, Int.reduceEq, Int.reduceNeg, Int.reduceAdd, Int.reduceSub, forall_const, ne_eq, undef, Nat.reducePow, Nat.reduceDiv, Nat.reduceMod, h6]
    exact hQ _ _ _ rfl ⟨rfl, rfl⟩
  · have e : rightL ns = incL 0 ns := by unfold rightL; rw [decide_eq_true (by omega)]; rfl
    rw [e] at hQ
    simp only [symA, go_opsd, symB, wantedX, X.put, X.look, Arg.ev, keepOf, restrict, evs, evO, initEnv, xres, tup, noTup, cls, quiet, Nat.reduceAdd, Nat.reduceEqDiff, ↓reduceIte, reduceCtorEq, goInt, exists_eq_left', eq_self, Int.reduceLT, Int.reduceLE, Int.reduceEq, Int.reduceNeg, Int.reduceAdd, Int.reduceSub, forall_const, ne_eq, undef, Nat.reducePow, Nat.reduceDiv, Nat.reduceMod, h6]
    refine loop_go (fun j e m' => m' = m ∧ ∃ (i : Nat) (last : Int), i ≤ ns.length ∧ j = ns.length - i ∧ incL 0 ns = incL last (ns.drop i) ∧ e = [(3, U last), (9, .slice p ns.length c), (10, I ns.length), (11, I i)]) ns.length ⟨rfl, 0, 0, by omega, rfl, rfl, rfl⟩ ?_
    rintro j e m' N' B' hN hB ⟨rfl, i, last, hi, rfl, hix, rfl⟩
    by_cases hlt : i < ns.length
    · have hlt' : (i : Int) < (ns.length : Int) := by omega
      obtain ⟨x, hx⟩ : ∃ x, ns[i]? = some x := ⟨_, List.getElem?_eq_getElem hlt⟩
      obtain ⟨a, c', o, hv, ho, hc⟩ := rdu_at h hx
      cases hv
      have w1 : IntKind.i64.wrap ((i : Int) + 1) = ((i + 1 : Nat) : Int) := by rw [wrap_i64 (by omega) (by omega)]; omega
      have hd : ns.drop i = x :: ns.drop (i + 1) := by
        obtain ⟨_, rfl⟩ := List.getElem?_eq_some_iff.1 hx
        exact List.drop_eq_getElem_cons hlt
      rw [hd, incL] at hix
      by_cases ht : x ≤ last
      · rw [decide_eq_false (by omega), Bool.false_and] at hix
        rw [hix] at hQ
        simp only [symA, go_opsd, symB, wantedX, X.put, X.look, Arg.ev, keepOf, restrict, evs, evO, initEnv, xres, tup, noTup, cls, quiet, Nat.reduceAdd, Nat.reduceEqDiff, ↓reduceIte, reduceCtorEq, goInt, exists_eq_left', eq_self, Int.reduceLT, Int.reduceLE, Int.reduceEq, Int.reduceNeg, Int.reduceAdd, Int.reduceSub, forall_const, ne_eq, undef, Nat.reducePow, Nat.reduceDiv, Nat.reduceMod, hlt, hlt', ho, hc, ht]
        exact hQ _ _ _ rfl ⟨rfl, rfl⟩
      · rw [decide_eq_true (by omega), Bool.true_and] at hix
        simp only [symA, go_opsd, symB, wantedX, X.put, X.look, Arg.ev, keepOf, restrict, evs, evO, initEnv, xres, tup, noTup, cls, quiet, Nat.reduceAdd, Nat.reduceEqDiff, ↓reduceIte, reduceCtorEq, goInt, exists_eq_left', eq_self, Int.reduceLT, Int.reduceLE, Int.reduceEq, Int.reduceNeg, Int.reduceAdd, Int.reduceSub, forall_const, ne_eq, undef, Nat.reducePow, Nat.reduceDiv, Nat.reduceMod, hlt, hlt', ho, hc, ht, w1]
        exact hN _ _ (ns.length - (i + 1)) (by omega) ⟨rfl, i + 1, x, by omega, rfl, hix, rfl⟩
    · have hlt' : ¬ (i : Int) < (ns.length : Int) := by omega
      rw [List.drop_eq_nil_of_le (by omega)] at hix
      rw [hix] at hQ
      simp only [symA, go_opsd, symB, wantedX, X.put, X.look, Arg.ev, keepOf, restrict, evs, evO, initEnv, xres, tup, noTup, cls, quiet, Nat.reduceAdd, Nat.reduceEqDiff, ↓reduceIte, reduceCtorEq, goInt, exists_eq_left', eq_self, Int.reduceLT, Int.reduceLE, Int.reduceEq, Int.reduceNeg, Int.reduceAdd, Int.reduceSub, forall_const, ne_eq, undef, Nat.reducePow, Nat.reduceDiv, Nat.reduceMod, hlt']
      refine hB _ _ _ ?_
      simp only [symA, go_opsd, symB, wantedX, X.put, X.look, Arg.ev, keepOf, restrict, evs, evO, initEnv, xres, tup, noTup, cls, quiet, Nat.reduceAdd, Nat.reduceEqDiff, ↓reduceIte, reduceCtorEq, goInt, exists_eq_left', eq_self, Int.reduceLT, Int.reduceLE, Int.reduceEq, Int.reduceNeg, Int.reduceAdd, Int.reduceSub, forall_const, ne_eq, undef, Nat.reducePow, Nat.reduceDiv, Nat.reduceMod]
      exact hQ _ _ _ rfl ⟨rfl, rfl⟩
theorem right_len (h : rightL ns = true) : ns.length ≤ 6 := by
  unfold rightL at h
  rw [Bool.and_eq_true, decide_eq_true_eq] at h
  exact h.1

/-! ## A copy -/
theorem clone_spec (h : RdU b m v ns) (hb : b ≤ m.next) (hl : ns.length ≤ 1000000) : ∃ v' m' F, Ca 60 [v] m v' m' ∧ Own2 1 F m' v' (rowsU ns) ∧ Nx m m' ∧ ∀ i ∈ F, m.next ≤ i := by
  obtain ⟨p, c, rfl⟩ := rdu_slice h
  cases p with
  | none =>
    have h0 : ns = [] := by
      cases ns with
      | nil => rfl
      | cons x l =>
        obtain ⟨a, c', o, hv, _⟩ := rdu_at h (i := 0) rfl
        cases hv
    subst h0
    refine ⟨.slice none 0 0, m, [], callX_of (call_go (F := _) rfl rfl fun Q hQ => ?_), Own2.nil, .refl, by simp⟩
    simp only [symA, go_opsd, symB, wantedX, X.put, X.look, Arg.ev, keepOf, restrict, evs, evO, initEnv, xres, tup, noTup, cls, quiet, Nat.reduceAdd, Nat.reduceEqDiff, ↓reduceIte, reduceCtorEq, goInt, exists_eq_left', eq_self, Int.reduceLT, Int.reduceLE, Int.reduceEq, Int.reduceNeg, Int.reduceAdd, Int.reduceSub, forall_const, ne_eq, undef, Nat.reducePow, Nat.reduceDiv, Nat.reduceMod]
    exact hQ _ _ _ rfl ⟨rfl, rfl⟩
  | some a =>
    obtain ⟨m1, hm1⟩ : ∃ m1, m.push { cells := [], rw := true, spare := none, kin := [] } = m1 := ⟨_, rfl⟩
    have f1 : Nx m m1 := hm1 ▸ .push
    have hn1 : m1.next = m.next + 1 := by rw [← hm1]; simp
    obtain ⟨v', m', F, k1, k2, k3, k4⟩ := append_all (bytes := 8) (zero := [U 0]) (s := .slice (some ⟨m.next, 0, none⟩) 0 0) (.inr ⟨_, rfl⟩) (h.fr f1 hb (fun _ h => h.elim)) rfl (by omega) (by simp only [List.length_map]; omega) (by simp only [List.length_map]; omega)
    refine ⟨v', m', F, callX_of (call_go (F := _) rfl rfl fun Q hQ => ?_), k2, f1.trans k3, fun i hi => by have := k4 i hi; omega⟩
    simp only [symA, go_opsd, symB, wantedX, X.put, X.look, Arg.ev, keepOf, restrict, evs, evO, initEnv, xres, tup, noTup, cls, quiet, Nat.reduceAdd, Nat.reduceEqDiff, ↓reduceIte, reduceCtorEq, goInt, exists_eq_left', eq_self, Int.reduceLT, Int.reduceLE, Int.reduceEq, Int.reduceNeg, Int.reduceAdd, Int.reduceSub, forall_const, ne_eq, undef, Nat.reducePow, Nat.reduceDiv, Nat.reduceMod, buildSlice_zero, hm1, k1]
    exact hQ _ _ _ rfl ⟨rfl, rfl⟩

/-! ## Some are deleted -/
theorem filter_none {p : Int → Bool} {l : List Int} (h : ∀ x ∈ l, p x = false) : l.filter (fun x => !p x) = l := by
  rw [List.filter_eq_self]
  intro x hx
  rw [h x hx]; rfl
theorem take_filter {p : Int → Bool} {j : Nat} {x : Int} (hx : ns[j]? = some x) : (ns.take (j + 1)).filter (fun x => !p x) = (ns.take j).filter (fun x => !p x) ++ bif p x then [] else [x] := by
  rw [List.take_add_one, hx, List.filter_append]
  congr 1
  cases h : p x <;> simp [h]

theorem deleteF_spec {F : List Nat} (h : Own2 1 F m v (rowsU ns)) (hl : ns.length ≤ 1000000) (hf : ∀ m', Fm (· ∈ F) m m' → ∀ x, Ca g ([U x] ++ cap) m' (.bool (q x)) m') :
    ∃ v' m', Ca 59 [v, Clo g cap] m v' m' ∧ Own2 1 F m' v' (rowsU (ns.filter fun x => !q x)) ∧ Fm (· ∈ F) m m' := by
  have hr : RdU m.next m v ns := h.rd (by omega)
  have hi := indexF_spec (q := q) hr (by omega) (fun x _ => hf m .refl x)
  rcases idxF_cases (p := q) ns 0 with ⟨h1, h2⟩ | ⟨i0, x0, h1, h2, h3, h4⟩
  · rw [h1] at hi
    refine ⟨v, m, callX_of (call_go (F := _) rfl rfl fun Q hQ => ?_), by rw [filter_none h2]; exact h, .refl⟩
    simp only [symA, go_opsd, symB, wantedX, X.put, X.look, Arg.ev, keepOf, restrict, evs, evO, initEnv, xres, tup, noTup, cls, quiet, Nat.reduceAdd, Nat.reduceEqDiff, ↓reduceIte, reduceCtorEq, goInt, exists_eq_left', eq_self, Int.reduceLT, Int.reduceLE, Int.reduceEq, Int.reduceNeg, Int.reduceAdd, Int.reduceSub, forall_const, ne_eq, undef, Nat.reducePow, Nat.reduceDiv, Nat.reduceMod, goR_call hi]
    exact hQ _ _ _ rfl ⟨rfl, rfl⟩
  · rw [h1, Nat.zero_add] at hi
    have hi0 : i0 < ns.length := (List.getElem?_eq_some_iff.1 h2).1
    have ho : OwnS 1 F m v ns.length (ns.map U) := by
      obtain ⟨_, h | ⟨h, _⟩⟩ := h
      · rw [rowsU_flat, List.length_map] at h; exact h
      · rw [List.map_eq_nil_iff] at h; subst h; simp at hi0
    have hne : ¬ ((i0 : Nat) : Int) = -1 := by omega
    have w0 : IntKind.i64.wrap ((i0 : Int) + 1) = ((i0 + 1 : Nat) : Int) := by rw [wrap_i64 (by omega) (by omega)]; omega
    obtain ⟨p, c, rfl⟩ := rdu_slice hr
    have key : Wc 59 [.slice p ns.length c, Clo g cap] m fun v' m' => Own2 1 F m' v' (rowsU (ns.filter fun x => !q x)) ∧ Fm (· ∈ F) m m' := by
      refine call_go (F := _) rfl rfl fun Q hQ => ?_
      simp only [symA, go_opsd, symB, wantedX, X.put, X.look, Arg.ev, keepOf, restrict, evs, evO, initEnv, xres, tup, noTup, cls, quiet, Nat.reduceAdd, Nat.reduceEqDiff, ↓reduceIte, reduceCtorEq, goInt, exists_eq_left', eq_self, Int.reduceLT, Int.reduceLE, Int.reduceEq, Int.reduceNeg, Int.reduceAdd, Int.reduceSub, forall_const, ne_eq, undef, Nat.reducePow, Nat.reduceDiv, Nat.reduceMod, goR_call hi, hne, w0]
      refine loop_go (fun k e m' => Fm (· ∈ F) m m' ∧ ∃ (i j : Nat) (xs : List Int), i < j ∧ j ≤ ns.length ∧ k = ns.length - j ∧ xs.length = ns.length ∧ OwnS 1 F m' (.slice p ns.length c) ns.length (xs.map U) ∧ xs.take i = (ns.take j).filter (fun x => !q x) ∧ xs.drop j = ns.drop j ∧
        e = [(0, .slice p ns.length c), (1, Clo g cap), (5, I i), (6, I j)]) (ns.length - (i0 + 1)) ⟨.refl, i0, i0 + 1, ns, by omega, by omega, rfl, rfl, ho, by rw [take_filter h2, h3, filter_none h4]; simp, rfl, rfl⟩ ?_
      rintro k e m1 N' B' hN hB ⟨hfm, i, j, xs, hij, hj, rfl, hxl, ho1, ht, hd, rfl⟩
      by_cases hlt : j < ns.length
      · have hlt' : (j : Int) < (ns.length : Int) := by omega
        obtain ⟨x, hx⟩ : ∃ x, ns[j]? = some x := ⟨_, List.getElem?_eq_getElem hlt⟩
        have hxj : xs[j]? = some x := by
          have e1 : (xs.drop j)[0]? = (ns.drop j)[0]? := by rw [hd]
          rw [List.getElem?_drop, List.getElem?_drop, Nat.add_zero] at e1
          rw [e1, hx]
        have hd1 : xs.drop (j + 1) = ns.drop (j + 1) := by
          have e1 : (xs.drop j).drop 1 = (ns.drop j).drop 1 := by rw [hd]
          rwa [List.drop_drop, List.drop_drop] at e1
        obtain ⟨id, o, cp, hv, hg, hc⟩ := ho1.at1 (i := j) (x := U x) (by simp [hxj])
        cases hv
        have hc2 := hf m1 hfm x
        have w1 : IntKind.i64.wrap ((j : Int) + 1) = ((j + 1 : Nat) : Int) := by rw [wrap_i64 (by omega) (by omega)]; omega
        have w2 : IntKind.i64.wrap ((i : Int) + 1) = ((i + 1 : Nat) : Int) := by rw [wrap_i64 (by omega) (by omega)]; omega
        cases hq : q x with
        | true =>
          rw [hq] at hc2
          simp only [symA, go_opsd, symB, wantedX, X.put, X.look, Arg.ev, keepOf, restrict, evs, evO, initEnv, xres, tup, noTup, cls, quiet, Nat.reduceAdd, Nat.reduceEqDiff, ↓reduceIte, reduceCtorEq, goInt, exists_eq_left', eq_self, Int.reduceLT, Int.reduceLE, Int.reduceEq, Int.reduceNeg, Int.reduceAdd, Int.reduceSub, forall_const, ne_eq, undef, Nat.reducePow, Nat.reduceDiv, Nat.reduceMod, hlt, hlt', hg, hc, call_clo, goR_call hc2, w1]
          exact hN _ _ (ns.length - (j + 1)) (by omega) ⟨hfm, i, j + 1, xs, by omega, by omega, rfl, hxl, ho1, by rw [take_filter hx, hq]; simpa using ht, hd1, rfl⟩
        | false =>
          rw [hq] at hc2
          obtain ⟨id', cp', m2, hv, hst, ho2, hf2⟩ := ho1.set1 (i := i) (by omega) (x := U x) rfl rfl
          cases hv
          have hil : i < ns.length := by omega
          simp only [symA, go_opsd, symB, wantedX, X.put, X.look, Arg.ev, keepOf, restrict, evs, evO, initEnv, xres, tup, noTup, cls, quiet, Nat.reduceAdd, Nat.reduceEqDiff, ↓reduceIte, reduceCtorEq, goInt, exists_eq_left', eq_self, Int.reduceLT, Int.reduceLE, Int.reduceEq, Int.reduceNeg, Int.reduceAdd, Int.reduceSub, forall_const, ne_eq, undef, Nat.reducePow, Nat.reduceDiv, Nat.reduceMod, hlt, hlt', hil, hg, hc, call_clo, goR_call hc2, hst, w1, w2]
          refine hN _ _ (ns.length - (j + 1)) (by omega) ⟨hfm.trans hf2, i + 1, j + 1, xs.set i x, by omega, by omega, rfl, by simpa using hxl, by rw [List.map_set]; exact ho2, ?_, by rw [List.drop_set_of_lt (by omega)]; exact hd1, rfl⟩
          rw [take_filter hx, hq, ← ht, List.take_add_one, List.take_set_of_le (Nat.le_refl _), List.getElem?_set_self (by omega)]
          rfl
      · have hlt' : ¬ (j : Int) < (ns.length : Int) := by omega
        have hje : j = ns.length := by omega
        subst hje
        obtain ⟨id, o, cp, m2, o2, hv, hg, hs, hic, hcl, hg2, hs2, ho2, hf2⟩ := ho1.cut1 (zero := U 0) (by omega) (i := i) (by omega)
        cases hv
        have s1 := slice_lo (off := 0) (n := ns.length) (cap := c) (k := i) (kd := .i64) hg hs (by omega)
        have s2 := slice_hi (off := 0) (n := ns.length) (cap := c) (k := i) (kd := .i64) hg2 hs2 hic
        simp only [Nat.zero_add, Nat.mul_one] at s1
        simp only [symA, go_opsd, symB, wantedX, X.put, X.look, Arg.ev, keepOf, restrict, evs, evO, initEnv, xres, tup, noTup, cls, quiet, Nat.reduceAdd, Nat.reduceEqDiff, ↓reduceIte, reduceCtorEq, goInt, exists_eq_left', eq_self, Int.reduceLT, Int.reduceLE, Int.reduceEq, Int.reduceNeg, Int.reduceAdd, Int.reduceSub, forall_const, ne_eq, undef, Nat.reducePow, Nat.reduceDiv, Nat.reduceMod, hlt']
        refine hB _ _ _ ?_
        simp only [symA, go_opsd, symB, wantedX, X.put, X.look, Arg.ev, keepOf, restrict, evs, evO, initEnv, xres, tup, noTup, cls, quiet, Nat.reduceAdd, Nat.reduceEqDiff, ↓reduceIte, reduceCtorEq, goInt, exists_eq_left', eq_self, Int.reduceLT, Int.reduceLE, Int.reduceEq, Int.reduceNeg, Int.reduceAdd, Int.reduceSub, forall_const, ne_eq, undef, Nat.reducePow, Nat.reduceDiv, Nat.reduceMod, s1, hcl, s2]
        refine hQ _ _ _ rfl ⟨?_, hfm.trans hf2⟩
        have e1 : (xs.map U).take i = ((ns.filter fun x => !q x)).map U := by rw [← List.map_take, ht, List.take_length]
        have e2 : (ns.filter fun x => !q x).length = i := by rw [← List.take_length (l := ns), ← ht, List.length_take]; omega
        refine ⟨fun r hr => by obtain ⟨y, _, rfl⟩ := List.mem_map.1 hr; rfl, .inl ?_⟩
        rw [rowsU_flat, List.length_map, ← e1, e2]
        exact ho2
    obtain ⟨v', m', k1, k2, k3⟩ := key
    exact ⟨v', m', k1, k2, k3⟩

/-! ## The tags of the one alone -/
theorem bin_bneq {m : Mem} {a b : Bool} : binE Try.prog .neq 4 (.bool a) (.bool b) m = some (.val (.bool (a != b)) m) := by
  cases a <;> cases b <;> kernel_rfl
theorem kept1_spec {x y : Nat} {t : Int} {vb : Value} {bs : List Int} (h : RdU b m vb bs) (hl : bs.length ≤ 4611686018427387903) (h1 : m.get x = some { cells := [vb], rw := true, spare := none, kin := [] }) (h2 : m.get y = some { cells := [.bool false], rw := true, spare := none, kin := [] }) :
    Ca 61 [U t, Pt x, Pt y] m (.bool (hasL bs t)) m := by
  refine callX_of (call_go (F := _) rfl rfl fun Q hQ => ?_)
  obtain ⟨p, c, rfl⟩ := rdu_slice h
  have e : (hasL bs t != false) = hasL bs t := by cases hasL bs t <;> rfl
  rw [← e] at hQ
  simp only [symA, go_opsd, symB, wantedX, X.put, X.look, Arg.ev, keepOf, restrict, evs, evO, initEnv, xres, tup, noTup, cls, quiet, Nat.reduceAdd, Nat.reduceEqDiff, ↓reduceIte, reduceCtorEq, goInt, exists_eq_left', eq_self, Int.reduceLT, Int.reduceLE, Int.reduceEq, Int.reduceNeg, Int.reduceAdd, Int.reduceSub, forall_const, ne_eq, undef, Nat.reducePow, Nat.reduceDiv, Nat.reduceMod, h1, h2, goDV3c (has_spec (t := t) h hl), bin_bneq]
  exact hQ _ _ _ rfl ⟨rfl, rfl⟩

def lessL (a b : List Int) : List Int := bif rightL a && rightL b then a.filter (fun x => !hasL b x) else []
theorem keptB_spec {va vb : Value} {us bs : List Int} (ha : RdU b m va us) (hb : RdU b m vb bs) (hm : b ≤ m.next) (hla : us.length ≤ 4611686018427387903) (hlb : bs.length ≤ 4611686018427387903) :
    ∃ v' m', Ca 52 [va, vb, .bool false] m v' m' ∧ RdU m'.next m' v' (lessL us bs) ∧ Nx m m' ∧ ∀ (a : Addr) (n c : Nat), v' = .slice (some a) n c → n ≠ 0 → m.next ≤ a.block := by
  obtain ⟨m0, hm0⟩ : ∃ m0, (m.push { cells := [vb], rw := true, spare := none, kin := [] }).push { cells := [.bool false], rw := true, spare := none, kin := [] } = m0 := ⟨_, rfl⟩
  have g1 : m0.get m.next = some { cells := [vb], rw := true, spare := none, kin := [] } := by rw [← hm0]; simp [Mem.get_push]
  have g2 : m0.get (m.next + 1) = some { cells := [.bool false], rw := true, spare := none, kin := [] } := by rw [← hm0]; simp [Mem.get_push]
  have f0 : Nx m m0 := hm0 ▸ Fm.trans .push .push
  have hn0 : m0.next = m.next + 2 := by rw [← hm0]; simp
  have ha0 := ha.fr f0 hm (fun _ h => h.elim)
  have hb0 := hb.fr f0 hm (fun _ h => h.elim)
  obtain ⟨pb, cb, rfl⟩ := rdu_slice hb
  cases hra : rightL us with
  | false =>
    refine ⟨.slice none 0 0, m0, callX_of (call_go (F := _) rfl rfl fun Q hQ => ?_), by unfold lessL; rw [hra]; exact .nil, f0, fun _ _ _ h => nomatch h⟩
    have r1 := right_spec ha0 hla
    rw [hra] at r1
    simp only [symA, go_opsd, symB, wantedX, X.put, X.look, Arg.ev, keepOf, restrict, evs, evO, initEnv, xres, tup, noTup, cls, quiet, Nat.reduceAdd, Nat.reduceEqDiff, ↓reduceIte, reduceCtorEq, goInt, exists_eq_left', eq_self, Int.reduceLT, Int.reduceLE, Int.reduceEq, Int.reduceNeg, Int.reduceAdd, Int.reduceSub, forall_const, ne_eq, undef, Nat.reducePow, Nat.reduceDiv, Nat.reduceMod, hm0, g1, g2, goR_call r1]
    exact hQ _ _ _ rfl ⟨rfl, rfl⟩
  | true =>
    have r1 := right_spec ha0 hla
    have r2 := right_spec hb0 hlb
    rw [hra] at r1
    cases hrb : rightL bs with
    | false =>
      refine ⟨.slice none 0 0, m0, callX_of (call_go (F := _) rfl rfl fun Q hQ => ?_), by unfold lessL; rw [hra, hrb]; exact .nil, f0, fun _ _ _ h => nomatch h⟩
      rw [hrb] at r2
      simp only [symA, go_opsd, symB, wantedX, X.put, X.look, Arg.ev, keepOf, restrict, evs, evO, initEnv, xres, tup, noTup, cls, quiet, Nat.reduceAdd, Nat.reduceEqDiff, ↓reduceIte, reduceCtorEq, goInt, exists_eq_left', eq_self, Int.reduceLT, Int.reduceLE, Int.reduceEq, Int.reduceNeg, Int.reduceAdd, Int.reduceSub, forall_const, ne_eq, undef, Nat.reducePow, Nat.reduceDiv, Nat.reduceMod, hm0, g1, g2, goR_call r1, goR_call r2]
      exact hQ _ _ _ rfl ⟨rfl, rfl⟩
    | true =>
      rw [hrb] at r2
      have h6 := right_len hra
      obtain ⟨v1, m1, F, c1, c2, c3, c4⟩ := clone_spec ha0 (by omega) (by omega)
      have hb1 := hb0.fr c3 (by omega) (fun _ h => h.elim)
      have hin : ∀ i ∈ F, m.next + 2 ≤ i := fun i hi => by have := c4 i hi; omega
      have hn1 := c3.next
      obtain ⟨v2, m2, d1, d2, d3⟩ := deleteF_spec (g := 61) (cap := [Pt m.next, Pt (m.next + 1)]) (q := hasL bs) c2 (by omega) (fun m' hm' x =>
        kept1_spec (b := b) (hb1.fr hm' (by omega) (fun i hi => by have := hin i hi; omega)) hlb
          (hm'.get (by omega) (fun hi => by have := hin _ hi; omega) (c3.get (by omega) (fun h => h) g1))
          (hm'.get (by omega) (fun hi => by have := hin _ hi; omega) (c3.get (by omega) (fun h => h) g2)))
      refine ⟨v2, m2, callX_of (call_go (F := _) rfl rfl fun Q hQ => ?_), by unfold lessL; rw [hra, hrb]; exact d2.rd (by omega), f0.comp (c3.comp d3 (fun i hi h => by have := hin i h; omega) : Fm (fun _ => False) m0 m2) (fun _ _ h => h), fun a n c hv hn => by have := hin _ (Own3.block (.inl d2) hv hn); omega⟩
      simp only [symA, go_opsd, symB, wantedX, X.put, X.look, Arg.ev, keepOf, restrict, evs, evO, initEnv, xres, tup, noTup, cls, quiet, Nat.reduceAdd, Nat.reduceEqDiff, ↓reduceIte, reduceCtorEq, goInt, exists_eq_left', eq_self, Int.reduceLT, Int.reduceLE, Int.reduceEq, Int.reduceNeg, Int.reduceAdd, Int.reduceSub, forall_const, ne_eq, undef, Nat.reducePow, Nat.reduceDiv, Nat.reduceMod, hm0, g1, g2, goR_call r1, goR_call r2, goR_call c1, makeFunc_two, goR_call d1]
      exact hQ _ _ _ rfl ⟨rfl, rfl⟩
theorem kept_spec {va vb : Value} {us bs : List Int} (ha : RdU b m va us) (hb : RdU b m vb bs) (hm : b ≤ m.next) (hla : us.length ≤ 4611686018427387903) (hlb : bs.length ≤ 4611686018427387903) :
    ∃ v' m', Ca 52 [va, vb, .bool false] m v' m' ∧ RdU m'.next m' v' (lessL us bs) ∧ Nx m m' := by
  obtain ⟨v', m', k1, k2, k3, _⟩ := keptB_spec ha hb hm hla hlb
  exact ⟨v', m', k1, k2, k3⟩
theorem lessB_spec {va vb : Value} {us bs : List Int} (ha : RdU b m va us) (hb : RdU b m vb bs) (hm : b ≤ m.next) (hla : us.length ≤ 4611686018427387903) (hlb : bs.length ≤ 4611686018427387903) :
    ∃ v' m', Ca 34 [va, vb] m v' m' ∧ RdU m'.next m' v' (lessL us bs) ∧ Nx m m' ∧ ∀ (a : Addr) (n c : Nat), v' = .slice (some a) n c → n ≠ 0 → m.next ≤ a.block := by
  obtain ⟨v', m', k1, k2, k3, k4⟩ := keptB_spec ha hb hm hla hlb
  refine ⟨v', m', callX_of (call_go (F := _) rfl rfl fun Q hQ => ?_), k2, k3, k4⟩
  simp only [symA, go_opsd, symB, wantedX, X.put, X.look, Arg.ev, keepOf, restrict, evs, evO, initEnv, xres, tup, noTup, cls, quiet, Nat.reduceAdd, Nat.reduceEqDiff, ↓reduceIte, reduceCtorEq, goInt, exists_eq_left', eq_self, Int.reduceLT, Int.reduceLE, Int.reduceEq, Int.reduceNeg, Int.reduceAdd, Int.reduceSub, forall_const, ne_eq, undef, Nat.reducePow, Nat.reduceDiv, Nat.reduceMod, goR_call k1]
  exact hQ _ _ _ rfl ⟨rfl, rfl⟩
theorem less_spec {va vb : Value} {us bs : List Int} (ha : RdU b m va us) (hb : RdU b m vb bs) (hm : b ≤ m.next) (hla : us.length ≤ 4611686018427387903) (hlb : bs.length ≤ 4611686018427387903) :
    ∃ v' m', Ca 34 [va, vb] m v' m' ∧ RdU m'.next m' v' (lessL us bs) ∧ Nx m m' := by
  obtain ⟨v', m', k1, k2, k3⟩ := kept_spec ha hb hm hla hlb
  refine ⟨v', m', callX_of (call_go (F := _) rfl rfl fun Q hQ => ?_), k2, k3⟩
  simp only [symA, go_opsd, symB, wantedX, X.put, X.look, Arg.ev, keepOf, restrict, evs, evO, initEnv, xres, tup, noTup, cls, quiet, Nat.reduceAdd, Nat.reduceEqDiff, ↓reduceIte, reduceCtorEq, goInt, exists_eq_left', eq_self, Int.reduceLT, Int.reduceLE, Int.reduceEq, Int.reduceNeg, Int.reduceAdd, Int.reduceSub, forall_const, ne_eq, undef, Nat.reducePow, Nat.reduceDiv, Nat.reduceMod, goR_call k1]
  exact hQ _ _ _ rfl ⟨rfl, rfl⟩
end
end Go.Proofs.Ytfjeccaffenngaa
