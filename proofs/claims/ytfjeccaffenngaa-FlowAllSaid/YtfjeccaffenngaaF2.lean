/-
  Own work. What the functions of rights come to, and who comes from a label to another one, whatever the data.
-/
import Derived.Test.YtfjeccaffenngaaF1
namespace Go.Proofs.Ytfjeccaffenngaa
open Go X
set_option maxRecDepth 100000
set_option linter.unusedVariables false
set_option linter.unusedSimpArgs false

/-! ## Sets of tags -/
def bitN (t : Int) : Nat := if 1 ≤ t ∧ t ≤ 16 then 2 ^ (t - 1).toNat else 0
def hasM (x : Nat) (t : Int) : Bool := decide (x &&& bitN t ≠ 0)
theorem bitN_lt (t : Int) : bitN t < 65536 := by
  unfold bitN
  split
  · have : (t - 1).toNat < 16 := by omega
    exact (Nat.pow_lt_pow_right (a := 2) (by decide) this : 2 ^ (t - 1).toNat < 2 ^ 16)
  · decide
theorem bit_spec {m : Mem} {t : Int} : Ca 38 [U t] m (U (bitN t : Nat)) m := by
  refine callX_of (call_go (F := _) rfl rfl fun Q hQ => ?_)
  by_cases h1 : t < 1
  · have e : bitN t = 0 := by unfold bitN; rw [if_neg (by omega)]
    rw [e] at hQ
    simp only [symA, go_opsd, symB, wantedX, X.put, X.look, Arg.ev, keepOf, restrict, evs, evO, initEnv, xres, tup, noTup, cls, quiet, Nat.reduceAdd, Nat.reduceEqDiff, ↓reduceIte, reduceCtorEq, goInt, exists_eq_left', eq_self, Int.reduceLT, Int.reduceLE, Int.reduceEq, Int.reduceNeg, Int.reduceAdd, Int.reduceSub, forall_const, ne_eq, undef, Nat.reducePow, Nat.reduceDiv, Nat.reduceMod, h1]
    exact hQ _ _ _ rfl ⟨rfl, rfl⟩
  · by_cases h2 : 16 < t
    · have e : bitN t = 0 := by unfold bitN; rw [if_neg (by omega)]
      rw [e] at hQ
      simp only [symA, go_opsd, symB, wantedX, X.put, X.look, Arg.ev, keepOf, restrict, evs, evO, initEnv, xres, tup, noTup, cls, quiet, Nat.reduceAdd, Nat.reduceEqDiff, ↓reduceIte, reduceCtorEq, goInt, exists_eq_left', eq_self, Int.reduceLT, Int.reduceLE, Int.reduceEq, Int.reduceNeg, Int.reduceAdd, Int.reduceSub, forall_const, ne_eq, undef, Nat.reducePow, Nat.reduceDiv, Nat.reduceMod, h1, h2]
      exact hQ _ _ _ rfl ⟨rfl, rfl⟩
    · have e : bitN t = 2 ^ (t - 1).toNat := by unfold bitN; rw [if_pos (by omega)]
      rw [e] at hQ
      have w : IntKind.u64.wrap (t - 1) = (((t - 1).toNat : Nat) : Int) := by rw [wrap_u64 (by omega) (by omega)]; omega
      have hk : (t - 1).toNat < 16 := by omega
      simp only [symA, go_opsd, symB, wantedX, X.put, X.look, Arg.ev, keepOf, restrict, evs, evO, initEnv, xres, tup, noTup, cls, quiet, Nat.reduceAdd, Nat.reduceEqDiff, ↓reduceIte, reduceCtorEq, goInt, exists_eq_left', eq_self, Int.reduceLT, Int.reduceLE, Int.reduceEq, Int.reduceNeg, Int.reduceAdd, Int.reduceSub, forall_const, ne_eq, undef, Nat.reducePow, Nat.reduceDiv, Nat.reduceMod, h1, h2, w, bin_shl1 hk]
      exact hQ _ _ _ rfl ⟨rfl, rfl⟩
theorem mhas_spec {m : Mem} {x : Nat} {t : Int} (hx : x < 65536) : Ca 50 [U (x : Int), U t] m (.bool (hasM x t)) m := by
  refine callX_of (call_go (F := _) rfl rfl fun Q hQ => ?_)
  have hb := bitN_lt t
  have ha : ∀ m : Mem, binE Try.prog .and 76 (U (x : Int)) (U (bitN t : Nat)) m = some (.val (U ((x &&& bitN t : Nat) : Int)) m) := fun m => bin_and (by omega) (by omega)
  have e : hasM x t = decide (((x &&& bitN t : Nat) : Int) ≠ 0) := by unfold hasM; exact decide_eq_decide.2 (by omega)
  rw [e] at hQ
  simp only [symA, go_opsd, symB, wantedX, X.put, X.look, Arg.ev, keepOf, restrict, evs, evO, initEnv, xres, tup, noTup, cls, quiet, Nat.reduceAdd, Nat.reduceEqDiff, ↓reduceIte, reduceCtorEq, goInt, exists_eq_left', eq_self, Int.reduceLT, Int.reduceLE, Int.reduceEq, Int.reduceNeg, Int.reduceAdd, Int.reduceSub, forall_const, ne_eq, undef, Nat.reducePow, Nat.reduceDiv, Nat.reduceMod, goR_call bit_spec, ha]
  exact hQ _ _ _ rfl ⟨rfl, by simp⟩

/-! ## The table -/
structure Tb where
  tags : Nat
  l : List (Nat × Nat)
structure Tb.Wf (T : Tb) : Prop where
  tags : T.tags ≤ 16
  lo : 1 ≤ T.l.length
  hi : T.l.length ≤ 8
  masks : ∀ p ∈ T.l, p.1 < 65536 ∧ p.2 < 65536
def cellsR : List (Nat × Nat) → List Value
  | [] => []
  | p :: l => U (p.1 : Int) :: U (p.2 : Int) :: cellsR l
theorem cellsR_at : ∀ {l : List (Nat × Nat)} {i : Nat} {p : Nat × Nat}, l[i]? = some p → (cellsR l)[i * 2]? = some (U (p.1 : Int)) ∧ (cellsR l)[i * 2 + 1]? = some (U (p.2 : Int))
  | [], i, p, h => by simp at h
  | q :: l, 0, p, h => by
    simp only [List.getElem?_cons_zero, Option.some.injEq] at h
    subst h
    exact ⟨rfl, rfl⟩
  | q :: l, i + 1, p, h => by
    simp only [List.getElem?_cons_succ] at h
    have := cellsR_at h
    rw [show (i + 1) * 2 = i * 2 + 1 + 1 by omega]
    exact this
abbrev tabO (T : Tb) (r : Nat) : XObj := { cells := [I (T.tags : Int), .slice (some ⟨r, 0, none⟩) T.l.length T.l.length], rw := true, spare := none, kin := [] }
abbrev rowO (T : Tb) : XObj := { cells := cellsR T.l, rw := true, spare := none, kin := [] }
/-- A table stands there. -/
structure TabAt (m : Mem) (t r : Nat) (T : Tb) : Prop where
  ne : t ≠ r
  lt : t < m.next
  lr : r < m.next
  gt : m.get t = some (tabO T r)
  gr : m.get r = some (rowO T)
theorem TabAt.fr {m m' : Mem} {S : Nat → Prop} {t r : Nat} {T : Tb} (h : TabAt m t r T) (hf : Fm S m m') (h1 : ¬ S t) (h2 : ¬ S r) : TabAt m' t r T :=
  ⟨h.ne, Nat.lt_of_lt_of_le h.lt hf.next, Nat.lt_of_lt_of_le h.lr hf.next, hf.get h.lt h1 h.gt, hf.get h.lr h2 h.gr⟩
theorem TabAt.nx {m m' : Mem} {t r : Nat} {T : Tb} (h : TabAt m t r T) (hf : Nx m m') : TabAt m' t r T := h.fr hf (fun h => h) (fun h => h)

def oneB (T : Tb) (who : Int) : Bool := decide (0 ≤ who) && decide (who < T.l.length)
def plusOf (T : Tb) (who : Int) : Nat := (T.l[who.toNat]?.getD (0, 0)).1
def minusOf (T : Tb) (who : Int) : Nat := (T.l[who.toNat]?.getD (0, 0)).2
def mayDrop (T : Tb) (who : Int) (x : Int) : Bool := oneB T who && hasM (minusOf T who) x

theorem oneB_cases (T : Tb) (who : Int) : oneB T who = false ∨ (oneB T who = true ∧ ∃ (i : Nat) (p : Nat × Nat), who = (i : Int) ∧ i < T.l.length ∧ T.l[i]? = some p ∧ p ∈ T.l ∧ plusOf T who = p.1 ∧ minusOf T who = p.2) := by
  by_cases h : 0 ≤ who ∧ who < T.l.length
  · right
    obtain ⟨i, rfl⟩ := Int.eq_ofNat_of_zero_le h.1
    have hi : i < T.l.length := by have := h.2; omega
    have hp : T.l[i]? = some T.l[i] := List.getElem?_eq_getElem hi
    refine ⟨by unfold oneB; rw [decide_eq_true h.1, decide_eq_true h.2]; rfl, i, T.l[i], rfl, hi, hp, List.getElem_mem hi, ?_, ?_⟩
    · show (T.l[(i : Int).toNat]?.getD (0, 0)).1 = _
      rw [Int.toNat_natCast, hp]; rfl
    · show (T.l[(i : Int).toNat]?.getD (0, 0)).2 = _
      rw [Int.toNat_natCast, hp]; rfl
  · left
    unfold oneB
    by_cases h1 : 0 ≤ who
    · rw [decide_eq_false (p := who < (T.l.length : Int)) (by omega), Bool.and_false]
    · rw [decide_eq_false h1]; rfl

section
variable {m : Mem} {t r : Nat} {T : Tb} {who x : Int}
theorem people_spec (h : TabAt m t r T) : Ca 46 [Pt t] m (I (T.l.length : Nat)) m := by
  refine callX_of (call_go (F := _) rfl rfl fun Q hQ => ?_)
  simp only [symA, go_opsd, symB, wantedX, X.put, X.look, Arg.ev, keepOf, restrict, evs, evO, initEnv, xres, tup, noTup, cls, quiet, Nat.reduceAdd, Nat.reduceEqDiff, ↓reduceIte, reduceCtorEq, goInt, exists_eq_left', eq_self, Int.reduceLT, Int.reduceLE, Int.reduceEq, Int.reduceNeg, Int.reduceAdd, Int.reduceSub, forall_const, ne_eq, undef, Nat.reducePow, Nat.reduceDiv, Nat.reduceMod, h.gt]
  exact hQ _ _ _ rfl ⟨rfl, rfl⟩
theorem one_spec (h : TabAt m t r T) : Ca 49 [Pt t, I who] m (.bool (oneB T who)) m := by
  refine callX_of (call_go (F := _) rfl rfl fun Q hQ => ?_)
  by_cases h1 : 0 ≤ who
  · have e : oneB T who = decide (who < T.l.length) := by unfold oneB; rw [decide_eq_true h1]; rfl
    rw [e] at hQ
    simp only [symA, go_opsd, symB, wantedX, X.put, X.look, Arg.ev, keepOf, restrict, evs, evO, initEnv, xres, tup, noTup, cls, quiet, Nat.reduceAdd, Nat.reduceEqDiff, ↓reduceIte, reduceCtorEq, goInt, exists_eq_left', eq_self, Int.reduceLT, Int.reduceLE, Int.reduceEq, Int.reduceNeg, Int.reduceAdd, Int.reduceSub, forall_const, ne_eq, undef, Nat.reducePow, Nat.reduceDiv, Nat.reduceMod, h.gt, h1]
    exact hQ _ _ _ rfl ⟨rfl, rfl⟩
  · have e : oneB T who = false := by unfold oneB; rw [decide_eq_false h1]; rfl
    rw [e] at hQ
    simp only [symA, go_opsd, symB, wantedX, X.put, X.look, Arg.ev, keepOf, restrict, evs, evO, initEnv, xres, tup, noTup, cls, quiet, Nat.reduceAdd, Nat.reduceEqDiff, ↓reduceIte, reduceCtorEq, goInt, exists_eq_left', eq_self, Int.reduceLT, Int.reduceLE, Int.reduceEq, Int.reduceNeg, Int.reduceAdd, Int.reduceSub, forall_const, ne_eq, undef, Nat.reducePow, Nat.reduceDiv, Nat.reduceMod, h.gt, h1]
    exact hQ _ _ _ rfl ⟨rfl, rfl⟩
theorem fone_spec (h : TabAt m t r T) : Ca 29 [Pt t, I who] m (.bool (oneB T who)) m := by
  refine callX_of (call_go (F := _) rfl rfl fun Q hQ => ?_)
  by_cases h1 : 0 ≤ who
  · have e : oneB T who = decide (who < T.l.length) := by unfold oneB; rw [decide_eq_true h1]; rfl
    rw [e] at hQ
    simp only [symA, go_opsd, symB, wantedX, X.put, X.look, Arg.ev, keepOf, restrict, evs, evO, initEnv, xres, tup, noTup, cls, quiet, Nat.reduceAdd, Nat.reduceEqDiff, ↓reduceIte, reduceCtorEq, goInt, exists_eq_left', eq_self, Int.reduceLT, Int.reduceLE, Int.reduceEq, Int.reduceNeg, Int.reduceAdd, Int.reduceSub, forall_const, ne_eq, undef, Nat.reducePow, Nat.reduceDiv, Nat.reduceMod, goR_call (people_spec h), h1]
    exact hQ _ _ _ rfl ⟨rfl, rfl⟩
  · have e : oneB T who = false := by unfold oneB; rw [decide_eq_false h1]; rfl
    rw [e] at hQ
    simp only [symA, go_opsd, symB, wantedX, X.put, X.look, Arg.ev, keepOf, restrict, evs, evO, initEnv, xres, tup, noTup, cls, quiet, Nat.reduceAdd, Nat.reduceEqDiff, ↓reduceIte, reduceCtorEq, goInt, exists_eq_left', eq_self, Int.reduceLT, Int.reduceLE, Int.reduceEq, Int.reduceNeg, Int.reduceAdd, Int.reduceSub, forall_const, ne_eq, undef, Nat.reducePow, Nat.reduceDiv, Nat.reduceMod, goR_call (people_spec h), h1]
    exact hQ _ _ _ rfl ⟨rfl, rfl⟩

theorem mayDrop_spec (h : TabAt m t r T) (hw : T.Wf) : Ca 32 [Pt t, I who, U x] m (.bool (mayDrop T who x)) m := by
  refine callX_of (call_go (F := _) rfl rfl fun Q hQ => ?_)
  have h1 := one_spec (who := who) h
  rcases oneB_cases T who with h0 | ⟨h0, i, p, rfl, hi, hp, hpm, e1, e2⟩
  · rw [h0] at h1
    have e : mayDrop T who x = false := by unfold mayDrop; rw [h0]; rfl
    rw [e] at hQ
    simp only [symA, go_opsd, symB, wantedX, X.put, X.look, Arg.ev, keepOf, restrict, evs, evO, initEnv, xres, tup, noTup, cls, quiet, Nat.reduceAdd, Nat.reduceEqDiff, ↓reduceIte, reduceCtorEq, goInt, exists_eq_left', eq_self, Int.reduceLT, Int.reduceLE, Int.reduceEq, Int.reduceNeg, Int.reduceAdd, Int.reduceSub, forall_const, ne_eq, undef, Nat.reducePow, Nat.reduceDiv, Nat.reduceMod, goR_call h1]
    exact hQ _ _ _ rfl ⟨rfl, rfl⟩
  · rw [h0] at h1
    have e : mayDrop T i x = hasM p.2 x := by unfold mayDrop; rw [h0, e2]; rfl
    rw [e] at hQ
    obtain ⟨c1, c2⟩ := cellsR_at hp
    simp only [symA, go_opsd, symB, wantedX, X.put, X.look, Arg.ev, keepOf, restrict, evs, evO, initEnv, xres, tup, noTup, cls, quiet, Nat.reduceAdd, Nat.reduceEqDiff, ↓reduceIte, reduceCtorEq, goInt, exists_eq_left', eq_self, Int.reduceLT, Int.reduceLE, Int.reduceEq, Int.reduceNeg, Int.reduceAdd, Int.reduceSub, forall_const, ne_eq, undef, Nat.reducePow, Nat.reduceDiv, Nat.reduceMod, goR_call h1, h.gt, h.gr, hi, c2, goR_call (mhas_spec (t := x) (hw.masks p hpm).2)]
    exact hQ _ _ _ rfl ⟨rfl, rfl⟩

theorem box_store {z y : Value} (h1 : y.cells = #[y]) (h2 : noTup y = true) : ∃ m2, storeE (m.push { cells := [z], rw := true, spare := none, kin := [] }) 1 (.pointer (some ⟨m.next, 0, none⟩)) y = some (.skip m2) ∧ m2.get m.next = some { cells := [y], rw := true, spare := none, kin := [] } ∧ Nx m m2 ∧ m2.next = m.next + 1 := by
  refine ⟨_, store1 (o := { cells := [z], rw := true, spare := none, kin := [] }) push_self rfl rfl (by simp) h1 h2, ?_, ?_, ?_⟩
  · simp [put1, Mem.get_set]
  · exact (Fm.push (S := fun _ => False)).comp (Fm.set (S := (· = m.next)) rfl) (fun i hi h => by omega)
  · simp [put1]

theorem clear1_spec {p q : Nat} {y : Nat} (hy : y < 65536) (h1 : m.get p = some { cells := [U (y : Int)], rw := true, spare := none, kin := [] }) (h2 : m.get q = some { cells := [.slice none 0 0], rw := true, spare := none, kin := [] }) :
    Ca 53 [U x, Pt p, Pt q] m (.bool (!hasM y x)) m := by
  refine callX_of (call_go (F := _) rfl rfl fun Q hQ => ?_)
  have k1 := mhas_spec (m := m) (t := x) hy
  have k2 : Ca 54 [.slice none 0 0, U x] m (.bool false) m := has_spec (b := 0) (ns := []) .nil (by decide)
  cases hh : hasM y x with
  | true =>
    rw [hh] at k1 hQ
    simp only [symA, go_opsd, symB, wantedX, X.put, X.look, Arg.ev, keepOf, restrict, evs, evO, initEnv, xres, tup, noTup, cls, quiet, Nat.reduceAdd, Nat.reduceEqDiff, ↓reduceIte, reduceCtorEq, goInt, exists_eq_left', eq_self, Int.reduceLT, Int.reduceLE, Int.reduceEq, Int.reduceNeg, Int.reduceAdd, Int.reduceSub, forall_const, ne_eq, undef, Nat.reducePow, Nat.reduceDiv, Nat.reduceMod, h1, goR_call k1]
    exact hQ _ _ _ rfl ⟨rfl, rfl⟩
  | false =>
    rw [hh] at k1 hQ
    simp only [symA, go_opsd, symB, wantedX, X.put, X.look, Arg.ev, keepOf, restrict, evs, evO, initEnv, xres, tup, noTup, cls, quiet, Nat.reduceAdd, Nat.reduceEqDiff, ↓reduceIte, reduceCtorEq, goInt, exists_eq_left', eq_self, Int.reduceLT, Int.reduceLE, Int.reduceEq, Int.reduceNeg, Int.reduceAdd, Int.reduceSub, forall_const, ne_eq, undef, Nat.reducePow, Nat.reduceDiv, Nat.reduceMod, h1, h2, goR_call k1, goR_call k2]
    exact hQ _ _ _ rfl ⟨rfl, rfl⟩

def clearT (T : Tb) (who : Int) (ls : List Int) : Bool := oneB T who && ls.all (hasM (plusOf T who))
theorem clear_spec {b : Nat} {v : Value} {ls : List Int} (h : TabAt m t r T) (hw : T.Wf) (hv : RdU b m v ls) (hb : b ≤ m.next) (hl : ls.length ≤ 4611686018427387903) : ∃ m', Ca 35 [Pt t, I who, .slice none 0 0, v] m (.bool (clearT T who ls)) m' ∧ Nx m m' := by
  obtain ⟨m1, hm1⟩ : ∃ m1, m.push { cells := [.slice none 0 0], rw := true, spare := none, kin := [] } = m1 := ⟨_, rfl⟩
  have g1 : m1.get m.next = some { cells := [.slice none 0 0], rw := true, spare := none, kin := [] } := by rw [← hm1, push_self]
  have f1 : Nx m m1 := hm1 ▸ .push
  have hn1 : m1.next = m.next + 1 := by rw [← hm1]; simp
  have t1 := h.nx f1
  have k1 := one_spec (who := who) t1
  rcases oneB_cases T who with h0 | ⟨h0, i, p, rfl, hi, hp, hpm, e1, e2⟩
  · refine ⟨m1, callX_of (call_go (F := _) rfl rfl fun Q hQ => ?_), f1⟩
    rw [h0] at k1
    have e : clearT T who ls = false := by unfold clearT; rw [h0]; rfl
    rw [e] at hQ
    simp only [symA, go_opsd, symB, wantedX, X.put, X.look, Arg.ev, keepOf, restrict, evs, evO, initEnv, xres, tup, noTup, cls, quiet, Nat.reduceAdd, Nat.reduceEqDiff, ↓reduceIte, reduceCtorEq, goInt, exists_eq_left', eq_self, Int.reduceLT, Int.reduceLE, Int.reduceEq, Int.reduceNeg, Int.reduceAdd, Int.reduceSub, forall_const, ne_eq, undef, Nat.reducePow, Nat.reduceDiv, Nat.reduceMod, hm1, goR_call k1]
    exact hQ _ _ _ rfl ⟨rfl, rfl⟩
  · rw [h0] at k1
    obtain ⟨c1, c2⟩ := cellsR_at hp
    obtain ⟨m2, s2, g2, f2, n2⟩ := box_store (m := m1) (z := U 0) (y := U (p.1 : Int)) rfl rfl
    have g1' := f2.get (by omega) (fun h => h) g1
    have k2 := containsF_spec (g := 53) (cap := [Pt m1.next, Pt m.next]) (q := fun x => !hasM p.1 x) (hv.fr (f1.trans f2) hb (fun _ h => h.elim)) hl (fun x _ => clear1_spec (hw.masks p hpm).1 g2 g1')
    refine ⟨m2, callX_of (call_go (F := _) rfl rfl fun Q hQ => ?_), f1.trans f2⟩
    have e : clearT T i ls = !ls.any fun x => !hasM p.1 x := by unfold clearT; rw [h0, e1, Bool.true_and, List.all_eq_not_any_not]
    rw [e] at hQ
    simp only [symA, go_opsd, symB, wantedX, X.put, X.look, Arg.ev, keepOf, restrict, evs, evO, initEnv, xres, tup, noTup, cls, quiet, Nat.reduceAdd, Nat.reduceEqDiff, ↓reduceIte, reduceCtorEq, goInt, exists_eq_left', eq_self, Int.reduceLT, Int.reduceLE, Int.reduceEq, Int.reduceNeg, Int.reduceAdd, Int.reduceSub, forall_const, ne_eq, undef, Nat.reducePow, Nat.reduceDiv, Nat.reduceMod, hm1, goR_call k1, t1.gt, t1.gr, hi, c1, s2, makeFunc_two, goR_call k2]
    exact hQ _ _ _ rfl ⟨rfl, rfl⟩

/-! ## From a label to another one -/
theorem comes1_spec {p q : Nat} (h : TabAt m t r T) (hw : T.Wf) (h1 : m.get p = some { cells := [Pt t], rw := true, spare := none, kin := [] }) (h2 : m.get q = some { cells := [I who], rw := true, spare := none, kin := [] }) :
    Ca 31 [U x, Pt p, Pt q] m (.bool (!mayDrop T who x)) m := by
  refine callX_of (call_go (F := _) rfl rfl fun Q hQ => ?_)
  simp only [symA, go_opsd, symB, wantedX, X.put, X.look, Arg.ev, keepOf, restrict, evs, evO, initEnv, xres, tup, noTup, cls, quiet, Nat.reduceAdd, Nat.reduceEqDiff, ↓reduceIte, reduceCtorEq, goInt, exists_eq_left', eq_self, Int.reduceLT, Int.reduceLE, Int.reduceEq, Int.reduceNeg, Int.reduceAdd, Int.reduceSub, forall_const, ne_eq, undef, Nat.reducePow, Nat.reduceDiv, Nat.reduceMod, h1, h2, goR_call (mayDrop_spec (who := who) (x := x) h hw)]
  exact hQ _ _ _ rfl ⟨rfl, rfl⟩

def comesT (T : Tb) (who : Int) (a b : List Int) : Bool := oneB T who && rightL a && rightL b && (lessL a b).all (mayDrop T who) && clearT T who (lessL b a)
theorem comes_spec {b0 : Nat} {va vb : Value} {us bs : List Int} (h : TabAt m t r T) (hw : T.Wf) (ha : RdU b0 m va us) (hb : RdU b0 m vb bs) (hm : b0 ≤ m.next) (hla : us.length ≤ 4611686018427387903) (hlb : bs.length ≤ 4611686018427387903) :
    ∃ m', Ca 10 [Pt t, I who, va, vb] m (.bool (comesT T who us bs)) m' ∧ Nx m m' := by
  obtain ⟨m0, hm0⟩ : ∃ m0, (m.push { cells := [Pt t], rw := true, spare := none, kin := [] }).push { cells := [I who], rw := true, spare := none, kin := [] } = m0 := ⟨_, rfl⟩
  have g1 : m0.get m.next = some { cells := [Pt t], rw := true, spare := none, kin := [] } := by rw [← hm0]; simp [Mem.get_push]
  have g2 : m0.get (m.next + 1) = some { cells := [I who], rw := true, spare := none, kin := [] } := by rw [← hm0]; simp [Mem.get_push]
  have f0 : Nx m m0 := hm0 ▸ Fm.trans .push .push
  have hn0 : m0.next = m.next + 2 := by rw [← hm0]; simp
  have ha0 := ha.fr f0 hm (fun _ h => h.elim)
  have hb0 := hb.fr f0 hm (fun _ h => h.elim)
  have t0 := h.nx f0
  have k1 := fone_spec (who := who) t0
  have r1 := right_spec ha0 hla
  have r2 := right_spec hb0 hlb
  obtain ⟨pa, ca, rfl⟩ := rdu_slice ha
  obtain ⟨pb, cb, rfl⟩ := rdu_slice hb
  cases h0 : oneB T who with
  | false =>
    refine ⟨m0, callX_of (call_go (F := _) rfl rfl fun Q hQ => ?_), f0⟩
    have e : comesT T who us bs = false := by unfold comesT; rw [h0]; rfl
    rw [e] at hQ
    rw [h0] at k1
    simp only [symA, go_opsd, symB, wantedX, X.put, X.look, Arg.ev, keepOf, restrict, evs, evO, initEnv, xres, tup, noTup, cls, quiet, Nat.reduceAdd, Nat.reduceEqDiff, ↓reduceIte, reduceCtorEq, goInt, exists_eq_left', eq_self, Int.reduceLT, Int.reduceLE, Int.reduceEq, Int.reduceNeg, Int.reduceAdd, Int.reduceSub, forall_const, ne_eq, undef, Nat.reducePow, Nat.reduceDiv, Nat.reduceMod, hm0, g1, g2, goR_call k1]
    exact hQ _ _ _ rfl ⟨rfl, rfl⟩
  | true =>
    rw [h0] at k1
    cases hra : rightL us with
    | false =>
      refine ⟨m0, callX_of (call_go (F := _) rfl rfl fun Q hQ => ?_), f0⟩
      have e : comesT T who us bs = false := by unfold comesT; rw [h0, hra]; rfl
      rw [e] at hQ
      rw [hra] at r1
      simp only [symA, go_opsd, symB, wantedX, X.put, X.look, Arg.ev, keepOf, restrict, evs, evO, initEnv, xres, tup, noTup, cls, quiet, Nat.reduceAdd, Nat.reduceEqDiff, ↓reduceIte, reduceCtorEq, goInt, exists_eq_left', eq_self, Int.reduceLT, Int.reduceLE, Int.reduceEq, Int.reduceNeg, Int.reduceAdd, Int.reduceSub, forall_const, ne_eq, undef, Nat.reducePow, Nat.reduceDiv, Nat.reduceMod, hm0, g1, g2, goR_call k1, goR_call r1]
      exact hQ _ _ _ rfl ⟨rfl, rfl⟩
    | true =>
      rw [hra] at r1
      cases hrb : rightL bs with
      | false =>
        refine ⟨m0, callX_of (call_go (F := _) rfl rfl fun Q hQ => ?_), f0⟩
        have e : comesT T who us bs = false := by unfold comesT; rw [h0, hra, hrb]; rfl
        rw [e] at hQ
        rw [hrb] at r2
        simp only [symA, go_opsd, symB, wantedX, X.put, X.look, Arg.ev, keepOf, restrict, evs, evO, initEnv, xres, tup, noTup, cls, quiet, Nat.reduceAdd, Nat.reduceEqDiff, ↓reduceIte, reduceCtorEq, goInt, exists_eq_left', eq_self, Int.reduceLT, Int.reduceLE, Int.reduceEq, Int.reduceNeg, Int.reduceAdd, Int.reduceSub, forall_const, ne_eq, undef, Nat.reducePow, Nat.reduceDiv, Nat.reduceMod, hm0, g1, g2, goR_call k1, goR_call r1, goR_call r2]
        exact hQ _ _ _ rfl ⟨rfl, rfl⟩
      | true =>
        rw [hrb] at r2
        obtain ⟨v1, m1, l1, l2, l3⟩ := less_spec ha0 hb0 (by omega) hla hlb
        have hn1 := l3.next
        have g1' := l3.get (by omega) (fun h => h) g1
        have g2' := l3.get (by omega) (fun h => h) g2
        have t1 := t0.nx l3
        have hll : ∀ x y : List Int, (lessL x y).length ≤ x.length := fun x y => by
          unfold lessL
          cases rightL x && rightL y
          · simp
          · exact List.length_filter_le _ _
        have c1 := containsF_spec (g := 31) (cap := [Pt m.next, Pt (m.next + 1)]) (q := fun x => !mayDrop T who x) l2 (by have := hll us bs; omega) (fun x _ => comes1_spec t1 hw g1' g2')
        have ha1 := ha0.fr l3 (by omega) (fun _ h => h.elim)
        have hb1 := hb0.fr l3 (by omega) (fun _ h => h.elim)
        cases hany : ((lessL us bs).any fun x => !mayDrop T who x) with
        | true =>
          refine ⟨m1, callX_of (call_go (F := _) rfl rfl fun Q hQ => ?_), f0.trans l3⟩
          have e : comesT T who us bs = false := by unfold comesT; rw [h0, hra, hrb, List.all_eq_not_any_not, hany]; rfl
          rw [e] at hQ
          rw [hany] at c1
          simp only [symA, go_opsd, symB, wantedX, X.put, X.look, Arg.ev, keepOf, restrict, evs, evO, initEnv, xres, tup, noTup, cls, quiet, Nat.reduceAdd, Nat.reduceEqDiff, ↓reduceIte, reduceCtorEq, goInt, exists_eq_left', eq_self, Int.reduceLT, Int.reduceLE, Int.reduceEq, Int.reduceNeg, Int.reduceAdd, Int.reduceSub, forall_const, ne_eq, undef, Nat.reducePow, Nat.reduceDiv, Nat.reduceMod, hm0, g1, g2, g1', g2', goR_call k1, goR_call r1, goR_call r2, makeFunc_two, goDV3c l1, goDV3c c1]
          exact hQ _ _ _ rfl ⟨rfl, rfl⟩
        | false =>
          obtain ⟨v2, m2, q1, q2, q3⟩ := less_spec hb1 ha1 (by omega) hlb hla
          have hn2 := q3.next
          have g1'' := q3.get (by omega) (fun h => h) g1'
          have g2'' := q3.get (by omega) (fun h => h) g2'
          obtain ⟨m3, z1, z2⟩ := clear_spec (who := who) (t1.nx q3) hw q2 (Nat.le_refl _) (by have := hll bs us; omega)
          refine ⟨m3, callX_of (call_go (F := _) rfl rfl fun Q hQ => ?_), ((f0.trans l3).trans q3).trans z2⟩
          have e : comesT T who us bs = clearT T who (lessL bs us) := by unfold comesT; rw [h0, hra, hrb, List.all_eq_not_any_not, hany]; rfl
          rw [e] at hQ
          rw [hany] at c1
          simp only [symA, go_opsd, symB, wantedX, X.put, X.look, Arg.ev, keepOf, restrict, evs, evO, initEnv, xres, tup, noTup, cls, quiet, Nat.reduceAdd, Nat.reduceEqDiff, ↓reduceIte, reduceCtorEq, goInt, exists_eq_left', eq_self, Int.reduceLT, Int.reduceLE, Int.reduceEq, Int.reduceNeg, Int.reduceAdd, Int.reduceSub, forall_const, ne_eq, undef, Nat.reducePow, Nat.reduceDiv, Nat.reduceMod, hm0, g1, g2, g1', g2', g1'', g2'', goR_call k1, goR_call r1, goR_call r2, makeFunc_two, goDV3c l1, goDV3c c1, goDV3c q1, goDV3c z1]
          exact hQ _ _ _ rfl ⟨rfl, rfl⟩
end
end Go.Proofs.Ytfjeccaffenngaa
