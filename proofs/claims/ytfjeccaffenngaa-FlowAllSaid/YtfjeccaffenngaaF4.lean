/-
  Own work. What the document's table of rights comes to.
-/
import Derived.Test.YtfjeccaffenngaaF3
namespace Go.Proofs.Ytfjeccaffenngaa
open Go X
set_option maxRecDepth 100000
set_option linter.unusedVariables false
set_option linter.unusedSimpArgs false

/-! ## A new table -/
def makeSliceE (m : Mem) (zero : List Value) (bytes : Nat) (vl vc : Value) : Option XR := (asNat vl).bind fun l => (asNat vc).bind fun c =>
    if l ≤ c ∧ bytes * c ≤ 281474976710656 ∧ c ≤ 9223372036854775807 then
      some (.val (.slice (some ⟨m.next, 0, none⟩) l c) (m.push { cells := zerosOf zero c, rw := true, spare := none, kin := [] }))
    else none
theorem xi_makeSlice {P : Program} {e : Env} {m : Mem} {zero : List Value} {bytes : Nat} {x y : Arg} : xi P e m (.makeSlice zero bytes x y) = (x.ev e).bind fun vl => (y.ev e).bind fun vc => makeSliceE m zero bytes vl vc := by
  simp only [xi, makeSliceE]
theorem makeSlice_at {m : Mem} {zero : List Value} {bytes n : Nat} {k : IntKind} (h1 : bytes * n ≤ 281474976710656) (h2 : n ≤ 9223372036854775807) :
    makeSliceE m zero bytes (.int k (n : Int)) (.int k (n : Int)) = some (.val (.slice (some ⟨m.next, 0, none⟩) n n) (m.push { cells := zerosOf zero n, rw := true, spare := none, kin := [] })) := by
  simp [makeSliceE, asNat_nat, h1, h2]
theorem cells_zero : ∀ n : Nat, cellsR (List.replicate n (0, 0)) = zerosOf [U 0, U 0] n
  | 0 => rfl
  | n + 1 => by
    rw [List.replicate_succ]
    show U 0 :: U 0 :: cellsR (List.replicate n (0, 0)) = _
    rw [cells_zero n]
    rfl
def newT (n : Nat) : Tb := ⟨0, List.replicate n (0, 0)⟩
theorem newT_wf {n : Nat} (h1 : 1 ≤ n) (h2 : n ≤ 8) : (newT n).Wf :=
  ⟨by simp [newT], by simpa [newT] using h1, by simpa [newT] using h2, fun p hp => by
    rw [newT, List.mem_replicate] at hp
    rw [hp.2]; decide⟩
theorem new_bad {m : Mem} {n : Int} (h : n < 1 ∨ 8 < n) : Ca 27 [I n] m (.tuple #[.pointer none, I 1]) m := by
  refine callX_of (call_go (F := _) rfl rfl fun Q hQ => ?_)
  by_cases h1 : n < 1
  · simp only [symA, go_opsd, symB, wantedX, X.put, X.look, Arg.ev, keepOf, restrict, evs, evO, initEnv, xres, tup, noTup, cls, quiet, Nat.reduceAdd, Nat.reduceEqDiff, ↓reduceIte, reduceCtorEq, goInt, exists_eq_left', eq_self, Int.reduceLT, Int.reduceLE, Int.reduceEq, Int.reduceNeg, Int.reduceAdd, Int.reduceSub, forall_const, ne_eq, undef, Nat.reducePow, Nat.reduceDiv, Nat.reduceMod, h1]
    exact hQ _ _ _ rfl ⟨rfl, rfl⟩
  · have h2 : 8 < n := by omega
    simp only [symA, go_opsd, symB, wantedX, X.put, X.look, Arg.ev, keepOf, restrict, evs, evO, initEnv, xres, tup, noTup, cls, quiet, Nat.reduceAdd, Nat.reduceEqDiff, ↓reduceIte, reduceCtorEq, goInt, exists_eq_left', eq_self, Int.reduceLT, Int.reduceLE, Int.reduceEq, Int.reduceNeg, Int.reduceAdd, Int.reduceSub, forall_const, ne_eq, undef, Nat.reducePow, Nat.reduceDiv, Nat.reduceMod, h1, h2]
    exact hQ _ _ _ rfl ⟨rfl, rfl⟩
theorem new_spec {m : Mem} {n : Nat} (h1 : 1 ≤ n) (h2 : n ≤ 8) : ∃ m', Ca 27 [I (n : Int)] m (.tuple #[Pt (m.next + 1), I 0]) m' ∧ TabAt m' (m.next + 1) m.next (newT n) ∧ Nx m m' ∧ m'.next = m.next + 2 := by
  obtain ⟨m1, hm1⟩ : ∃ m1, m.push { cells := zerosOf [U 0, U 0] n, rw := true, spare := none, kin := [] } = m1 := ⟨_, rfl⟩
  have hn1 : m1.next = m.next + 1 := by rw [← hm1]; simp
  have f1 : Nx m m1 := hm1 ▸ .push
  have g1 : m1.get m.next = some { cells := zerosOf [U 0, U 0] n, rw := true, spare := none, kin := [] } := by rw [← hm1, push_self]
  obtain ⟨m2, hm2⟩ : ∃ m2, m1.push { cells := [I 0, .slice (some ⟨m.next, 0, none⟩) n n], rw := true, spare := none, kin := [] } = m2 := ⟨_, rfl⟩
  have hn2 : m2.next = m.next + 2 := by rw [← hm2]; simp [hn1]
  have f2 : Nx m1 m2 := hm2 ▸ .push
  have g2 : m2.get m1.next = some { cells := [I 0, .slice (some ⟨m.next, 0, none⟩) n n], rw := true, spare := none, kin := [] } := by rw [← hm2, push_self]
  have w : ∀ m : Mem, makeSliceE m [U 0, U 0] 16 (I (n : Int)) (I (n : Int)) = some (.val (.slice (some ⟨m.next, 0, none⟩) n n) (m.push { cells := zerosOf [U 0, U 0] n, rw := true, spare := none, kin := [] })) := fun m => makeSlice_at (by omega) (by omega)
  have bu : ∀ m' : Mem, buildE m' [I 0, .slice none 0 0] [(0, 1), (1, 1)] [(1, .slice (some ⟨m.next, 0, none⟩) n n)] = some (.val (.agg ⟨[I 0, .slice (some ⟨m.next, 0, none⟩) n n]⟩) m') := fun m' => by kernel_rfl
  have l1 : ¬ (n : Int) < 1 := by omega
  have l2 : ¬ (8 : Int) < (n : Int) := by omega
  refine ⟨m2, callX_of (call_go (F := _) rfl rfl fun Q hQ => ?_), ⟨by omega, by omega, by omega, ?_, ?_⟩, f1.trans f2, hn2⟩
  · simp only [symA, go_opsd, symB, wantedX, X.put, X.look, Arg.ev, keepOf, restrict, evs, evO, initEnv, xres, tup, noTup, cls, quiet, Nat.reduceAdd, Nat.reduceEqDiff, ↓reduceIte, reduceCtorEq, goInt, exists_eq_left', eq_self, Int.reduceLT, Int.reduceLE, Int.reduceEq, Int.reduceNeg, Int.reduceAdd, Int.reduceSub, forall_const, ne_eq, undef, Nat.reducePow, Nat.reduceDiv, Nat.reduceMod, l1, l2, xi_makeSlice, w, hm1, bu, hm2]
    exact hQ _ _ _ rfl ⟨by rw [hn1]; rfl, rfl⟩
  · rw [← hn1, g2]
    simp [newT]
  · rw [f2.get (by omega) (fun h => h) g1]
    simp [newT, cells_zero]

/-! ## The document's table -/
structure Rf where
  people : Int
  tags : Nat
  l : List (Int × Int × Bool)
abbrev rowR (x : Int × Int × Bool) : List Value := [I x.1, U x.2.1, .bool x.2.2]
structure RefAt (m : Mem) (b : Nat) (F : List Nat) (p : Option Addr) (R : Rf) : Prop where
  gb : m.get b = some { cells := [I R.people, I (R.tags : Int), .slice p R.l.length R.l.length], rw := true, spare := none, kin := [] }
  own : OwnS 3 F m (.slice p R.l.length R.l.length) R.l.length (R.l.map rowR).flatten
  nb : b ∉ F
  lb : b < m.next
theorem RefAt.fr {m m' : Mem} {S : Nat → Prop} {b : Nat} {F : List Nat} {p : Option Addr} {R : Rf} (h : RefAt m b F p R) (hf : Fm S m m') (h1 : ¬ S b) (h2 : ∀ i ∈ F, ¬ S i) : RefAt m' b F p R :=
  ⟨hf.get h.lb h1 h.gb, h.own.fr hf h2, h.nb, Nat.lt_of_lt_of_le h.lb hf.next⟩
theorem RefAt.nx {m m' : Mem} {b : Nat} {F : List Nat} {p : Option Addr} {R : Rf} (h : RefAt m b F p R) (hf : Nx m m') : RefAt m' b F p R := h.fr hf (fun h => h) (fun _ _ h => h)

theorem eq_rowR {x y : Int × Int × Bool} : ∀ {fs : Array Field}, Try.prog.underlying 97 = some (.struct fs) → eqFs Try.prog 9999 ⟨rowR x⟩ ⟨rowR y⟩ fs.toList = some (decide (x = y)) := by
  intro fs hu
  rw [Try.underlying97] at hu
  cases hu
  have p1 : ∀ x, ans Try.prog (Go.part 3 (⟨rowR x⟩ : Array Value) 0) = some (I x.1) := fun x => by kernel_rfl
  have p2 : ∀ x, ans Try.prog (Go.part 30 (⟨rowR x⟩ : Array Value) 1) = some (U x.2.1) := fun x => by kernel_rfl
  have p3 : ∀ x, ans Try.prog (Go.part 4 (⟨rowR x⟩ : Array Value) 2) = some (.bool x.2.2) := fun x => by kernel_rfl
  have q1 : ∀ a a' : Int, ans Try.prog (Op.equalIn 9999 3 (I a) (I a')) = some (a == a') := fun a a' => ans_equal_int (d := 9998) Try.underlying3
  have q4 : ∀ a a' : Int, ans Try.prog (Op.equalIn 9999 30 (U a) (U a')) = some (a == a') := fun a a' => ans_equal_int (d := 9998) Try.underlying30
  have q5 : ∀ e e' : Bool, ans Try.prog (Op.equalIn 9999 4 (.bool e) (.bool e')) = some (e == e') := fun e e' => ans_equal_bool (d := 9998) Try.underlying4
  obtain ⟨a, b, c⟩ := x
  obtain ⟨a', b', c'⟩ := y
  simp only [eqFs, p1, p2, p3, q1, q4, q5, Option.bind_some]
  by_cases h1 : a = a' <;> by_cases h2 : b = b' <;> by_cases h3 : c = c' <;> simp [h1, h2, h3]
theorem eq97 {m : Mem} {x y : Int × Int × Bool} : binE Try.prog .eql 97 (.agg ⟨rowR x⟩) (.agg ⟨rowR y⟩) m = some (.val (.bool (decide (x = y))) m) :=
  bin_aeql Try.underlying97 (by kernel_rfl) (by kernel_rfl) rfl rfl (eq_rowR Try.underlying97)

section
variable {m : Mem} {b : Nat} {F : List Nat} {p : Option Addr} {R : Rf}
theorem RefAt.rd (h : RefAt m b F p R) : RdS m.next m 3 (.slice p R.l.length R.l.length) (R.l.map rowR) := by
  refine Own2.rd (F := F) ⟨fun r hr => ?_, .inl ?_⟩ (by omega)
  · obtain ⟨x, _, rfl⟩ := List.mem_map.1 hr; rfl
  · rw [List.length_map]; exact h.own

def oneR (R : Rf) (who : Int) : Bool := decide (0 ≤ who) && decide (who < R.people)
theorem rone_spec {who : Int} (h : RefAt m b F p R) : Ca 56 [Pt b, I who] m (.bool (oneR R who)) m := by
  refine callX_of (call_go (F := _) rfl rfl fun Q hQ => ?_)
  by_cases h1 : 0 ≤ who
  · have e : oneR R who = decide (who < R.people) := by unfold oneR; rw [decide_eq_true h1]; rfl
    rw [e] at hQ
    simp only [symA, go_opsd, symB, wantedX, X.put, X.look, Arg.ev, keepOf, restrict, evs, evO, initEnv, xres, tup, noTup, cls, quiet, Nat.reduceAdd, Nat.reduceEqDiff, ↓reduceIte, reduceCtorEq, goInt, exists_eq_left', eq_self, Int.reduceLT, Int.reduceLE, Int.reduceEq, Int.reduceNeg, Int.reduceAdd, Int.reduceSub, forall_const, ne_eq, undef, Nat.reducePow, Nat.reduceDiv, Nat.reduceMod, h.gb, h1]
    exact hQ _ _ _ rfl ⟨rfl, rfl⟩
  · have e : oneR R who = false := by unfold oneR; rw [decide_eq_false h1]; rfl
    rw [e] at hQ
    simp only [symA, go_opsd, symB, wantedX, X.put, X.look, Arg.ev, keepOf, restrict, evs, evO, initEnv, xres, tup, noTup, cls, quiet, Nat.reduceAdd, Nat.reduceEqDiff, ↓reduceIte, reduceCtorEq, goInt, exists_eq_left', eq_self, Int.reduceLT, Int.reduceLE, Int.reduceEq, Int.reduceNeg, Int.reduceAdd, Int.reduceSub, forall_const, ne_eq, undef, Nat.reducePow, Nat.reduceDiv, Nat.reduceMod, h.gb, h1]
    exact hQ _ _ _ rfl ⟨rfl, rfl⟩

def hasR (R : Rf) (x : Int × Int × Bool) : Bool := R.l.any fun y => decide (y = x)
theorem rhas_spec {w g : Int} {dm : Bool} (h : RefAt m b F p R) (hl : R.l.length ≤ 100000) : Ca 21 [Pt b, I w, U g, .bool dm] m (.bool (hasR R (w, g, dm))) m := by
  refine callX_of (call_go (F := _) rfl rfl fun Q hQ => ?_)
  have bu : ∀ m : Mem, buildE m [I 0, U 0, .bool false] [(0, 1), (1, 1), (2, 1)] [(0, I w), (1, U g), (2, .bool dm)] = some (.val (.agg ⟨rowR (w, g, dm)⟩) m) := fun m => by kernel_rfl
  simp only [symA, go_opsd, symB, wantedX, X.put, X.look, Arg.ev, keepOf, restrict, evs, evO, initEnv, xres, tup, noTup, cls, quiet, Nat.reduceAdd, Nat.reduceEqDiff, ↓reduceIte, reduceCtorEq, goInt, exists_eq_left', eq_self, Int.reduceLT, Int.reduceLE, Int.reduceEq, Int.reduceNeg, Int.reduceAdd, Int.reduceSub, forall_const, ne_eq, undef, Nat.reducePow, Nat.reduceDiv, Nat.reduceMod]
  refine loop_go (fun j e m' => m' = m ∧ ∃ i : Nat, i ≤ R.l.length ∧ j = R.l.length - i ∧ hasR R (w, g, dm) = ((R.l.drop i).any fun y => decide (y = (w, g, dm))) ∧ e = [(0, Pt b), (1, I w), (2, U g), (3, .bool dm), (9, I i)]) R.l.length ⟨rfl, 0, by omega, rfl, rfl, rfl⟩ ?_
  rintro j e m' N' B' hN hB ⟨rfl, i, hi, rfl, hany, rfl⟩
  by_cases hlt : i < R.l.length
  · have hlt' : (i : Int) < (R.l.length : Int) := by omega
    obtain ⟨x, hx⟩ : ∃ x, R.l[i]? = some x := ⟨_, List.getElem?_eq_getElem hlt⟩
    have hd : R.l.drop i = x :: R.l.drop (i + 1) := by
      obtain ⟨_, rfl⟩ := List.getElem?_eq_some_iff.1 hx
      exact List.drop_eq_getElem_cons hlt
    rw [hd, List.any_cons] at hany
    have hrd := h.rd
    obtain ⟨p', c', hv, hc, hh⟩ := hrd
    obtain ⟨_, a, o, hpa, _, ho, hcell⟩ := hh i (rowR x) (by simp [hx])
    have ep : p = some a := (Value.slice.inj hv).1.trans hpa
    subst ep
    have l3 : ldA m' 3 (.pointer (some ⟨a.block, a.off + i * 3, none⟩)) = some (.val (.agg ⟨rowR x⟩) m') := by
      have := xload_cells (m := m') (b := a.block) (off := a.off + i * 3) (n := 3) (r := rowR x) ho rfl (by omega) hcell
      simp [ldA, this]
    have w1 : IntKind.i64.wrap ((i : Int) + 1) = ((i + 1 : Nat) : Int) := by rw [wrap_i64 (by omega) (by omega)]; omega
    have e1 := eq97 (m := m') (x := x) (y := (w, g, dm))
    by_cases hq : x = (w, g, dm)
    · rw [decide_eq_true hq, Bool.true_or] at hany
      rw [hany] at hQ
      rw [decide_eq_true hq] at e1
      simp only [symA, go_opsd, symB, wantedX, X.put, X.look, Arg.ev, keepOf, restrict, evs, evO, initEnv, xres, tup, noTup, cls, quiet, Nat.reduceAdd, Nat.reduceEqDiff, ↓reduceIte, reduceCtorEq, goInt, exists_eq_left', eq_self, Int.reduceLT, Int.reduceLE, Int.reduceEq, Int.reduceNeg, Int.reduceAdd, Int.reduceSub, forall_const, ne_eq, undef, Nat.reducePow, Nat.reduceDiv, Nat.reduceMod, h.gb, hlt, hlt', l3, bu, e1]
      exact hQ _ _ _ rfl ⟨rfl, rfl⟩
    · rw [decide_eq_false hq, Bool.false_or] at hany
      rw [decide_eq_false hq] at e1
      simp only [symA, go_opsd, symB, wantedX, X.put, X.look, Arg.ev, keepOf, restrict, evs, evO, initEnv, xres, tup, noTup, cls, quiet, Nat.reduceAdd, Nat.reduceEqDiff, ↓reduceIte, reduceCtorEq, goInt, exists_eq_left', eq_self, Int.reduceLT, Int.reduceLE, Int.reduceEq, Int.reduceNeg, Int.reduceAdd, Int.reduceSub, forall_const, ne_eq, undef, Nat.reducePow, Nat.reduceDiv, Nat.reduceMod, h.gb, hlt, hlt', l3, bu, e1, w1]
      exact hN _ _ (R.l.length - (i + 1)) (by omega) ⟨rfl, i + 1, by omega, rfl, hany, rfl⟩
  · have hlt' : ¬ (i : Int) < (R.l.length : Int) := by omega
    rw [List.drop_eq_nil_of_le (by omega)] at hany
    rw [hany] at hQ
    simp only [symA, go_opsd, symB, wantedX, X.put, X.look, Arg.ev, keepOf, restrict, evs, evO, initEnv, xres, tup, noTup, cls, quiet, Nat.reduceAdd, Nat.reduceEqDiff, ↓reduceIte, reduceCtorEq, goInt, exists_eq_left', eq_self, Int.reduceLT, Int.reduceLE, Int.reduceEq, Int.reduceNeg, Int.reduceAdd, Int.reduceSub, forall_const, ne_eq, undef, Nat.reducePow, Nat.reduceDiv, Nat.reduceMod, h.gb, hlt']
    refine hB _ _ _ ?_
    simp only [symA, go_opsd, symB, wantedX, X.put, X.look, Arg.ev, keepOf, restrict, evs, evO, initEnv, xres, tup, noTup, cls, quiet, Nat.reduceAdd, Nat.reduceEqDiff, ↓reduceIte, reduceCtorEq, goInt, exists_eq_left', eq_self, Int.reduceLT, Int.reduceLE, Int.reduceEq, Int.reduceNeg, Int.reduceAdd, Int.reduceSub, forall_const, ne_eq, undef, Nat.reducePow, Nat.reduceDiv, Nat.reduceMod]
    exact hQ _ _ _ rfl ⟨rfl, rfl⟩

def checkR (R : Rf) (d : Deed) : Int :=
  bif (decide (d.kind ≠ 1) && decide (d.kind ≠ 2)) || !oneR R d.who then 1
  else bif decide (d.kind = 1) then (bif decide (d.to ≠ 0) || decide (d.tag ≠ 0) || d.minus then 1 else bif decide (16 ≤ R.tags) then 5 else 0)
  else bif !oneR R d.to then 1
  else bif decide (d.tag = 0) || decide ((R.tags : Int) < d.tag) then 7
  else bif !hasR R (d.who, d.tag, d.minus) then 10
  else bif hasR R (d.to, d.tag, d.minus) then 8 else 0
def doR (R : Rf) (d : Deed) : Rf := bif decide (checkR R d = 0) then
    (bif decide (d.kind = 2) then { R with l := R.l ++ [(d.to, d.tag, d.minus)] } else { R with tags := R.tags + 1, l := R.l ++ [(d.who, ((R.tags + 1 : Nat) : Int), false), (d.who, ((R.tags + 1 : Nat) : Int), true)] })
  else R

variable {dk dw dt dg : Int} {dm : Bool}
theorem rcheck_spec (h : RefAt m b F p R) (hl : R.l.length ≤ 100000) (ht : R.tags ≤ 16) : ∃ m', Ca 48 [Pt b, .agg ⟨rowD dk dw dt dg dm⟩] m (I (checkR R ⟨dk, dw, dt, dg, dm⟩)) m' ∧ Nx m m' := by
  obtain ⟨m1, hm1⟩ : ∃ m1, m.push { cells := rowD dk dw dt dg dm, rw := true, spare := none, kin := [] } = m1 := ⟨_, rfl⟩
  have g1 : m1.get m.next = some { cells := rowD dk dw dt dg dm, rw := true, spare := none, kin := [] } := by rw [← hm1, push_self]
  have f1 : Nx m m1 := hm1 ▸ .push
  have h1 := h.nx f1
  have k1 := rone_spec (who := dw) h1
  have k2 := rone_spec (who := dt) h1
  have z1 := rhas_spec (w := dw) (g := dg) (dm := dm) h1 hl
  have z2 := rhas_spec (w := dt) (g := dg) (dm := dm) h1 hl
  have cv : ∀ m : Mem, convE Try.prog 3 30 m (I (R.tags : Int)) = some (.val (U (R.tags : Int)) m) := fun m => conv_nu (by omega)
  refine ⟨m1, callX_of (call_go (F := _) rfl rfl fun Q hQ => ?_), f1⟩
  cases ho : oneR R dw with
  | false =>
    rw [ho] at k1
    have e : checkR R ⟨dk, dw, dt, dg, dm⟩ = 1 := by simp [checkR, ho]
    rw [e] at hQ
    by_cases c1 : dk = 1
    · subst c1
      simp only [symA, go_opsd, symB, wantedX, X.put, X.look, Arg.ev, keepOf, restrict, evs, evO, initEnv, xres, tup, noTup, cls, quiet, Nat.reduceAdd, Nat.reduceEqDiff, ↓reduceIte, reduceCtorEq, goInt, exists_eq_left', eq_self, Int.reduceLT, Int.reduceLE, Int.reduceEq, Int.reduceNeg, Int.reduceAdd, Int.reduceSub, forall_const, ne_eq, undef, Nat.reducePow, Nat.reduceDiv, Nat.reduceMod, hm1, g1, goR_call k1]
      exact hQ _ _ _ rfl ⟨rfl, rfl⟩
    · by_cases c2 : dk = 2
      · subst c2
        simp only [symA, go_opsd, symB, wantedX, X.put, X.look, Arg.ev, keepOf, restrict, evs, evO, initEnv, xres, tup, noTup, cls, quiet, Nat.reduceAdd, Nat.reduceEqDiff, ↓reduceIte, reduceCtorEq, goInt, exists_eq_left', eq_self, Int.reduceLT, Int.reduceLE, Int.reduceEq, Int.reduceNeg, Int.reduceAdd, Int.reduceSub, forall_const, ne_eq, undef, Nat.reducePow, Nat.reduceDiv, Nat.reduceMod, hm1, g1, goR_call k1]
        exact hQ _ _ _ rfl ⟨rfl, rfl⟩
      · simp only [symA, go_opsd, symB, wantedX, X.put, X.look, Arg.ev, keepOf, restrict, evs, evO, initEnv, xres, tup, noTup, cls, quiet, Nat.reduceAdd, Nat.reduceEqDiff, ↓reduceIte, reduceCtorEq, goInt, exists_eq_left', eq_self, Int.reduceLT, Int.reduceLE, Int.reduceEq, Int.reduceNeg, Int.reduceAdd, Int.reduceSub, forall_const, ne_eq, undef, Nat.reducePow, Nat.reduceDiv, Nat.reduceMod, hm1, g1, c1, c2, goR_call k1]
        exact hQ _ _ _ rfl ⟨rfl, rfl⟩
  | true =>
    rw [ho] at k1
    by_cases c1 : dk = 1
    · subst c1
      by_cases t0 : dt = 0
      · subst t0
        by_cases g0 : dg = 0
        · subst g0
          cases dm with
          | true =>
            have e : checkR R ⟨1, dw, 0, 0, true⟩ = 1 := by simp [checkR, ho]
            rw [e] at hQ
            simp only [symA, go_opsd, symB, wantedX, X.put, X.look, Arg.ev, keepOf, restrict, evs, evO, initEnv, xres, tup, noTup, cls, quiet, Nat.reduceAdd, Nat.reduceEqDiff, ↓reduceIte, reduceCtorEq, goInt, exists_eq_left', eq_self, Int.reduceLT, Int.reduceLE, Int.reduceEq, Int.reduceNeg, Int.reduceAdd, Int.reduceSub, forall_const, ne_eq, undef, Nat.reducePow, Nat.reduceDiv, Nat.reduceMod, hm1, g1, goR_call k1]
            exact hQ _ _ _ rfl ⟨rfl, rfl⟩
          | false =>
            by_cases h16 : (16 : Int) ≤ (R.tags : Int)
            · have e : checkR R ⟨1, dw, 0, 0, false⟩ = 5 := by
                have : 16 ≤ R.tags := by omega
                simp [checkR, ho, this]
              rw [e] at hQ
              simp only [symA, go_opsd, symB, wantedX, X.put, X.look, Arg.ev, keepOf, restrict, evs, evO, initEnv, xres, tup, noTup, cls, quiet, Nat.reduceAdd, Nat.reduceEqDiff, ↓reduceIte, reduceCtorEq, goInt, exists_eq_left', eq_self, Int.reduceLT, Int.reduceLE, Int.reduceEq, Int.reduceNeg, Int.reduceAdd, Int.reduceSub, forall_const, ne_eq, undef, Nat.reducePow, Nat.reduceDiv, Nat.reduceMod, hm1, g1, h1.gb, goR_call k1, h16]
              exact hQ _ _ _ rfl ⟨rfl, rfl⟩
            · have e : checkR R ⟨1, dw, 0, 0, false⟩ = 0 := by
                have : ¬ 16 ≤ R.tags := by omega
                simp [checkR, ho, this]
              rw [e] at hQ
              simp only [symA, go_opsd, symB, wantedX, X.put, X.look, Arg.ev, keepOf, restrict, evs, evO, initEnv, xres, tup, noTup, cls, quiet, Nat.reduceAdd, Nat.reduceEqDiff, ↓reduceIte, reduceCtorEq, goInt, exists_eq_left', eq_self, Int.reduceLT, Int.reduceLE, Int.reduceEq, Int.reduceNeg, Int.reduceAdd, Int.reduceSub, forall_const, ne_eq, undef, Nat.reducePow, Nat.reduceDiv, Nat.reduceMod, hm1, g1, h1.gb, goR_call k1, h16]
              exact hQ _ _ _ rfl ⟨rfl, rfl⟩
        · have e : checkR R ⟨1, dw, 0, dg, dm⟩ = 1 := by simp [checkR, ho, g0]
          rw [e] at hQ
          simp only [symA, go_opsd, symB, wantedX, X.put, X.look, Arg.ev, keepOf, restrict, evs, evO, initEnv, xres, tup, noTup, cls, quiet, Nat.reduceAdd, Nat.reduceEqDiff, ↓reduceIte, reduceCtorEq, goInt, exists_eq_left', eq_self, Int.reduceLT, Int.reduceLE, Int.reduceEq, Int.reduceNeg, Int.reduceAdd, Int.reduceSub, forall_const, ne_eq, undef, Nat.reducePow, Nat.reduceDiv, Nat.reduceMod, hm1, g1, goR_call k1, g0]
          exact hQ _ _ _ rfl ⟨rfl, rfl⟩
      · have e : checkR R ⟨1, dw, dt, dg, dm⟩ = 1 := by simp [checkR, ho, t0]
        rw [e] at hQ
        simp only [symA, go_opsd, symB, wantedX, X.put, X.look, Arg.ev, keepOf, restrict, evs, evO, initEnv, xres, tup, noTup, cls, quiet, Nat.reduceAdd, Nat.reduceEqDiff, ↓reduceIte, reduceCtorEq, goInt, exists_eq_left', eq_self, Int.reduceLT, Int.reduceLE, Int.reduceEq, Int.reduceNeg, Int.reduceAdd, Int.reduceSub, forall_const, ne_eq, undef, Nat.reducePow, Nat.reduceDiv, Nat.reduceMod, hm1, g1, goR_call k1, t0]
        exact hQ _ _ _ rfl ⟨rfl, rfl⟩
    · by_cases c2 : dk = 2
      · subst c2
        cases ho2 : oneR R dt with
        | false =>
          rw [ho2] at k2
          have e : checkR R ⟨2, dw, dt, dg, dm⟩ = 1 := by simp [checkR, ho, ho2]
          rw [e] at hQ
          simp only [symA, go_opsd, symB, wantedX, X.put, X.look, Arg.ev, keepOf, restrict, evs, evO, initEnv, xres, tup, noTup, cls, quiet, Nat.reduceAdd, Nat.reduceEqDiff, ↓reduceIte, reduceCtorEq, goInt, exists_eq_left', eq_self, Int.reduceLT, Int.reduceLE, Int.reduceEq, Int.reduceNeg, Int.reduceAdd, Int.reduceSub, forall_const, ne_eq, undef, Nat.reducePow, Nat.reduceDiv, Nat.reduceMod, hm1, g1, goR_call k1, goR_call k2]
          exact hQ _ _ _ rfl ⟨rfl, rfl⟩
        | true =>
          rw [ho2] at k2
          by_cases g0 : dg = 0
          · subst g0
            have e : checkR R ⟨2, dw, dt, 0, dm⟩ = 7 := by simp [checkR, ho, ho2]
            rw [e] at hQ
            simp only [symA, go_opsd, symB, wantedX, X.put, X.look, Arg.ev, keepOf, restrict, evs, evO, initEnv, xres, tup, noTup, cls, quiet, Nat.reduceAdd, Nat.reduceEqDiff, ↓reduceIte, reduceCtorEq, goInt, exists_eq_left', eq_self, Int.reduceLT, Int.reduceLE, Int.reduceEq, Int.reduceNeg, Int.reduceAdd, Int.reduceSub, forall_const, ne_eq, undef, Nat.reducePow, Nat.reduceDiv, Nat.reduceMod, hm1, g1, goR_call k1, goR_call k2]
            exact hQ _ _ _ rfl ⟨rfl, rfl⟩
          · by_cases hgt : (R.tags : Int) < dg
            · have e : checkR R ⟨2, dw, dt, dg, dm⟩ = 7 := by simp [checkR, ho, ho2, hgt]
              rw [e] at hQ
              simp only [symA, go_opsd, symB, wantedX, X.put, X.look, Arg.ev, keepOf, restrict, evs, evO, initEnv, xres, tup, noTup, cls, quiet, Nat.reduceAdd, Nat.reduceEqDiff, ↓reduceIte, reduceCtorEq, goInt, exists_eq_left', eq_self, Int.reduceLT, Int.reduceLE, Int.reduceEq, Int.reduceNeg, Int.reduceAdd, Int.reduceSub, forall_const, ne_eq, undef, Nat.reducePow, Nat.reduceDiv, Nat.reduceMod, hm1, g1, h1.gb, goR_call k1, goR_call k2, g0, cv, hgt]
              exact hQ _ _ _ rfl ⟨rfl, rfl⟩
            · cases hh : hasR R (dw, dg, dm) with
              | false =>
                rw [hh] at z1
                have e : checkR R ⟨2, dw, dt, dg, dm⟩ = 10 := by simp [checkR, ho, ho2, hgt, g0, hh]
                rw [e] at hQ
                simp only [symA, go_opsd, symB, wantedX, X.put, X.look, Arg.ev, keepOf, restrict, evs, evO, initEnv, xres, tup, noTup, cls, quiet, Nat.reduceAdd, Nat.reduceEqDiff, ↓reduceIte, reduceCtorEq, goInt, exists_eq_left', eq_self, Int.reduceLT, Int.reduceLE, Int.reduceEq, Int.reduceNeg, Int.reduceAdd, Int.reduceSub, forall_const, ne_eq, undef, Nat.reducePow, Nat.reduceDiv, Nat.reduceMod, hm1, g1, h1.gb, goR_call k1, goR_call k2, g0, cv, hgt, goR_call z1]
                exact hQ _ _ _ rfl ⟨rfl, rfl⟩
              | true =>
                rw [hh] at z1
                cases hh2 : hasR R (dt, dg, dm) with
                | true =>
                  rw [hh2] at z2
                  have e : checkR R ⟨2, dw, dt, dg, dm⟩ = 8 := by simp [checkR, ho, ho2, hgt, g0, hh, hh2]
                  rw [e] at hQ
                  simp only [symA, go_opsd, symB, wantedX, X.put, X.look, Arg.ev, keepOf, restrict, evs, evO, initEnv, xres, tup, noTup, cls, quiet, Nat.reduceAdd, Nat.reduceEqDiff, ↓reduceIte, reduceCtorEq, goInt, exists_eq_left', eq_self, Int.reduceLT, Int.reduceLE, Int.reduceEq, Int.reduceNeg, Int.reduceAdd, Int.reduceSub, forall_const, ne_eq, undef, Nat.reducePow, Nat.reduceDiv, Nat.reduceMod, hm1, g1, h1.gb, goR_call k1, goR_call k2, g0, cv, hgt, goR_call z1, goR_call z2]
                  exact hQ _ _ _ rfl ⟨rfl, rfl⟩
                | false =>
                  rw [hh2] at z2
                  have e : checkR R ⟨2, dw, dt, dg, dm⟩ = 0 := by simp [checkR, ho, ho2, hgt, g0, hh, hh2]
                  rw [e] at hQ
                  simp only [symA, go_opsd, symB, wantedX, X.put, X.look, Arg.ev, keepOf, restrict, evs, evO, initEnv, xres, tup, noTup, cls, quiet, Nat.reduceAdd, Nat.reduceEqDiff, ↓reduceIte, reduceCtorEq, goInt, exists_eq_left', eq_self, Int.reduceLT, Int.reduceLE, Int.reduceEq, Int.reduceNeg, Int.reduceAdd, Int.reduceSub, forall_const, ne_eq, undef, Nat.reducePow, Nat.reduceDiv, Nat.reduceMod, hm1, g1, h1.gb, goR_call k1, goR_call k2, g0, cv, hgt, goR_call z1, goR_call z2]
                  exact hQ _ _ _ rfl ⟨rfl, rfl⟩
      · have e : checkR R ⟨dk, dw, dt, dg, dm⟩ = 1 := by simp [checkR, c1, c2]
        rw [e] at hQ
        simp only [symA, go_opsd, symB, wantedX, X.put, X.look, Arg.ev, keepOf, restrict, evs, evO, initEnv, xres, tup, noTup, cls, quiet, Nat.reduceAdd, Nat.reduceEqDiff, ↓reduceIte, reduceCtorEq, goInt, exists_eq_left', eq_self, Int.reduceLT, Int.reduceLE, Int.reduceEq, Int.reduceNeg, Int.reduceAdd, Int.reduceSub, forall_const, ne_eq, undef, Nat.reducePow, Nat.reduceDiv, Nat.reduceMod, hm1, g1, c1, c2]
        exact hQ _ _ _ rfl ⟨rfl, rfl⟩

/-! ## It is done -/
/-- The table's slice is another one. -/
theorem RefAt.slice (hb : m.get b = some { cells := [I R.people, I (R.tags : Int), .slice p R.l.length R.l.length], rw := true, spare := none, kin := [] }) (hlb : b < m.next) {F' : List Nat} {p' : Option Addr} {l' : List (Int × Int × Bool)} (hown : OwnS 3 F' m (.slice p' l'.length l'.length) l'.length (l'.map rowR).flatten) (hnb : b ∉ F') :
    ∃ m', storeE m 1 (.pointer (some ⟨b, 2, none⟩)) (.slice p' l'.length l'.length) = some (.skip m') ∧ RefAt m' b F' p' { R with l := l' } ∧ Fm (· = b) m m' := by
  refine ⟨_, store1 hb rfl rfl (by simp) rfl rfl, ⟨?_, hown.fr (S := (· = b)) (Fm.set rfl) (fun i hi q => hnb (q ▸ hi)), hnb, by simpa [put1] using hlb⟩, Fm.set rfl⟩
  rw [put1, Mem.get_set, if_pos rfl]
  rfl
theorem RefAt.up (h : RefAt m b F p R) : ∃ m', storeE m 1 (.pointer (some ⟨b, 1, none⟩)) (I ((R.tags + 1 : Nat) : Int)) = some (.skip m') ∧ RefAt m' b F p { R with tags := R.tags + 1 } ∧ Fm (· = b) m m' := by
  refine ⟨_, store1 h.gb rfl rfl (by simp) rfl rfl, ⟨?_, h.own.fr (S := (· = b)) (Fm.set rfl) (fun i hi q => h.nb (q ▸ hi)), h.nb, by simpa [put1] using h.lb⟩, Fm.set rfl⟩
  rw [put1, Mem.get_set, if_pos rfl]
  rfl
theorem rflat (l : List (Int × Int × Bool)) : (l.map rowR).flatten.length = l.length * 3 := by
  induction l with
  | nil => rfl
  | cons x l ih => simp only [List.map_cons, List.flatten_cons, List.length_append, List.length_cons, ih, List.length_nil]; omega
/-- What is appended. -/
theorem RefAt.append (h : RefAt m b F p R) (hl : R.l.length ≤ 100000) {id c : Nat} {ys : List (Int × Int × Bool)} (hk : 0 < ys.length) (hy2 : ys.length ≤ 2) (hg : m.get id = some { cells := (ys.map rowR).flatten, rw := true, spare := none, kin := [] }) :
    ∃ p' m' F', appendE m 3 24 [I 0, U 0, .bool false] (.slice p R.l.length R.l.length) (.slice (some ⟨id, 0, none⟩) ys.length c) = some (.val (.slice p' (R.l ++ ys).length (R.l ++ ys).length) m') ∧
      OwnS 3 F' m' (.slice p' (R.l ++ ys).length (R.l ++ ys).length) (R.l ++ ys).length ((R.l ++ ys).map rowR).flatten ∧ Fm (· ∈ F) m m' ∧ (∀ i ∈ F', i ∈ F ∨ m.next ≤ i) := by
  have hf : xfirst m 3 ys.length (.slice (some ⟨id, 0, none⟩) ys.length c) = some (ys.map rowR).flatten := by
    simp only [xfirst]
    rw [if_neg (by omega), xload_own hg (by show 0 + ys.length * 3 ≤ (ys.map rowR).flatten.length; rw [rflat]; omega)]
    show some (((ys.map rowR).flatten.drop 0).take _) = _
    rw [List.drop_zero, List.take_of_length_le (by rw [rflat]; omega)]
  obtain ⟨p', m', F', k1, k2, k3, k4, k5⟩ := h.own.appendX (bytes := 24) (k := ys.length) (zero := [I 0, U 0, .bool false]) (vx := .slice (some ⟨id, 0, none⟩) ys.length c) hk rfl (by omega) rfl hf (rflat ys) (by omega) (by omega)
  refine ⟨p', m', F', ?_, ?_, k3, k5⟩
  · rw [List.length_append]; exact k1
  · rw [List.length_append, List.map_append, List.flatten_append]; exact k2
end
end Go.Proofs.Ytfjeccaffenngaa
