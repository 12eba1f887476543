/-
  Own work. PROVED HERE: DiffWrites: whatever entries, the law returns true (from one to the other). No condition.
-/
import Derived.Test.YtlldfkapaeidoaaED
import Derived.Test.YtlldfkapaeidoaaEP
import Derived.Test.YtlldfkapaeidoaaEC
import Derived.Test.YtlldfkapaeidoaaEA
import Derived.Test.YtlldfkapaeidoaaRows
import Derived.ProofKit
namespace Go.Proofs.Ytlldfkapaeidoaa
open Go Go.ChangeShapes Go.WideShapes Go.ChangeAt Go.RowKit X
set_option maxRecDepth 100000
set_option maxHeartbeats 2000000
attribute [local irreducible] X.Go' X.GoO X.GoR X.GoG X.GoC X.GoF X.GoFV X.GoFG X.Ex X.GoD X.GoDV X.GoDG
set_option linter.unusedVariables false
set_option linter.unusedSimpArgs false

def wgtE (x : Ent) : Nat := x.key.size + wgtV x.num x.text
def wgtL (vs : List Ent) : Nat := (vs.map wgtE).sum
theorem wgtL_take {vs : List Ent} {i : Nat} {x : Ent} (h : vs[i]? = some x) : wgtL (vs.take (i + 1)) = wgtL (vs.take i) + wgtE x := by
  simp [wgtL, List.take_add_one, h]
theorem farE_get {vs : List Ent} (h : farE vs = false) : vs.length ≤ 60 ∧ ∀ x ∈ vs, x.key.size ≤ 200 ∧ x.text.size ≤ 200 := by
  simp [farE] at h
  exact ⟨by omega, fun x hx => by have := h.2 x hx; omega⟩
theorem wgtE_le {x : Ent} (h : x.key.size ≤ 200 ∧ x.text.size ≤ 200) : wgtE x ≤ 410 := by
  unfold wgtE wgtV
  cases x.num <;> simp <;> omega
theorem wgtL_le : ∀ {vs : List Ent} (i : Nat), (∀ x ∈ vs, x.key.size ≤ 200 ∧ x.text.size ≤ 200) → wgtL (vs.take i) ≤ i * 410
  | [], i, h => by simp [wgtL]
  | x :: vs, 0, h => by simp [wgtL]
  | x :: vs, i + 1, h => by
    have h1 := wgtL_le (vs := vs) i fun y hy => h y (by simp [hy])
    have h2 := wgtE_le (h x (by simp))
    simp only [wgtL, List.take_succ_cons, List.map_cons, List.sum_cons] at h1 ⊢
    omega
theorem bin_bneq {m : Mem} {a b : Bool} : binE Try.prog .neq 4 (.bool a) (.bool b) m = some (.val (.bool (decide (a ≠ b))) m) := by cases a <;> cases b <;> kernel_rfl
theorem e27t {m : Mem} : binE Try.prog .eql 27 (I 1) (I 1) m = some (.val (.bool true) m) := by kernel_rfl
theorem e27 {m : Mem} : binE Try.prog .eql 27 (I 0) (I 0) m = some (.val (.bool true) m) := by kernel_rfl
theorem ld_valR {m : Mem} {p : Nat} {x : Ent} (hg : m.get p = some { cells := x.row, rw := true, spare := none, kin := [] }) : ldA m 3 (.pointer (some ⟨p, 2, none⟩)) = some (.val (.agg ⟨valL x.num x.text x.bits⟩) m) := by
  simp [ldA, xload, hg]

theorem weigh_spec {b : Nat} {m : Mem} {v : Value} {vs : List Ent} (h : RdE b m v vs) (hw : ∀ x ∈ vs, x.Wf) (hok : okE none vs = true) (hf : farE vs = false) (hb : b ≤ m.next) : ∃ m', Ca 25 [v] m (I (wgtL vs : Nat)) m' ∧ Nx m m' := by
  obtain ⟨hl, hsz⟩ := farE_get hf
  have key : Wc 25 [v] m fun r m' => r = I (wgtL vs : Nat) ∧ Nx m m' := by
    refine call_go (F := _) rfl rfl fun Q hQ => ?_
    obtain ⟨m1, r1, f1⟩ := right h hw (by omega) hb
    rw [hok] at r1
    obtain ⟨p, c, rfl⟩ := rdE_slice h
    simp only [symA, go_opsd, symB, wantedX, X.put, X.look, Arg.ev, keepOf, restrict, evs, evO, initEnv, xres, tup, noTup, cls, quiet, Nat.reduceAdd, Nat.reduceEqDiff, ↓reduceIte, reduceCtorEq, goInt, exists_eq_left', eq_self, Int.reduceLT, Int.reduceLE, Int.reduceEq, Int.reduceNeg, Int.reduceAdd, Int.reduceSub, forall_const, ne_eq, undef, Nat.reducePow, Nat.reduceDiv, Nat.reduceMod, goR_call r1]
    refine loop_go (fun j e m' => Nx m m' ∧ ∃ i : Nat, i ≤ vs.length ∧ j = vs.length - i ∧ e = [(3, I (wgtL (vs.take i) : Nat)), (9, .slice p vs.length c), (10, I vs.length), (11, I i)]) vs.length ⟨f1, 0, by omega, rfl, rfl⟩ ?_
    rintro j e m2 N' B' hN hB ⟨f2, i, hi, rfl, rfl⟩
    by_cases hlt : i < vs.length
    · have hlt' : (i : Int) < (vs.length : Int) := by omega
      obtain ⟨x, hx⟩ : ∃ x, vs[i]? = some x := ⟨_, List.getElem?_eq_getElem hlt⟩
      obtain ⟨a, d, hv, ⟨o, hg, c0, _⟩, l5, l3⟩ := rdE_at (h.fr f2 hb (fun _ h => h.elim)) hx
      cases hv
      have hxm := List.mem_of_getElem? hx
      obtain ⟨m3, s1, d1, f23, _⟩ := new_store (m := m2) (z := Z5) (row := x.row) (n := 5) rfl rfl (by omega)
      have hrx := okE_right hok x hxm
      have hvr : vright x.num x.text x.bits = true := by simp [rightE] at hrx; exact hrx.1.2
      obtain ⟨m4, p1, f34⟩ := vweight_spec (m := m3) (hw x hxm).bits hvr
      have lv := ld_valR d1
      have d1' := f34.get (by have := f23.next; omega) (fun h => h) d1
      have hle := wgtL_le (vs := vs) i hsz
      have hxe := wgtE_le (hsz x hxm)
      have hxe2 : wgtE x = x.key.size + wgtV x.num x.text := rfl
      have w1 : IntKind.i64.wrap ((i : Int) + 1) = ((i + 1 : Nat) : Int) := by rw [wrap_i64 (by omega) (by omega)]; omega
      have w2 : IntKind.i64.wrap ((x.key.size : Int) + (wgtV x.num x.text : Int)) = ((wgtE x : Nat) : Int) := by rw [wrap_i64 (by omega) (by omega)]; omega
      have w3 : IntKind.i64.wrap (((wgtL (vs.take i) : Nat) : Int) + ((wgtE x : Nat) : Int)) = ((wgtL (vs.take i) + wgtE x : Nat) : Int) := by rw [wrap_i64 (by omega) (by omega)]; omega
      simp only [symA, go_opsd, symB, wantedX, X.put, X.look, Arg.ev, keepOf, restrict, evs, evO, initEnv, xres, tup, noTup, cls, quiet, Nat.reduceAdd, Nat.reduceEqDiff, ↓reduceIte, reduceCtorEq, goInt, exists_eq_left', eq_self, Int.reduceLT, Int.reduceLE, Int.reduceEq, Int.reduceNeg, Int.reduceAdd, Int.reduceSub, forall_const, ne_eq, undef, Nat.reducePow, Nat.reduceDiv, Nat.reduceMod, hlt', hlt, l5, s1, d1, d1', lv, calc_len, goDV3c p1, w1, w2, w3]
      refine hN _ _ (vs.length - (i + 1)) (by omega) ⟨f2.comp (f23.comp f34 fun _ _ h => h) fun _ _ h => h, i + 1, by omega, rfl, ?_⟩
      rw [wgtL_take hx]
    · have hlt' : ¬ (i : Int) < (vs.length : Int) := by omega
      have hall : vs.take i = vs := List.take_of_length_le (by omega)
      simp only [symA, go_opsd, symB, wantedX, X.put, X.look, Arg.ev, keepOf, restrict, evs, evO, initEnv, xres, tup, noTup, cls, quiet, Nat.reduceAdd, Nat.reduceEqDiff, ↓reduceIte, reduceCtorEq, goInt, exists_eq_left', eq_self, Int.reduceLT, Int.reduceLE, Int.reduceEq, Int.reduceNeg, Int.reduceAdd, Int.reduceSub, forall_const, ne_eq, undef, Nat.reducePow, Nat.reduceDiv, Nat.reduceMod, hlt']
      refine hB _ _ _ ?_
      simp only [symA, go_opsd, symB, wantedX, X.put, X.look, Arg.ev, keepOf, restrict, evs, evO, initEnv, xres, tup, noTup, cls, quiet, Nat.reduceAdd, Nat.reduceEqDiff, ↓reduceIte, reduceCtorEq, goInt, exists_eq_left', eq_self, Int.reduceLT, Int.reduceLE, Int.reduceEq, Int.reduceNeg, Int.reduceAdd, Int.reduceSub, forall_const, ne_eq, undef, Nat.reducePow, Nat.reduceDiv, Nat.reduceMod, hall]
      exact hQ _ _ _ rfl ⟨rfl, f2⟩
  obtain ⟨r, m', hc, rfl, hf⟩ := key
  exact ⟨m', hc, hf⟩

theorem doneE_wf {s : Int} {vs ws : List Ent} (hs : SortE vs) (hs' : SortE ws) (hw : ∀ x ∈ vs, x.Wf) (hw' : ∀ x ∈ ws, x.Wf) (h1 : -9223372036854775808 ≤ s) (h2 : s ≤ 9223372036854775807) : ∀ x ∈ doneE s vs ws, x.Wf := by
  intro x hx
  rcases (fold_mem (docW_sorted hs hs')).1 hx with ⟨k1, _⟩ | ⟨w, k1, _, rfl⟩
  · exact hw x k1
  · exact ⟨h1, h2, (docW_wf hs hs' hw' w k1).bits⟩

theorem diffWrites_main {b : Nat} {m : Mem} {v w : Value} {vs ws : List Ent} {s : Int} (h : RdEW b m v vs) (h' : RdEW b m w ws) (hb : b ≤ m.next) (hs1 : s ≤ 9223372036854775807)
    (hf1 : farE vs = false) (hf2 : farE ws = false) (a1 : Ca 8 [v] m (.bool false) m) (a2 : Ca 8 [w] m (.bool false) m) (e1 : okE none vs = true) (e2 : okE none ws = true) : Wc 6 [v, w, I s] m fun r _ => r = .bool true := by
  refine call_go (F := _) rfl rfl fun Q hQ => ?_
  obtain ⟨hl, hsz⟩ := farE_get hf1
  obtain ⟨hl', hsz'⟩ := farE_get hf2
  have hs := (okE_srt e1).1
  have hs' := (okE_srt e2).1
  have hE : ∀ {m'}, Nx m m' → RdE b m' v vs := fun f => h.rd.fr f hb (fun _ h => h.elim)
  have hE' : ∀ {m'}, Nx m m' → RdE b m' w ws := fun f => h'.rd.fr f hb (fun _ h => h.elim)
  have hC : ∀ {m'}, Nx m m' → CutB b m' 5 v := fun f => h.cut.fr f hb (fun _ h => h.elim)
  obtain ⟨u, m1, c1, c2, c3, f1⟩ := writes_spec h.rd h'.rd h.wf h'.wf (by omega) (by omega) hb
  have o1 : (okE none vs && okE none ws) = true := by simp [e1, e2]
  rw [o1] at c1 c2
  simp only [cond_true] at c1 c2
  obtain ⟨m2, g1, f12⟩ := right (hE f1) h.wf (by omega) (Nat.le_trans hb f1.next)
  have f2 : Nx m m2 := f1.comp f12 fun _ _ h => h
  obtain ⟨m3, g2, f23⟩ := rright (hE f2) h.wf (by omega) (Nat.le_trans hb f2.next)
  have f3 : Nx m m3 := f2.comp f23 fun _ _ h => h
  obtain ⟨m4, g3, f34⟩ := rright (hE f3) h.wf (by omega) (Nat.le_trans hb f3.next)
  have f4 : Nx m m4 := f3.comp f34 fun _ _ h => h
  obtain ⟨m5, g4, f45⟩ := rright (hE' f4) h'.wf (by omega) (Nat.le_trans hb f4.next)
  have f5 : Nx m m5 := f4.comp f45 fun _ _ h => h
  have f15 : Nx m1 m5 := ((f12.comp f23 fun _ _ h => h).comp f34 fun _ _ h => h).comp f45 fun _ _ h => h
  rw [e1] at g1 g2 g3
  rw [e2] at g4
  obtain ⟨q, hq⟩ : ∃ q, max s 1 = q := ⟨_, rfl⟩
  have hq1 : 1 ≤ q := by omega
  have hq2 : q ≤ 9223372036854775807 := by omega
  have okA1 : okA vs (docW vs ws) q = true := by simp [okA, e1, docW_right e1 e2, hq1]
  have hdl := docW_len hl hl'
  obtain ⟨r, m6, F6, x1, x2, x3, x4⟩ := apply_spec (s := q) (rd_up' (hE f5) (Nat.le_trans hb f1.next)) (cut_up (hC f5) (Nat.le_trans hb f1.next)) (c2.fr f15 (Nat.le_refl _) (fun _ h => h.elim)) (c3.fr f15 (Nat.le_refl _) (fun _ h => h.elim)) h.wf (docW_wf hs hs' h'.wf) (by omega) (by omega) f15.next
  rw [okA1] at x1 x2
  simp only [cond_true, doneE_eq hs hs'] at x1 x2
  have f6 : Nx m m6 := f5.comp x4 fun _ _ h => h
  have hR := ownE_rd x2
  have hal := doneE_alike (s := q) hs hs'
  have hdel : (doneE q vs ws).length ≤ 100 := by have := hal.1; omega
  obtain ⟨n, m7, y1, y2, y3, f67⟩ := writes_spec hR (rd_up' (hE' f6) (Nat.le_trans hb f6.next)) (doneE_wf hs hs' h.wf h'.wf (by omega) hq2) h'.wf hdel (by omega) (Nat.le_refl _)
  have o2 : (okE none (doneE q vs ws) && okE none ws) = true := by simp [doneE_right e1 e2 hq1, e2]
  rw [o2] at y1 y2
  simp only [cond_true, docW_alike (doneE_sorted hs) hs' hal] at y1 y2
  have f7 : Nx m m7 := f6.comp f67 fun _ _ h => h
  obtain ⟨pn, cn, rfl⟩ := rdW_slice y2
  obtain ⟨pv, cv, hv⟩ := rdE_slice h.rd
  subst hv
  simp only [symA, go_opsd, symB, wantedX, X.put, X.look, Arg.ev, keepOf, restrict, evs, evO, initEnv, xres, tup, noTup, cls, quiet, Nat.reduceAdd, Nat.reduceEqDiff, ↓reduceIte, reduceCtorEq, goInt, exists_eq_left', eq_self, Int.reduceLT, Int.reduceLE, Int.reduceEq, Int.reduceNeg, Int.reduceAdd, Int.reduceSub, forall_const, ne_eq, undef, Nat.reducePow, Nat.reduceDiv, Nat.reduceMod, goR_call (awake_call _), goR_call a1, goR_call a2, goR_call c1, goR_call g1, goR_call g2, goR_call g3, goR_call g4, bin_bneq, not_true_eq_false, hq, goR_call x1, goR_call y1]
  refine loop_go (fun j e m' => Nx m7 m' ∧ ∃ i : Nat, i ≤ vs.length ∧ j = vs.length - i ∧
    e = [(0, .slice pv vs.length cv), (1, w), (7, u), (8, I 0), (9, r), (10, I 0), (11, .slice pn ([] : List Wr).length cn), (12, I 0), (13, I (wgtL (vs.take i) : Nat)), (14, I i)]) vs.length ⟨.refl, 0, by omega, rfl, rfl⟩ ?_
  rintro j e n0 N1 B1 hN1 hB1 ⟨fn0, i, hi, rfl, rfl⟩
  have f0 : Nx m n0 := f7.comp fn0 fun _ _ h => h
  by_cases hlt : i < vs.length
  · have hlt' : (i : Int) < (vs.length : Int) := by omega
    obtain ⟨x, hx⟩ : ∃ x, vs[i]? = some x := ⟨_, List.getElem?_eq_getElem hlt⟩
    obtain ⟨a, d, hv, ⟨o, hg, c0, _⟩, l5, l3⟩ := rdE_at (hE f0) hx
    cases hv
    have hxm := List.mem_of_getElem? hx
    obtain ⟨t, n1, p1, p2, g01⟩ := rpack_spec (m := n0) (n := x.num) (t := x.text) (h.wf x hxm).bits (hsz x hxm).2
    have f01 : Nx m n1 := f0.comp g01 fun _ _ h => h
    obtain ⟨a', d', hv', ⟨o', hg', c0', _⟩, l5', l3'⟩ := rdE_at (hE f01) hx
    cases hv'
    have hle := wgtL_le (vs := vs) i hsz
    have hxe := wgtE_le (hsz x hxm)
    have hxe2 : wgtE x = x.key.size + wgtV x.num x.text := rfl
    have w1 : IntKind.i64.wrap ((i : Int) + 1) = ((i + 1 : Nat) : Int) := by rw [wrap_i64 (by omega) (by omega)]; omega
    have w2 : IntKind.i64.wrap (((wgtL (vs.take i) : Nat) : Int) + (x.key.size : Int)) = ((wgtL (vs.take i) + x.key.size : Nat) : Int) := by rw [wrap_i64 (by omega) (by omega)]; omega
    have w3 : IntKind.i64.wrap (((wgtL (vs.take i) + x.key.size : Nat) : Int) + ((wgtV x.num x.text : Nat) : Int)) = ((wgtL (vs.take i) + wgtE x : Nat) : Int) := by rw [wrap_i64 (by omega) (by omega)]; omega
    simp only [symA, go_opsd, symB, wantedX, X.put, X.look, Arg.ev, keepOf, restrict, evs, evO, initEnv, xres, tup, noTup, cls, quiet, Nat.reduceAdd, Nat.reduceEqDiff, ↓reduceIte, reduceCtorEq, goInt, exists_eq_left', eq_self, Int.reduceLT, Int.reduceLE, Int.reduceEq, Int.reduceNeg, Int.reduceAdd, Int.reduceSub, forall_const, ne_eq, undef, Nat.reducePow, Nat.reduceDiv, Nat.reduceMod, hlt', hlt, hg, c0, l3, hg', c0', l3', calc_len, goDV3c p1, p2, w1, w2, w3]
    refine hN1 _ _ (vs.length - (i + 1)) (by omega) ⟨fn0.comp g01 fun _ _ h => h, i + 1, by omega, rfl, ?_⟩
    rw [wgtL_take hx]
    rfl
  · have hlt' : ¬ (i : Int) < (vs.length : Int) := by omega
    have hall : vs.take i = vs := List.take_of_length_le (by omega)
    simp only [symA, go_opsd, symB, wantedX, X.put, X.look, Arg.ev, keepOf, restrict, evs, evO, initEnv, xres, tup, noTup, cls, quiet, Nat.reduceAdd, Nat.reduceEqDiff, ↓reduceIte, reduceCtorEq, goInt, exists_eq_left', eq_self, Int.reduceLT, Int.reduceLE, Int.reduceEq, Int.reduceNeg, Int.reduceAdd, Int.reduceSub, forall_const, ne_eq, undef, Nat.reducePow, Nat.reduceDiv, Nat.reduceMod, hlt']
    refine hB1 _ _ _ ?_
    obtain ⟨y, n1, z1, z2, g01⟩ := rwrites_spec (hE f0) (hE' f0) (by omega) (by omega) (Nat.le_trans hb f0.next)
    have f01 : Nx m n1 := f0.comp g01 fun _ _ h => h
    have f1n : Nx m1 n1 := (f15.comp x4 fun _ _ h => h).comp ((f67.comp fn0 fun _ _ h => h).comp g01 fun _ _ h => h) fun _ _ h => h
    have f6n : Nx m6 n1 := (f67.comp fn0 fun _ _ h => h).comp g01 fun _ _ h => h
    have zz := sameW_spec (c2.fr f1n (Nat.le_refl _) (fun _ h => h.elim)) z2 (by omega)
    rw [decide_eq_true rfl] at zz
    have hlk := like_spec (hR.fr f6n (Nat.le_refl _) (fun _ h => h.elim)) (hE' f01) hal (by omega)
    obtain ⟨n2, k1, _⟩ := weigh_spec (hE f01) h.wf e1 hf1 (Nat.le_trans hb f01.next)
    simp only [symA, go_opsd, symB, wantedX, X.put, X.look, Arg.ev, keepOf, restrict, evs, evO, initEnv, xres, tup, noTup, cls, quiet, Nat.reduceAdd, Nat.reduceEqDiff, ↓reduceIte, reduceCtorEq, goInt, exists_eq_left', eq_self, Int.reduceLT, Int.reduceLE, Int.reduceEq, Int.reduceNeg, Int.reduceAdd, Int.reduceSub, forall_const, ne_eq, undef, Nat.reducePow, Nat.reduceDiv, Nat.reduceMod, goR_call z1, goR_call zz, e27, goR_call hlk, goR_call k1, hall]
    exact hQ _ _ _ rfl rfl

theorem diffWrites_run {b : Nat} {m : Mem} {v w : Value} {vs ws : List Ent} {n2 : Int} (hs1 : n2 ≤ 9223372036854775807) (h : RdEW b m v vs) (h' : RdEW b m w ws) (hb : b ≤ m.next) : Wc 6 [v, w, I n2] m fun r _ => r = .bool true := by
  have a1 := farE_spec h.rd
  have a2 := farE_spec h'.rd
  cases hf : farE vs with
  | true =>
    rw [hf] at a1
    refine call_go (F := _) rfl rfl fun Q hQ => ?_
    simp only [symA, go_opsd, symB, wantedX, X.put, X.look, Arg.ev, keepOf, restrict, evs, evO, initEnv, xres, tup, noTup, cls, quiet, Nat.reduceAdd, Nat.reduceEqDiff, ↓reduceIte, reduceCtorEq, goInt, exists_eq_left', eq_self, Int.reduceLT, Int.reduceLE, Int.reduceEq, Int.reduceNeg, Int.reduceAdd, Int.reduceSub, forall_const, ne_eq, undef, Nat.reducePow, Nat.reduceDiv, Nat.reduceMod, goR_call (awake_call _), goR_call a1]
    exact hQ _ _ _ rfl rfl
  | false =>
  cases hf2 : farE ws with
  | true =>
    rw [hf] at a1
    rw [hf2] at a2
    refine call_go (F := _) rfl rfl fun Q hQ => ?_
    simp only [symA, go_opsd, symB, wantedX, X.put, X.look, Arg.ev, keepOf, restrict, evs, evO, initEnv, xres, tup, noTup, cls, quiet, Nat.reduceAdd, Nat.reduceEqDiff, ↓reduceIte, reduceCtorEq, goInt, exists_eq_left', eq_self, Int.reduceLT, Int.reduceLE, Int.reduceEq, Int.reduceNeg, Int.reduceAdd, Int.reduceSub, forall_const, ne_eq, undef, Nat.reducePow, Nat.reduceDiv, Nat.reduceMod, goR_call (awake_call _), goR_call a1, goR_call a2]
    exact hQ _ _ _ rfl rfl
  | false =>
  rw [hf] at a1
  rw [hf2] at a2
  obtain ⟨hl, _⟩ := farE_get hf
  obtain ⟨hl', _⟩ := farE_get hf2
  cases hok : (okE none vs && okE none ws) with
  | true =>
    simp only [Bool.and_eq_true] at hok
    exact diffWrites_main h h' hb hs1 hf hf2 a1 a2 hok.1 hok.2
  | false =>
  refine call_go (F := _) rfl rfl fun Q hQ => ?_
  obtain ⟨u, m1, c1, c2, c3, f1⟩ := writes_spec h.rd h'.rd h.wf h'.wf (by omega) (by omega) hb
  rw [hok] at c1 c2
  simp only [cond_false] at c1 c2
  obtain ⟨p1, k1, rfl⟩ := rdW_slice c2
  simp only [List.length_nil] at c1
  obtain ⟨m2, g1, f12⟩ := right (h.rd.fr f1 hb (fun _ h => h.elim)) h.wf (by omega) (Nat.le_trans hb f1.next)
  have f2 : Nx m m2 := f1.comp f12 fun _ _ h => h
  obtain ⟨m3, g2, f23⟩ := rright (h.rd.fr f2 hb (fun _ h => h.elim)) h.wf (by omega) (Nat.le_trans hb f2.next)
  have f3 : Nx m m3 := f2.comp f23 fun _ _ h => h
  obtain ⟨m4, g3, f34⟩ := rright (h.rd.fr f3 hb (fun _ h => h.elim)) h.wf (by omega) (Nat.le_trans hb f3.next)
  have f4 : Nx m m4 := f3.comp f34 fun _ _ h => h
  cases e1 : okE none vs with
  | false =>
    rw [e1] at g1 g2 g3
    simp only [symA, go_opsd, symB, wantedX, X.put, X.look, Arg.ev, keepOf, restrict, evs, evO, initEnv, xres, tup, noTup, cls, quiet, Nat.reduceAdd, Nat.reduceEqDiff, ↓reduceIte, reduceCtorEq, goInt, exists_eq_left', eq_self, Int.reduceLT, Int.reduceLE, Int.reduceEq, Int.reduceNeg, Int.reduceAdd, Int.reduceSub, forall_const, ne_eq, undef, Nat.reducePow, Nat.reduceDiv, Nat.reduceMod, goR_call (awake_call _), goR_call a1, goR_call a2, goR_call c1, goR_call g1, goR_call g2, goR_call g3, bin_bneq, not_true_eq_false, e27t]
    exact hQ _ _ _ rfl rfl
  | true =>
  rw [e1] at g1 g2 g3
  obtain ⟨m5, g4, f45⟩ := rright (h'.rd.fr f4 hb (fun _ h => h.elim)) h'.wf (by omega) (Nat.le_trans hb f4.next)
  have e2 : okE none ws = false := by simpa [e1] using hok
  rw [e2] at g4
  simp only [symA, go_opsd, symB, wantedX, X.put, X.look, Arg.ev, keepOf, restrict, evs, evO, initEnv, xres, tup, noTup, cls, quiet, Nat.reduceAdd, Nat.reduceEqDiff, ↓reduceIte, reduceCtorEq, goInt, exists_eq_left', eq_self, Int.reduceLT, Int.reduceLE, Int.reduceEq, Int.reduceNeg, Int.reduceAdd, Int.reduceSub, forall_const, ne_eq, undef, Nat.reducePow, Nat.reduceDiv, Nat.reduceMod, goR_call (awake_call _), goR_call a1, goR_call a2, goR_call c1, goR_call g1, goR_call g2, goR_call g3, goR_call g4, bin_bneq, not_true_eq_false, e27t]
  exact hQ _ _ _ rfl rfl

theorem diffWrites_args {H : Type} (ds : List (DataW H)) (h : wfEach Try.prog ds Try.f6.params.toList) : ∃ (n2 : Int) (d0 d1 : DataW H), ds = [d0, d1, .lit (.int .i64 n2)] ∧ wfD Try.prog d0 22 ∧ wfD Try.prog d1 22 ∧ n2 ≤ 9223372036854775807 := by
  rw [Try.params6] at h
  obtain ⟨d0, r, rfl, h0, h⟩ := wf_more h
  obtain ⟨d1, r, rfl, h1, h⟩ := wf_more h
  obtain ⟨d2, rfl, h2⟩ := wf_one h
  obtain ⟨n2, rfl, _, hn2⟩ := wf_int Try.underlying3 h2
  have e2 : IntKind.i64.max = 9223372036854775807 := by decide
  rw [e2] at hn2
  exact ⟨n2, d0, d1, rfl, h0, h1, hn2⟩

theorem diffWrites_lifted (os : Os) (started : os.Started) (H : Type) (enc : TypeId × Value → H) :
    ReturnsInHanded {} Try.checked os 6 .any (Rows.diffWritesSpec.pre6 enc Try.prog Try.f6 Rows.diffWritesRow.domain false) (Rows.diffWritesSpec.post enc Try.prog Try.f6 false true false false) := by
  refine returnsInHanded_of_change (C := Try.checked) own started (by kernel_rfl) Try.func6
    (ChangeSpec.witness6 (enc := enc) (C := Try.checked) false ⟨#[], #[.slice none 0 0, .slice none 0 0, .int .i64 0], []⟩ 8 (by kernel_rfl) (by kernel_rfl) (by kernel_rfl) (by kernel_rfl)) ?_
  intro W base args ds gs before hval0 hW hcnd _
  refine law_contract mixed tabK_is (f := 6) rfl (k := 10) (by rw [← List.all_eq_true]; kernel_rfl) (fun t ht => ?_) laid rfl (by kernel_rfl) rfl ?_ ?_ H enc W base args ds gs before hval0 hW
  · have : (Try.f6.params.toList.all fun t => Try.prog.readableRec t && decide (t < Try.prog.types.size)) = true := by kernel_rfl
    have := List.all_eq_true.1 this t ht
    simp only [Bool.and_eq_true, decide_eq_true_eq] at this
    exact this
  · intro H ds hd
    obtain ⟨_, _, _, rfl, _⟩ := diffWrites_args ds hd
    rfl
  · intro H ds hd
    obtain ⟨n2, d0, d1, rfl, h0, h1, hn2⟩ := diffWrites_args ds hd
    obtain ⟨x0, v0, a0, b0, c0⟩ := abs_ents (m := Mem.empty) h0
    obtain ⟨M0, hM0⟩ : ∃ M, (absD Try.prog d0 22 Mem.empty).2 = M := ⟨_, rfl⟩
    rw [hM0] at b0 c0
    obtain ⟨x1, v1, a1, b1, c1⟩ := abs_ents (m := M0) h1
    obtain ⟨M1, hM1⟩ : ∃ M, (absD Try.prog d1 22 M0).2 = M := ⟨_, rfl⟩
    rw [hM1] at b1 c1
    have ha : absArgs Try.prog [d0, d1, .lit (.int .i64 n2)] Try.f6.params.toList Mem.empty = ([argVal Try.prog 22 (absD Try.prog d0 22 Mem.empty).1, argVal Try.prog 22 (absD Try.prog d1 22 (absD Try.prog d0 22 Mem.empty).2).1, .int .i64 n2], (absD Try.prog d1 22 (absD Try.prog d0 22 Mem.empty).2).2) := by kernel_rfl
    rw [ha, hM0, hM1, a0, a1]
    have q22 : ∀ v, argVal Try.prog 22 [v] = v := fun v => by kernel_rfl
    rw [q22, q22]
    obtain ⟨v, m', ⟨k, hk⟩, rfl⟩ := diffWrites_run (n2 := n2) hn2 (b := M1.next) (ents_last c0 b1) c1 (Nat.le_refl _)
    exact ⟨k, m', hk⟩

theorem diffWrites_holds : Rows.DiffWritesSaid :=
  OpenClaim.holds_of_wide 6 Try.f6 rfl rfl rfl rfl rfl rfl rfl ⟨rfl, rfl, rfl, rfl, rfl⟩ rfl rfl rfl rfl rfl (by kernel_rfl) Try.func6 (by kernel_rfl)
    (of_decide_eq_true (by kernel_rfl)) (by unfold Func.isWrapper; first | (rw [if_pos (by decide +kernel)]; kernel_rfl) | (rw [if_neg (by decide +kernel)]; exact ⟨rfl, rfl⟩))
    (fun os started H enc _ => diffWrites_lifted os started H enc)


end Go.Proofs.Ytlldfkapaeidoaa
