/-
  Own work. PROVED HERE: DiffBase: whatever base and entries, the law returns true (merged with the base it is one's own). No condition.
-/
import Derived.Test.YtlldfkapaeidoaaE8
import Derived.Test.YtlldfkapaeidoaaEA
import Derived.Test.YtlldfkapaeidoaaRows
import Derived.ProofKit
namespace Go.Proofs.Ytlldfkapaeidoaa
open Go Go.ChangeShapes Go.WideShapes Go.ChangeAt Go.RowKit X
set_option maxRecDepth 100000
attribute [local irreducible] X.Go' X.GoO X.GoR X.GoG X.GoC X.GoF X.GoFV X.GoFG X.Ex X.GoD X.GoDV X.GoDG
set_option linter.unusedVariables false
set_option linter.unusedSimpArgs false

theorem rdC_slice {b : Nat} {m : Mem} {v : Value} {cs : List Cl} (h : RdC b m v cs) : ∃ p c, v = .slice p cs.length c := by
  obtain ⟨p, c, rfl⟩ := h.slice
  exact ⟨p, c, by simp⟩
theorem e27 {m : Mem} : binE Try.prog .eql 27 (I 0) (I 0) m = some (.val (.bool true) m) := by kernel_rfl
theorem diffBase_run {b : Nat} {m : Mem} {v w : Value} {vs ws : List Ent} (h : RdEW b m v vs) (h' : RdEW b m w ws) (hb : b ≤ m.next) : Wc 4 [v, w] m fun r _ => r = .bool true := by
  refine call_go (F := _) rfl rfl fun Q hQ => ?_
  have a1 := farE_spec h.rd
  cases hf : farE vs with
  | true =>
    rw [hf] at a1
    simp only [symA, go_opsd, symB, wantedX, X.put, X.look, Arg.ev, keepOf, restrict, evs, evO, initEnv, xres, tup, noTup, cls, quiet, Nat.reduceAdd, Nat.reduceEqDiff, ↓reduceIte, reduceCtorEq, goInt, exists_eq_left', eq_self, Int.reduceLT, Int.reduceLE, Int.reduceEq, Int.reduceNeg, Int.reduceAdd, Int.reduceSub, forall_const, ne_eq, undef, Nat.reducePow, Nat.reduceDiv, Nat.reduceMod, goR_call (awake_call _), goR_call a1]
    exact hQ _ _ _ rfl rfl
  | false =>
  rw [hf] at a1
  have a2 := farE_spec h'.rd
  cases hf2 : farE ws with
  | true =>
    rw [hf2] at a2
    simp only [symA, go_opsd, symB, wantedX, X.put, X.look, Arg.ev, keepOf, restrict, evs, evO, initEnv, xres, tup, noTup, cls, quiet, Nat.reduceAdd, Nat.reduceEqDiff, ↓reduceIte, reduceCtorEq, goInt, exists_eq_left', eq_self, Int.reduceLT, Int.reduceLE, Int.reduceEq, Int.reduceNeg, Int.reduceAdd, Int.reduceSub, forall_const, ne_eq, undef, Nat.reducePow, Nat.reduceDiv, Nat.reduceMod, goR_call (awake_call _), goR_call a1, goR_call a2]
    exact hQ _ _ _ rfl rfl
  | false =>
  rw [hf2] at a2
  have hl : vs.length ≤ 60 := by simp [farE] at hf; omega
  have hl' : ws.length ≤ 60 := by simp [farE] at hf2; omega
  obtain ⟨m1, g1, f1⟩ := rright h.rd h.wf (by omega) hb
  obtain ⟨m2, g2, f12⟩ := rright (h'.rd.fr f1 hb (fun _ h => h.elim)) h'.wf (by omega) (Nat.le_trans hb f1.next)
  have f2 : Nx m m2 := f1.comp f12 fun _ _ h => h
  cases e1 : okE none vs with
  | false =>
    rw [e1] at g1
    simp only [symA, go_opsd, symB, wantedX, X.put, X.look, Arg.ev, keepOf, restrict, evs, evO, initEnv, xres, tup, noTup, cls, quiet, Nat.reduceAdd, Nat.reduceEqDiff, ↓reduceIte, reduceCtorEq, goInt, exists_eq_left', eq_self, Int.reduceLT, Int.reduceLE, Int.reduceEq, Int.reduceNeg, Int.reduceAdd, Int.reduceSub, forall_const, ne_eq, undef, Nat.reducePow, Nat.reduceDiv, Nat.reduceMod, goR_call (awake_call _), goR_call a1, goR_call a2, goR_call g1]
    exact hQ _ _ _ rfl rfl
  | true =>
  rw [e1] at g1
  cases e2 : okE none ws with
  | false =>
    rw [e2] at g2
    simp only [symA, go_opsd, symB, wantedX, X.put, X.look, Arg.ev, keepOf, restrict, evs, evO, initEnv, xres, tup, noTup, cls, quiet, Nat.reduceAdd, Nat.reduceEqDiff, ↓reduceIte, reduceCtorEq, goInt, exists_eq_left', eq_self, Int.reduceLT, Int.reduceLE, Int.reduceEq, Int.reduceNeg, Int.reduceAdd, Int.reduceSub, forall_const, ne_eq, undef, Nat.reducePow, Nat.reduceDiv, Nat.reduceMod, goR_call (awake_call _), goR_call a1, goR_call a2, goR_call g1, goR_call g2]
    exact hQ _ _ _ rfl rfl
  | true =>
  rw [e2] at g2
  have hE : ∀ {m'}, Nx m m' → RdE b m' v vs := fun f => h.rd.fr f hb (fun _ h => h.elim)
  have hE' : ∀ {m'}, Nx m m' → RdE b m' w ws := fun f => h'.rd.fr f hb (fun _ h => h.elim)
  obtain ⟨u, s, m3, c1, c2, c3, c4⟩ := merge_spec (hE f2) (hE' f2) (hE f2) h.wf h'.wf h.wf hl hl' hl (Nat.le_trans hb f2.next)
  have f3 : Nx m m3 := f2.comp c4 fun _ _ h => h
  obtain ⟨u', s', m4, d1, d2, d3, d4⟩ := merge_spec (hE f3) (hE' f3) (hE' f3) h.wf h'.wf h'.wf hl hl' hl' (Nat.le_trans hb f3.next)
  have f4 : Nx m m4 := f3.comp d4 fun _ _ h => h
  obtain ⟨y, m5, x1, x2, x3⟩ := rwrites_spec (hE f4) (hE' f4) (by omega) (by omega) (Nat.le_trans hb f4.next)
  have o1 : okM vs ws vs = true := by simp [okM, e1, e2]
  have o2 : okM vs ws ws = true := by simp [okM, e1, e2]
  obtain ⟨p1, p2⟩ := merge_base (okE_srt e1).1 (okE_srt e2).1
  obtain ⟨p3, p4⟩ := merge_same (vs := vs) (ws := ws)
  rw [o1] at c1 c2 c3
  rw [o2] at d1 d2 d3
  simp only [cond_true, p1, p2] at c1 c2 c3
  simp only [cond_true, p3, p4] at d1 d2 d3
  have z := sameW_spec (c2.fr (d4.comp x3 fun _ _ h => h) (Nat.le_refl _) (fun _ h => h.elim)) x2 (by
    have h1 := mrg_length [] vs
    have h2 := mrg_length (mrg [] vs) ws
    have h3 := List.length_filterMap_le (fun k => turnE k vs ws) (mrg (mrg [] vs) ws)
    unfold docW
    simp at h1
    omega)
  rw [decide_eq_true rfl] at z
  obtain ⟨q1, k1, rfl⟩ := rdC_slice c3
  obtain ⟨q2, k2, rfl⟩ := rdW_slice d2
  obtain ⟨q3, k3, rfl⟩ := rdC_slice d3
  simp only [List.length_nil] at c1 d1
  simp only [symA, go_opsd, symB, wantedX, X.put, X.look, Arg.ev, keepOf, restrict, evs, evO, initEnv, xres, tup, noTup, cls, quiet, Nat.reduceAdd, Nat.reduceEqDiff, ↓reduceIte, reduceCtorEq, goInt, exists_eq_left', eq_self, Int.reduceLT, Int.reduceLE, Int.reduceEq, Int.reduceNeg, Int.reduceAdd, Int.reduceSub, forall_const, ne_eq, undef, Nat.reducePow, Nat.reduceDiv, Nat.reduceMod, goR_call (awake_call _), goR_call a1, goR_call a2, goR_call g1, goR_call g2, goR_call c1, goR_call d1, goR_call x1, goR_call z, e27]
  exact hQ _ _ _ rfl rfl

theorem diffBase_args {H : Type} (ds : List (DataW H)) (h : wfEach Try.prog ds Try.f4.params.toList) : ∃ (d0 d1 : DataW H), ds = [d0, d1] ∧ wfD Try.prog d0 22 ∧ wfD Try.prog d1 22 := by
  rw [Try.params4] at h
  obtain ⟨d0, r, rfl, h0, h⟩ := wf_more h
  obtain ⟨d1, rfl, h1⟩ := wf_one h
  exact ⟨d0, d1, rfl, h0, h1⟩

theorem diffBase_lifted (os : Os) (started : os.Started) (H : Type) (enc : TypeId × Value → H) :
    ReturnsInHanded {} Try.checked os 4 .any (Rows.diffBaseSpec.pre6 enc Try.prog Try.f4 Rows.diffBaseRow.domain false) (Rows.diffBaseSpec.post enc Try.prog Try.f4 false true false false) := by
  refine returnsInHanded_of_change (C := Try.checked) own started (by kernel_rfl) Try.func4
    (ChangeSpec.witness6 (enc := enc) (C := Try.checked) false ⟨#[], #[.slice none 0 0, .slice none 0 0], []⟩ 8 (by kernel_rfl) (by kernel_rfl) (by kernel_rfl) (by kernel_rfl)) ?_
  intro W base args ds gs before hval0 hW hcnd _
  refine law_contract mixed tabK_is (f := 4) rfl (k := 10) (by rw [← List.all_eq_true]; kernel_rfl) (fun t ht => ?_) laid rfl (by kernel_rfl) rfl ?_ ?_ H enc W base args ds gs before hval0 hW
  · have : (Try.f4.params.toList.all fun t => Try.prog.readableRec t && decide (t < Try.prog.types.size)) = true := by kernel_rfl
    have := List.all_eq_true.1 this t ht
    simp only [Bool.and_eq_true, decide_eq_true_eq] at this
    exact this
  · intro H ds hd
    obtain ⟨_, _, rfl, _⟩ := diffBase_args ds hd
    rfl
  · intro H ds hd
    obtain ⟨d0, d1, rfl, h0, h1⟩ := diffBase_args ds hd
    obtain ⟨x0, v0, a0, b0, c0⟩ := abs_ents (m := Mem.empty) h0
    obtain ⟨M0, hM0⟩ : ∃ M, (absD Try.prog d0 22 Mem.empty).2 = M := ⟨_, rfl⟩
    rw [hM0] at b0 c0
    obtain ⟨x1, v1, a1, b1, c1⟩ := abs_ents (m := M0) h1
    obtain ⟨M1, hM1⟩ : ∃ M, (absD Try.prog d1 22 M0).2 = M := ⟨_, rfl⟩
    rw [hM1] at b1 c1
    have ha : absArgs Try.prog [d0, d1] Try.f4.params.toList Mem.empty = ([argVal Try.prog 22 (absD Try.prog d0 22 Mem.empty).1, argVal Try.prog 22 (absD Try.prog d1 22 (absD Try.prog d0 22 Mem.empty).2).1], (absD Try.prog d1 22 (absD Try.prog d0 22 Mem.empty).2).2) := by kernel_rfl
    rw [ha, hM0, hM1, a0, a1]
    have q22 : ∀ v, argVal Try.prog 22 [v] = v := fun v => by kernel_rfl
    rw [q22, q22]
    obtain ⟨v, m', ⟨k, hk⟩, rfl⟩ := diffBase_run  (b := M1.next) (ents_last c0 b1) c1 (Nat.le_refl _)
    exact ⟨k, m', hk⟩

theorem diffBase_holds : Rows.DiffBaseSaid :=
  OpenClaim.holds_of_wide 4 Try.f4 rfl rfl rfl rfl rfl rfl rfl ⟨rfl, rfl, rfl, rfl, rfl⟩ rfl rfl rfl rfl rfl (by kernel_rfl) Try.func4 (by kernel_rfl)
    (of_decide_eq_true (by kernel_rfl)) (by unfold Func.isWrapper; first | (rw [if_pos (by decide +kernel)]; kernel_rfl) | (rw [if_neg (by decide +kernel)]; exact ⟨rfl, rfl⟩))
    (fun os started H enc _ => diffBase_lifted os started H enc)

end Go.Proofs.Ytlldfkapaeidoaa
