/-
  Own work. PROVED HERE: WsetPlays: whatever is put, deleted, marked and taken back, the law returns true (each answer, all writes, and what is told about any key). No condition.
-/
import Derived.Test.YtecceimgpeookaaVC
import Derived.Test.YtecceimgpeookaaRows
import Derived.ProofKit
namespace Go.Proofs.Ytecceimgpeookaa
open Go Go.ChangeShapes Go.WideShapes Go.ChangeAt Go.RowKit X
set_option maxRecDepth 100000
set_option maxHeartbeats 2000000
attribute [local irreducible] X.Go' X.GoO X.GoR X.GoG X.GoC X.GoF X.GoFV X.GoFG X.Ex X.GoD X.GoDV X.GoDG
set_option linter.unusedVariables false
set_option linter.unusedSimpArgs false

theorem ne4 {m : Mem} {t : Bool} : binE Try.prog .neq 4 (.bool t) (.bool t) m = some (.val (.bool false) m) := by cases t <;> kernel_rfl
theorem ne_self {m : Mem} {x : Wr} : binE Try.prog .neq 49 (.agg ⟨row5 x.key (.bool x.gone) x.num x.text x.bits⟩) (.agg ⟨row5 x.key (.bool x.gone) x.num x.text x.bits⟩) m = some (.val (.bool false) m) := by
  have := ne49 (m := m) (v := x) (w := x)
  rw [sameW_iff.2 rfl] at this
  exact this
/-- What both tell about a key, each kept in a row of its own. -/
theorem pair {f1 f2 : FuncId} {a1 a2 : List Value} {m : Mem} (h : ∃ o m1, Ca f1 a1 m (tupW o) m1 ∧ Nx m m1 ∧ ∀ m2, Nx m m2 → ∃ m3, Ca f2 a2 m2 (tupW o) m3 ∧ Nx m2 m3) :
    ∃ (x : Wr) (t : Bool) (ma mb mc md : Mem), Ca f1 a1 m (.tuple #[.agg ⟨row5 x.key (.bool x.gone) x.num x.text x.bits⟩, .bool t]) ma ∧ storeE (ma.push { cells := ZW, rw := true, spare := none, kin := [] }) 5 (.pointer (some ⟨ma.next, 0, none⟩)) (.agg ⟨row5 x.key (.bool x.gone) x.num x.text x.bits⟩) = some (.skip mb) ∧
      Ca f2 a2 mb (.tuple #[.agg ⟨row5 x.key (.bool x.gone) x.num x.text x.bits⟩, .bool t]) mc ∧ storeE (mc.push { cells := ZW, rw := true, spare := none, kin := [] }) 5 (.pointer (some ⟨mc.next, 0, none⟩)) (.agg ⟨row5 x.key (.bool x.gone) x.num x.text x.bits⟩) = some (.skip md) ∧
      (∀ m', Nx md m' → ldA m' 5 (.pointer (some ⟨ma.next, 0, none⟩)) = some (.val (.agg ⟨row5 x.key (.bool x.gone) x.num x.text x.bits⟩) m') ∧ ldA m' 5 (.pointer (some ⟨mc.next, 0, none⟩)) = some (.val (.agg ⟨row5 x.key (.bool x.gone) x.num x.text x.bits⟩) m')) ∧ Nx m md := by
  obtain ⟨o, ma, h1, h2, h3⟩ := h
  obtain ⟨mb, s1, s2, s3, s4⟩ := new_store (m := ma) (z := ZW) (row := (o.getD zeroW).row) (n := 5) rfl rfl (by omega)
  obtain ⟨mc, h4, h5⟩ := h3 mb (h2.comp s3 fun _ _ h => h)
  obtain ⟨md, t1, t2, t3, t4⟩ := new_store (m := mc) (z := ZW) (row := (o.getD zeroW).row) (n := 5) rfl rfl (by omega)
  have fbd : Nx mb md := h5.comp t3 fun _ _ h => h
  refine ⟨o.getD zeroW, o.isSome, ma, mb, mc, md, h1, s1, h4, t1, fun m' hm => ⟨ld_wr ((fbd.comp hm fun _ _ h => h).get (by omega) (fun h => h) s2), ld_wr (hm.get (by omega) (fun h => h) t2)⟩, (h2.comp s3 fun _ _ h => h).comp fbd fun _ _ h => h⟩

theorem wsetPlays_run {b : Nat} {m : Mem} {l : Value} {xs : List Act} {key : ByteArray} (h : RdAW b m l xs) (hb : b ≤ m.next) : Wc 5 [l, .string key] m fun v m' => v = .bool true := by
  refine call_go (F := _) rfl rfl fun Q hQ => ?_
  by_cases hkl : (200 : Int) < (key.size : Int)
  · simp only [symA, go_opsd, symB, wantedX, X.put, X.look, Arg.ev, keepOf, restrict, evs, evO, initEnv, xres, tup, noTup, cls, quiet, Nat.reduceAdd, Nat.reduceEqDiff, ↓reduceIte, reduceCtorEq, goInt, exists_eq_left', eq_self, Int.reduceLT, Int.reduceLE, Int.reduceEq, Int.reduceNeg, Int.reduceAdd, Int.reduceSub, forall_const, ne_eq, undef, Nat.reducePow, Nat.reduceDiv, Nat.reduceMod, goR_call (awake_call _), calc_len, hkl]
    exact hQ _ _ _ rfl rfl
  obtain ⟨m1, a1, hs1, f1, n1⟩ := new_spec (m := m)
  obtain ⟨p, c, rfl⟩ := act_slice h.rd
  obtain ⟨m2, hm2⟩ : ∃ m2, m1.push { cells := [.slice none 0 0, .slice none 0 0], rw := true, spare := none, kin := [] } = m2 := ⟨_, rfl⟩
  have hr2 := ref_new hm2
  have f2 : Nx m1 m2 := hm2 ▸ .push
  have up : ∀ {x y : Mem}, Nx x y → Fm (b ≤ ·) x y := fun f => f.mono fun _ _ h => h.elim
  have b0 : Both [m.next] [m1.next] m2 (Pt m.next) (Pt m1.next) [] [] 0 := ⟨hs1.nx f2, hr2, by simp; omega⟩
  simp only [symA, go_opsd, symB, wantedX, X.put, X.look, Arg.ev, keepOf, restrict, evs, evO, initEnv, xres, tup, noTup, cls, quiet, Nat.reduceAdd, Nat.reduceEqDiff, ↓reduceIte, reduceCtorEq, goInt, exists_eq_left', eq_self, Int.reduceLT, Int.reduceLE, Int.reduceEq, Int.reduceNeg, Int.reduceAdd, Int.reduceSub, forall_const, ne_eq, undef, Nat.reducePow, Nat.reduceDiv, Nat.reduceMod, goR_call (awake_call _), calc_len, hkl, goR_call a1, build2, hm2]
  refine loop_go (fun j e m' => ∃ (i : Nat) (G H : List Nat) (W : List Wr) (R : List (List Wr)), i ≤ xs.length ∧ i ≤ 120 ∧ j = xs.length - i ∧ Both G H m' (Pt m.next) (Pt m1.next) W R i ∧ (∀ y, y ∈ G ∨ y ∈ H → b ≤ y) ∧ Fm (b ≤ ·) m m' ∧ e = [(0, .slice p xs.length c), (1, .string key), (5, Pt m.next), (6, Pt m1.next), (7, I (i : Int))]) xs.length ⟨0, _, _, [], [], by omega, by omega, rfl, b0, by simp; omega, up (f1.comp f2 fun _ _ h => h), rfl⟩ ?_
  rintro j e m3 N' B' hN hB ⟨i, G, H, W, R, hi, h120, rfl, bo, hGH, hf, rfl⟩
  by_cases hge : xs.length ≤ i
  · have hlt' : ¬ (i : Int) < (xs.length : Int) := by omega
    simp only [symA, go_opsd, symB, wantedX, X.put, X.look, Arg.ev, keepOf, restrict, evs, evO, initEnv, xres, tup, noTup, cls, quiet, Nat.reduceAdd, Nat.reduceEqDiff, ↓reduceIte, reduceCtorEq, goInt, exists_eq_left', eq_self, Int.reduceLT, Int.reduceLE, Int.reduceEq, Int.reduceNeg, Int.reduceAdd, Int.reduceSub, forall_const, ne_eq, undef, Nat.reducePow, Nat.reduceDiv, Nat.reduceMod, hlt']
    refine hB _ _ _ ?_
    simp only [symA, go_opsd, symB, wantedX, X.put, X.look, Arg.ev, keepOf, restrict, evs, evO, initEnv, xres, tup, noTup, cls, quiet, Nat.reduceAdd, Nat.reduceEqDiff, ↓reduceIte, reduceCtorEq, goInt, exists_eq_left', eq_self, Int.reduceLT, Int.reduceLE, Int.reduceEq, Int.reduceNeg, Int.reduceAdd, Int.reduceSub, forall_const, ne_eq, undef, Nat.reducePow, Nat.reduceDiv, Nat.reduceMod]
    exact hQ _ _ _ rfl rfl
  have hlt : i < xs.length := by omega
  have hlt' : (i : Int) < (xs.length : Int) := by omega
  by_cases hlm0 : ¬ (i : Int) < 120
  · have hlm : ¬ (i : Int) < 120 := hlm0
    simp only [symA, go_opsd, symB, wantedX, X.put, X.look, Arg.ev, keepOf, restrict, evs, evO, initEnv, xres, tup, noTup, cls, quiet, Nat.reduceAdd, Nat.reduceEqDiff, ↓reduceIte, reduceCtorEq, goInt, exists_eq_left', eq_self, Int.reduceLT, Int.reduceLE, Int.reduceEq, Int.reduceNeg, Int.reduceAdd, Int.reduceSub, forall_const, ne_eq, undef, Nat.reducePow, Nat.reduceDiv, Nat.reduceMod, hlt', hlm]
    refine hB _ _ _ ?_
    simp only [symA, go_opsd, symB, wantedX, X.put, X.look, Arg.ev, keepOf, restrict, evs, evO, initEnv, xres, tup, noTup, cls, quiet, Nat.reduceAdd, Nat.reduceEqDiff, ↓reduceIte, reduceCtorEq, goInt, exists_eq_left', eq_self, Int.reduceLT, Int.reduceLE, Int.reduceEq, Int.reduceNeg, Int.reduceAdd, Int.reduceSub, forall_const, ne_eq, undef, Nat.reducePow, Nat.reduceDiv, Nat.reduceMod]
    exact hQ _ _ _ rfl rfl
  have hlm : (i : Int) < 120 := by omega
  obtain ⟨x, hx⟩ : ∃ x, xs[i]? = some x := ⟨_, List.getElem?_eq_getElem hlt⟩
  have hxw := h.wf x (List.mem_of_getElem? hx)
  have w1 : IntKind.i64.wrap ((i : Int) + 1) = ((i + 1 : Nat) : Int) := by rw [wrap_i64 (by omega) (by omega)]; omega
  obtain ⟨m4, y1, y2⟩ := far_spec (m := m3) (x := x)
  have bo4 := bo.nx y2
  have hf4 : Fm (b ≤ ·) m m4 := hf.comp (up y2) fun _ _ h => h
  obtain ⟨a, c1, hv, l6, _⟩ := act_at (h.rd.fr hf hb fun _ h => h) hx
  obtain ⟨a', c2, hv', l6', _⟩ := act_at (h.rd.fr hf4 hb fun _ h => h) hx
  cases hv
  cases hv'
  cases hfar : farA x with
  | true =>
    rw [hfar] at y1
    simp only [symA, go_opsd, symB, wantedX, X.put, X.look, Arg.ev, keepOf, restrict, evs, evO, initEnv, xres, tup, noTup, cls, quiet, Nat.reduceAdd, Nat.reduceEqDiff, ↓reduceIte, reduceCtorEq, goInt, exists_eq_left', eq_self, Int.reduceLT, Int.reduceLE, Int.reduceEq, Int.reduceNeg, Int.reduceAdd, Int.reduceSub, forall_const, ne_eq, undef, Nat.reducePow, Nat.reduceDiv, Nat.reduceMod, hlt', hlt, hlm, l6, goR_call y1, w1]
    exact hN _ _ (xs.length - (i + 1)) (by omega) ⟨i + 1, G, H, W, R, by omega, by omega, rfl, bo4.le (by omega), hGH, hf4, rfl⟩
  | false =>
  rw [hfar] at y1
  obtain ⟨m5, G5, H5, d1, bo5, f45, n5⟩ := does_spec bo4 (by omega) hxw
  generalize (stepA x (W, R)).1 = W5 at *
  generalize (stepA x (W, R)).2 = R5 at *
  have hGH5 : ∀ y, y ∈ G5 ∨ y ∈ H5 → b ≤ y := fun y hy => (n5 y hy).elim (hGH y) fun h => by have := hf4.next; omega
  have hf5 : Fm (b ≤ ·) m m5 := hf4.comp f45 fun y _ hy => hGH y hy
  obtain ⟨now, m6, F6, c1', c2', c3', c4'⟩ := all_call bo5.set
  have bo6 := bo5.nx c4'
  have hln := len_call bo6.set
  have hmk := marks_call bo6.set
  obtain ⟨h61, h62, h63⟩ := bo6.set.sort
  obtain ⟨x1, t1, ma1, mb1, mc1, md1, p11, p12, p13, p14, p15, p16⟩ := pair (get_both (k := key) bo6)
  have bo7 := bo6.nx p16
  obtain ⟨x2, t2, ma2, mb2, mc2, md2, p21, p22, p23, p24, p25, p26⟩ := pair (after_both (k := key) bo7)
  have bo8 := bo7.nx p26
  obtain ⟨x3, t3, ma3, mb3, mc3, md3, p31, p32, p33, p34, p35, p36⟩ := pair (seek_both (k := key) bo8)
  have bo9 := bo8.nx p36
  have q1 := p15 md3 (p26.comp p36 fun _ _ h => h)
  have q2 := p25 md3 p36
  have q3 := p35 md3 .refl
  have hf9 : Fm (b ≤ ·) m md3 := hf5.comp (up (((c4'.comp p16 fun _ _ h => h).comp p26 fun _ _ h => h).comp p36 fun _ _ h => h)) fun _ _ h => h
  have fin := hN [(0, .slice (some a) xs.length c), (1, .string key), (5, Pt m.next), (6, Pt m1.next), (7, I ((i + 1 : Nat) : Int))] md3 (xs.length - (i + 1)) (by omega) ⟨i + 1, G5, H5, W5, R5, by omega, by omega, rfl, bo9, hGH5, hf9, rfl⟩
  obtain ⟨p', vl', vm', FM', vals, hp', r⟩ := bo5.ref
  cases hp'
  have r6 := r.nx c4'
  obtain ⟨qn, cn, hvn⟩ := own_slice c2' (by omega)
  rw [List.length_map] at hvn
  have hsame := sameW_call (c2'.rd (by omega)) r6.rd (by omega)
  have hss : decide (W5 = W5) = true := decide_eq_true rfl
  rw [hss] at hsame
  obtain ⟨ql, cl, hvl⟩ := r.slice
  obtain ⟨qm, cm, hvm⟩ := r.mslice
  subst hvl hvm hvn
  have g5 := r.get
  have g6 := r6.get
  simp only [symA, go_opsd, symB, wantedX, X.put, X.look, Arg.ev, keepOf, restrict, evs, evO, initEnv, xres, tup, noTup, cls, quiet, Nat.reduceAdd, Nat.reduceEqDiff, ↓reduceIte, reduceCtorEq, goInt, exists_eq_left', eq_self, Int.reduceLT, Int.reduceLE, Int.reduceEq, Int.reduceNeg, Int.reduceAdd, Int.reduceSub, forall_const, ne_eq, undef, Nat.reducePow, Nat.reduceDiv, Nat.reduceMod, hlt', hlt, hlm, l6, goR_call y1, l6', goDV3c d1, g5, goDV3c c1', g6, goDV3c hsame, goDV3c hln, goDV3c hmk]
  simp only [symA, go_opsd, symB, wantedX, X.put, X.look, Arg.ev, keepOf, restrict, evs, evO, initEnv, xres, tup, noTup, cls, quiet, Nat.reduceAdd, Nat.reduceEqDiff, ↓reduceIte, reduceCtorEq, goInt, exists_eq_left', eq_self, Int.reduceLT, Int.reduceLE, Int.reduceEq, Int.reduceNeg, Int.reduceAdd, Int.reduceSub, forall_const, ne_eq, undef, Nat.reducePow, Nat.reduceDiv, Nat.reduceMod, goR_call p11, p12, goR_call p13, p14, goR_call p21, p22, goR_call p23, p24, goR_call p31, p32, goR_call p33, p34, q1.1, q1.2, q2.1, q2.2, q3.1, q3.2, ne_self, ne4, w1]
  exact fin

theorem wsetPlays_args {H : Type} (ds : List (DataW H)) (h : wfEach Try.prog ds Try.f5.params.toList) : ∃ (n1 : _) (d0 : DataW H), ds = [d0, .lit (.string n1)] ∧ wfD Try.prog d0 22 := by
  rw [Try.params5] at h
  obtain ⟨d0, r, rfl, h0, h⟩ := wf_more h
  obtain ⟨d1, rfl, h1⟩ := wf_one h
  obtain ⟨n1, rfl, _⟩ := wf_string Try.underlying9 h1
  exact ⟨n1, d0, rfl, h0⟩

theorem wsetPlays_lifted (os : Os) (started : os.Started) (H : Type) (enc : TypeId × Value → H) :
    ReturnsInHanded {} Try.checked os 5 .any (Rows.wsetPlaysSpec.pre6 enc Try.prog Try.f5 Rows.wsetPlaysRow.domain false) (Rows.wsetPlaysSpec.post enc Try.prog Try.f5 false true false false) := by
  refine returnsInHanded_of_change (C := Try.checked) own started (by kernel_rfl) Try.func5
    (ChangeSpec.witness6 (enc := enc) (C := Try.checked) false ⟨#[], #[.slice none 0 0, .string .empty], []⟩ 8 (by kernel_rfl) (by kernel_rfl) (by kernel_rfl) (by kernel_rfl)) ?_
  intro W base args ds gs before hval0 hW hcnd _
  refine law_contract mixed tabK_is (f := 5) rfl (k := 10) (by rw [← List.all_eq_true]; kernel_rfl) (fun t ht => ?_) laid rfl (by kernel_rfl) rfl ?_ ?_ H enc W base args ds gs before hval0 hW
  · have : (Try.f5.params.toList.all fun t => Try.prog.readableRec t && decide (t < Try.prog.types.size)) = true := by kernel_rfl
    have := List.all_eq_true.1 this t ht
    simp only [Bool.and_eq_true, decide_eq_true_eq] at this
    exact this
  · intro H ds hd
    obtain ⟨_, _, rfl, _⟩ := wsetPlays_args ds hd
    rfl
  · intro H ds hd
    obtain ⟨n1, d0, rfl, h0⟩ := wsetPlays_args ds hd
    obtain ⟨x0, v0, a0, b0, c0⟩ := abs_acts (m := Mem.empty) h0
    obtain ⟨M0, hM0⟩ : ∃ M, (absD Try.prog d0 22 Mem.empty).2 = M := ⟨_, rfl⟩
    rw [hM0] at b0 c0
    have ha : absArgs Try.prog [d0, .lit (.string n1)] Try.f5.params.toList Mem.empty = ([argVal Try.prog 22 (absD Try.prog d0 22 Mem.empty).1, .string ⟨n1.toArray⟩], (absD Try.prog d0 22 Mem.empty).2) := by kernel_rfl
    rw [ha, hM0, a0]
    have q22 : ∀ v, argVal Try.prog 22 [v] = v := fun v => by kernel_rfl
    rw [q22]
    obtain ⟨v, m', ⟨k, hk⟩, rfl⟩ := wsetPlays_run (key := ⟨n1.toArray⟩) (b := M0.next) c0 (Nat.le_refl _)
    exact ⟨k, m', hk⟩

theorem wsetPlays_holds : Rows.WsetPlaysSaid :=
  OpenClaim.holds_of_wide 5 Try.f5 rfl rfl rfl rfl rfl rfl rfl ⟨rfl, rfl, rfl, rfl, rfl⟩ rfl rfl rfl rfl rfl (by kernel_rfl) Try.func5 (by kernel_rfl)
    (of_decide_eq_true (by kernel_rfl)) (by unfold Func.isWrapper; first | (rw [if_pos (by decide +kernel)]; kernel_rfl) | (rw [if_neg (by decide +kernel)]; exact ⟨rfl, rfl⟩))
    (fun os started H enc _ => wsetPlays_lifted os started H enc)


end Go.Proofs.Ytecceimgpeookaa
