/-
  Own work. PROVED HERE: TreePlays: whatever calls, key and number, the law returns true (each answer of the tree, what is told of any key, and the keys in order are the document's). No condition.
-/
import Derived.Test.YtecceimgpeookaaSB
namespace Go.Proofs.Ytecceimgpeookaa
open Go Go.ChangeShapes Go.WideShapes Go.ChangeAt Go.RowKit X
set_option maxRecDepth 100000
attribute [local irreducible] X.Go' X.GoO X.GoR X.GoG X.GoC X.GoF X.GoFV X.GoFG X.Ex X.GoD X.GoDV X.GoDG
set_option linter.unusedVariables false
set_option linter.unusedSimpArgs false

theorem eb {m : Mem} {n : Int} : binE Try.prog .neq 39 (I n) (I n) m = some (.val (.bool false) m) := by
  simp only [symA, go_opsd, symB, wantedX, X.put, X.look, Arg.ev, keepOf, restrict, evs, evO, initEnv, xres, tup, noTup, cls, quiet, Nat.reduceAdd, Nat.reduceEqDiff, ↓reduceIte, reduceCtorEq, goInt, exists_eq_left', eq_self, Int.reduceLT, Int.reduceLE, Int.reduceEq, Int.reduceNeg, Int.reduceAdd, Int.reduceSub, forall_const, ne_eq, undef, Nat.reducePow, Nat.reduceDiv, Nat.reduceMod]
theorem treePlays_run {b : Nat} {m : Mem} {l : Value} {xs : List Act} {key : ByteArray} {n : Int} (h : RdA b m l xs) (hb : b ≤ m.next) : Wc 7 [l, .string key, I n] m fun v m' => v = .bool true := by
  refine call_go (F := _) rfl rfl fun Q hQ => ?_
  by_cases hkl : (100 : Int) < (key.size : Int)
  · simp only [symA, go_opsd, symB, wantedX, X.put, X.look, Arg.ev, keepOf, restrict, evs, evO, initEnv, xres, tup, noTup, cls, quiet, Nat.reduceAdd, Nat.reduceEqDiff, ↓reduceIte, reduceCtorEq, goInt, exists_eq_left', eq_self, Int.reduceLT, Int.reduceLE, Int.reduceEq, Int.reduceNeg, Int.reduceAdd, Int.reduceSub, forall_const, ne_eq, undef, Nat.reducePow, Nat.reduceDiv, Nat.reduceMod, goR_call (awake_call _), calc_len, hkl]
    exact hQ _ _ _ rfl rfl
  obtain ⟨m1, σ, a1, f1, n1, t1⟩ := TreeB.new (m := m) b hb
  obtain ⟨p, c, hl⟩ := act_slice h
  obtain ⟨m2, hm2⟩ : ∃ m2, m1.push { cells := [.slice none 0 0, .slice none 0 0], rw := true, spare := none, kin := [] } = m2 := ⟨_, rfl⟩
  have f2 : Nx m1 m2 := hm2 ▸ .push
  have n2 : m2.next = m1.next + 1 := by rw [← hm2]; simp
  have up : ∀ {x y : Mem}, Nx x y → Fm (b ≤ ·) x y := fun f => f.mono fun _ _ h => h.elim
  have b0 : Both b σ [m1.next] m2 m.next m1.next [] 0 := ⟨t1.nx f2, ⟨[], [], _, _, by rw [← hm2]; exact push_self, OwnX.nil, OwnX.nil, by simp, by simp, by simp, by simp; omega⟩, fun i hi => by
    have : i = m1.next := by simpa using hi
    rw [this]; exact t1.fresh _ (Nat.le_refl _), fun i hi => by
    have : i = m1.next := by simpa using hi
    omega⟩
  have B2 : buildE m1 [.slice none 0 0, .slice none 0 0] [(0, 1), (1, 1)] [] = some (.val (.agg ⟨[.slice none 0 0, .slice none 0 0]⟩) m1) := by kernel_rfl
  subst hl
  simp only [symA, go_opsd, symB, wantedX, X.put, X.look, Arg.ev, keepOf, restrict, evs, evO, initEnv, xres, tup, noTup, cls, quiet, Nat.reduceAdd, Nat.reduceEqDiff, ↓reduceIte, reduceCtorEq, goInt, exists_eq_left', eq_self, Int.reduceLT, Int.reduceLE, Int.reduceEq, Int.reduceNeg, Int.reduceAdd, Int.reduceSub, forall_const, ne_eq, undef, Nat.reducePow, Nat.reduceDiv, Nat.reduceMod, goR_call (awake_call _), calc_len, hkl, goR_call a1, B2, hm2]
  refine loop_go (fun j e m' => ∃ (i : Nat) (σ : Nat → Tag) (H : List Nat) (es : List Ent), i ≤ xs.length ∧ i ≤ 300 ∧ j = xs.length - i ∧ Both b σ H m' m.next m1.next es i ∧ Fm (b ≤ ·) m m' ∧ e = [(0, .slice p xs.length c), (1, .string key), (2, I n), (7, Pt m.next), (8, Pt m1.next), (9, I (i : Int))]) xs.length ⟨0, _, _, [], by omega, by omega, rfl, b0, up (f1.comp f2 fun _ _ h => h), rfl⟩ ?_
  rintro j e m3 N' B' hN hB ⟨i, σ, H, es, hi, h300, rfl, bo, hf, rfl⟩
  have hs := bo.t.sort
  have hlen := bo.t.tree.len
  by_cases hcont : i < xs.length ∧ i < 300
  · obtain ⟨hlt, h3⟩ := hcont
    have hlt' : (i : Int) < (xs.length : Int) := by omega
    have h3' : (i : Int) < 300 := by omega
    obtain ⟨x, hx⟩ : ∃ x, xs[i]? = some x := ⟨_, List.getElem?_eq_getElem hlt⟩
    have w1 : IntKind.i64.wrap ((i : Int) + 1) = ((i + 1 : Nat) : Int) := by rw [wrap_i64 (by omega) (by omega)]; omega
    obtain ⟨a, c', hv, l3, _⟩ := act_at (h.fr hf hb fun _ h => h) hx
    cases hv
    -- the copy
    obtain ⟨mP, hP⟩ : ∃ mP, m3.push { cells := [I 0, .string .empty, I 0], rw := true, spare := none, kin := [] } = mP := ⟨_, rfl⟩
    obtain ⟨m4, t1', t2', t3', t4'⟩ := new_store (m := m3) (z := [I 0, .string .empty, I 0]) (row := x.row) (n := 3) rfl rfl (by omega)
    rw [hP] at t1'
    have bo4 := bo.nx t3'
    have hf4 : Fm (b ≤ ·) m m4 := hf.comp (up t3') fun _ _ h => h
    by_cases hkb : (100 : Int) < (x.key.size : Int)
    · simp only [symA, go_opsd, symB, wantedX, X.put, X.look, Arg.ev, keepOf, restrict, evs, evO, initEnv, xres, tup, noTup, cls, quiet, Nat.reduceAdd, Nat.reduceEqDiff, ↓reduceIte, reduceCtorEq, goInt, exists_eq_left', eq_self, Int.reduceLT, Int.reduceLE, Int.reduceEq, Int.reduceNeg, Int.reduceAdd, Int.reduceSub, forall_const, ne_eq, undef, Nat.reducePow, Nat.reduceDiv, Nat.reduceMod, hlt', hlt, h3', l3, hP, t1', t2', calc_len, hkb, w1]
      exact hN _ _ (xs.length - (i + 1)) (by omega) ⟨i + 1, σ, H, es, by omega, by omega, rfl, bo4.le' (by omega), hf4, rfl⟩
    · have hn4 : m3.next < m4.next := by rw [t4']; omega
      have hHn : ∀ i ∈ H, i < m3.next := bo.r.lt
      have gs : ∀ {m5 m6 : Mem} {σ' : Nat → Tag}, Gr σ σ' m4 m5 → Fm (· ∈ H) m5 m6 → m5.get m3.next = some { cells := x.row, rw := true, spare := none, kin := [] } ∧ m6.get m3.next = some { cells := x.row, rw := true, spare := none, kin := [] } := fun {m5 m6 σ'} g f => by
        have g5 := g.fm.get hn4 (fun q => by rw [bo.t.fresh _ (Nat.le_refl _)] at q; simp [tr] at q) t2'
        exact ⟨g5, f.get (Nat.lt_of_lt_of_le hn4 g.next) (fun q => by have := hHn _ q; omega) g5⟩
      by_cases hk1 : x.kind = 1
      · obtain ⟨m5, m6, σ', H', c1, f1', c2, f2', bo6, g1, g2⟩ := bo4.put (key := x.key) (x := x.n) (by omega)
        have s5 := bo6.told (key := x.key) (by omega)
        have s6 := bo6.told (key := key) (by omega)
        have hk2 : ¬ (1 : Int) = 2 := by omega
        obtain ⟨t5, t6⟩ := gs g1 g2
        simp only [Act.row, hk1] at t1' t2' t5 t6 l3
        simp only [symA, go_opsd, symB, wantedX, X.put, X.look, Arg.ev, keepOf, restrict, evs, evO, initEnv, xres, tup, noTup, cls, quiet, Nat.reduceAdd, Nat.reduceEqDiff, ↓reduceIte, reduceCtorEq, goInt, exists_eq_left', eq_self, Int.reduceLT, Int.reduceLE, Int.reduceEq, Int.reduceNeg, Int.reduceAdd, Int.reduceSub, forall_const, ne_eq, undef, Nat.reducePow, Nat.reduceDiv, Nat.reduceMod, hlt', hlt, h3', l3, hP, t1', t2', calc_len, hkb, goR_call c1, t5, goR_call c2, t6, neb, eb, hk2, goR_call s5, goR_call s6, w1]
        exact hN _ _ (xs.length - (i + 1)) (by omega) ⟨i + 1, σ', H', _, by omega, by omega, rfl, bo6, (hf4.comp f1' fun _ _ h => h).comp f2' fun _ _ h => h, rfl⟩
      · by_cases hk2 : x.kind = 2
        · obtain ⟨m5, m6, σ', H', c1, f1', c2, f2', bo6, g1, g2⟩ := bo4.del (key := x.key) (by omega)
          have s5 := bo6.told (key := x.key) (by omega)
          have s6 := bo6.told (key := key) (by omega)
          have hk3 : ¬ (2 : Int) = 1 := by omega
          obtain ⟨t5, t6⟩ := gs g1 g2
          simp only [Act.row, hk2] at t1' t2' t5 t6 l3
          simp only [symA, go_opsd, symB, wantedX, X.put, X.look, Arg.ev, keepOf, restrict, evs, evO, initEnv, xres, tup, noTup, cls, quiet, Nat.reduceAdd, Nat.reduceEqDiff, ↓reduceIte, reduceCtorEq, goInt, exists_eq_left', eq_self, Int.reduceLT, Int.reduceLE, Int.reduceEq, Int.reduceNeg, Int.reduceAdd, Int.reduceSub, forall_const, ne_eq, undef, Nat.reducePow, Nat.reduceDiv, Nat.reduceMod, hlt', hlt, h3', l3, hP, t1', t2', calc_len, hkb, goR_call c1, t5, goR_call c2, t6, neb, eb, hk3, goR_call s5, goR_call s6, w1]
          exact hN _ _ (xs.length - (i + 1)) (by omega) ⟨i + 1, σ', H', _, by omega, by omega, rfl, bo6.le' (by omega), (hf4.comp f1' fun _ _ h => h).comp f2' fun _ _ h => h, rfl⟩
        · have s5 := bo4.told (key := x.key) (by omega)
          have s6 := bo4.told (key := key) (by omega)
          simp only [symA, go_opsd, symB, wantedX, X.put, X.look, Arg.ev, keepOf, restrict, evs, evO, initEnv, xres, tup, noTup, cls, quiet, Nat.reduceAdd, Nat.reduceEqDiff, ↓reduceIte, reduceCtorEq, goInt, exists_eq_left', eq_self, Int.reduceLT, Int.reduceLE, Int.reduceEq, Int.reduceNeg, Int.reduceAdd, Int.reduceSub, forall_const, ne_eq, undef, Nat.reducePow, Nat.reduceDiv, Nat.reduceMod, hlt', hlt, h3', l3, hP, t1', t2', calc_len, hkb, hk1, hk2, goR_call s5, goR_call s6, w1]
          exact hN _ _ (xs.length - (i + 1)) (by omega) ⟨i + 1, σ, H, es, by omega, by omega, rfl, bo4.le' (by omega), hf4, rfl⟩
  · have hh : (¬ (i : Int) < (xs.length : Int)) ∨ ((i : Int) < (xs.length : Int) ∧ ¬ (i : Int) < 300) := by omega
    -- behind the calls
    obtain ⟨m4, r, F, c1, c2, c3, c4⟩ := keys_spec (key := key) (n := n) bo.t.tree (by omega)
    obtain ⟨FK, FN, vk, vn, hr⟩ := bo.r.nx c4
    have ha := at_spec (key := key) hr hs (by omega)
    have hg := hr.get
    obtain ⟨qk, ck, hvk⟩ := hr.ks
    have hle := posE_le (key := key) (es := es)
    have w2 : IntKind.i64.wrap ((es.length : Int) - (posE key es : Int)) = ((es.length - posE key es : Nat) : Int) := by rw [wrap_i64 (by omega) (by omega)]; omega
    have hkl' : ((keysE key n es).map sv).length = min n.toNat (es.length - posE key es) := by unfold keysE; simp
    obtain ⟨qr, cr, hvr⟩ := c2.slice
    rw [hkl'] at hvr
    obtain ⟨L, hL⟩ : ∃ L, min n.toNat (es.length - posE key es) = L := ⟨_, rfl⟩
    rw [hL] at hvr hkl'
    have hLn : (0 < n ∧ min n ((es.length - posE key es : Nat) : Int) = (L : Int)) ∨ (¬ 0 < n ∧ L = 0) := by
      by_cases h0 : 0 < n
      · exact .inl ⟨h0, by omega⟩
      · exact .inr ⟨h0, by omega⟩
    rcases hh with h1 | ⟨h1, h2⟩
    case' inl => have h2 : True := trivial
    all_goals
      simp only [symA, go_opsd, symB, wantedX, X.put, X.look, Arg.ev, keepOf, restrict, evs, evO, initEnv, xres, tup, noTup, cls, quiet, Nat.reduceAdd, Nat.reduceEqDiff, ↓reduceIte, reduceCtorEq, goInt, exists_eq_left', eq_self, Int.reduceLT, Int.reduceLE, Int.reduceEq, Int.reduceNeg, Int.reduceAdd, Int.reduceSub, forall_const, ne_eq, undef, Nat.reducePow, Nat.reduceDiv, Nat.reduceMod, h1, h2]
      refine hB _ _ _ ?_
      subst hvk hvr
      rcases hLn with ⟨h3, h4⟩ | ⟨h3, h4⟩
      case' inl => have h5 : True := trivial
      case' inr => have h5 : ((L : Nat) : Int) = 0 := by omega
      all_goals
        simp only [symA, go_opsd, symB, wantedX, X.put, X.look, Arg.ev, keepOf, restrict, evs, evO, initEnv, xres, tup, noTup, cls, quiet, Nat.reduceAdd, Nat.reduceEqDiff, ↓reduceIte, reduceCtorEq, goInt, exists_eq_left', eq_self, Int.reduceLT, Int.reduceLE, Int.reduceEq, Int.reduceNeg, Int.reduceAdd, Int.reduceSub, forall_const, ne_eq, undef, Nat.reducePow, Nat.reduceDiv, Nat.reduceMod, goR_call c1, goR_call ha, h3, h4, h5, hg, w2]
        refine loop_go (fun j e m' => m' = m4 ∧ ∃ i : Nat, i ≤ L ∧ j = L - i ∧ e = [(8, Pt m1.next), (20, .slice qr L cr), (21, nv (posE key es)), (23, I (L : Int)), (24, I (i : Int))]) L ⟨rfl, 0, by omega, rfl, ?_⟩ ?_
        · first | rfl | (rw [h4]; rfl)
        rintro j e m5 N2 B2' hN2 hB2 ⟨rfl, i, hi, rfl, rfl⟩
        by_cases hiL : i < L
        · have hiL' : (i : Int) < (L : Int) := by omega
          obtain ⟨y, hy⟩ : ∃ y, es[posE key es + i]? = some y := ⟨_, List.getElem?_eq_getElem (by omega)⟩
          have hky : ((keysE key n es).map sv)[i]? = some (.string y.1) := by
            unfold keysE
            rw [List.getElem?_map, List.getElem?_map, List.getElem?_take, if_pos (by omega), List.getElem?_drop, hy]
            rfl
          obtain ⟨a1, b1, o1, q1, q2, q3⟩ := rd_at c2.rd hky
          rw [hkl'] at q1
          obtain ⟨a2, b2, o2, q4, q5, q6⟩ := hr.keyAt hy
          cases q1
          cases q4
          have hlt2 : posE key es + i < es.length := (List.getElem?_eq_some_iff.1 hy).1
          have w3 : IntKind.i64.wrap ((i : Int) + 1) = ((i + 1 : Nat) : Int) := by rw [wrap_i64 (by omega) (by omega)]; omega
          have w4 : IntKind.i64.wrap ((posE key es : Int) + (i : Int)) = ((posE key es + i : Nat) : Int) := by rw [wrap_i64 (by omega) (by omega)]; omega
          simp only [symA, go_opsd, symB, wantedX, X.put, X.look, Arg.ev, keepOf, restrict, evs, evO, initEnv, xres, tup, noTup, cls, quiet, Nat.reduceAdd, Nat.reduceEqDiff, ↓reduceIte, reduceCtorEq, goInt, exists_eq_left', eq_self, Int.reduceLT, Int.reduceLE, Int.reduceEq, Int.reduceNeg, Int.reduceAdd, Int.reduceSub, forall_const, ne_eq, undef, Nat.reducePow, Nat.reduceDiv, Nat.reduceMod, hiL, hiL', q2, q3, hg, w4, hlt2, q5, q6, bin_sneq, not_true, decide_false, w3]
          exact hN2 _ _ (L - (i + 1)) (by omega) ⟨rfl, i + 1, by omega, rfl, rfl⟩
        · have hiL' : ¬ (i : Int) < (L : Int) := by omega
          simp only [symA, go_opsd, symB, wantedX, X.put, X.look, Arg.ev, keepOf, restrict, evs, evO, initEnv, xres, tup, noTup, cls, quiet, Nat.reduceAdd, Nat.reduceEqDiff, ↓reduceIte, reduceCtorEq, goInt, exists_eq_left', eq_self, Int.reduceLT, Int.reduceLE, Int.reduceEq, Int.reduceNeg, Int.reduceAdd, Int.reduceSub, forall_const, ne_eq, undef, Nat.reducePow, Nat.reduceDiv, Nat.reduceMod, hiL']
          refine hB2 _ _ _ ?_
          simp only [symA, go_opsd, symB, wantedX, X.put, X.look, Arg.ev, keepOf, restrict, evs, evO, initEnv, xres, tup, noTup, cls, quiet, Nat.reduceAdd, Nat.reduceEqDiff, ↓reduceIte, reduceCtorEq, goInt, exists_eq_left', eq_self, Int.reduceLT, Int.reduceLE, Int.reduceEq, Int.reduceNeg, Int.reduceAdd, Int.reduceSub, forall_const, ne_eq, undef, Nat.reducePow, Nat.reduceDiv, Nat.reduceMod]
          exact hQ _ _ _ rfl rfl

theorem treePlays_args {H : Type} (ds : List (DataW H)) (h : wfEach Try.prog ds Try.f7.params.toList) : ∃ (n1 : List UInt8) (n2 : Int) (d0 : DataW H), ds = [d0, .lit (.string n1), .lit (.int .i64 n2)] ∧ wfD Try.prog d0 55 := by
  rw [Try.params7] at h
  obtain ⟨d0, r, rfl, h0, h⟩ := wf_more h
  obtain ⟨d1, r, rfl, h1, h⟩ := wf_more h
  obtain ⟨d2, rfl, h2⟩ := wf_one h
  obtain ⟨n1, rfl, _⟩ := wf_string Try.underlying9 h1
  obtain ⟨n2, rfl, _⟩ := wf_int Try.underlying3 h2
  exact ⟨n1, n2, d0, rfl, h0⟩

theorem treePlays_lifted (os : Os) (started : os.Started) (H : Type) (enc : TypeId × Value → H) :
    ReturnsInHanded {} Try.checked os 7 .any (Rows.treePlaysSpec.pre6 enc Try.prog Try.f7 Rows.treePlaysRow.domain false) (Rows.treePlaysSpec.post enc Try.prog Try.f7 false true false false) := by
  refine returnsInHanded_of_change (C := Try.checked) own started (by kernel_rfl) Try.func7
    (ChangeSpec.witness6 (enc := enc) (C := Try.checked) false ⟨#[], #[.slice none 0 0, .string .empty, .int .i64 0], []⟩ 8 (by kernel_rfl) (by kernel_rfl) (by kernel_rfl) (by kernel_rfl)) ?_
  intro W base args ds gs before hval0 hW hcnd _
  refine law_contract mixed tabK_is (f := 7) rfl (k := 10) (by rw [← List.all_eq_true]; kernel_rfl) (fun t ht => ?_) laid rfl (by kernel_rfl) rfl ?_ ?_ H enc W base args ds gs before hval0 hW
  · have : (Try.f7.params.toList.all fun t => Try.prog.readableRec t && decide (t < Try.prog.types.size)) = true := by kernel_rfl
    have := List.all_eq_true.1 this t ht
    simp only [Bool.and_eq_true, decide_eq_true_eq] at this
    exact this
  · intro H ds hd
    obtain ⟨_, _, _, rfl, _⟩ := treePlays_args ds hd
    rfl
  · intro H ds hd
    obtain ⟨n1, n2, d0, rfl, h0⟩ := treePlays_args ds hd
    obtain ⟨x0, v0, a0, b0, c0⟩ := abs_acts (m := Mem.empty) h0
    obtain ⟨M0, hM0⟩ : ∃ M, (absD Try.prog d0 55 Mem.empty).2 = M := ⟨_, rfl⟩
    rw [hM0] at b0 c0
    have ha : absArgs Try.prog [d0, .lit (.string n1), .lit (.int .i64 n2)] Try.f7.params.toList Mem.empty = ([argVal Try.prog 55 (absD Try.prog d0 55 Mem.empty).1, .string ⟨n1.toArray⟩, .int .i64 n2], (absD Try.prog d0 55 Mem.empty).2) := by kernel_rfl
    rw [ha, hM0, a0]
    have q55 : ∀ v, argVal Try.prog 55 [v] = v := fun v => by kernel_rfl
    rw [q55]
    obtain ⟨v, m', ⟨k, hk⟩, rfl⟩ := treePlays_run (key := ⟨n1.toArray⟩) (n := n2) (b := M0.next) c0 (Nat.le_refl _)
    exact ⟨k, m', hk⟩

theorem treePlays_holds : Rows.TreePlaysSaid :=
  OpenClaim.holds_of_wide 7 Try.f7 rfl rfl rfl rfl rfl rfl rfl ⟨rfl, rfl, rfl, rfl, rfl⟩ rfl rfl rfl rfl rfl (by kernel_rfl) Try.func7 (by kernel_rfl)
    (of_decide_eq_true (by kernel_rfl)) (by unfold Func.isWrapper; first | (rw [if_pos (by decide +kernel)]; kernel_rfl) | (rw [if_neg (by decide +kernel)]; exact ⟨rfl, rfl⟩))
    (fun os started H enc _ => treePlays_lifted os started H enc)


end Go.Proofs.Ytecceimgpeookaa
