/-
  Own work. PROVED HERE: TreeCursor: whatever calls come first and between, the law returns true (a walk by After meets each key that stays once, in order, and none twice). No condition.
-/
import Derived.Test.YtecceimgpeookaaTX
namespace Go.Proofs.Ytecceimgpeookaa
open Go Go.ChangeShapes Go.WideShapes Go.ChangeAt Go.RowKit X
set_option maxRecDepth 100000
attribute [local irreducible] X.Go' X.GoO X.GoR X.GoG X.GoC X.GoF X.GoFV X.GoFG X.Ex X.GoD X.GoDV X.GoDG
set_option linter.unusedVariables false
set_option linter.unusedSimpArgs false

/-- A slice of ours beside the tree. -/
structure Mine (b : Nat) (σ : Nat → Tag) (F : List Nat) (m : Mem) (v : Value) (ks : List Key) : Prop where
  own : OwnX F m v (ks.map sv)
  no : ∀ i ∈ F, σ i = .no
  hb : ∀ i ∈ F, b ≤ i
section
variable {b k p : Nat} {σ σ' : Nat → Tag} {m m' : Mem} {es es' : List Ent} {F F' : List Nat} {v : Value} {ks : List Key} {key : Key}
theorem Mine.gr (h : Mine b σ F m v ks) (g : Gr σ σ' m m') : Mine b σ' F m' v ks :=
  ⟨h.own.fr g.fm fun i hi q => by rw [h.no i hi] at q; simp [tr] at q, fun i hi => by rw [g.out i (h.own.lt i hi) (by rw [h.no i hi]; rfl)]; exact h.no i hi, h.hb⟩
theorem Mine.fr {S : Nat → Prop} (h : Mine b σ F m v ks) (f : Fm S m m') (hs : ∀ i ∈ F, ¬ S i) : Mine b σ F m' v ks := ⟨h.own.fr f hs, h.no, h.hb⟩
theorem Mine.nx (h : Mine b σ F m v ks) (f : Nx m m') : Mine b σ F m' v ks := h.fr f fun _ _ h => h
theorem TreeB.away (h : TreeB b σ m p es k) (f : Fm (· ∈ F) m m') (hn : ∀ i ∈ F, σ i = .no) : TreeB b σ m' p es k :=
  ⟨h.tree.ch ⟨fun _ _ => rfl, f.mono fun j _ hj => hn j hj, fun _ _ => rfl⟩, h.low, Nat.le_trans h.le f.next⟩
/-- One more key. -/
theorem Mine.app (h : Mine b σ F m v ks) (t : TreeB b σ m p es k) (hl : ks.length ≤ 1000) : ∃ mA m2 v2 F2, m.push { cells := [.string key], rw := true, spare := none, kin := [] } = mA ∧
    appendE mA 1 16 [.string .empty] v (.slice (some ⟨m.next, 0, none⟩) 1 1) = some (.val v2 m2) ∧ buildSliceE m [.string .empty] 1 1 [(0, .string key)] = some (.val (.slice (some ⟨m.next, 0, none⟩) 1 1) mA) ∧ Mine b σ F2 m2 v2 (ks ++ [key]) ∧ TreeB b σ m2 p es k ∧ Fm (· ∈ F) m m2 ∧ ∀ i ∈ F2, i ∈ F ∨ m.next ≤ i := by
  obtain ⟨mA, hA⟩ : ∃ mA, m.push { cells := [.string key], rw := true, spare := none, kin := [] } = mA := ⟨_, rfl⟩
  have fA : Nx m mA := hA ▸ .push
  have kA : OwnX [m.next] mA (.slice (some ⟨m.next, 0, none⟩) 1 1) [.string key] := hA ▸ own_one
  obtain ⟨v2, m2, F2, a2, b2, f2, _, n2⟩ := (h.own.fr fA fun _ _ h => h).append (bytes := 16) (zero := .string .empty) (ys := [.string key]) kA.rd (by simp; omega) (by omega)
  have B := bone72 (m := m) (x := key)
  rw [hA] at B
  have hx := fA.next
  have tA := t.nx fA
  have n3 : ∀ i ∈ F2, i ∈ F ∨ m.next ≤ i := fun i hi => (n2 i hi).imp id fun q => by omega
  refine ⟨mA, m2, v2, F2, hA, a2, B, ⟨by rw [List.map_append]; exact b2, fun i hi => ?_, fun i hi => ?_⟩, tA.away f2 h.no, (fA.mono fun _ _ h => h.elim).comp f2 fun _ _ h => h, n3⟩
  · rcases n3 i hi with q | q
    · exact h.no i q
    · exact t.fresh i q
  · rcases n3 i hi with q | q
    · exact h.hb i q
    · have := t.le; omega
theorem Mine.at (h : Mine b σ F m v ks) {i : Nat} {x : Key} (hi : ks[i]? = some x) : ∃ a c o, v = .slice (some a) ks.length c ∧ m.get a.block = some o ∧ o.cells[a.off + i]? = some (.string x) := by
  have := rd_at h.own.rd (i := i) (x := .string x) (by rw [List.getElem?_map, hi]; rfl)
  simp only [List.length_map] at this
  exact this
theorem Mine.slice (h : Mine b σ F m v ks) : ∃ q c, v = .slice q ks.length c := by
  obtain ⟨q, c, e⟩ := h.own.slice
  simp only [List.length_map] at e
  exact ⟨q, c, e⟩
theorem Mine.nil (b : Nat) : Mine b σ [] m (.slice (some ⟨k, 0, none⟩) 0 0) [] := ⟨own_empty, by simp, by simp⟩
end

def namedB (ys : List Act) (k : Key) : Bool := (ys.take 300).any fun x => decide (x.key = k)
def staysOf (ys : List Act) (ks : List Key) : List Key := ks.filter fun k => !namedB ys k

theorem keysE_all {es : List Ent} (hl : es.length ≤ 300) : keysE .empty 300 es = keysOf es := by
  have e : posE .empty es = 0 := by
    unfold posE posK
    rw [List.length_eq_zero_iff, List.filter_eq_nil_iff]
    intro x _
    simpa using ltT_empty
  unfold keysE
  rw [e, List.drop_zero, List.take_of_length_le (by show es.length ≤ 300; omega)]
theorem treeCursor_run {b : Nat} {m : Mem} {l1 l2 : Value} {xs ys : List Act} (h : RdA b m l1 xs) (h' : RdA b m l2 ys) (hb : b ≤ m.next) : Wc 6 [l1, l2] m fun v m' => v = .bool true := by
  refine call_go (F := _) rfl rfl fun Q hQ => ?_
  obtain ⟨m1, σ0, a1, f1, n1, t1⟩ := TreeB.new (m := m) b hb
  obtain ⟨p, c, hl1⟩ := act_slice h
  obtain ⟨p', c', hl2⟩ := act_slice h'
  have up : ∀ {x y : Mem}, Nx x y → Fm (b ≤ ·) x y := fun f => f.mono fun _ _ h => h.elim
  subst hl1 hl2
  simp only [symA, go_opsd, symB, wantedX, X.put, X.look, Arg.ev, keepOf, restrict, evs, evO, initEnv, xres, tup, noTup, cls, quiet, Nat.reduceAdd, Nat.reduceEqDiff, ↓reduceIte, reduceCtorEq, goInt, exists_eq_left', eq_self, Int.reduceLT, Int.reduceLE, Int.reduceEq, Int.reduceNeg, Int.reduceAdd, Int.reduceSub, forall_const, ne_eq, undef, Nat.reducePow, Nat.reduceDiv, Nat.reduceMod, goR_call (awake_call _), goR_call a1]
  refine loop_go (fun j e m' => ∃ (i : Nat) (σ : Nat → Tag) (es : List Ent), i ≤ xs.length ∧ i ≤ 300 ∧ j = xs.length - i ∧ TreeB b σ m' m.next es i ∧ Fm (b ≤ ·) m m' ∧ e = [(0, .slice p xs.length c), (1, .slice p' ys.length c'), (5, Pt m.next), (6, I (i : Int))]) xs.length ⟨0, _, [], by omega, by omega, rfl, t1, up f1, rfl⟩ ?_
  rintro j e m3 N' B' hN hB ⟨i, σ, es, hi, h300, rfl, bo, hf, rfl⟩
  by_cases hcont : i < xs.length ∧ i < 300
  · obtain ⟨hlt, h3⟩ := hcont
    have hlt' : (i : Int) < (xs.length : Int) := by omega
    have h3' : (i : Int) < 300 := by omega
    obtain ⟨x, hx⟩ : ∃ x, xs[i]? = some x := ⟨_, List.getElem?_eq_getElem hlt⟩
    have w1 : IntKind.i64.wrap ((i : Int) + 1) = ((i + 1 : Nat) : Int) := by rw [wrap_i64 (by omega) (by omega)]; omega
    obtain ⟨a, c', hv, _, o, g1, g2, g3, g4⟩ := act_at (h.fr hf hb fun _ h => h) hx
    cases hv
    by_cases hkb : (x.key.size : Int) ≤ 100
    · obtain ⟨m4, σ', c1, t4, f4, _⟩ := bo.put (key := x.key) (x := x.n) (by omega)
      simp only [symA, go_opsd, symB, wantedX, X.put, X.look, Arg.ev, keepOf, restrict, evs, evO, initEnv, xres, tup, noTup, cls, quiet, Nat.reduceAdd, Nat.reduceEqDiff, ↓reduceIte, reduceCtorEq, goInt, exists_eq_left', eq_self, Int.reduceLT, Int.reduceLE, Int.reduceEq, Int.reduceNeg, Int.reduceAdd, Int.reduceSub, forall_const, ne_eq, undef, Nat.reducePow, Nat.reduceDiv, Nat.reduceMod, hlt', hlt, h3', g1, g3, calc_len, hkb, g4, goDV3c c1, w1]
      exact hN _ _ (xs.length - (i + 1)) (by omega) ⟨i + 1, σ', _, by omega, by omega, rfl, t4, hf.comp f4 fun _ _ h => h, rfl⟩
    · simp only [symA, go_opsd, symB, wantedX, X.put, X.look, Arg.ev, keepOf, restrict, evs, evO, initEnv, xres, tup, noTup, cls, quiet, Nat.reduceAdd, Nat.reduceEqDiff, ↓reduceIte, reduceCtorEq, goInt, exists_eq_left', eq_self, Int.reduceLT, Int.reduceLE, Int.reduceEq, Int.reduceNeg, Int.reduceAdd, Int.reduceSub, forall_const, ne_eq, undef, Nat.reducePow, Nat.reduceDiv, Nat.reduceMod, hlt', hlt, h3', g1, g3, calc_len, hkb, w1]
      exact hN _ _ (xs.length - (i + 1)) (by omega) ⟨i + 1, σ, es, by omega, by omega, rfl, bo.le' (by omega), hf, rfl⟩
  · have hh : (¬ (i : Int) < (xs.length : Int)) ∨ ((i : Int) < (xs.length : Int) ∧ ¬ (i : Int) < 300) := by omega
    rcases hh with h1 | ⟨h1, h2⟩
    case' inl => have h2 : True := trivial
    all_goals
      simp only [symA, go_opsd, symB, wantedX, X.put, X.look, Arg.ev, keepOf, restrict, evs, evO, initEnv, xres, tup, noTup, cls, quiet, Nat.reduceAdd, Nat.reduceEqDiff, ↓reduceIte, reduceCtorEq, goInt, exists_eq_left', eq_self, Int.reduceLT, Int.reduceLE, Int.reduceEq, Int.reduceNeg, Int.reduceAdd, Int.reduceSub, forall_const, ne_eq, undef, Nat.reducePow, Nat.reduceDiv, Nat.reduceMod, h1, h2]
      refine hB _ _ _ ?_
      have hs := bo.sort
      have hlen := bo.tree.len
      obtain ⟨mB, hmB⟩ : ∃ mB, m3.push { cells := [], rw := true, spare := none, kin := [] } = mB := ⟨_, rfl⟩
      have fB : Nx m3 mB := hmB ▸ .push
      have B1 := bs72 (m := m3)
      rw [hmB] at B1
      have boB := bo.nx fB
      obtain ⟨m4, r, F, c1, c2, c3, c4⟩ := keys_spec (key := .empty) (n := 300) boB.tree (by omega)
      rw [keysE_all (by omega)] at c2
      have bo4 := boB.nx c4
      have L4 : Mine b σ F m4 r (keysOf es) := ⟨c2, fun i hi => boB.fresh i (c3 i hi), fun i hi => Nat.le_trans boB.le (c3 i hi)⟩
      obtain ⟨qr, cr, hvr⟩ := L4.slice
      have hkl : (keysOf es).length = es.length := List.length_map ..
      rw [hkl] at hvr
      have hf4 : Fm (b ≤ ·) m m4 := hf.comp (up (fB.comp c4 fun _ _ h => h)) fun _ _ h => h
      subst hvr
      simp only [symA, go_opsd, symB, wantedX, X.put, X.look, Arg.ev, keepOf, restrict, evs, evO, initEnv, xres, tup, noTup, cls, quiet, Nat.reduceAdd, Nat.reduceEqDiff, ↓reduceIte, reduceCtorEq, goInt, exists_eq_left', eq_self, Int.reduceLT, Int.reduceLE, Int.reduceEq, Int.reduceNeg, Int.reduceAdd, Int.reduceSub, forall_const, ne_eq, undef, Nat.reducePow, Nat.reduceDiv, Nat.reduceMod, B1, goR_call c1]
      refine loop_go (fun j e m' => ∃ (q : Nat) (F2 : List Nat) (v2 : Value), q ≤ es.length ∧ j = es.length - q ∧ Mine b σ F2 m' v2 (staysOf ys ((keysOf es).take q)) ∧ (∀ x ∈ F2, m4.next ≤ x) ∧ m4.next ≤ m'.next ∧ Mine b σ F m' (.slice qr es.length cr) (keysOf es) ∧ TreeB b σ m' m.next es i ∧ Fm (b ≤ ·) m m' ∧ e = [(1, .slice p' ys.length c'), (5, Pt m.next), (7, v2), (8, .slice qr es.length cr), (9, I (q : Int))]) es.length ⟨0, [], _, by omega, rfl, Mine.nil b, by simp, Nat.le_refl _, L4, bo4, hf4, rfl⟩ ?_
      rintro j e m5 N2 B2 hN2 hB2 ⟨q, F2, v2, hq, rfl, S5, hF2, hx5, L5, bo5, hf5, rfl⟩
      obtain ⟨qs, cs, hvs⟩ := S5.slice
      by_cases hqlt : q < es.length
      · have hqlt' : (q : Int) < (es.length : Int) := by omega
        obtain ⟨y, hy⟩ : ∃ y, (keysOf es)[q]? = some y := ⟨_, List.getElem?_eq_getElem (by omega)⟩
        obtain ⟨ay, cy, oy, e1, e2, e3⟩ := L5.at hy
        rw [hkl] at e1
        cases e1
        have w5 : IntKind.i64.wrap ((q : Int) + 1) = ((q + 1 : Nat) : Int) := by rw [wrap_i64 (by omega) (by omega)]; omega
        simp only [symA, go_opsd, symB, wantedX, X.put, X.look, Arg.ev, keepOf, restrict, evs, evO, initEnv, xres, tup, noTup, cls, quiet, Nat.reduceAdd, Nat.reduceEqDiff, ↓reduceIte, reduceCtorEq, goInt, exists_eq_left', eq_self, Int.reduceLT, Int.reduceLE, Int.reduceEq, Int.reduceNeg, Int.reduceAdd, Int.reduceSub, forall_const, ne_eq, undef, Nat.reducePow, Nat.reduceDiv, Nat.reduceMod, hqlt']
        refine loop_go (fun j e m' => m' = m5 ∧ ∃ k : Nat, k ≤ ys.length ∧ k ≤ 300 ∧ j = ys.length - k ∧ e = [(1, .slice p' ys.length c'), (5, Pt m.next), (7, v2), (8, .slice (some ay) es.length cr), (9, I (q : Int)), (10, .bool ((ys.take k).any fun x => decide (x.key = y))), (11, I (k : Int))]) ys.length ⟨rfl, 0, by omega, by omega, rfl, rfl⟩ ?_
        rintro j e m6 N3 B3 hN3 hB3 ⟨rfl, k, hk, hk3, rfl, rfl⟩
        by_cases hkc : k < ys.length ∧ k < 300
        · obtain ⟨hk1, hk2⟩ := hkc
          have hk1' : (k : Int) < (ys.length : Int) := by omega
          have hk2' : (k : Int) < 300 := by omega
          have w6 : IntKind.i64.wrap ((k : Int) + 1) = ((k + 1 : Nat) : Int) := by rw [wrap_i64 (by omega) (by omega)]; omega
          obtain ⟨x, hx⟩ : ∃ x, ys[k]? = some x := ⟨_, List.getElem?_eq_getElem hk1⟩
          obtain ⟨a, c'', hv, _, o, g1, g2, g3, g4⟩ := act_at (h'.fr hf5 hb fun _ h => h) hx
          cases hv
          have hany : ((ys.take (k + 1)).any fun x => decide (x.key = y)) = (((ys.take k).any fun x => decide (x.key = y)) || decide (x.key = y)) := by
            rw [List.take_add_one, hx, List.any_append]
            simp
          cases hnm : (ys.take k).any fun x => decide (x.key = y) with
          | true =>
            simp only [symA, go_opsd, symB, wantedX, X.put, X.look, Arg.ev, keepOf, restrict, evs, evO, initEnv, xres, tup, noTup, cls, quiet, Nat.reduceAdd, Nat.reduceEqDiff, ↓reduceIte, reduceCtorEq, goInt, exists_eq_left', eq_self, Int.reduceLT, Int.reduceLE, Int.reduceEq, Int.reduceNeg, Int.reduceAdd, Int.reduceSub, forall_const, ne_eq, undef, Nat.reducePow, Nat.reduceDiv, Nat.reduceMod, hk1', hk2', w6]
            exact hN3 _ _ (ys.length - (k + 1)) (by omega) ⟨rfl, k + 1, by omega, by omega, rfl, by rw [hany, hnm]; rfl⟩
          | false =>
            simp only [symA, go_opsd, symB, wantedX, X.put, X.look, Arg.ev, keepOf, restrict, evs, evO, initEnv, xres, tup, noTup, cls, quiet, Nat.reduceAdd, Nat.reduceEqDiff, ↓reduceIte, reduceCtorEq, goInt, exists_eq_left', eq_self, Int.reduceLT, Int.reduceLE, Int.reduceEq, Int.reduceNeg, Int.reduceAdd, Int.reduceSub, forall_const, ne_eq, undef, Nat.reducePow, Nat.reduceDiv, Nat.reduceMod, hk1', hk2', hk1, g1, g3, hqlt, e2, e3, bin_seql, w6]
            exact hN3 _ _ (ys.length - (k + 1)) (by omega) ⟨rfl, k + 1, by omega, by omega, rfl, by rw [hany, hnm]; rfl⟩
        · have hkn : ((ys.take k).any fun x => decide (x.key = y)) = namedB ys y := by
            unfold namedB
            by_cases hk4 : k < 300
            · rw [List.take_of_length_le (by omega), List.take_of_length_le (by omega)]
            · have : k = 300 := by omega
              rw [this]
          have hst : staysOf ys ((keysOf es).take (q + 1)) = staysOf ys ((keysOf es).take q) ++ (if namedB ys y = true then [] else [y]) := by
            unfold staysOf
            rw [List.take_add_one, hy, List.filter_append]
            cases hnm : namedB ys y <;> simp [hnm]
          rw [hkn]
          have hh' : (¬ (k : Int) < (ys.length : Int)) ∨ ((k : Int) < (ys.length : Int) ∧ ¬ (k : Int) < 300) := by omega
          rcases hh' with g1 | ⟨g1, g2⟩
          case' inl => have g2 : True := trivial
          all_goals
            simp only [symA, go_opsd, symB, wantedX, X.put, X.look, Arg.ev, keepOf, restrict, evs, evO, initEnv, xres, tup, noTup, cls, quiet, Nat.reduceAdd, Nat.reduceEqDiff, ↓reduceIte, reduceCtorEq, goInt, exists_eq_left', eq_self, Int.reduceLT, Int.reduceLE, Int.reduceEq, Int.reduceNeg, Int.reduceAdd, Int.reduceSub, forall_const, ne_eq, undef, Nat.reducePow, Nat.reduceDiv, Nat.reduceMod, g1, g2]
            refine hB3 _ _ _ ?_
            cases hnm : namedB ys y with
            | true =>
              simp only [symA, go_opsd, symB, wantedX, X.put, X.look, Arg.ev, keepOf, restrict, evs, evO, initEnv, xres, tup, noTup, cls, quiet, Nat.reduceAdd, Nat.reduceEqDiff, ↓reduceIte, reduceCtorEq, goInt, exists_eq_left', eq_self, Int.reduceLT, Int.reduceLE, Int.reduceEq, Int.reduceNeg, Int.reduceAdd, Int.reduceSub, forall_const, ne_eq, undef, Nat.reducePow, Nat.reduceDiv, Nat.reduceMod, w5]
              exact hN2 _ _ (es.length - (q + 1)) (by omega) ⟨q + 1, F2, v2, by omega, rfl, by rw [hst, hnm]; simpa using S5, hF2, hx5, L5, bo5, hf5, rfl⟩
            | false =>
              have hsl : (staysOf ys ((keysOf es).take q)).length ≤ 1000 := by
                refine Nat.le_trans (List.length_filter_le _ _) ?_
                rw [List.length_take]; omega
              obtain ⟨mA, m7, v7, F7, y1, y2, y3, y4, y5, y6, y7⟩ := S5.app (key := y) bo5 hsl
              have L7 := L5.fr y6 fun i hi q' => by have := hF2 i q'; have := c2.lt i hi; omega
              simp only [symA, go_opsd, symB, wantedX, X.put, X.look, Arg.ev, keepOf, restrict, evs, evO, initEnv, xres, tup, noTup, cls, quiet, Nat.reduceAdd, Nat.reduceEqDiff, ↓reduceIte, reduceCtorEq, goInt, exists_eq_left', eq_self, Int.reduceLT, Int.reduceLE, Int.reduceEq, Int.reduceNeg, Int.reduceAdd, Int.reduceSub, forall_const, ne_eq, undef, Nat.reducePow, Nat.reduceDiv, Nat.reduceMod, hqlt, e2, e3, y3, y2, w5]
              exact hN2 _ _ (es.length - (q + 1)) (by omega) ⟨q + 1, F7, v7, by omega, rfl, by rw [hst, hnm]; simpa using y4, fun i hi => (y7 i hi).elim (hF2 i) (fun q' => by omega), by have := y6.next; omega, L7, y5, hf5.comp y6 fun i _ hi => S5.hb i hi, rfl⟩
      · have hqlt' : ¬ (q : Int) < (es.length : Int) := by omega
        have hqe : (keysOf es).take q = keysOf es := List.take_of_length_le (by omega)
        rw [hqe] at S5
        simp only [symA, go_opsd, symB, wantedX, X.put, X.look, Arg.ev, keepOf, restrict, evs, evO, initEnv, xres, tup, noTup, cls, quiet, Nat.reduceAdd, Nat.reduceEqDiff, ↓reduceIte, reduceCtorEq, goInt, exists_eq_left', eq_self, Int.reduceLT, Int.reduceLE, Int.reduceEq, Int.reduceNeg, Int.reduceAdd, Int.reduceSub, forall_const, ne_eq, undef, Nat.reducePow, Nat.reduceDiv, Nat.reduceMod, hqlt']
        refine hB2 _ _ _ ?_
        obtain ⟨S, hS⟩ : ∃ S, staysOf ys (keysOf es) = S := ⟨_, rfl⟩
        rw [hS] at S5
        have hSes : ∀ s ∈ S, s ∈ keysOf es := fun s hs' => by rw [← hS] at hs'; exact (List.mem_filter.1 hs').1
        have hSn : ∀ s ∈ S, namedB ys s = false := fun s hs' => by
          rw [← hS] at hs'
          simpa using (List.mem_filter.1 hs').2
        have hSr : RiseK S := by
          rw [← hS]
          exact (sortKE hs).filter _
        have hSl : S.length ≤ 300 := by
          have := List.length_filter_le (fun k => !namedB ys k) (keysOf es)
          rw [← hS]; unfold staysOf; omega
        have hname : ∀ {i : Nat} {x : Act}, ys[i]? = some x → i < 300 → x.key ∉ S := fun {i x} hx hi q => by
          have h1 := hSn _ q
          unfold namedB at h1
          rw [List.any_eq_false] at h1
          exact h1 x (List.mem_of_getElem? (i := i) (by rw [List.getElem?_take, if_pos hi]; exact hx)) (decide_eq_true rfl)
        obtain ⟨qs', cs', hvs'⟩ := S5.slice
        obtain ⟨mM, hmM⟩ : ∃ mM, m5.push { cells := [], rw := true, spare := none, kin := [] } = mM := ⟨_, rfl⟩
        have fM : Nx m5 mM := hmM ▸ .push
        have BM := bs72 (m := m5)
        rw [hmM] at BM
        have boM := bo5.nx fM
        have SM := S5.nx fM
        have hseek := Seek_spec (key := .empty) boM.tree
        rw [seek_at boM.sort] at hseek
        have hpe : posE .empty es = 0 := by
          unfold posE posK
          rw [List.length_eq_zero_iff, List.filter_eq_nil_iff]
          intro x _
          simpa using ltT_empty
        rw [hpe] at hseek
        simp only [tupF] at hseek
        simp only [symA, go_opsd, symB, wantedX, X.put, X.look, Arg.ev, keepOf, restrict, evs, evO, initEnv, xres, tup, noTup, cls, quiet, Nat.reduceAdd, Nat.reduceEqDiff, ↓reduceIte, reduceCtorEq, goInt, exists_eq_left', eq_self, Int.reduceLT, Int.reduceLE, Int.reduceEq, Int.reduceNeg, Int.reduceAdd, Int.reduceSub, forall_const, ne_eq, undef, Nat.reducePow, Nat.reduceDiv, Nat.reduceMod, BM, goR_call hseek]
        refine loop_go (fun j e m' => ∃ (i : Nat) (σ' : Nat → Tag) (es' : List Ent) (FM : List Nat) (vM : Value) (M : List Key) (o : Option Ent), i ≤ 600 ∧ j = 600 - i ∧ M.length = i ∧ TreeB b σ' m' m.next es' (300 + min i 300) ∧ Mine b σ' F2 m' v2 S ∧ Mine b σ' FM m' vM M ∧ (∀ x ∈ FM, x ∉ F2) ∧ WalkC S (keysOf es ++ (ys.take (min i 300)).map Act.key) es' M (o.map (·.1)) ∧ Fm (b ≤ ·) m m' ∧ e = [(1, .slice p' ys.length c'), (5, Pt m.next), (7, v2), (12, vM), (13, .string (o.getD zeroE).1), (15, .bool o.isSome), (16, I (i : Int))]) 600 ⟨0, σ, es, [], _, [], es[0]?, by omega, rfl, rfl, boM.le' (by omega), SM, Mine.nil b, by simp, ?_, hf5.comp (up fM) fun _ _ h => h, rfl⟩ ?_
        · have := WalkC.begin hs hSes
          rw [List.head?_eq_getElem?] at this
          simpa using this
        rintro j e m6 N3 B3 hN3 hB3 ⟨t, σ', es', FM, vM, M, o, ht, rfl, hMl, bo6, S6, M6, hd6, hw, hf6, rfl⟩
        obtain ⟨qm, cm, hvm⟩ := M6.slice
        have hbd := hw.bound
        have hUl : (keysOf es ++ (ys.take (min t 300)).map Act.key).length ≤ 600 := by
          rw [List.length_append, List.length_map, List.length_map, List.length_take]; omega
        cases o with
        | some e0 =>
          have ht6 : t < 600 := by
            simp only [Option.map_some, Option.isSome_some, ↓reduceIte] at hbd
            omega
          have ht6' : (t : Int) < 600 := by omega
          have w7 : IntKind.i64.wrap ((t : Int) + 1) = ((t + 1 : Nat) : Int) := by rw [wrap_i64 (by omega) (by omega)]; omega
          obtain ⟨mA, m7, v7, F7, y1, y2, y3, y4, y5, y6, y7⟩ := M6.app (key := e0.1) bo6 (by omega)
          have S7 := S6.fr y6 fun i hi q' => hd6 i q' hi
          have hd7 : ∀ x ∈ F7, x ∉ F2 := fun x hx q' => (y7 x hx).elim (fun h => hd6 x h q') fun h => by have := S6.own.lt x q'; omega
          have hf7 : Fm (b ≤ ·) m m7 := hf6.comp y6 fun i _ hi => M6.hb i hi
          -- behind the change
          have fin : ∀ (m8 : Mem) (σ8 : Nat → Tag) (es8 : List Ent), TreeB b σ8 m8 m.next es8 (300 + min (t + 1) 300) → Gr σ' σ8 m7 m8 → Fm (b ≤ ·) m m8 → (∀ s ∈ S, s ∈ keysOf es8) → (∀ s ∈ keysOf es8, s ∈ keysOf es ++ (ys.take (min (t + 1) 300)).map Act.key) →
              Ca 31 [Pt m.next, .string e0.1] m8 (.tuple #[.string ((fstE true e0.1 es8).getD zeroE).1, I ((fstE true e0.1 es8).getD zeroE).2, .bool (fstE true e0.1 es8).isSome]) m8 ∧ N3 [(1, .slice p' ys.length c'), (5, Pt m.next), (7, v2), (12, v7), (13, .string ((fstE true e0.1 es8).getD zeroE).1), (15, .bool (fstE true e0.1 es8).isSome), (16, I ((t + 1 : Nat) : Int))] m8 := fun m8 σ8 es8 b8 g8 f8 k1 k2 => by
            refine ⟨After_spec b8.tree, hN3 _ _ (600 - (t + 1)) (by omega) ⟨t + 1, σ8, es8, F7, v7, M ++ [e0.1], fstE true e0.1 es8, by omega, rfl, by simp [hMl], b8, S7.gr g8, y4.gr g8, hd7, ?_, f8, rfl⟩⟩
            have hmono : ∀ s ∈ keysOf es ++ (ys.take (min t 300)).map Act.key, s ∈ keysOf es ++ (ys.take (min (t + 1) 300)).map Act.key := fun s hs' => by
              rcases List.mem_append.1 hs' with q' | q'
              · exact List.mem_append.2 (.inl q')
              · obtain ⟨x, hx, rfl⟩ := List.mem_map.1 q'
                exact List.mem_append.2 (.inr (List.mem_map.2 ⟨x, (List.take_sublist_take_left (by omega)).subset hx, rfl⟩))
            exact hw.step b8.sort k1 k2 hmono
          have low0 : ∀ s ∈ keysOf es', s ∈ keysOf es ++ (ys.take (min (t + 1) 300)).map Act.key := fun s hs' => by
            rcases List.mem_append.1 (hw.low s hs') with q' | q'
            · exact List.mem_append.2 (.inl q')
            · obtain ⟨x, hx, rfl⟩ := List.mem_map.1 q'
              exact List.mem_append.2 (.inr (List.mem_map.2 ⟨x, (List.take_sublist_take_left (by omega)).subset hx, rfl⟩))
          by_cases htc : t < ys.length ∧ t < 300
          · obtain ⟨hk1, hk2⟩ := htc
            have hk1' : (t : Int) < (ys.length : Int) := by omega
            have hk2' : (t : Int) < 300 := by omega
            obtain ⟨x, hx⟩ : ∃ x, ys[t]? = some x := ⟨_, List.getElem?_eq_getElem hk1⟩
            obtain ⟨a, c'', hv, _, o, g1, g2, g3, g4⟩ := act_at (h'.fr hf7 hb fun _ h => h) hx
            cases hv
            have hxS := hname hx hk2
            have hU1 : keysOf es ++ (ys.take (min (t + 1) 300)).map Act.key = (keysOf es ++ (ys.take (min t 300)).map Act.key) ++ [x.key] := by
              rw [Nat.min_eq_left (by omega), Nat.min_eq_left (by omega), List.take_add_one, hx]
              simp
            by_cases hkb : (x.key.size : Int) ≤ 100
            · have hstep1 := stepC_stay hxS hw.stay
              have hstep2 := stepC_low (x := x) hw.low
              rw [← hU1] at hstep2
              by_cases hk3 : x.kind = 1
              · obtain ⟨m8, σ8, d1, d2, d3, d4⟩ := y5.put (key := x.key) (x := x.n) (by omega)
                have e8 : stepC x es' = putE x.key x.n es' := by unfold stepC; rw [if_pos (by omega), if_pos hk3]
                rw [e8] at hstep1 hstep2
                obtain ⟨d5, d6⟩ := fin m8 σ8 _ (d2.le' (by omega)) d4 (hf7.comp d3 fun _ _ h => h) hstep1 hstep2
                simp only [symA, go_opsd, symB, wantedX, X.put, X.look, Arg.ev, keepOf, restrict, evs, evO, initEnv, xres, tup, noTup, cls, quiet, Nat.reduceAdd, Nat.reduceEqDiff, ↓reduceIte, reduceCtorEq, goInt, exists_eq_left', eq_self, Int.reduceLT, Int.reduceLE, Int.reduceEq, Int.reduceNeg, Int.reduceAdd, Int.reduceSub, forall_const, ne_eq, undef, Nat.reducePow, Nat.reduceDiv, Nat.reduceMod, Option.isSome_some, Option.getD_some, ht6', y3, y2, hk1', hk2', hk1, g1, g2, hk3, g3, calc_len, hkb, g4, goDV3c d1, goR_call d5, w7]
                exact d6
              · obtain ⟨m8, σ8, d1, d2, d3, d4⟩ := y5.del (key := x.key) (by omega)
                have e8 : stepC x es' = delE x.key es' := by unfold stepC; rw [if_pos (by omega), if_neg hk3]
                rw [e8] at hstep1 hstep2
                obtain ⟨d5, d6⟩ := fin m8 σ8 _ (d2.le' (by omega)) d4 (hf7.comp d3 fun _ _ h => h) hstep1 hstep2
                simp only [symA, go_opsd, symB, wantedX, X.put, X.look, Arg.ev, keepOf, restrict, evs, evO, initEnv, xres, tup, noTup, cls, quiet, Nat.reduceAdd, Nat.reduceEqDiff, ↓reduceIte, reduceCtorEq, goInt, exists_eq_left', eq_self, Int.reduceLT, Int.reduceLE, Int.reduceEq, Int.reduceNeg, Int.reduceAdd, Int.reduceSub, forall_const, ne_eq, undef, Nat.reducePow, Nat.reduceDiv, Nat.reduceMod, Option.isSome_some, Option.getD_some, ht6', y3, y2, hk1', hk2', hk1, g1, g2, hk3, g3, calc_len, hkb, g4, goR_call d1, goR_call d5, w7]
                exact d6
            · obtain ⟨d5, d6⟩ := fin m7 σ' _ (y5.le' (by omega)) .refl hf7 hw.stay low0
              simp only [symA, go_opsd, symB, wantedX, X.put, X.look, Arg.ev, keepOf, restrict, evs, evO, initEnv, xres, tup, noTup, cls, quiet, Nat.reduceAdd, Nat.reduceEqDiff, ↓reduceIte, reduceCtorEq, goInt, exists_eq_left', eq_self, Int.reduceLT, Int.reduceLE, Int.reduceEq, Int.reduceNeg, Int.reduceAdd, Int.reduceSub, forall_const, ne_eq, undef, Nat.reducePow, Nat.reduceDiv, Nat.reduceMod, Option.isSome_some, Option.getD_some, ht6', y3, y2, hk1', hk2', hk1, g1, g3, calc_len, hkb, goR_call d5, w7]
              exact d6
          · have hh' : (¬ (t : Int) < (ys.length : Int)) ∨ ((t : Int) < (ys.length : Int) ∧ ¬ (t : Int) < 300) := by omega
            obtain ⟨d5, d6⟩ := fin m7 σ' _ (y5.le' (by omega)) .refl hf7 hw.stay low0
            rcases hh' with g1 | ⟨g1, g2⟩
            case' inl => have g2 : True := trivial
            all_goals
              simp only [symA, go_opsd, symB, wantedX, X.put, X.look, Arg.ev, keepOf, restrict, evs, evO, initEnv, xres, tup, noTup, cls, quiet, Nat.reduceAdd, Nat.reduceEqDiff, ↓reduceIte, reduceCtorEq, goInt, exists_eq_left', eq_self, Int.reduceLT, Int.reduceLE, Int.reduceEq, Int.reduceNeg, Int.reduceAdd, Int.reduceSub, forall_const, ne_eq, undef, Nat.reducePow, Nat.reduceDiv, Nat.reduceMod, Option.isSome_some, Option.getD_some, ht6', y3, y2, g1, g2, goR_call d5, w7]
              exact d6
        | none =>
          have hsub := hw.done hSr
          simp only [symA, go_opsd, symB, wantedX, X.put, X.look, Arg.ev, keepOf, restrict, evs, evO, initEnv, xres, tup, noTup, cls, quiet, Nat.reduceAdd, Nat.reduceEqDiff, ↓reduceIte, reduceCtorEq, goInt, exists_eq_left', eq_self, Int.reduceLT, Int.reduceLE, Int.reduceEq, Int.reduceNeg, Int.reduceAdd, Int.reduceSub, forall_const, ne_eq, undef, Nat.reducePow, Nat.reduceDiv, Nat.reduceMod, Option.isSome_none]
          refine hB3 _ _ _ ?_
          subst hvs' hvm
          simp only [symA, go_opsd, symB, wantedX, X.put, X.look, Arg.ev, keepOf, restrict, evs, evO, initEnv, xres, tup, noTup, cls, quiet, Nat.reduceAdd, Nat.reduceEqDiff, ↓reduceIte, reduceCtorEq, goInt, exists_eq_left', eq_self, Int.reduceLT, Int.reduceLE, Int.reduceEq, Int.reduceNeg, Int.reduceAdd, Int.reduceSub, forall_const, ne_eq, undef, Nat.reducePow, Nat.reduceDiv, Nat.reduceMod]
          refine loop_go (fun j e m' => m' = m6 ∧ ∃ i a : Nat, i ≤ M.length ∧ a ≤ S.length ∧ j = M.length - i ∧ (S.drop a).Sublist (M.drop i) ∧ e = [(7, .slice qs' S.length cs'), (12, .slice qm M.length cm), (17, I (a : Int)), (18, I (i : Int))]) M.length ⟨rfl, 0, 0, by omega, by omega, rfl, hsub, rfl⟩ ?_
          rintro j e m7 N4 B4 hN4 hB4 ⟨rfl, i, a, hi, ha, rfl, hsb, rfl⟩
          by_cases hiM : i < M.length
          · have hiM' : (i : Int) < (M.length : Int) := by omega
            have w8 : IntKind.i64.wrap ((i : Int) + 1) = ((i + 1 : Nat) : Int) := by rw [wrap_i64 (by omega) (by omega)]; omega
            have w9 : IntKind.i64.wrap ((a : Int) + 1) = ((a + 1 : Nat) : Int) := by rw [wrap_i64 (by omega) (by omega)]; omega
            obtain ⟨y, hy⟩ : ∃ y, M[i]? = some y := ⟨_, List.getElem?_eq_getElem hiM⟩
            obtain ⟨ay, cy, oy, e1, e2, e3⟩ := M6.at hy
            cases e1
            have hMd : M.drop i = y :: M.drop (i + 1) := by
              obtain ⟨_, rfl⟩ := List.getElem?_eq_some_iff.1 hy
              exact List.drop_eq_getElem_cons hiM
            rw [hMd] at hsb
            have hrise : RiseK M := by simpa using hw.rise
            -- the second part's facts
            have sec : (∃ s, S[a]? = some s ∧ a < S.length ∧ ∃ sa os, qs' = some sa ∧ m7.get sa.block = some os ∧ os.cells[sa.off + a]? = some (.string s)) ∨ (¬ a < S.length ∧ a = S.length) := by
              by_cases hal : a < S.length
              · obtain ⟨s, hs'⟩ : ∃ s, S[a]? = some s := ⟨_, List.getElem?_eq_getElem hal⟩
                obtain ⟨sa, cs2, os, f1, f2, f3⟩ := S6.at hs'
                cases f1
                exact .inl ⟨s, hs', hal, sa, os, rfl, f2, f3⟩
              · exact .inr ⟨hal, by omega⟩
            have fst1 : (i = 0 ∧ ¬ (0 : Int) < (i : Int)) ∨ ∃ q z, i = q + 1 ∧ (0 : Int) < (i : Int) ∧ q < M.length ∧ IntKind.i64.wrap ((i : Int) - 1) = (q : Int) ∧ oy.cells[ay.off + q]? = some (.string z) ∧ ltT z y := by
              by_cases h0 : i = 0
              · exact .inl ⟨h0, by omega⟩
              · obtain ⟨z, hz⟩ : ∃ z, M[i - 1]? = some z := ⟨_, List.getElem?_eq_getElem (by omega)⟩
                obtain ⟨az, cz, oz, z1, z2, z3⟩ := M6.at hz
                cases z1
                rw [e2] at z2
                cases z2
                exact .inr ⟨i - 1, z, by omega, by omega, by omega, by rw [wrap_i64 (by omega) (by omega)]; omega, z3, sortK_lt hrise (by omega) hz hy⟩
            rcases fst1 with ⟨k1, k2⟩ | ⟨q, z, k1, k2, k3, k4, k5, k6⟩
            case' inl => have k3 : True := trivial; have k4 : True := trivial; have k5 : True := trivial; have k6 : True := trivial
            all_goals
              rcases sec with ⟨s, hs', hal, sa, os, rfl, f2, f3⟩ | ⟨hal, hae⟩
              · have hal' : (a : Int) < (S.length : Int) := by omega
                have hSd : S.drop a = s :: S.drop (a + 1) := by
                  obtain ⟨_, rfl⟩ := List.getElem?_eq_some_iff.1 hs'
                  exact List.drop_eq_getElem_cons hal
                rw [hSd] at hsb
                obtain ⟨sb1, sb2⟩ := sub_step hsb
                by_cases hsy : y = s
                · simp only [symA, go_opsd, symB, wantedX, X.put, X.look, Arg.ev, keepOf, restrict, evs, evO, initEnv, xres, tup, noTup, cls, quiet, Nat.reduceAdd, Nat.reduceEqDiff, ↓reduceIte, reduceCtorEq, goInt, exists_eq_left', eq_self, Int.reduceLT, Int.reduceLE, Int.reduceEq, Int.reduceNeg, Int.reduceAdd, Int.reduceSub, forall_const, ne_eq, undef, Nat.reducePow, Nat.reduceDiv, Nat.reduceMod, hiM', hiM, k2, k3, k4, k5, k6, e2, e3, bin_sgeq, bin_seql, hal', hal, f2, f3, hsy, not_true, decide_false, decide_true, w8, w9]
                  first
                  | exact hN4 _ _ (M.length - (i + 1)) (by omega) ⟨rfl, i + 1, a + 1, by omega, by omega, rfl, sb1 hsy.symm, rfl⟩
                  | (have k7 := k6; rw [hsy] at k7
                     simp only [symA, go_opsd, symB, wantedX, X.put, X.look, Arg.ev, keepOf, restrict, evs, evO, initEnv, xres, tup, noTup, cls, quiet, Nat.reduceAdd, Nat.reduceEqDiff, ↓reduceIte, reduceCtorEq, goInt, exists_eq_left', eq_self, Int.reduceLT, Int.reduceLE, Int.reduceEq, Int.reduceNeg, Int.reduceAdd, Int.reduceSub, forall_const, ne_eq, undef, Nat.reducePow, Nat.reduceDiv, Nat.reduceMod, hiM', hiM, k2, k3, k4, k5, k7, e2, e3, bin_sgeq, bin_seql, hal', hal, f2, f3, hsy, not_true, decide_false, decide_true, w8, w9]
                     exact hN4 _ _ (M.length - (i + 1)) (by omega) ⟨rfl, i + 1, a + 1, by omega, by omega, rfl, sb1 hsy.symm, rfl⟩)
                · simp only [symA, go_opsd, symB, wantedX, X.put, X.look, Arg.ev, keepOf, restrict, evs, evO, initEnv, xres, tup, noTup, cls, quiet, Nat.reduceAdd, Nat.reduceEqDiff, ↓reduceIte, reduceCtorEq, goInt, exists_eq_left', eq_self, Int.reduceLT, Int.reduceLE, Int.reduceEq, Int.reduceNeg, Int.reduceAdd, Int.reduceSub, forall_const, ne_eq, undef, Nat.reducePow, Nat.reduceDiv, Nat.reduceMod, hiM', hiM, k2, k3, k4, k5, k6, e2, e3, bin_sgeq, bin_seql, hal', hal, f2, f3, hsy, not_true, decide_false, decide_true, w8, w9]
                  exact hN4 _ _ (M.length - (i + 1)) (by omega) ⟨rfl, i + 1, a, by omega, by omega, rfl, by rw [hSd]; exact sb2 (Ne.symm hsy), rfl⟩
              · have hal' : ¬ (a : Int) < (S.length : Int) := by omega
                simp only [symA, go_opsd, symB, wantedX, X.put, X.look, Arg.ev, keepOf, restrict, evs, evO, initEnv, xres, tup, noTup, cls, quiet, Nat.reduceAdd, Nat.reduceEqDiff, ↓reduceIte, reduceCtorEq, goInt, exists_eq_left', eq_self, Int.reduceLT, Int.reduceLE, Int.reduceEq, Int.reduceNeg, Int.reduceAdd, Int.reduceSub, forall_const, ne_eq, undef, Nat.reducePow, Nat.reduceDiv, Nat.reduceMod, hiM', hiM, k2, k3, k4, k5, k6, e2, e3, bin_sgeq, bin_seql, hal', hal, not_true, decide_false, decide_true, w8, w9]
                exact hN4 _ _ (M.length - (i + 1)) (by omega) ⟨rfl, i + 1, a, by omega, by omega, rfl, by rw [hae, List.drop_length]; exact List.nil_sublist _, rfl⟩
          · have hiM' : ¬ (i : Int) < (M.length : Int) := by omega
            have hend : (a : Int) = (S.length : Int) := by
              rw [List.drop_of_length_le (by omega : M.length ≤ i)] at hsb
              have := List.sublist_nil.1 hsb
              have := List.drop_eq_nil_iff.1 this
              omega
            simp only [symA, go_opsd, symB, wantedX, X.put, X.look, Arg.ev, keepOf, restrict, evs, evO, initEnv, xres, tup, noTup, cls, quiet, Nat.reduceAdd, Nat.reduceEqDiff, ↓reduceIte, reduceCtorEq, goInt, exists_eq_left', eq_self, Int.reduceLT, Int.reduceLE, Int.reduceEq, Int.reduceNeg, Int.reduceAdd, Int.reduceSub, forall_const, ne_eq, undef, Nat.reducePow, Nat.reduceDiv, Nat.reduceMod, hiM']
            refine hB4 _ _ _ ?_
            simp only [symA, go_opsd, symB, wantedX, X.put, X.look, Arg.ev, keepOf, restrict, evs, evO, initEnv, xres, tup, noTup, cls, quiet, Nat.reduceAdd, Nat.reduceEqDiff, ↓reduceIte, reduceCtorEq, goInt, exists_eq_left', eq_self, Int.reduceLT, Int.reduceLE, Int.reduceEq, Int.reduceNeg, Int.reduceAdd, Int.reduceSub, forall_const, ne_eq, undef, Nat.reducePow, Nat.reduceDiv, Nat.reduceMod, hend]
            exact hQ _ _ _ rfl rfl

theorem treeCursor_args {H : Type} (ds : List (DataW H)) (h : wfEach Try.prog ds Try.f6.params.toList) : ∃ (d0 d1 : DataW H), ds = [d0, d1] ∧ wfD Try.prog d0 55 ∧ wfD Try.prog d1 55 := by
  rw [Try.params6] at h
  obtain ⟨d0, r, rfl, h0, h⟩ := wf_more h
  obtain ⟨d1, rfl, h1⟩ := wf_one h
  exact ⟨d0, d1, rfl, h0, h1⟩

theorem treeCursor_lifted (os : Os) (started : os.Started) (H : Type) (enc : TypeId × Value → H) :
    ReturnsInHanded {} Try.checked os 6 .any (Rows.treeCursorSpec.pre6 enc Try.prog Try.f6 Rows.treeCursorRow.domain false) (Rows.treeCursorSpec.post enc Try.prog Try.f6 false true false false) := by
  refine returnsInHanded_of_change (C := Try.checked) own started (by kernel_rfl) Try.func6
    (ChangeSpec.witness6 (enc := enc) (C := Try.checked) false ⟨#[], #[.slice none 0 0, .slice none 0 0], []⟩ 8 (by kernel_rfl) (by kernel_rfl) (by kernel_rfl) (by kernel_rfl)) ?_
  intro W base args ds gs before hval0 hW hcnd _
  refine law_contract mixed tabK_is (f := 6) rfl (k := 10) (by rw [← List.all_eq_true]; kernel_rfl) (fun t ht => ?_) laid rfl (by kernel_rfl) rfl ?_ ?_ H enc W base args ds gs before hval0 hW
  · have : (Try.f6.params.toList.all fun t => Try.prog.readableRec t && decide (t < Try.prog.types.size)) = true := by kernel_rfl
    have := List.all_eq_true.1 this t ht
    simp only [Bool.and_eq_true, decide_eq_true_eq] at this
    exact this
  · intro H ds hd
    obtain ⟨_, _, rfl, _⟩ := treeCursor_args ds hd
    rfl
  · intro H ds hd
    obtain ⟨d0, d1, rfl, h0, h1⟩ := treeCursor_args ds hd
    obtain ⟨x0, v0, a0, b0, c0⟩ := abs_acts (m := Mem.empty) h0
    obtain ⟨M0, hM0⟩ : ∃ M, (absD Try.prog d0 55 Mem.empty).2 = M := ⟨_, rfl⟩
    rw [hM0] at b0 c0
    obtain ⟨x1, v1, a1, b1, c1⟩ := abs_acts (m := M0) h1
    obtain ⟨M1, hM1⟩ : ∃ M, (absD Try.prog d1 55 M0).2 = M := ⟨_, rfl⟩
    rw [hM1] at b1 c1
    have ha : absArgs Try.prog [d0, d1] Try.f6.params.toList Mem.empty = ([argVal Try.prog 55 (absD Try.prog d0 55 Mem.empty).1, argVal Try.prog 55 (absD Try.prog d1 55 (absD Try.prog d0 55 Mem.empty).2).1], (absD Try.prog d1 55 (absD Try.prog d0 55 Mem.empty).2).2) := by kernel_rfl
    rw [ha, hM0, hM1, a0, a1]
    have q55 : ∀ v, argVal Try.prog 55 [v] = v := fun v => by kernel_rfl
    rw [q55, q55]
    obtain ⟨v, m', ⟨k, hk⟩, rfl⟩ := treeCursor_run  (b := M1.next) (acts_last c0 b1) c1 (Nat.le_refl _)
    exact ⟨k, m', hk⟩

theorem treeCursor_holds : Rows.TreeCursorSaid :=
  OpenClaim.holds_of_wide 6 Try.f6 rfl rfl rfl rfl rfl rfl rfl ⟨rfl, rfl, rfl, rfl, rfl⟩ rfl rfl rfl rfl rfl (by kernel_rfl) Try.func6 (by kernel_rfl)
    (of_decide_eq_true (by kernel_rfl)) (by unfold Func.isWrapper; first | (rw [if_pos (by decide +kernel)]; kernel_rfl) | (rw [if_neg (by decide +kernel)]; exact ⟨rfl, rfl⟩))
    (fun os started H enc _ => treeCursor_lifted os started H enc)


end Go.Proofs.Ytecceimgpeookaa
