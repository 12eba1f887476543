/-
  Own work. What the functions come to: writes done to entries, all at once.
-/
import Derived.Test.YtlldfkapaeidoaaD5
namespace Go.Proofs.Ytlldfkapaeidoaa
open Go X
set_option maxRecDepth 100000
set_option linter.unusedVariables false
set_option linter.unusedSimpArgs false

abbrev Z5 : List Value := [.string .empty, I 0, .bool false, .string .empty, U 0]
theorem build5 {m : Mem} {k t : ByteArray} {s : Int} {n : Bool} {c : Nat} : buildSliceE m Z5 5 1 [(0, .agg ⟨row5 k (I s) n t c⟩)] = some (.val (.slice (some ⟨m.next, 0, none⟩) 1 1) (m.push { cells := row5 k (I s) n t c, rw := true, spare := none, kin := [] })) := by kernel_rfl
theorem build50 {m : Mem} : buildSliceE m Z5 5 0 [] = some (.val (.slice (some ⟨m.next, 0, none⟩) 0 0) (m.push { cells := [], rw := true, spare := none, kin := [] })) := by kernel_rfl
theorem buildEnt {m : Mem} {k t : ByteArray} {s : Int} {n : Bool} {c : Nat} : buildE m Z5 [(0, 1), (1, 1), (2, 3)] [(0, .string k), (1, I s), (2, .agg ⟨valL n t c⟩)] = some (.val (.agg ⟨row5 k (I s) n t c⟩) m) := by kernel_rfl
abbrev OwnE (F : List Nat) (m : Mem) (v : Value) (vs : List Ent) : Prop := Own2 5 F m v (rowsE vs)
theorem ownE_rd {F : List Nat} {m : Mem} {v : Value} {vs : List Ent} (h : OwnE F m v vs) : RdE m.next m v vs := h.rd (by omega)
theorem rdE_head {b : Nat} {m : Mem} {v : Value} {x : Ent} {vs : List Ent} (h : RdE b m v (x :: vs)) : ∃ a c, v = .slice (some a) (vs.length + 1) c ∧ At5 m a.block a.off x.key (I x.seq) x.num x.text x.bits := by
  obtain ⟨a, c, h1, h2⟩ := rdE_at h (i := 0) (x := x) rfl
  rw [Nat.zero_mul, Nat.add_zero] at h2
  exact ⟨a, c, h1, h2⟩
theorem rdW_head {b : Nat} {m : Mem} {v : Value} {x : Wr} {vs : List Wr} (h : RdW b m v (x :: vs)) : ∃ a c, v = .slice (some a) (vs.length + 1) c ∧ At5 m a.block a.off x.key (.bool x.gone) x.num x.text x.bits := by
  obtain ⟨a, c, h1, h2⟩ := rdW_at h (i := 0) (x := x) rfl
  rw [Nat.zero_mul, Nat.add_zero] at h2
  exact ⟨a, c, h1, h2⟩
/-- One entry more. -/
theorem ownE_one {F : List Nat} {m : Mem} {v : Value} {vs : List Ent} (h : OwnE F m v vs) (x : Ent) (hl : vs.length ≤ 1000000) :
    ∃ v' m' F', appendE (m.push { cells := row5 x.key (I x.seq) x.num x.text x.bits, rw := true, spare := none, kin := [] }) 5 56 Z5 v (.slice (some ⟨m.next, 0, none⟩) 1 1) = some (.val v' m') ∧ OwnE F' m' v' (vs ++ [x]) ∧ Fm (· ∈ F) m m' ∧ ∀ i ∈ F', i ∈ F ∨ m.next ≤ i := by
  obtain ⟨v', m', F', h1, h2, h3, h4⟩ := h.one (bytes := 56) (zero := Z5) (row := row5 x.key (I x.seq) x.num x.text x.bits) rfl (by omega) rfl (by rw [List.length_map]; omega) (by rw [List.length_map]; omega)
  refine ⟨v', m', F', h1, ?_, h3, h4⟩
  have : rowsE (vs ++ [x]) = rowsE vs ++ [x.row] := by simp
  rw [OwnE, this]
  exact h2

def okA (vs : List Ent) (ws : List Wr) (s : Int) : Bool := okE none vs && okW none ws && decide (1 ≤ s)

theorem apply_spec {b : Nat} {m : Mem} {lv wv : Value} {vs : List Ent} {ws : List Wr} {s : Int} (h : RdE b m lv vs) (hc : CutB b m 5 lv) (h' : RdW b m wv ws) (hc' : CutB b m 5 wv) (hv : ∀ x ∈ vs, x.Wf) (hw : ∀ x ∈ ws, x.Wf) (hl : vs.length ≤ 100000) (hl' : ws.length ≤ 100000) (hb : b ≤ m.next) :
    ∃ r m' F, Ca 10 [lv, wv, I s] m (.tuple #[r, I (bif okA vs ws s then 0 else 1)]) m' ∧ OwnE F m' r (bif okA vs ws s then mergeE s vs ws else []) ∧ (∀ i ∈ F, m.next ≤ i) ∧ Nx m m' := by
  have key : Wc 10 [lv, wv, I s] m fun r m' => ∃ v F, r = .tuple #[v, I (bif okA vs ws s then 0 else 1)] ∧ OwnE F m' v (bif okA vs ws s then mergeE s vs ws else []) ∧ (∀ i ∈ F, m.next ≤ i) ∧ Nx m m' := by
    refine call_go (F := _) rfl rfl fun Q hQ => ?_
    obtain ⟨m1, r1, r2⟩ := right h hv (by omega) hb
    obtain ⟨m2, q1, q2⟩ := done (h'.fr r2 hb (fun _ h => h.elim)) hw (by omega) (Nat.le_trans hb r2.next)
    have f2 : Nx m m2 := r2.comp q2 fun _ _ h => h
    cases e1 : okE none vs with
    | false =>
      have e : okA vs ws s = false := by rw [okA, e1]; rfl
      rw [e] at hQ
      rw [e1] at r1
      simp only [symA, go_opsd, symB, wantedX, X.put, X.look, Arg.ev, keepOf, restrict, evs, evO, initEnv, xres, tup, noTup, cls, quiet, Nat.reduceAdd, Nat.reduceEqDiff, ↓reduceIte, reduceCtorEq, goInt, exists_eq_left', eq_self, Int.reduceLT, Int.reduceLE, Int.reduceEq, Int.reduceNeg, Int.reduceAdd, Int.reduceSub, forall_const, ne_eq, undef, Nat.reducePow, Nat.reduceDiv, Nat.reduceMod, goR_call r1]
      exact hQ _ _ _ rfl ⟨_, [], rfl, .nil, by simp, r2⟩
    | true =>
    rw [e1] at r1
    cases e2 : okW none ws with
    | false =>
      have e : okA vs ws s = false := by rw [okA, e1, e2]; rfl
      rw [e] at hQ
      rw [e2] at q1
      simp only [symA, go_opsd, symB, wantedX, X.put, X.look, Arg.ev, keepOf, restrict, evs, evO, initEnv, xres, tup, noTup, cls, quiet, Nat.reduceAdd, Nat.reduceEqDiff, ↓reduceIte, reduceCtorEq, goInt, exists_eq_left', eq_self, Int.reduceLT, Int.reduceLE, Int.reduceEq, Int.reduceNeg, Int.reduceAdd, Int.reduceSub, forall_const, ne_eq, undef, Nat.reducePow, Nat.reduceDiv, Nat.reduceMod, goR_call r1, goR_call q1]
      exact hQ _ _ _ rfl ⟨_, [], rfl, .nil, by simp, f2⟩
    | true =>
    rw [e2] at q1
    by_cases e3 : s < 1
    · have e : okA vs ws s = false := by
        have : decide (1 ≤ s) = false := decide_eq_false (by omega)
        rw [okA, e1, e2, this]; rfl
      rw [e] at hQ
      simp only [symA, go_opsd, symB, wantedX, X.put, X.look, Arg.ev, keepOf, restrict, evs, evO, initEnv, xres, tup, noTup, cls, quiet, Nat.reduceAdd, Nat.reduceEqDiff, ↓reduceIte, reduceCtorEq, goInt, exists_eq_left', eq_self, Int.reduceLT, Int.reduceLE, Int.reduceEq, Int.reduceNeg, Int.reduceAdd, Int.reduceSub, forall_const, ne_eq, undef, Nat.reducePow, Nat.reduceDiv, Nat.reduceMod, goR_call r1, goR_call q1, e3]
      exact hQ _ _ _ rfl ⟨_, [], rfl, .nil, by simp, f2⟩
    have e : okA vs ws s = true := by
      have : decide (1 ≤ s) = true := decide_eq_true (by omega)
      rw [okA, e1, e2, this]; rfl
    rw [e] at hQ
    simp only [cond_true] at hQ
    simp only [symA, go_opsd, symB, wantedX, X.put, X.look, Arg.ev, keepOf, restrict, evs, evO, initEnv, xres, tup, noTup, cls, quiet, Nat.reduceAdd, Nat.reduceEqDiff, ↓reduceIte, reduceCtorEq, goInt, exists_eq_left', eq_self, Int.reduceLT, Int.reduceLE, Int.reduceEq, Int.reduceNeg, Int.reduceAdd, Int.reduceSub, forall_const, ne_eq, undef, Nat.reducePow, Nat.reduceDiv, Nat.reduceMod, goR_call r1, goR_call q1, e3]
    refine loop_go (fun j e m' => Nx m m' ∧ ∃ (L : List Ent) (W : List Wr) (acc : List Ent) (lv wv out : Value) (F : List Nat), j = L.length + W.length ∧ mergeE s vs ws = acc ++ mergeE s L W ∧ acc.length + L.length + W.length ≤ vs.length + ws.length ∧ RdE b m' lv L ∧ CutB b m' 5 lv ∧ RdW b m' wv W ∧ CutB b m' 5 wv ∧ OwnE F m' out acc ∧ (∀ i ∈ F, m.next ≤ i) ∧
      e = [(0, lv), (1, wv), (2, I s), (8, out)]) (vs.length + ws.length) ⟨f2, vs, ws, [], lv, wv, .slice none 0 0, [], rfl, rfl, by simp, h.fr f2 hb (fun _ h => h.elim), hc.fr f2 hb (fun _ h => h.elim), h'.fr f2 hb (fun _ h => h.elim), hc'.fr f2 hb (fun _ h => h.elim), .nil, by simp, rfl⟩ ?_
    rintro j e m3 N' B' hN hB ⟨hnx, L, W, acc, lv, wv, out, F, rfl, hm, hlen, i1, i2, i3, i4, i5, i6, rfl⟩
    cases L with
    | nil =>
      obtain ⟨p, c, rfl⟩ := rdE_slice i1
      cases W with
      | nil =>
        obtain ⟨p', c', rfl⟩ := rdW_slice i3
        rw [mergeE, List.append_nil] at hm
        rw [hm] at hQ
        simp only [symA, go_opsd, symB, wantedX, X.put, X.look, Arg.ev, keepOf, restrict, evs, evO, initEnv, xres, tup, noTup, cls, quiet, Nat.reduceAdd, Nat.reduceEqDiff, ↓reduceIte, reduceCtorEq, goInt, exists_eq_left', eq_self, Int.reduceLT, Int.reduceLE, Int.reduceEq, Int.reduceNeg, Int.reduceAdd, Int.reduceSub, forall_const, ne_eq, undef, Nat.reducePow, Nat.reduceDiv, Nat.reduceMod]
        refine hB _ _ _ ?_
        simp only [symA, go_opsd, symB, wantedX, X.put, X.look, Arg.ev, keepOf, restrict, evs, evO, initEnv, xres, tup, noTup, cls, quiet, Nat.reduceAdd, Nat.reduceEqDiff, ↓reduceIte, reduceCtorEq, goInt, exists_eq_left', eq_self, Int.reduceLT, Int.reduceLE, Int.reduceEq, Int.reduceNeg, Int.reduceAdd, Int.reduceSub, forall_const, ne_eq, undef, Nat.reducePow, Nat.reduceDiv, Nat.reduceMod]
        exact hQ _ _ _ rfl ⟨_, F, rfl, i5, i6, hnx⟩
      | cons y W =>
        obtain ⟨aw, cw, rfl, ⟨ow, hgw, w0, w1, w2, w3, w4⟩, l5w, l3w⟩ := rdW_head i3
        rw [mergeE] at hm
        simp only [List.length_cons, List.length_nil] at hlen
        have p0 : (0 : Int) < ((W.length + 1 : Nat) : Int) := by omega
        have p1 : ¬ ((W.length + 1 : Nat) : Int) = 0 := by omega
        have p2 : 0 < W.length + 1 := by omega
        obtain ⟨wv2, s1, s2, s3⟩ := slice_tail (k := .i64) i3 i4
        cases hg : y.gone with
        | true =>
          simp only [symA, go_opsd, symB, wantedX, X.put, X.look, Arg.ev, keepOf, restrict, evs, evO, initEnv, xres, tup, noTup, cls, quiet, Nat.reduceAdd, Nat.reduceEqDiff, ↓reduceIte, reduceCtorEq, goInt, exists_eq_left', eq_self, Int.reduceLT, Int.reduceLE, Int.reduceEq, Int.reduceNeg, Int.reduceAdd, Int.reduceSub, forall_const, ne_eq, undef, Nat.reducePow, Nat.reduceDiv, Nat.reduceMod, p0, p1, p2, hgw, w0, w1, hg, s1]
          exact hN _ _ (([] : List Ent).length + W.length) (by first | omega | (simp only [List.length_cons, List.length_nil]; omega)) ⟨hnx, ([] : List Ent), W, acc, (.slice p 0 c), wv2, out, F, rfl, by skip; rw [hm, Wr.made, if_pos hg]; rfl, by first | omega | (simp only [List.length_cons, List.length_nil]; omega), i1, i2, s2, s3, i5, i6, rfl⟩
        | false =>
          obtain ⟨out', m4, F', d1, d2, d3, d4⟩ := ownE_one i5 (y.ent s) (by first | omega | (simp only [List.length_cons, List.length_nil]; omega))
          have hs : ∀ i, i ∈ F → b ≤ i := fun i hi => Nat.le_trans hb (i6 i hi)
          have hb3 : b ≤ m3.next := Nat.le_trans hb hnx.next
          obtain ⟨a', c'', hv', ⟨o', hgw', x0', x1', x2', x3', x4'⟩, _, l3w'⟩ := rdW_head (i3.fr (Fm.push (S := fun _ => False) (o := { cells := row5 (y.ent s).key (I (y.ent s).seq) (y.ent s).num (y.ent s).text (y.ent s).bits, rw := true, spare := none, kin := [] })) hb3 (fun _ h => h.elim))
          cases hv'
          obtain ⟨wv3, t1, t2, t3⟩ := slice_tail (k := .i64) (i3.fr d3 hb3 hs) (i4.fr d3 hb3 hs)
          have b5 := build5 (m := m3) (k := (y.ent s).key) (t := (y.ent s).text) (s := (y.ent s).seq) (n := (y.ent s).num) (c := (y.ent s).bits)
          obtain ⟨mp, hp⟩ : ∃ mp, m3.push { cells := row5 (y.ent s).key (I (y.ent s).seq) (y.ent s).num (y.ent s).text (y.ent s).bits, rw := true, spare := none, kin := [] } = mp := ⟨_, rfl⟩
          rw [hp] at d1 hgw' l3w' b5
          simp only [Wr.ent] at d1 b5
          simp only [symA, go_opsd, symB, wantedX, X.put, X.look, Arg.ev, keepOf, restrict, evs, evO, initEnv, xres, tup, noTup, cls, quiet, Nat.reduceAdd, Nat.reduceEqDiff, ↓reduceIte, reduceCtorEq, goInt, exists_eq_left', eq_self, Int.reduceLT, Int.reduceLE, Int.reduceEq, Int.reduceNeg, Int.reduceAdd, Int.reduceSub, forall_const, ne_eq, undef, Nat.reducePow, Nat.reduceDiv, Nat.reduceMod, p0, p1, p2, hgw, w0, w1, hg, l3w, buildEnt, b5, hgw', x0', l3w', d1, t1]
          exact hN _ _ (([] : List Ent).length + W.length) (by first | omega | (simp only [List.length_cons, List.length_nil]; omega)) ⟨hnx.comp d3 fun i hi h => by have := i6 i h; omega, ([] : List Ent), W, acc ++ [y.ent s], (.slice p 0 c), wv3, out', F', rfl, by skip; rw [hm, Wr.made, if_neg (by rw [hg]; exact Bool.false_ne_true)]; simp, by rw [List.length_append, List.length_singleton]; first | omega | (simp only [List.length_cons, List.length_nil]; omega), (i1).fr d3 hb3 hs, (i2).fr d3 hb3 hs, t2, t3, d2, fun i hi => (d4 i hi).elim (fun h => i6 i h) (fun h => Nat.le_trans hnx.next h), rfl⟩
    | cons x L =>
      obtain ⟨al, cl, rfl, ⟨ol, hgl, x0, x1, x2, x3, x4⟩, l5, l3⟩ := rdE_head i1
      have u0 : (0 : Int) < ((L.length + 1 : Nat) : Int) := by omega
      have u2 : 0 < L.length + 1 := by omega
      cases W with
      | nil =>
        obtain ⟨p', c', rfl⟩ := rdW_slice i3
        rw [mergeE] at hm
        simp only [List.length_cons, List.length_nil] at hlen
        obtain ⟨out', m4, F', d1, d2, d3, d4⟩ := ownE_one i5 x (by omega)
        have hs : ∀ i, i ∈ F → b ≤ i := fun i hi => Nat.le_trans hb (i6 i hi)
        have hb3 : b ≤ m3.next := Nat.le_trans hb hnx.next
        obtain ⟨lv3, t1, t2, t3⟩ := slice_tail (k := .i64) (i1.fr d3 hb3 hs) (i2.fr d3 hb3 hs)
        have b5 := build5 (m := m3) (k := x.key) (t := x.text) (s := x.seq) (n := x.num) (c := x.bits)
        obtain ⟨mp, hp⟩ : ∃ mp, m3.push { cells := row5 x.key (I x.seq) x.num x.text x.bits, rw := true, spare := none, kin := [] } = mp := ⟨_, rfl⟩
        rw [hp] at d1 b5
        simp only [symA, go_opsd, symB, wantedX, X.put, X.look, Arg.ev, keepOf, restrict, evs, evO, initEnv, xres, tup, noTup, cls, quiet, Nat.reduceAdd, Nat.reduceEqDiff, ↓reduceIte, reduceCtorEq, goInt, exists_eq_left', eq_self, Int.reduceLT, Int.reduceLE, Int.reduceEq, Int.reduceNeg, Int.reduceAdd, Int.reduceSub, forall_const, ne_eq, undef, Nat.reducePow, Nat.reduceDiv, Nat.reduceMod, u0, u2, l5, b5, d1, t1]
        exact hN _ _ (L.length + 0) (by first | omega | (simp only [List.length_cons, List.length_nil]; omega)) ⟨hnx.comp d3 fun i hi h => by have := i6 i h; omega, L, [], acc ++ [x], lv3, .slice p' 0 c', out', F', rfl, by rw [hm]; cases L <;> simp [mergeE], by rw [List.length_append, List.length_singleton, List.length_nil]; omega, t2, t3, i3.fr d3 hb3 hs, i4.fr d3 hb3 hs, d2, fun i hi => (d4 i hi).elim (fun h => i6 i h) (fun h => Nat.le_trans hnx.next h), rfl⟩
      | cons y W =>
        obtain ⟨aw, cw, rfl, ⟨ow, hgw, w0, w1, w2, w3, w4⟩, l5w, l3w⟩ := rdW_head i3
        simp only [List.length_cons] at hlen
        have p0 : (0 : Int) < ((W.length + 1 : Nat) : Int) := by omega
        have p1 : ¬ ((W.length + 1 : Nat) : Int) = 0 := by omega
        have p2 : 0 < W.length + 1 := by omega
        rw [mergeE] at hm
        by_cases hlt : ltT x.key y.key
        · rw [if_pos hlt] at hm
          obtain ⟨out', m4, F', d1, d2, d3, d4⟩ := ownE_one i5 x (by omega)
          have hs : ∀ i, i ∈ F → b ≤ i := fun i hi => Nat.le_trans hb (i6 i hi)
          have hb3 : b ≤ m3.next := Nat.le_trans hb hnx.next
          obtain ⟨lv3, t1, t2, t3⟩ := slice_tail (k := .i64) (i1.fr d3 hb3 hs) (i2.fr d3 hb3 hs)
          have b5 := build5 (m := m3) (k := x.key) (t := x.text) (s := x.seq) (n := x.num) (c := x.bits)
          obtain ⟨mp, hp⟩ : ∃ mp, m3.push { cells := row5 x.key (I x.seq) x.num x.text x.bits, rw := true, spare := none, kin := [] } = mp := ⟨_, rfl⟩
          rw [hp] at d1 b5
          simp only [symA, go_opsd, symB, wantedX, X.put, X.look, Arg.ev, keepOf, restrict, evs, evO, initEnv, xres, tup, noTup, cls, quiet, Nat.reduceAdd, Nat.reduceEqDiff, ↓reduceIte, reduceCtorEq, goInt, exists_eq_left', eq_self, Int.reduceLT, Int.reduceLE, Int.reduceEq, Int.reduceNeg, Int.reduceAdd, Int.reduceSub, forall_const, ne_eq, undef, Nat.reducePow, Nat.reduceDiv, Nat.reduceMod, u0, u2, p0, p1, p2, hgl, x0, hgw, w0, bin_slss, hlt, l5, b5, d1, t1]
          exact hN _ _ (L.length + (W.length + 1)) (by first | omega | (simp only [List.length_cons]; omega)) ⟨hnx.comp d3 fun i hi h => by have := i6 i h; omega, L, y :: W, acc ++ [x], lv3, _, out', F', rfl, by rw [hm]; simp, by rw [List.length_append, List.length_singleton, List.length_cons]; omega, t2, t3, i3.fr d3 hb3 hs, i4.fr d3 hb3 hs, d2, fun i hi => (d4 i hi).elim (fun h => i6 i h) (fun h => Nat.le_trans hnx.next h), rfl⟩
        · rw [if_neg hlt] at hm
          have hirr := ltT_irrefl y.key
          by_cases he : x.key = y.key
          · rw [if_pos he] at hm
            obtain ⟨lv2, v1, v2, v3⟩ := slice_tail (k := .i64) i1 i2
            obtain ⟨wv2, s1, s2, s3⟩ := slice_tail (k := .i64) i3 i4
            cases hg : y.gone with
            | true =>
              simp only [symA, go_opsd, symB, wantedX, X.put, X.look, Arg.ev, keepOf, restrict, evs, evO, initEnv, xres, tup, noTup, cls, quiet, Nat.reduceAdd, Nat.reduceEqDiff, ↓reduceIte, reduceCtorEq, goInt, exists_eq_left', eq_self, Int.reduceLT, Int.reduceLE, Int.reduceEq, Int.reduceNeg, Int.reduceAdd, Int.reduceSub, forall_const, ne_eq, undef, Nat.reducePow, Nat.reduceDiv, Nat.reduceMod, u0, u2, p0, p1, p2, hgl, x0, hgw, w0, w1, bin_slss, bin_seql, hlt, hirr, he, v1, hg, s1]
              exact hN _ _ (L.length + W.length) (by first | omega | (simp only [List.length_cons]; omega)) ⟨hnx, L, W, acc, lv2, wv2, out, F, rfl, by skip; rw [hm, Wr.made, if_pos hg]; rfl, by first | omega | (simp only [List.length_cons]; omega), v2, v3, s2, s3, i5, i6, rfl⟩
            | false =>
              obtain ⟨out', m4, F', d1, d2, d3, d4⟩ := ownE_one i5 (y.ent s) (by first | omega | (simp only [List.length_cons]; omega))
              have hs : ∀ i, i ∈ F → b ≤ i := fun i hi => Nat.le_trans hb (i6 i hi)
              have hb3 : b ≤ m3.next := Nat.le_trans hb hnx.next
              obtain ⟨a', c'', hv', ⟨o', hgw', x0', x1', x2', x3', x4'⟩, _, l3w'⟩ := rdW_head (i3.fr (Fm.push (S := fun _ => False) (o := { cells := row5 (y.ent s).key (I (y.ent s).seq) (y.ent s).num (y.ent s).text (y.ent s).bits, rw := true, spare := none, kin := [] })) hb3 (fun _ h => h.elim))
              cases hv'
              obtain ⟨wv3, t1, t2, t3⟩ := slice_tail (k := .i64) (i3.fr d3 hb3 hs) (i4.fr d3 hb3 hs)
              have b5 := build5 (m := m3) (k := (y.ent s).key) (t := (y.ent s).text) (s := (y.ent s).seq) (n := (y.ent s).num) (c := (y.ent s).bits)
              obtain ⟨mp, hp⟩ : ∃ mp, m3.push { cells := row5 (y.ent s).key (I (y.ent s).seq) (y.ent s).num (y.ent s).text (y.ent s).bits, rw := true, spare := none, kin := [] } = mp := ⟨_, rfl⟩
              rw [hp] at d1 hgw' l3w' b5
              simp only [Wr.ent] at d1 b5
              simp only [symA, go_opsd, symB, wantedX, X.put, X.look, Arg.ev, keepOf, restrict, evs, evO, initEnv, xres, tup, noTup, cls, quiet, Nat.reduceAdd, Nat.reduceEqDiff, ↓reduceIte, reduceCtorEq, goInt, exists_eq_left', eq_self, Int.reduceLT, Int.reduceLE, Int.reduceEq, Int.reduceNeg, Int.reduceAdd, Int.reduceSub, forall_const, ne_eq, undef, Nat.reducePow, Nat.reduceDiv, Nat.reduceMod, u0, u2, p0, p1, p2, hgl, x0, hgw, w0, w1, bin_slss, bin_seql, hlt, hirr, he, v1, hg, l3w, buildEnt, b5, hgw', x0', l3w', d1, t1]
              exact hN _ _ (L.length + W.length) (by first | omega | (simp only [List.length_cons]; omega)) ⟨hnx.comp d3 fun i hi h => by have := i6 i h; omega, L, W, acc ++ [y.ent s], lv2, wv3, out', F', rfl, by skip; rw [hm, Wr.made, if_neg (by rw [hg]; exact Bool.false_ne_true)]; simp, by rw [List.length_append, List.length_singleton]; first | omega | (simp only [List.length_cons]; omega), (v2).fr d3 hb3 hs, (v3).fr d3 hb3 hs, t2, t3, d2, fun i hi => (d4 i hi).elim (fun h => i6 i h) (fun h => Nat.le_trans hnx.next h), rfl⟩
          · rw [if_neg he] at hm
            obtain ⟨wv2, s1, s2, s3⟩ := slice_tail (k := .i64) i3 i4
            cases hg : y.gone with
            | true =>
              simp only [symA, go_opsd, symB, wantedX, X.put, X.look, Arg.ev, keepOf, restrict, evs, evO, initEnv, xres, tup, noTup, cls, quiet, Nat.reduceAdd, Nat.reduceEqDiff, ↓reduceIte, reduceCtorEq, goInt, exists_eq_left', eq_self, Int.reduceLT, Int.reduceLE, Int.reduceEq, Int.reduceNeg, Int.reduceAdd, Int.reduceSub, forall_const, ne_eq, undef, Nat.reducePow, Nat.reduceDiv, Nat.reduceMod, u0, u2, p0, p1, p2, hgl, x0, hgw, w0, w1, bin_slss, bin_seql, hlt, he, hg, s1]
              exact hN _ _ ((x :: L).length + W.length) (by first | omega | (simp only [List.length_cons]; omega)) ⟨hnx, (x :: L), W, acc, (.slice (some al) (L.length + 1) cl), wv2, out, F, rfl, by skip; rw [hm, Wr.made, if_pos hg]; rfl, by first | omega | (simp only [List.length_cons]; omega), i1, i2, s2, s3, i5, i6, rfl⟩
            | false =>
              obtain ⟨out', m4, F', d1, d2, d3, d4⟩ := ownE_one i5 (y.ent s) (by first | omega | (simp only [List.length_cons]; omega))
              have hs : ∀ i, i ∈ F → b ≤ i := fun i hi => Nat.le_trans hb (i6 i hi)
              have hb3 : b ≤ m3.next := Nat.le_trans hb hnx.next
              obtain ⟨a', c'', hv', ⟨o', hgw', x0', x1', x2', x3', x4'⟩, _, l3w'⟩ := rdW_head (i3.fr (Fm.push (S := fun _ => False) (o := { cells := row5 (y.ent s).key (I (y.ent s).seq) (y.ent s).num (y.ent s).text (y.ent s).bits, rw := true, spare := none, kin := [] })) hb3 (fun _ h => h.elim))
              cases hv'
              obtain ⟨wv3, t1, t2, t3⟩ := slice_tail (k := .i64) (i3.fr d3 hb3 hs) (i4.fr d3 hb3 hs)
              have b5 := build5 (m := m3) (k := (y.ent s).key) (t := (y.ent s).text) (s := (y.ent s).seq) (n := (y.ent s).num) (c := (y.ent s).bits)
              obtain ⟨mp, hp⟩ : ∃ mp, m3.push { cells := row5 (y.ent s).key (I (y.ent s).seq) (y.ent s).num (y.ent s).text (y.ent s).bits, rw := true, spare := none, kin := [] } = mp := ⟨_, rfl⟩
              rw [hp] at d1 hgw' l3w' b5
              simp only [Wr.ent] at d1 b5
              simp only [symA, go_opsd, symB, wantedX, X.put, X.look, Arg.ev, keepOf, restrict, evs, evO, initEnv, xres, tup, noTup, cls, quiet, Nat.reduceAdd, Nat.reduceEqDiff, ↓reduceIte, reduceCtorEq, goInt, exists_eq_left', eq_self, Int.reduceLT, Int.reduceLE, Int.reduceEq, Int.reduceNeg, Int.reduceAdd, Int.reduceSub, forall_const, ne_eq, undef, Nat.reducePow, Nat.reduceDiv, Nat.reduceMod, u0, u2, p0, p1, p2, hgl, x0, hgw, w0, w1, bin_slss, bin_seql, hlt, he, hg, l3w, buildEnt, b5, hgw', x0', l3w', d1, t1]
              exact hN _ _ ((x :: L).length + W.length) (by first | omega | (simp only [List.length_cons]; omega)) ⟨hnx.comp d3 fun i hi h => by have := i6 i h; omega, (x :: L), W, acc ++ [y.ent s], (.slice (some al) (L.length + 1) cl), wv3, out', F', rfl, by skip; rw [hm, Wr.made, if_neg (by rw [hg]; exact Bool.false_ne_true)]; simp, by rw [List.length_append, List.length_singleton]; first | omega | (simp only [List.length_cons]; omega), (i1).fr d3 hb3 hs, (i2).fr d3 hb3 hs, t2, t3, d2, fun i hi => (d4 i hi).elim (fun h => i6 i h) (fun h => Nat.le_trans hnx.next h), rfl⟩
  obtain ⟨r, m', hc, ⟨v, F, rfl, k1, k2, k3⟩⟩ := key
  exact ⟨v, m', F, hc, k1, k2, k3⟩
end Go.Proofs.Ytlldfkapaeidoaa
