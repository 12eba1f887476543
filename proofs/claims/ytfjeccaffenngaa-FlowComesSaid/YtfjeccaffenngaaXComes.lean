/-
  Own work. PROVED HERE: FlowComes: whatever people, deeds, somebody and labels, the law returns true (one comes from a label to another one just where steps lead there; the way has as few requests as there are steps). No condition.
-/
import Derived.Test.YtfjeccaffenngaaH6
import Derived.Test.YtfjeccaffenngaaRows
import Derived.ProofKit
namespace Go.Proofs.Ytfjeccaffenngaa
open Go Go.ChangeShapes Go.WideShapes Go.ChangeAt Go.RowKit X
set_option maxRecDepth 100000
set_option linter.unusedVariables false
set_option linter.unusedSimpArgs false

theorem flowComes_run {b : Nat} {m : Mem} {n0 n2 : Int} {vl va vb : Value} {ls : List Deed} {us ws : List Int} (hl : RdD b m vl ls) (ha : RdT b m va us) (hb : RdT b m vb ws) (hm : b ≤ m.next) :
    Wc 4 [I n0, vl, I n2, va, vb] m fun r _ => r = .bool true := by
  obtain ⟨n, hn0⟩ : ∃ n, n0 = n := ⟨_, rfl⟩
  obtain ⟨who, hw0⟩ : ∃ who, n2 = who := ⟨_, rfl⟩
  rw [hn0, hw0]
  refine call_go (F := _) rfl rfl fun Q hQ => ?_
  by_cases hn : n < 1 ∨ 8 < n
  · simp only [symA, go_opsd, symB, wantedX, X.put, X.look, Arg.ev, keepOf, restrict, evs, evO, initEnv, xres, tup, noTup, cls, quiet, Nat.reduceAdd, Nat.reduceEqDiff, ↓reduceIte, reduceCtorEq, goInt, exists_eq_left', eq_self, Int.reduceLT, Int.reduceLE, Int.reduceEq, Int.reduceNeg, Int.reduceAdd, Int.reduceSub, forall_const, ne_eq, undef, Nat.reducePow, Nat.reduceDiv, Nat.reduceMod, goR_call (awake_call _), goR_call (table_bad hn)]
    exact hQ _ _ _ rfl rfl
  · obtain ⟨k, rfl⟩ : ∃ k : Nat, n = (k : Int) := ⟨n.toNat, by omega⟩
    simp only [symA, go_opsd, symB, wantedX, X.put, X.look, Arg.ev, keepOf, restrict, evs, evO, initEnv, xres, tup, noTup, cls, quiet, Nat.reduceAdd, Nat.reduceEqDiff, ↓reduceIte, reduceCtorEq, goInt, exists_eq_left', eq_self, Int.reduceLT, Int.reduceLE, Int.reduceEq, Int.reduceNeg, Int.reduceAdd, Int.reduceSub, forall_const, ne_eq, undef, Nat.reducePow, Nat.reduceDiv, Nat.reduceMod, goR_call (awake_call _)]
    refine goR_wp (table_spec (n := k) (by omega) (by omega) hl hm) ?_
    rintro r' m1 ⟨t, r, bq, F, pq, rfl, hB, ⟨ht1, hr1, _, _⟩, f1⟩
    obtain ⟨s, hs⟩ : ∃ s, (ls.take 60).foldl stepB (startB k) = s := ⟨_, rfl⟩
    have rel : RelTR s.1 s.2 := by
      rw [← hs]
      exact fold_wf (n := k) _ _ (newT_wf (by omega) (by omega)) rel_start
    have hlen : s.1.l.length = k := by rw [← hs, fold_people]; simp [startB, newT]
    have hdl : s.2.l.length ≤ 100000 := by
      have := fold_deeds (ls.take 60) (startB k)
      rw [hs] at this
      have h2 : (ls.take 60).length ≤ 60 := by simp; omega
      have h3 : (startB k).2.l.length = 0 := rfl
      omega
    rw [hs] at hB
    obtain ⟨T, R⟩ := s
    have t1 := hB.tab
    have w1 := hB.wf
    have r1 := hB.ref
    simp only at t1 w1 r1 rel hlen hdl
    have hn1 := f1.next
    have A1 : ∀ {m'}, Nx m m' → RdT b m' va us := fun f => ⟨ha.rd.fr f hm (fun _ h => h.elim), ha.len, ha.nn⟩
    have B1 : ∀ {m'}, Nx m m' → RdT b m' vb ws := fun f => ⟨hb.rd.fr f hm (fun _ h => h.elim), hb.len, hb.nn⟩
    have k1 := few_spec (A1 f1)
    have k2 := few_spec (B1 f1)
    cases h1 : fewL us with
    | false =>
      rw [h1] at k1
      simp only [symA, go_opsd, symB, wantedX, X.put, X.look, Arg.ev, keepOf, restrict, evs, evO, initEnv, xres, tup, noTup, cls, quiet, Nat.reduceAdd, Nat.reduceEqDiff, ↓reduceIte, reduceCtorEq, goInt, exists_eq_left', eq_self, Int.reduceLT, Int.reduceLE, Int.reduceEq, Int.reduceNeg, Int.reduceAdd, Int.reduceSub, forall_const, ne_eq, undef, Nat.reducePow, Nat.reduceDiv, Nat.reduceMod, goR_call k1]
      exact hQ _ _ _ rfl rfl
    | true =>
      rw [h1] at k1
      cases h2 : fewL ws with
      | false =>
        rw [h2] at k2
        simp only [symA, go_opsd, symB, wantedX, X.put, X.look, Arg.ev, keepOf, restrict, evs, evO, initEnv, xres, tup, noTup, cls, quiet, Nat.reduceAdd, Nat.reduceEqDiff, ↓reduceIte, reduceCtorEq, goInt, exists_eq_left', eq_self, Int.reduceLT, Int.reduceLE, Int.reduceEq, Int.reduceNeg, Int.reduceAdd, Int.reduceSub, forall_const, ne_eq, undef, Nat.reducePow, Nat.reduceDiv, Nat.reduceMod, goR_call k1, goR_call k2]
        exact hQ _ _ _ rfl rfl
      | true =>
        rw [h2] at k2
        unfold fewL at h1 h2
        rw [Bool.and_eq_true, List.all_eq_true] at h1 h2
        obtain ⟨f, hf, pf, rfl⟩ := few_lab h1.2 (fun x hx => by simpa using h1.1 x hx)
        obtain ⟨y, hy, py, rfl⟩ := few_lab h2.2 (fun x hx => by simpa using h2.1 x hx)
        have hla : (labN f).length ≤ 4611686018427387903 := by rw [len_lab]; omega
        have hlb : (labN y).length ≤ 4611686018427387903 := by rw [len_lab]; omega
        have one : oneB T who = true ↔ (0 ≤ who ∧ who < (k : Int)) := by unfold oneB; rw [hlen]; simp
        cases ho : oneB T who with
        | false =>
          have hko := way_bad (who := who) t1 (A1 f1).rd (B1 f1).rd (by rw [ho]; rfl)
          obtain ⟨m2, x1, f2⟩ := comes_spec (who := who) t1 w1 (A1 f1).rd (B1 f1).rd (by omega) hla hlb
          have hn2 := f2.next
          have F2 := f1.trans f2
          obtain ⟨m3, x2, f3⟩ := may_spec (who := who) (t1.nx f2) w1 (A1 F2).rd (B1 F2).rd (by omega) hla hlb
          have e1 : comesT T who (labN f) (labN y) = false := by unfold comesT; rw [ho]; rfl
          have e2 : mayT T who (labN f) (labN y) = false := by unfold mayT; rw [e1, Bool.and_false]
          rw [e1] at x1
          rw [e2] at x2
          by_cases hneg : who < 0
          · simp only [symA, go_opsd, symB, wantedX, X.put, X.look, Arg.ev, keepOf, restrict, evs, evO, initEnv, xres, tup, noTup, cls, quiet, Nat.reduceAdd, Nat.reduceEqDiff, ↓reduceIte, reduceCtorEq, goInt, exists_eq_left', eq_self, Int.reduceLT, Int.reduceLE, Int.reduceEq, Int.reduceNeg, Int.reduceAdd, Int.reduceSub, forall_const, ne_eq, undef, Nat.reducePow, Nat.reduceDiv, Nat.reduceMod, goR_call k1, goR_call k2, goR_call hko, hneg, goR_call x1, goR_call x2]
            exact hQ _ _ _ rfl rfl
          · have hge : (k : Int) ≤ who := by
              by_cases hlt : who < (k : Int)
              · rw [one.2 ⟨by omega, hlt⟩] at ho; cases ho
              · omega
            simp only [symA, go_opsd, symB, wantedX, X.put, X.look, Arg.ev, keepOf, restrict, evs, evO, initEnv, xres, tup, noTup, cls, quiet, Nat.reduceAdd, Nat.reduceEqDiff, ↓reduceIte, reduceCtorEq, goInt, exists_eq_left', eq_self, Int.reduceLT, Int.reduceLE, Int.reduceEq, Int.reduceNeg, Int.reduceAdd, Int.reduceSub, forall_const, ne_eq, undef, Nat.reducePow, Nat.reduceDiv, Nat.reduceMod, goR_call k1, goR_call k2, goR_call hko, hneg, hge, goR_call x1, goR_call x2]
            exact hQ _ _ _ rfl rfl
        | true =>
          obtain ⟨hw1, hw2⟩ := one.1 ho
          have hneg : ¬ who < 0 := by omega
          have hge : ¬ (k : Int) ≤ who := by omega
          have hcl := comes_lab ho hf hy pf
          have hP := rel_plus rel ho
          have hM := rel_minus rel ho
          have hcle : (((labN f).all fun g => hasR R (who, g, false)) && oneR R who) = clearT T who (labN f) := by
            unfold clearT
            rw [ho, Bool.true_and, rel.one, ho, Bool.and_true]
            congr 1
            funext g
            exact (rel.has who g false ho).symm
          -- the way's answer, and what follows
          have rest : ∀ (m2 : Mem) (pw : Option Addr) (nw cw : Nat) (ew : Int), Nx m1 m2 → ((comesT T who (labN f) (labN y) = true ∧ nw = dist f y ∧ ew = 0) ∨ (comesT T who (labN f) (labN y) = false ∧ nw = 0 ∧ ew = 7)) →
              Wc 15 [Pt bq, I who, va] m2 fun r m3 => ∃ ov sv, r = .tuple #[ov, sv] ∧ Wc 16 [ov, vb] m3 fun r2 m4 => ∃ kk : Int, r2 = I kk ∧
                ((comesT T who (labN f) (labN y) = true ∧ nw = dist f y ∧ ew = 0 ∧ ∃ (n lo : Nat), kk = (n : Int) ∧ n < lo ∧ ∀ m7, Nx m4 m7 → ∃ (a : Addr) (cc : Nat) (o : XObj), sv = .slice (some a) lo cc ∧ m7.get a.block = some o ∧ o.cells[a.off + n]? = some (I (dist f y : Nat)))
                   ∨ (comesT T who (labN f) (labN y) = false ∧ kk = -1 ∧ nw = 0 ∧ ew = 7)) ∧
                ∃ m5 m6, Ca 10 [Pt t, I who, va, vb] m4 (.bool (comesT T who (labN f) (labN y))) m5 ∧ Ca 14 [Pt t, I who, va, vb] m5 (.bool (mayT T who (labN f) (labN y))) m6 ∧ Wc 17 [Pt bq, I who, va, vb] m6 fun r3 m7 => r3 = .bool (mayT T who (labN f) (labN y)) ∧ Nx m4 m7 := fun m2 pw nw cw ew f2 hway => by
            have hn2 := f2.next
            have F2 := f1.trans f2
            refine wpCall_mono ?_ (spread_spec (r1.nx f2) hdl (A1 F2).rd (by omega) hf pf)
            rintro _ m3 ⟨f3, Fs, G, ov, sv, vals, out, rfl, hS, hBf⟩
            have hn3 := f3.next
            refine ⟨ov, sv, rfl, ?_⟩
            have F3 := F2.trans f3
            refine wpCall_mono ?_ (found_spec hS hBf pf hy (B1 F3).rd)
            rintro _ _ ⟨rfl, kk, rfl, hkk⟩
            refine ⟨kk, rfl, ?_⟩
            have t3 := (t1.nx f2).nx f3
            obtain ⟨m5, x1, f5⟩ := comes_spec (who := who) t3 w1 (A1 F3).rd (B1 F3).rd (by omega) hla hlb
            have hn5 := f5.next
            have F5 := F3.trans f5
            obtain ⟨m6, x2, f6⟩ := may_spec (who := who) (t3.nx f5) w1 (A1 F5).rd (B1 F5).rd (by omega) hla hlb
            have hn6 := f6.next
            have F6 := F5.trans f6
            rw [hP, hM] at hkk
            rw [← hcl] at hkk
            refine ⟨?_, m5, m6, x1, x2, wpCall_mono ?_ (rmay_spec (w := who) ((((r1.nx f2).nx f3).nx f5).nx f6) hdl (A1 F6).rd (B1 F6).rd (by omega) hf pf hy)⟩
            · rcases hway with ⟨c1, c2, c3⟩ | ⟨c1, c2, c3⟩
              · rcases hkk with ⟨rfl, hk⟩ | ⟨n, rfl, hk, _⟩
                · exact absurd c1 hk
                · exact .inl ⟨c1, c2, c3, n, out.length, rfl, (List.getElem?_eq_some_iff.1 hk).1, fun m7 f7 => (hS.nx f7).step hk⟩
              · rcases hkk with ⟨rfl, hk⟩ | ⟨n, rfl, _, hk⟩
                · exact .inr ⟨c1, rfl, c2, c3⟩
                · rw [c1] at hk; cases hk
            · rintro _ m7 ⟨f7, tt, rfl, htt⟩
              rw [hcle, hP, hM, ← hcl] at htt
              have hmt : tt = mayT T who (labN f) (labN y) := by
                rw [Bool.eq_iff_iff, htt]
                unfold mayT
                rw [Bool.and_eq_true]
              exact ⟨by rw [hmt], (f5.trans f6).trans f7⟩
          have waySpec : Wc 13 [Pt t, I who, va, vb] m1 fun rr m2 => Nx m1 m2 ∧ ∃ pw nw cw ew, rr = .tuple #[.slice pw nw cw, I ew] ∧ ((comesT T who (labN f) (labN y) = true ∧ nw = dist f y ∧ ew = 0) ∨ (comesT T who (labN f) (labN y) = false ∧ nw = 0 ∧ ew = 7)) := by
            cases hc : comesT T who (labN f) (labN y) with
            | false =>
              obtain ⟨m2, q1, q2⟩ := way_none t1 w1 (A1 f1).rd (B1 f1).rd (by omega) ho h1.2 h2.2 hc
              exact q1.wp ⟨q2, none, 0, 0, 7, rfl, .inr ⟨rfl, rfl, rfl⟩⟩
            | true =>
              refine wpCall_mono ?_ (way_spec t1 w1 (A1 f1).rd (B1 f1).rd (by omega) ho h1.2 h2.2 hc)
              rintro _ m2 ⟨q1, pw, cw, rfl⟩
              exact ⟨q1, pw, _, cw, 0, by rw [way_len h1.2 h2.2], .inl ⟨rfl, rfl, rfl⟩⟩
          simp only [symA, go_opsd, symB, wantedX, X.put, X.look, Arg.ev, keepOf, restrict, evs, evO, initEnv, xres, tup, noTup, cls, quiet, Nat.reduceAdd, Nat.reduceEqDiff, ↓reduceIte, reduceCtorEq, goInt, exists_eq_left', eq_self, Int.reduceLT, Int.reduceLE, Int.reduceEq, Int.reduceNeg, Int.reduceAdd, Int.reduceSub, forall_const, ne_eq, undef, Nat.reducePow, Nat.reduceDiv, Nat.reduceMod, goR_call k1, goR_call k2]
          refine goR_wp waySpec ?_
          rintro _ m2 ⟨f2, pw, nw, cw, ew, rfl, hway⟩
          simp only [symA, go_opsd, symB, wantedX, X.put, X.look, Arg.ev, keepOf, restrict, evs, evO, initEnv, xres, tup, noTup, cls, quiet, Nat.reduceAdd, Nat.reduceEqDiff, ↓reduceIte, reduceCtorEq, goInt, exists_eq_left', eq_self, Int.reduceLT, Int.reduceLE, Int.reduceEq, Int.reduceNeg, Int.reduceAdd, Int.reduceSub, forall_const, ne_eq, undef, Nat.reducePow, Nat.reduceDiv, Nat.reduceMod, hneg, hge]
          refine goR_wp (rest m2 pw nw cw ew f2 hway) ?_
          rintro _ m3 ⟨ov, sv, rfl, h16⟩
          simp only [symA, go_opsd, symB, wantedX, X.put, X.look, Arg.ev, keepOf, restrict, evs, evO, initEnv, xres, tup, noTup, cls, quiet, Nat.reduceAdd, Nat.reduceEqDiff, ↓reduceIte, reduceCtorEq, goInt, exists_eq_left', eq_self, Int.reduceLT, Int.reduceLE, Int.reduceEq, Int.reduceNeg, Int.reduceAdd, Int.reduceSub, forall_const, ne_eq, undef, Nat.reducePow, Nat.reduceDiv, Nat.reduceMod]
          refine goR_wp h16 ?_
          rintro _ m4 ⟨kk, rfl, hkk, m5, m6, x1, x2, h17⟩
          rcases hkk with ⟨hc, rfl, rfl, n, lo, rfl, hlo, hst⟩ | ⟨hc, rfl, rfl, rfl⟩
          · rw [hc] at x1
            have h0 : (0 : Int) ≤ (n : Int) := by omega
            have h0' : ¬ (n : Int) < 0 := by omega
            cases hmm : mayT T who (labN f) (labN y) with
            | false =>
              rw [hmm] at x2 h17
              simp only [symA, go_opsd, symB, wantedX, X.put, X.look, Arg.ev, keepOf, restrict, evs, evO, initEnv, xres, tup, noTup, cls, quiet, Nat.reduceAdd, Nat.reduceEqDiff, ↓reduceIte, reduceCtorEq, goInt, exists_eq_left', eq_self, Int.reduceLT, Int.reduceLE, Int.reduceEq, Int.reduceNeg, Int.reduceAdd, Int.reduceSub, forall_const, ne_eq, undef, Nat.reducePow, Nat.reduceDiv, Nat.reduceMod, goR_call x1, h0, bin_bneq, goR_call x2]
              refine goR_wp h17 ?_
              rintro _ m7 ⟨rfl, f7⟩
              obtain ⟨a, cc, o, rfl, q2, q3⟩ := hst m7 f7
              simp only [symA, go_opsd, symB, wantedX, X.put, X.look, Arg.ev, keepOf, restrict, evs, evO, initEnv, xres, tup, noTup, cls, quiet, Nat.reduceAdd, Nat.reduceEqDiff, ↓reduceIte, reduceCtorEq, goInt, exists_eq_left', eq_self, Int.reduceLT, Int.reduceLE, Int.reduceEq, Int.reduceNeg, Int.reduceAdd, Int.reduceSub, forall_const, ne_eq, undef, Nat.reducePow, Nat.reduceDiv, Nat.reduceMod, bin_bneq, h0', hlo, q2, q3]
              exact hQ _ _ _ rfl rfl
            | true =>
              rw [hmm] at x2 h17
              simp only [symA, go_opsd, symB, wantedX, X.put, X.look, Arg.ev, keepOf, restrict, evs, evO, initEnv, xres, tup, noTup, cls, quiet, Nat.reduceAdd, Nat.reduceEqDiff, ↓reduceIte, reduceCtorEq, goInt, exists_eq_left', eq_self, Int.reduceLT, Int.reduceLE, Int.reduceEq, Int.reduceNeg, Int.reduceAdd, Int.reduceSub, forall_const, ne_eq, undef, Nat.reducePow, Nat.reduceDiv, Nat.reduceMod, goR_call x1, h0, bin_bneq, goR_call x2]
              refine goR_wp h17 ?_
              rintro _ m7 ⟨rfl, f7⟩
              obtain ⟨a, cc, o, rfl, q2, q3⟩ := hst m7 f7
              simp only [symA, go_opsd, symB, wantedX, X.put, X.look, Arg.ev, keepOf, restrict, evs, evO, initEnv, xres, tup, noTup, cls, quiet, Nat.reduceAdd, Nat.reduceEqDiff, ↓reduceIte, reduceCtorEq, goInt, exists_eq_left', eq_self, Int.reduceLT, Int.reduceLE, Int.reduceEq, Int.reduceNeg, Int.reduceAdd, Int.reduceSub, forall_const, ne_eq, undef, Nat.reducePow, Nat.reduceDiv, Nat.reduceMod, bin_bneq, h0', hlo, q2, q3]
              exact hQ _ _ _ rfl rfl
          · rw [hc] at x1
            have hmm : mayT T who (labN f) (labN y) = false := by unfold mayT; rw [hc, Bool.and_false]
            rw [hmm] at x2 h17
            simp only [symA, go_opsd, symB, wantedX, X.put, X.look, Arg.ev, keepOf, restrict, evs, evO, initEnv, xres, tup, noTup, cls, quiet, Nat.reduceAdd, Nat.reduceEqDiff, ↓reduceIte, reduceCtorEq, goInt, exists_eq_left', eq_self, Int.reduceLT, Int.reduceLE, Int.reduceEq, Int.reduceNeg, Int.reduceAdd, Int.reduceSub, forall_const, ne_eq, undef, Nat.reducePow, Nat.reduceDiv, Nat.reduceMod, goR_call x1, bin_bneq, goR_call x2]
            refine goR_wp h17 ?_
            rintro _ m7 ⟨rfl, f7⟩
            simp only [symA, go_opsd, symB, wantedX, X.put, X.look, Arg.ev, keepOf, restrict, evs, evO, initEnv, xres, tup, noTup, cls, quiet, Nat.reduceAdd, Nat.reduceEqDiff, ↓reduceIte, reduceCtorEq, goInt, exists_eq_left', eq_self, Int.reduceLT, Int.reduceLE, Int.reduceEq, Int.reduceNeg, Int.reduceAdd, Int.reduceSub, forall_const, ne_eq, undef, Nat.reducePow, Nat.reduceDiv, Nat.reduceMod, bin_bneq]
            exact hQ _ _ _ rfl rfl

theorem flowComes_args {H : Type} (ds : List (DataW H)) (h : wfEach Try.prog ds Try.f4.params.toList) : ∃ (n0 : Int) (n2 : Int) (d1 d3 d4 : DataW H), ds = [.lit (.int .i64 n0), d1, .lit (.int .i64 n2), d3, d4] ∧ wfD Try.prog d1 22 ∧ wfD Try.prog d3 23 ∧ wfD Try.prog d4 23 := by
  rw [Try.params4] at h
  obtain ⟨d0, r, rfl, h0, h⟩ := wf_more h
  obtain ⟨d1, r, rfl, h1, h⟩ := wf_more h
  obtain ⟨d2, r, rfl, h2, h⟩ := wf_more h
  obtain ⟨d3, r, rfl, h3, h⟩ := wf_more h
  obtain ⟨d4, rfl, h4⟩ := wf_one h
  obtain ⟨n0, rfl, _⟩ := wf_int Try.underlying3 h0
  obtain ⟨n2, rfl, _⟩ := wf_int Try.underlying3 h2
  exact ⟨n0, n2, d1, d3, d4, rfl, h1, h3, h4⟩

theorem flowComes_lifted (os : Os) (started : os.Started) (H : Type) (enc : TypeId × Value → H) :
    ReturnsInHanded {} Try.checked os 4 .any (Rows.flowComesSpec.pre6 enc Try.prog Try.f4 Rows.flowComesRow.domain false) (Rows.flowComesSpec.post enc Try.prog Try.f4 false true false false) := by
  refine returnsInHanded_of_change (C := Try.checked) own started (by kernel_rfl) Try.func4
    (ChangeSpec.witness6 (enc := enc) (C := Try.checked) false ⟨#[], #[.int .i64 0, .slice none 0 0, .int .i64 0, .slice none 0 0, .slice none 0 0], []⟩ 8 (by kernel_rfl) (by kernel_rfl) (by kernel_rfl) (by kernel_rfl)) ?_
  intro W base args ds gs before hval0 hW hcnd _
  refine law_contract mixed tabK_is (f := 4) rfl (k := 10) (by rw [← List.all_eq_true]; kernel_rfl) (fun t ht => ?_) laid rfl (by kernel_rfl) rfl ?_ ?_ H enc W base args ds gs before hval0 hW
  · have : (Try.f4.params.toList.all fun t => Try.prog.readableRec t && decide (t < Try.prog.types.size)) = true := by kernel_rfl
    have := List.all_eq_true.1 this t ht
    simp only [Bool.and_eq_true, decide_eq_true_eq] at this
    exact this
  · intro H ds hd
    obtain ⟨_, _, _, _, _, rfl, _⟩ := flowComes_args ds hd
    rfl
  · intro H ds hd
    obtain ⟨n0, n2, d1, d3, d4, rfl, h1, h3, h4⟩ := flowComes_args ds hd
    obtain ⟨x1, v1, a1, b1, c1⟩ := abs_deeds (m := Mem.empty) h1
    obtain ⟨M1, hM1⟩ : ∃ M, (absD Try.prog d1 22 Mem.empty).2 = M := ⟨_, rfl⟩
    rw [hM1] at b1 c1
    obtain ⟨x3, v3, a3, b3, c3⟩ := abs_tagsT (m := M1) h3
    obtain ⟨M3, hM3⟩ : ∃ M, (absD Try.prog d3 23 M1).2 = M := ⟨_, rfl⟩
    rw [hM3] at b3 c3
    obtain ⟨x4, v4, a4, b4, c4⟩ := abs_tagsT (m := M3) h4
    obtain ⟨M4, hM4⟩ : ∃ M, (absD Try.prog d4 23 M3).2 = M := ⟨_, rfl⟩
    rw [hM4] at b4 c4
    have ha : absArgs Try.prog [.lit (.int .i64 n0), d1, .lit (.int .i64 n2), d3, d4] Try.f4.params.toList Mem.empty = ([.int .i64 n0, argVal Try.prog 22 (absD Try.prog d1 22 Mem.empty).1, .int .i64 n2, argVal Try.prog 23 (absD Try.prog d3 23 (absD Try.prog d1 22 Mem.empty).2).1, argVal Try.prog 23 (absD Try.prog d4 23 (absD Try.prog d3 23 (absD Try.prog d1 22 Mem.empty).2).2).1], (absD Try.prog d4 23 (absD Try.prog d3 23 (absD Try.prog d1 22 Mem.empty).2).2).2) := by kernel_rfl
    rw [ha, hM1, hM3, hM4, a1, a3, a4]
    have q22 : ∀ v, argVal Try.prog 22 [v] = v := fun v => by kernel_rfl
    have q23 : ∀ v, argVal Try.prog 23 [v] = v := fun v => by kernel_rfl
    rw [q22, q23, q23]
    obtain ⟨v, m', ⟨k, hk⟩, rfl⟩ := flowComes_run (n0 := n0) (n2 := n2) (b := M4.next) (deeds_last c1 (b3.trans b4)) (tagsT_last c3 b4) c4 (Nat.le_refl _)
    exact ⟨k, m', hk⟩

theorem flowComes_holds : Rows.FlowComesSaid :=
  OpenClaim.holds_of_wide 4 Try.f4 rfl rfl rfl rfl rfl rfl rfl ⟨rfl, rfl, rfl, rfl, rfl⟩ rfl rfl rfl rfl rfl (by kernel_rfl) Try.func4 (by kernel_rfl)
    (of_decide_eq_true (by kernel_rfl)) (by unfold Func.isWrapper; first | (rw [if_pos (by decide +kernel)]; kernel_rfl) | (rw [if_neg (by decide +kernel)]; exact ⟨rfl, rfl⟩))
    (fun os started H enc _ => flowComes_lifted os started H enc)


end Go.Proofs.Ytfjeccaffenngaa
