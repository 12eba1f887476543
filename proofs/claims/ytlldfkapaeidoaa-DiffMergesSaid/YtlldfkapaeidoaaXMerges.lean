/-
  Own work. PROVED HERE: DiffMerges: whatever base and what two made of it, the law returns true (what both did is done). No condition.
-/
import Derived.Test.YtlldfkapaeidoaaEP
import Derived.Test.YtlldfkapaeidoaaEC
import Derived.Test.YtlldfkapaeidoaaEA
import Derived.Test.YtlldfkapaeidoaaRows
import Derived.ProofKit
namespace Go.Proofs.Ytlldfkapaeidoaa
open Go Go.ChangeShapes Go.WideShapes Go.ChangeAt Go.RowKit X
set_option maxRecDepth 100000
set_option maxHeartbeats 2000000
attribute [local irreducible] X.Go' X.GoO X.GoR X.GoG X.GoC X.GoF X.GoFV X.GoFG X.Ex X.GoD X.GoDV X.GoDG
set_option linter.unusedVariables false
set_option linter.unusedSimpArgs false

theorem fm_idx {α β : Type} {f : α → Option β} {l : List α} {i : Nat} {x : α} {y : β} (hx : l[i]? = some x) (hy : f x = some y) : (l.filterMap f)[((l.take i).filterMap f).length]? = some y := by
  have hd : l.drop i = x :: l.drop (i + 1) := by
    obtain ⟨h1, rfl⟩ := List.getElem?_eq_some_iff.1 hx
    exact List.drop_eq_getElem_cons h1
  have : l.filterMap f = (l.take i).filterMap f ++ y :: (l.drop (i + 1)).filterMap f := by
    conv => lhs; rw [← List.take_append_drop i l, hd]
    rw [List.filterMap_append, List.filterMap_cons, hy]
  rw [this, List.getElem?_append_right (Nat.le_refl _)]
  simp
theorem foldE_length {s : Int} : ∀ (w : List Wr) (l : List Ent), (w.foldl (apply1 s) l).length ≤ l.length + w.length
  | [], l => by simp
  | y :: w, l => by
    have h1 := foldE_length (s := s) w (apply1 s l y)
    have h2 := apply_length (s := s) (y := y) (l := l)
    simp only [List.foldl_cons, List.length_cons]; omega
theorem e27t {m : Mem} : binE Try.prog .eql 27 (I 1) (I 1) m = some (.val (.bool true) m) := by kernel_rfl
theorem bin_bneq {m : Mem} {a b : Bool} : binE Try.prog .neq 4 (.bool a) (.bool b) m = some (.val (.bool (decide (a ≠ b))) m) := by cases a <;> cases b <;> kernel_rfl
theorem n27 {m : Mem} : binE Try.prog .neq 27 (I 0) (I 0) m = some (.val (.bool false) m) := by kernel_rfl
theorem rdC_slice' {b : Nat} {m : Mem} {v : Value} {cs : List Cl} (h : RdC b m v cs) : ∃ p c, v = .slice p cs.length c := by
  obtain ⟨p, c, rfl⟩ := h.slice
  exact ⟨p, c, by simp⟩
theorem farE_le {vs : List Ent} (h : farE vs = false) : vs.length ≤ 60 := by simp [farE] at h; omega

/-- The law, where all may be. -/
theorem diffMerges_main {b : Nat} {m : Mem} {v w z : Value} {vs ws us : List Ent} (h : RdEW b m v vs) (h' : RdEW b m w ws) (h'' : RdEW b m z us) (hb : b ≤ m.next)
    (a1 : Ca 8 [v] m (.bool false) m) (a2 : Ca 8 [w] m (.bool false) m) (a3 : Ca 8 [z] m (.bool false) m) (hl : vs.length ≤ 60) (hl' : ws.length ≤ 60) (hl'' : us.length ≤ 60)
    (e1 : okE none vs = true) (e2 : okE none ws = true) (e3 : okE none us = true) : Wc 5 [v, w, z] m fun r _ => r = .bool true := by
  refine call_go (F := _) rfl rfl fun Q hQ => ?_
  have hs := (okE_srt e1).1
  have hs' := (okE_srt e2).1
  have hs'' := (okE_srt e3).1
  have hE : ∀ {m'}, Nx m m' → RdE b m' v vs := fun f => h.rd.fr f hb (fun _ h => h.elim)
  have hE' : ∀ {m'}, Nx m m' → RdE b m' w ws := fun f => h'.rd.fr f hb (fun _ h => h.elim)
  have hE'' : ∀ {m'}, Nx m m' → RdE b m' z us := fun f => h''.rd.fr f hb (fun _ h => h.elim)
  have hC' : ∀ {m'}, Nx m m' → CutB b m' 5 w := fun f => h'.cut.fr f hb (fun _ h => h.elim)
  have hC'' : ∀ {m'}, Nx m m' → CutB b m' 5 z := fun f => h''.cut.fr f hb (fun _ h => h.elim)
  obtain ⟨u, s, m1, c1, c2, c3, c4, f1⟩ := merge_spec h.rd h'.rd h''.rd h.wf h'.wf h''.wf hl hl' hl'' hb
  have o1 : okM vs ws us = true := by simp [okM, e1, e2, e3]
  rw [o1] at c1 c2 c3
  simp only [cond_true] at c1 c2 c3
  obtain ⟨m2, g1, f12⟩ := rright (hE f1) h.wf (by omega) (Nat.le_trans hb f1.next)
  have f2 : Nx m m2 := f1.comp f12 fun _ _ h => h
  obtain ⟨m3, g2, f23⟩ := rright (hE' f2) h'.wf (by omega) (Nat.le_trans hb f2.next)
  have f3 : Nx m m3 := f2.comp f23 fun _ _ h => h
  obtain ⟨m4, g3, f34⟩ := rright (hE'' f3) h''.wf (by omega) (Nat.le_trans hb f3.next)
  have f4 : Nx m m4 := f3.comp f34 fun _ _ h => h
  have f14 : Nx m1 m4 := (f12.comp f23 fun _ _ h => h).comp f34 fun _ _ h => h
  rw [e1] at g1
  rw [e2] at g2
  rw [e3] at g3
  have okA1 : okA us (mergeW vs ws us) 1 = true := by simp [okA, e3, mergeW_right e1 e2 e3]
  have hwl := mergeW_len hl hl' hl''
  obtain ⟨r, m5, F5, x1, x2, x3, x4⟩ := apply_spec (s := 1) (rd_up' (hE'' f4) (Nat.le_trans hb f1.next)) (cut_up (hC'' f4) (Nat.le_trans hb f1.next)) (c2.fr f14 (Nat.le_refl _) (fun _ h => h.elim)) (c4.fr f14 (Nat.le_refl _) (fun _ h => h.elim)) h''.wf (mergeW_wf hs hs' hs'' h'.wf) (by omega) (by omega) f14.next
  rw [okA1] at x1 x2
  simp only [cond_true, outE_eq hs hs' hs''] at x1 x2
  have f5 : Nx m m5 := f4.comp x4 fun _ _ h => h
  have f15 : Nx m1 m5 := f14.comp x4 fun _ _ h => h
  have hR := ownE_rd x2
  have hol : (outE 1 vs ws us).length ≤ 1000 := by
    have := foldE_length (s := 1) (mergeW vs ws us) us
    unfold outE
    omega
  -- the keys
  obtain ⟨m6, hm6⟩ : ∃ m6, m5.push { cells := [], rw := true, spare := none, kin := [] } = m6 := ⟨_, rfl⟩
  have f56 : Nx m5 m6 := hm6 ▸ .push
  have f6 : Nx m m6 := f5.comp f56 fun _ _ h => h
  obtain ⟨kv, m7, q1, q2, f67⟩ := rkeys_spec (ks := []) (hv := .slice (some ⟨m5.next, 0, none⟩) 0 0) (b := m6.next) RdS.nil (rd_up' (hE f6) (Nat.le_trans hb f6.next)) (by simp) (by omega) (Nat.le_refl _)
  have f7 : Nx m m7 := f6.comp f67 fun _ _ h => h
  have hk1 := mrg_length [] vs
  simp only [List.length_nil] at hk1
  obtain ⟨kw, m8, q3, q4, f78⟩ := rkeys_spec (b := m7.next) q2 (rd_up' (hE' f7) (Nat.le_trans hb f7.next)) (by omega) (by omega) (Nat.le_refl _)
  have f8 : Nx m m8 := f7.comp f78 fun _ _ h => h
  have hk2 := mrg_length (mrg [] vs) ws
  obtain ⟨ku, m9, q5, q6, f89⟩ := rkeys_spec (b := m8.next) q4 (rd_up' (hE'' f8) (Nat.le_trans hb f8.next)) (by omega) (by omega) (Nat.le_refl _)
  have f9 : Nx m m9 := f8.comp f89 fun _ _ h => h
  have f59 : Nx m5 m9 := ((f56.comp f67 fun _ _ h => h).comp f78 fun _ _ h => h).comp f89 fun _ _ h => h
  have f19 : Nx m1 m9 := f15.comp f59 fun _ _ h => h
  have hkl := keyL_len hl hl' hl''
  obtain ⟨ks, hks⟩ : ∃ ks, keyL vs ws us = ks := ⟨_, rfl⟩
  have q6' : RdK m9.next m9 ku ks := hks ▸ q6
  rw [hks] at hkl
  have hdC : mergeC vs ws us = ks.filterMap fun k => mC k (turnE k vs ws) (turnE k vs us) := by unfold mergeC; rw [hks]
  obtain ⟨pk, ck, rfl⟩ := rdK_slice q6'
  have hcl : (mergeC vs ws us).length ≤ 180 := by
    rw [hdC]
    have := List.length_filterMap_le (fun k => mC k (turnE k vs ws) (turnE k vs us)) ks
    omega
  simp only [symA, go_opsd, symB, wantedX, X.put, X.look, Arg.ev, keepOf, restrict, evs, evO, initEnv, xres, tup, noTup, cls, quiet, Nat.reduceAdd, Nat.reduceEqDiff, ↓reduceIte, reduceCtorEq, goInt, exists_eq_left', eq_self, Int.reduceLT, Int.reduceLE, Int.reduceEq, Int.reduceNeg, Int.reduceAdd, Int.reduceSub, forall_const, ne_eq, undef, Nat.reducePow, Nat.reduceDiv, Nat.reduceMod, goR_call (awake_call _), goR_call a1, goR_call a2, goR_call a3, goR_call c1, goR_call g1, goR_call g2, goR_call g3, goR_call x1, n27, buildSlice_zero, hm6, goR_call q1, goR_call q3, goR_call q5]
  refine loop_go (fun q e m' => ∃ i : Nat, i ≤ ks.length ∧ q = ks.length - i ∧ Nx m9 m' ∧
    e = [(0, v), (1, w), (2, z), (8, s), (10, r), (12, .slice pk ks.length ck), (13, I (((ks.take i).filterMap fun k => mC k (turnE k vs ws) (turnE k vs us)).length : Nat)), (14, I i)]) ks.length ⟨0, by omega, by omega, .refl, rfl⟩ ?_
  rintro q e n0 N1 B1 hN1 hB1 ⟨i, hi, rfl, fn0, rfl⟩
  have f0 : Nx m n0 := f9.comp fn0 fun _ _ h => h
  have f50 : Nx m5 n0 := f59.comp fn0 fun _ _ h => h
  have f10 : Nx m1 n0 := f19.comp fn0 fun _ _ h => h
  by_cases hlt : i < ks.length
  · have hlt' : (i : Int) < (ks.length : Int) := by omega
    obtain ⟨k, hk⟩ : ∃ k, ks[i]? = some k := ⟨_, List.getElem?_eq_getElem hlt⟩
    have hst := fm_take (f := fun k => mC k (turnE k vs ws) (turnE k vs us)) hk
    have hle := fm_le (f := fun k => mC k (turnE k vs ws) (turnE k vs us)) (l := ks) i
    have hix := fun y => fm_idx (f := fun k => mC k (turnE k vs ws) (turnE k vs us)) (y := y) hk
    rw [← hdC] at hix
    generalize hnc : ((ks.take i).filterMap fun k => mC k (turnE k vs ws) (turnE k vs us)) = T at hst hle hix
    have w1 : IntKind.i64.wrap ((i : Int) + 1) = ((i + 1 : Nat) : Int) := by rw [wrap_i64 (by omega) (by omega)]; omega
    have w2 : IntKind.i64.wrap ((T.length : Int) + 1) = ((T.length + 1 : Nat) : Int) := by rw [wrap_i64 (by omega) (by omega)]; omega
    have hbn := Nat.le_trans hb f0.next
    obtain ⟨n1, t1, g01⟩ := rturn_spec (k := k) (hE f0) (hE' f0) (by omega) (by omega) hbn
    unfold tupW at t1
    obtain ⟨n2, s1, d1, g12, _⟩ := new_store (m := n1) (z := ZW) (row := ((turnE k vs ws).getD zeroW).row) (n := 5) rfl rfl (by omega)
    have g02 : Nx n0 n2 := g01.comp g12 fun _ _ h => h
    have f02 : Nx m n2 := f0.comp g02 fun _ _ h => h
    obtain ⟨n3, t2, g23⟩ := rturn_spec (k := k) (hE f02) (hE'' f02) (by omega) (by omega) (Nat.le_trans hb f02.next)
    unfold tupW at t2
    obtain ⟨n4, s2, d2, g34, _⟩ := new_store (m := n3) (z := ZW) (row := ((turnE k vs us).getD zeroW).row) (n := 5) rfl rfl (by omega)
    have g24 : Nx n2 n4 := g23.comp g34 fun _ _ h => h
    have g04 : Nx n0 n4 := g02.comp g24 fun _ _ h => h
    have f54 : Nx m5 n4 := f50.comp g04 fun _ _ h => h
    obtain ⟨n5, t3, g45⟩ := at_spec (k := k) (hR.fr f54 (Nat.le_refl _) (fun _ h => h.elim)) (by omega) f54.next
    unfold tupV at t3
    obtain ⟨n6, s3, d3, g56, _⟩ := new_store (m := n5) (z := Z3) (row := valL ((lookE k (outE 1 vs ws us)).getD zeroE).num ((lookE k (outE 1 vs ws us)).getD zeroE).text ((lookE k (outE 1 vs ws us)).getD zeroE).bits) (n := 3) rfl rfl (by omega)
    have g46 : Nx n4 n6 := g45.comp g56 fun _ _ h => h
    have g06 : Nx n0 n6 := g04.comp g46 fun _ _ h => h
    have f06 : Nx m n6 := f0.comp g06 fun _ _ h => h
    obtain ⟨n7, t4, g67⟩ := at_spec (k := k) (hE'' f06) (by omega) (Nat.le_trans hb f06.next)
    unfold tupV at t4
    obtain ⟨n8, s4, d4, g78, _⟩ := new_store (m := n7) (z := Z3) (row := valL ((lookE k us).getD zeroE).num ((lookE k us).getD zeroE).text ((lookE k us).getD zeroE).bits) (n := 3) rfl rfl (by omega)
    have g68 : Nx n6 n8 := g67.comp g78 fun _ _ h => h
    have g48 : Nx n4 n8 := g46.comp g68 fun _ _ h => h
    have g28 : Nx n2 n8 := g24.comp g48 fun _ _ h => h
    have g08 : Nx n0 n8 := g02.comp g28 fun _ _ h => h
    have f08 : Nx m n8 := f0.comp g08 fun _ _ h => h
    have f98 : Nx m9 n8 := fn0.comp g08 fun _ _ h => h
    have l12 := g12.next
    have l34 := g34.next
    have l56 := g56.next
    have l78 := g78.next
    have l01 := g01.next
    have l23 := g23.next
    have l45 := g45.next
    have l67 := g67.next
    have l9 := fn0.next
    have d1' := g28.get (by omega) (fun h => h) d1
    have d2' := g48.get (by omega) (fun h => h) d2
    have d3' := g68.get (by omega) (fun h => h) d3
    -- what is read at each place of keys
    have rk : ∀ {n}, Nx n0 n → ∃ ad o, pk = some ad ∧ n.get ad.block = some o ∧ o.cells[ad.off + i]? = some (.string k) := fun {n} g => by
      obtain ⟨ad, cc, o, hv, hg, hc⟩ := rdK_at (q6'.fr (fn0.comp g fun _ _ h => h) (Nat.le_refl _) (fun _ h => h.elim)) hk
      cases hv
      exact ⟨ad, o, rfl, hg, hc⟩
    obtain ⟨ad, o0, rfl, hg0, hc0⟩ := rk .refl
    obtain ⟨_, o2, hq, hg2, hc2⟩ := rk g02
    cases hq
    obtain ⟨_, o4, hq, hg4, hc4⟩ := rk g04
    cases hq
    obtain ⟨_, o6, hq, hg6, hc6⟩ := rk g06
    cases hq
    obtain ⟨_, o8, hq, hg8, hc8⟩ := rk g08
    cases hq
    cases hA : turnE k vs ws with
    | none =>
      have hL := outE_not (s := 1) hs hs' hs'' hA
      rw [hA] at t1 s1
      rw [hL] at t3 s3 d3'
      rw [hA, show mC k none (turnE k vs us) = none from rfl] at hst
      have la := ld_val0 d3'
      have lb := ld_val0 d4
      have hsv := sameV_self (x := (lookE k us).getD zeroE)
      simp only [symA, go_opsd, symB, wantedX, X.put, X.look, Arg.ev, keepOf, restrict, evs, evO, initEnv, xres, tup, noTup, cls, quiet, Nat.reduceAdd, Nat.reduceEqDiff, ↓reduceIte, reduceCtorEq, goInt, exists_eq_left', eq_self, Int.reduceLT, Int.reduceLE, Int.reduceEq, Int.reduceNeg, Int.reduceAdd, Int.reduceSub, forall_const, ne_eq, undef, Nat.reducePow, Nat.reduceDiv, Nat.reduceMod, hlt', hlt, hg0, hc0, goR_call t1, s1, hg2, hc2, goR_call t2, s2, hg4, hc4, goR_call t3, s3, hg6, hc6, goR_call t4, s4, Option.isSome_none, la, lb, neV, hsv, bin_bneq, not_true_eq_false, w1]
      refine hN1 _ _ (ks.length - (i + 1)) (by omega) ⟨i + 1, by omega, rfl, f98, ?_⟩
      rw [hst]
      simp
    | some x =>
      have hL := outE_did (s := 1) hs hs' hs'' hA
      rw [hA] at t1 s1 d1'
      simp only [Option.getD_some, Option.isSome_some] at t1 s1 d1'
      obtain ⟨n9, t5, g89⟩ := at_spec (k := k) (hE' f08) (by omega) (Nat.le_trans hb f08.next)
      unfold tupV at t5
      have d4' := g89.get (by omega) (fun h => h) d4
      obtain ⟨n10, s5, d5, g9t, _⟩ := row_store d4' rfl rfl (n := 3) rfl (row := valL ((lookE k ws).getD zeroE).num ((lookE k ws).getD zeroE).text ((lookE k ws).getD zeroE).bits) rfl (by omega)
      have l89 := g89.next
      have l9t := g9t.next
      have d1'' := g9t.get (by omega) (show ¬ n1.next = n7.next by omega) (g89.get (by omega) (fun h => h) d1')
      have d2'' := g9t.get (by omega) (show ¬ n3.next = n7.next by omega) (g89.get (by omega) (fun h => h) d2')
      have d3'' := g9t.get (by omega) (show ¬ n5.next = n7.next by omega) (g89.get (by omega) (fun h => h) d3')
      have la := ld_val0 d3''
      have lb := ld_val0 d5
      have lc := ld_wr d1''
      have hsv := hL.2
      have f9t : Nx m9 n10 := (f98.comp g89 fun _ _ h => h).comp g9t fun y hy hS => by omega
      have f1t : Nx m1 n10 := f19.comp f9t fun _ _ h => h
      have g0t : Fm (· = n7.next) n0 n10 := ((g08.comp g89 fun _ _ h => h).mono fun _ _ h => h.elim).trans g9t
      obtain ⟨ad', cc', ot, hv, hgt, hct⟩ := rdK_at (q6'.fr f9t (Nat.le_refl _) (fun _ h => h.elim)) hk
      cases hv
      cases hC : turnE k vs us with
      | none =>
        rw [hC] at t2 s2
        rw [hA, hC, show mC k (some x) none = none from rfl] at hst
        simp only [symA, go_opsd, symB, wantedX, X.put, X.look, Arg.ev, keepOf, restrict, evs, evO, initEnv, xres, tup, noTup, cls, quiet, Nat.reduceAdd, Nat.reduceEqDiff, ↓reduceIte, reduceCtorEq, goInt, exists_eq_left', eq_self, Int.reduceLT, Int.reduceLE, Int.reduceEq, Int.reduceNeg, Int.reduceAdd, Int.reduceSub, forall_const, ne_eq, undef, Nat.reducePow, Nat.reduceDiv, Nat.reduceMod, hlt', hlt, hg0, hc0, goR_call t1, s1, hg2, hc2, goR_call t2, s2, hg4, hc4, goR_call t3, s3, hg6, hc6, goR_call t4, s4, hg8, hc8, goR_call t5, s5, Option.isSome_none, la, lb, neV, hsv, bin_bneq, hL.1, not_true_eq_false, w1]
        refine hN1 _ _ (ks.length - (i + 1)) (by omega) ⟨i + 1, by omega, rfl, f9t, ?_⟩
        rw [hst]
        simp
      | some y =>
        rw [hC] at t2 s2 d2''
        simp only [Option.getD_some, Option.isSome_some] at t2 s2 d2''
        have ld := ld_wr d2''
        by_cases hxy : x = y
        · subst hxy
          rw [hA, hC, show mC k (some x) (some x) = none from by simp [mC]] at hst
          have he : sameW x x = true := sameW_iff.2 rfl
          simp only [symA, go_opsd, symB, wantedX, X.put, X.look, Arg.ev, keepOf, restrict, evs, evO, initEnv, xres, tup, noTup, cls, quiet, Nat.reduceAdd, Nat.reduceEqDiff, ↓reduceIte, reduceCtorEq, goInt, exists_eq_left', eq_self, Int.reduceLT, Int.reduceLE, Int.reduceEq, Int.reduceNeg, Int.reduceAdd, Int.reduceSub, forall_const, ne_eq, undef, Nat.reducePow, Nat.reduceDiv, Nat.reduceMod, hlt', hlt, hg0, hc0, goR_call t1, s1, hg2, hc2, goR_call t2, s2, hg4, hc4, goR_call t3, s3, hg6, hc6, goR_call t4, s4, hg8, hc8, goR_call t5, s5, la, lb, lc, ld, neV, ne36, hsv, he, bin_bneq, hL.1, not_true_eq_false, w1]
          refine hN1 _ _ (ks.length - (i + 1)) (by omega) ⟨i + 1, by omega, rfl, f9t, ?_⟩
          rw [hst]
          simp
        · have hmc : mC k (some x) (some y) = some ⟨k, x, y⟩ := by simp [mC, hxy]
          rw [hA, hC, hmc] at hst
          have he : sameW x y = false := by rw [sameW_dec, decide_eq_false hxy]
          have hixx := hix ⟨k, x, y⟩ (by rw [hA, hC, hmc])
          obtain ⟨ac, cc, rfl, hcl1⟩ := clash_at (c3.fr f1t (Nat.le_refl _) (fun _ h => h.elim)) hixx
          have hlt3 : T.length < (mergeC vs ws us).length := (List.getElem?_eq_some_iff.1 hixx).1
          have hlt4 : ¬ ((mergeC vs ws us).length : Int) ≤ (T.length : Int) := by omega
          simp only [symA, go_opsd, symB, wantedX, X.put, X.look, Arg.ev, keepOf, restrict, evs, evO, initEnv, xres, tup, noTup, cls, quiet, Nat.reduceAdd, Nat.reduceEqDiff, ↓reduceIte, reduceCtorEq, goInt, exists_eq_left', eq_self, Int.reduceLT, Int.reduceLE, Int.reduceEq, Int.reduceNeg, Int.reduceAdd, Int.reduceSub, forall_const, ne_eq, undef, Nat.reducePow, Nat.reduceDiv, Nat.reduceMod, hlt', hlt, hg0, hc0, goR_call t1, s1, hg2, hc2, goR_call t2, s2, hg4, hc4, goR_call t3, s3, hg6, hc6, goR_call t4, s4, hg8, hc8, goR_call t5, s5, la, lb, lc, ld, neV, ne36, hsv, he, bin_bneq, hL.1, not_true_eq_false, w1, w2, hnc, hlt4, hlt3, hcl1, hgt, hct, buildC, ne50, sameC_self]
          refine hN1 _ _ (ks.length - (i + 1)) (by omega) ⟨i + 1, by omega, rfl, f9t, ?_⟩
          rw [hst]
          simp
  · have hlt' : ¬ (i : Int) < (ks.length : Int) := by omega
    have hall : ks.take i = ks := List.take_of_length_le (by omega)
    obtain ⟨u2, s2, y1, j1, j2, j3, j4, fj⟩ := merge_spec (hE f0) (hE'' f0) (hE' f0) h.wf h''.wf h'.wf hl hl'' hl' (Nat.le_trans hb f0.next)
    have o2 : okM vs us ws = true := by simp [okM, e1, e2, e3]
    rw [o2] at j1 j2 j3
    simp only [cond_true] at j1 j2 j3
    have hwl2 := mergeW_len hl hl'' hl'
    have okA2 : okA ws (mergeW vs us ws) 1 = true := by simp [okA, e2, mergeW_right e1 e3 e2]
    have fy1 : Nx m y1 := f0.comp fj fun _ _ h => h
    obtain ⟨r2, y2, F2, k1, k2, k3, k4⟩ := apply_spec (s := 1) (rd_up' (hE' fy1) (Nat.le_trans hb fy1.next)) (cut_up (hC' fy1) (Nat.le_trans hb fy1.next)) j2 j4 h'.wf (mergeW_wf hs hs'' hs' h''.wf) (by omega) (by omega) (Nat.le_refl _)
    rw [okA2] at k1 k2
    simp only [cond_true, outE_eq hs hs'' hs'] at k1 k2
    have fy2 : Nx m5 y2 := (f50.comp fj fun _ _ h => h).comp k4 fun _ _ h => h
    obtain ⟨ps, csz, rfl⟩ := rdC_slice' c3
    obtain ⟨ps2, csz2, rfl⟩ := rdC_slice' j3
    have hlen := mergeC_length hs hs' hs''
    rw [hlen] at j1
    simp only [symA, go_opsd, symB, wantedX, X.put, X.look, Arg.ev, keepOf, restrict, evs, evO, initEnv, xres, tup, noTup, cls, quiet, Nat.reduceAdd, Nat.reduceEqDiff, ↓reduceIte, reduceCtorEq, goInt, exists_eq_left', eq_self, Int.reduceLT, Int.reduceLE, Int.reduceEq, Int.reduceNeg, Int.reduceAdd, Int.reduceSub, forall_const, ne_eq, undef, Nat.reducePow, Nat.reduceDiv, Nat.reduceMod, hlt']
    refine hB1 _ _ _ ?_
    rw [hall, ← hdC]
    by_cases hz : mergeC vs ws us = []
    · have hlk := like_spec (hR.fr fy2 (Nat.le_refl _) (fun _ h => h.elim)) (ownE_rd k2) (out_back hs hs' hs'' hz) (by omega)
      have h0 : (mergeC vs ws us).length = 0 := by rw [hz]; rfl
      have h0' : ¬ (0 : Int) < ((0 : Nat) : Int) := by omega
      rw [h0] at j1
      simp only [symA, go_opsd, symB, wantedX, X.put, X.look, Arg.ev, keepOf, restrict, evs, evO, initEnv, xres, tup, noTup, cls, quiet, Nat.reduceAdd, Nat.reduceEqDiff, ↓reduceIte, reduceCtorEq, goInt, exists_eq_left', eq_self, Int.reduceLT, Int.reduceLE, Int.reduceEq, Int.reduceNeg, Int.reduceAdd, Int.reduceSub, forall_const, ne_eq, undef, Nat.reducePow, Nat.reduceDiv, Nat.reduceMod, h0, goR_call j1, goR_call k1, n27, h0', goR_call hlk, not_true_eq_false]
      exact hQ _ _ _ rfl rfl
    · have h0 : (0 : Int) < ((mergeC vs ws us).length : Int) := by
        have := List.length_pos_iff.2 hz
        omega
      simp only [symA, go_opsd, symB, wantedX, X.put, X.look, Arg.ev, keepOf, restrict, evs, evO, initEnv, xres, tup, noTup, cls, quiet, Nat.reduceAdd, Nat.reduceEqDiff, ↓reduceIte, reduceCtorEq, goInt, exists_eq_left', eq_self, Int.reduceLT, Int.reduceLE, Int.reduceEq, Int.reduceNeg, Int.reduceAdd, Int.reduceSub, forall_const, ne_eq, undef, Nat.reducePow, Nat.reduceDiv, Nat.reduceMod, goR_call j1, goR_call k1, n27, h0, not_true_eq_false]
      exact hQ _ _ _ rfl rfl

theorem diffMerges_run {b : Nat} {m : Mem} {v w z : Value} {vs ws us : List Ent} (h : RdEW b m v vs) (h' : RdEW b m w ws) (h'' : RdEW b m z us) (hb : b ≤ m.next) : Wc 5 [v, w, z] m fun r _ => r = .bool true := by
  have a1 := farE_spec h.rd
  have a2 := farE_spec h'.rd
  have a3 := farE_spec h''.rd
  cases hf : farE vs with
  | true =>
    rw [hf] at a1
    refine call_go (F := _) rfl rfl fun Q hQ => ?_
    simp only [symA, go_opsd, symB, wantedX, X.put, X.look, Arg.ev, keepOf, restrict, evs, evO, initEnv, xres, tup, noTup, cls, quiet, Nat.reduceAdd, Nat.reduceEqDiff, ↓reduceIte, reduceCtorEq, goInt, exists_eq_left', eq_self, Int.reduceLT, Int.reduceLE, Int.reduceEq, Int.reduceNeg, Int.reduceAdd, Int.reduceSub, forall_const, ne_eq, undef, Nat.reducePow, Nat.reduceDiv, Nat.reduceMod, goR_call (awake_call _), goR_call a1]
    exact hQ _ _ _ rfl rfl
  | false =>
  cases hf2 : farE ws with
  | true =>
    rw [hf] at a1
    rw [hf2] at a2
    refine call_go (F := _) rfl rfl fun Q hQ => ?_
    simp only [symA, go_opsd, symB, wantedX, X.put, X.look, Arg.ev, keepOf, restrict, evs, evO, initEnv, xres, tup, noTup, cls, quiet, Nat.reduceAdd, Nat.reduceEqDiff, ↓reduceIte, reduceCtorEq, goInt, exists_eq_left', eq_self, Int.reduceLT, Int.reduceLE, Int.reduceEq, Int.reduceNeg, Int.reduceAdd, Int.reduceSub, forall_const, ne_eq, undef, Nat.reducePow, Nat.reduceDiv, Nat.reduceMod, goR_call (awake_call _), goR_call a1, goR_call a2]
    exact hQ _ _ _ rfl rfl
  | false =>
  cases hf3 : farE us with
  | true =>
    rw [hf] at a1
    rw [hf2] at a2
    rw [hf3] at a3
    refine call_go (F := _) rfl rfl fun Q hQ => ?_
    simp only [symA, go_opsd, symB, wantedX, X.put, X.look, Arg.ev, keepOf, restrict, evs, evO, initEnv, xres, tup, noTup, cls, quiet, Nat.reduceAdd, Nat.reduceEqDiff, ↓reduceIte, reduceCtorEq, goInt, exists_eq_left', eq_self, Int.reduceLT, Int.reduceLE, Int.reduceEq, Int.reduceNeg, Int.reduceAdd, Int.reduceSub, forall_const, ne_eq, undef, Nat.reducePow, Nat.reduceDiv, Nat.reduceMod, goR_call (awake_call _), goR_call a1, goR_call a2, goR_call a3]
    exact hQ _ _ _ rfl rfl
  | false =>
  rw [hf] at a1
  rw [hf2] at a2
  rw [hf3] at a3
  have hl := farE_le hf
  have hl' := farE_le hf2
  have hl'' := farE_le hf3
  cases hok : okM vs ws us with
  | true =>
    simp only [okM, Bool.and_eq_true] at hok
    exact diffMerges_main h h' h'' hb a1 a2 a3 hl hl' hl'' hok.1.1 hok.1.2 hok.2
  | false =>
  refine call_go (F := _) rfl rfl fun Q hQ => ?_
  obtain ⟨u, s, m1, c1, c2, c3, c4, f1⟩ := merge_spec h.rd h'.rd h''.rd h.wf h'.wf h''.wf hl hl' hl'' hb
  rw [hok] at c1 c2 c3
  simp only [cond_false] at c1 c2 c3
  obtain ⟨p1, k1, rfl⟩ := rdW_slice c2
  obtain ⟨p2, k2, rfl⟩ := rdC_slice' c3
  simp only [List.length_nil] at c1
  obtain ⟨m2, g1, f12⟩ := rright (h.rd.fr f1 hb (fun _ h => h.elim)) h.wf (by omega) (Nat.le_trans hb f1.next)
  have f2 : Nx m m2 := f1.comp f12 fun _ _ h => h
  cases e1 : okE none vs with
  | false =>
    rw [e1] at g1
    simp only [symA, go_opsd, symB, wantedX, X.put, X.look, Arg.ev, keepOf, restrict, evs, evO, initEnv, xres, tup, noTup, cls, quiet, Nat.reduceAdd, Nat.reduceEqDiff, ↓reduceIte, reduceCtorEq, goInt, exists_eq_left', eq_self, Int.reduceLT, Int.reduceLE, Int.reduceEq, Int.reduceNeg, Int.reduceAdd, Int.reduceSub, forall_const, ne_eq, undef, Nat.reducePow, Nat.reduceDiv, Nat.reduceMod, goR_call (awake_call _), goR_call a1, goR_call a2, goR_call a3, goR_call c1, goR_call g1, e27t]
    exact hQ _ _ _ rfl rfl
  | true =>
  rw [e1] at g1
  obtain ⟨m3, g2, f23⟩ := rright (h'.rd.fr f2 hb (fun _ h => h.elim)) h'.wf (by omega) (Nat.le_trans hb f2.next)
  have f3 : Nx m m3 := f2.comp f23 fun _ _ h => h
  cases e2 : okE none ws with
  | false =>
    rw [e2] at g2
    simp only [symA, go_opsd, symB, wantedX, X.put, X.look, Arg.ev, keepOf, restrict, evs, evO, initEnv, xres, tup, noTup, cls, quiet, Nat.reduceAdd, Nat.reduceEqDiff, ↓reduceIte, reduceCtorEq, goInt, exists_eq_left', eq_self, Int.reduceLT, Int.reduceLE, Int.reduceEq, Int.reduceNeg, Int.reduceAdd, Int.reduceSub, forall_const, ne_eq, undef, Nat.reducePow, Nat.reduceDiv, Nat.reduceMod, goR_call (awake_call _), goR_call a1, goR_call a2, goR_call a3, goR_call c1, goR_call g1, goR_call g2, e27t]
    exact hQ _ _ _ rfl rfl
  | true =>
  rw [e2] at g2
  obtain ⟨m4, g3, f34⟩ := rright (h''.rd.fr f3 hb (fun _ h => h.elim)) h''.wf (by omega) (Nat.le_trans hb f3.next)
  have e3 : okE none us = false := by simpa [okM, e1, e2] using hok
  rw [e3] at g3
  simp only [symA, go_opsd, symB, wantedX, X.put, X.look, Arg.ev, keepOf, restrict, evs, evO, initEnv, xres, tup, noTup, cls, quiet, Nat.reduceAdd, Nat.reduceEqDiff, ↓reduceIte, reduceCtorEq, goInt, exists_eq_left', eq_self, Int.reduceLT, Int.reduceLE, Int.reduceEq, Int.reduceNeg, Int.reduceAdd, Int.reduceSub, forall_const, ne_eq, undef, Nat.reducePow, Nat.reduceDiv, Nat.reduceMod, goR_call (awake_call _), goR_call a1, goR_call a2, goR_call a3, goR_call c1, goR_call g1, goR_call g2, goR_call g3, e27t]
  exact hQ _ _ _ rfl rfl

theorem diffMerges_args {H : Type} (ds : List (DataW H)) (h : wfEach Try.prog ds Try.f5.params.toList) : ∃ (d0 d1 d2 : DataW H), ds = [d0, d1, d2] ∧ wfD Try.prog d0 22 ∧ wfD Try.prog d1 22 ∧ wfD Try.prog d2 22 := by
  rw [Try.params5] at h
  obtain ⟨d0, r, rfl, h0, h⟩ := wf_more h
  obtain ⟨d1, r, rfl, h1, h⟩ := wf_more h
  obtain ⟨d2, rfl, h2⟩ := wf_one h
  exact ⟨d0, d1, d2, rfl, h0, h1, h2⟩

theorem diffMerges_lifted (os : Os) (started : os.Started) (H : Type) (enc : TypeId × Value → H) :
    ReturnsInHanded {} Try.checked os 5 .any (Rows.diffMergesSpec.pre6 enc Try.prog Try.f5 Rows.diffMergesRow.domain false) (Rows.diffMergesSpec.post enc Try.prog Try.f5 false true false false) := by
  refine returnsInHanded_of_change (C := Try.checked) own started (by kernel_rfl) Try.func5
    (ChangeSpec.witness6 (enc := enc) (C := Try.checked) false ⟨#[], #[.slice none 0 0, .slice none 0 0, .slice none 0 0], []⟩ 8 (by kernel_rfl) (by kernel_rfl) (by kernel_rfl) (by kernel_rfl)) ?_
  intro W base args ds gs before hval0 hW hcnd _
  refine law_contract mixed tabK_is (f := 5) rfl (k := 10) (by rw [← List.all_eq_true]; kernel_rfl) (fun t ht => ?_) laid rfl (by kernel_rfl) rfl ?_ ?_ H enc W base args ds gs before hval0 hW
  · have : (Try.f5.params.toList.all fun t => Try.prog.readableRec t && decide (t < Try.prog.types.size)) = true := by kernel_rfl
    have := List.all_eq_true.1 this t ht
    simp only [Bool.and_eq_true, decide_eq_true_eq] at this
    exact this
  · intro H ds hd
    obtain ⟨_, _, _, rfl, _⟩ := diffMerges_args ds hd
    rfl
  · intro H ds hd
    obtain ⟨d0, d1, d2, rfl, h0, h1, h2⟩ := diffMerges_args ds hd
    obtain ⟨x0, v0, a0, b0, c0⟩ := abs_ents (m := Mem.empty) h0
    obtain ⟨M0, hM0⟩ : ∃ M, (absD Try.prog d0 22 Mem.empty).2 = M := ⟨_, rfl⟩
    rw [hM0] at b0 c0
    obtain ⟨x1, v1, a1, b1, c1⟩ := abs_ents (m := M0) h1
    obtain ⟨M1, hM1⟩ : ∃ M, (absD Try.prog d1 22 M0).2 = M := ⟨_, rfl⟩
    rw [hM1] at b1 c1
    obtain ⟨x2, v2, a2, b2, c2⟩ := abs_ents (m := M1) h2
    obtain ⟨M2, hM2⟩ : ∃ M, (absD Try.prog d2 22 M1).2 = M := ⟨_, rfl⟩
    rw [hM2] at b2 c2
    have ha : absArgs Try.prog [d0, d1, d2] Try.f5.params.toList Mem.empty = ([argVal Try.prog 22 (absD Try.prog d0 22 Mem.empty).1, argVal Try.prog 22 (absD Try.prog d1 22 (absD Try.prog d0 22 Mem.empty).2).1, argVal Try.prog 22 (absD Try.prog d2 22 (absD Try.prog d1 22 (absD Try.prog d0 22 Mem.empty).2).2).1], (absD Try.prog d2 22 (absD Try.prog d1 22 (absD Try.prog d0 22 Mem.empty).2).2).2) := by kernel_rfl
    rw [ha, hM0, hM1, hM2, a0, a1, a2]
    have q22 : ∀ v, argVal Try.prog 22 [v] = v := fun v => by kernel_rfl
    rw [q22, q22, q22]
    obtain ⟨v, m', ⟨k, hk⟩, rfl⟩ := diffMerges_run  (b := M2.next) (ents_last c0 (b1.trans b2)) (ents_last c1 b2) c2 (Nat.le_refl _)
    exact ⟨k, m', hk⟩

theorem diffMerges_holds : Rows.DiffMergesSaid :=
  OpenClaim.holds_of_wide 5 Try.f5 rfl rfl rfl rfl rfl rfl rfl ⟨rfl, rfl, rfl, rfl, rfl⟩ rfl rfl rfl rfl rfl (by kernel_rfl) Try.func5 (by kernel_rfl)
    (of_decide_eq_true (by kernel_rfl)) (by unfold Func.isWrapper; first | (rw [if_pos (by decide +kernel)]; kernel_rfl) | (rw [if_neg (by decide +kernel)]; exact ⟨rfl, rfl⟩))
    (fun os started H enc _ => diffMerges_lifted os started H enc)


end Go.Proofs.Ytlldfkapaeidoaa
