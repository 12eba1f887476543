/-
  Own work. What the table's deeds come to.
-/
import Derived.Test.YtfjeccaffenngaaFP
import Derived.Test.YtfjeccaffenngaaXEq
namespace Go.Proofs.Ytfjeccaffenngaa
open Go X
set_option maxRecDepth 100000
set_option linter.unusedVariables false
set_option linter.unusedSimpArgs false

abbrev rowD (dk dw dt dg : Int) (dm : Bool) : List Value := [I dk, I dw, I dt, U dg, .bool dm]

theorem eq_rowD {a a' b b' c c' d d' : Int} {e e' : Bool} : ∀ {fs : Array Field}, Try.prog.underlying 35 = some (.struct fs) → eqFs Try.prog 9999 ⟨rowD a b c d e⟩ ⟨rowD a' b' c' d' e'⟩ fs.toList = some (decide (a = a') && decide (b = b') && decide (c = c') && decide (d = d') && decide (e = e')) := by
  intro fs hu
  rw [Try.underlying35] at hu
  cases hu
  have p1 : ∀ a b c d e, ans Try.prog (Go.part 3 (⟨rowD a b c d e⟩ : Array Value) 0) = some (I a) := fun a b c d e => by kernel_rfl
  have p2 : ∀ a b c d e, ans Try.prog (Go.part 3 (⟨rowD a b c d e⟩ : Array Value) 1) = some (I b) := fun a b c d e => by kernel_rfl
  have p3 : ∀ a b c d e, ans Try.prog (Go.part 3 (⟨rowD a b c d e⟩ : Array Value) 2) = some (I c) := fun a b c d e => by kernel_rfl
  have p4 : ∀ a b c d e, ans Try.prog (Go.part 30 (⟨rowD a b c d e⟩ : Array Value) 3) = some (U d) := fun a b c d e => by kernel_rfl
  have p5 : ∀ a b c d e, ans Try.prog (Go.part 4 (⟨rowD a b c d e⟩ : Array Value) 4) = some (.bool e) := fun a b c d e => by kernel_rfl
  have q1 : ∀ a a' : Int, ans Try.prog (Op.equalIn 9999 3 (I a) (I a')) = some (a == a') := fun a a' => ans_equal_int (d := 9998) Try.underlying3
  have q4 : ∀ a a' : Int, ans Try.prog (Op.equalIn 9999 30 (U a) (U a')) = some (a == a') := fun a a' => ans_equal_int (d := 9998) Try.underlying30
  have q5 : ans Try.prog (Op.equalIn 9999 4 (.bool e) (.bool e')) = some (e == e') := ans_equal_bool (d := 9998) Try.underlying4
  simp only [eqFs, p1, p2, p3, p4, p5, q1, q4, q5, Option.bind_some]
  by_cases h1 : a = a' <;> by_cases h2 : b = b' <;> by_cases h3 : c = c' <;> by_cases h4 : d = d' <;> by_cases h5 : e = e' <;> simp [h1, h2, h3, h4, h5]
theorem eq35 {m : Mem} {a a' b b' c c' d d' : Int} {e e' : Bool} : binE Try.prog .eql 35 (.agg ⟨rowD a b c d e⟩) (.agg ⟨rowD a' b' c' d' e'⟩) m = some (.val (.bool (decide (a = a') && decide (b = b') && decide (c = c') && decide (d = d') && decide (e = e'))) m) :=
  bin_aeql Try.underlying35 (by kernel_rfl) (by kernel_rfl) rfl rfl (eq_rowD Try.underlying35)
theorem conv_iu {m : Mem} {n : Int} : convE Try.prog 3 30 m (I n) = some (.val (U (IntKind.u64.wrap n)) m) := by kernel_rfl
theorem conv_nu {m : Mem} {n : Nat} (h : n ≤ 18446744073709551615) : convE Try.prog 3 30 m (I (n : Int)) = some (.val (U (n : Int)) m) := by
  rw [conv_iu, wrap_u64 (by omega) (by omega)]

/-! ## One of a table's numbers is stored -/
def offM (dm : Bool) : Nat := bif dm then 1 else 0
def maskM (p : Nat × Nat) (dm : Bool) : Nat := bif dm then p.2 else p.1
def putM (p : Nat × Nat) (dm : Bool) (x : Nat) : Nat × Nat := bif dm then (p.1, x) else (x, p.2)
theorem cellsR_off {l : List (Nat × Nat)} {i : Nat} {p : Nat × Nat} (h : l[i]? = some p) (dm : Bool) : (cellsR l)[i * 2 + offM dm]? = some (U (maskM p dm : Nat)) := by
  cases dm
  · exact (cellsR_at h).1
  · exact (cellsR_at h).2
theorem cellsR_set : ∀ {l : List (Nat × Nat)} {i : Nat} {p : Nat × Nat} (dm : Bool) (x : Nat), l[i]? = some p → (cellsR l).set (i * 2 + offM dm) (U (x : Int)) = cellsR (l.set i (putM p dm x))
  | [], i, p, dm, x, h => by simp at h
  | q :: l, 0, p, dm, x, h => by
    simp only [List.getElem?_cons_zero, Option.some.injEq] at h
    subst h
    cases dm <;> rfl
  | q :: l, i + 1, p, dm, x, h => by
    simp only [List.getElem?_cons_succ] at h
    have := cellsR_set dm x h
    rw [show (i + 1) * 2 + offM dm = i * 2 + offM dm + 1 + 1 by omega]
    show U _ :: U _ :: (cellsR l).set (i * 2 + offM dm) _ = U _ :: U _ :: cellsR (l.set i _)
    rw [this]

section
variable {m : Mem} {t r : Nat} {T : Tb}
theorem TabAt.mask (h : TabAt m t r T) {j : Nat} {p : Nat × Nat} (hj : T.l[j]? = some p) (dm : Bool) (x : Nat) :
    ∃ m', storeE m 1 (.pointer (some ⟨r, j * 2 + offM dm, none⟩)) (U (x : Int)) = some (.skip m') ∧ TabAt m' t r ⟨T.tags, T.l.set j (putM p dm x)⟩ ∧ Fm (· = r) m m' := by
  have hl := (List.getElem?_eq_some_iff.1 (cellsR_off hj dm)).1
  refine ⟨_, store1 h.gr rfl rfl hl rfl rfl, ⟨h.ne, by simpa [put1] using h.lt, by simpa [put1] using h.lr, ?_, ?_⟩, Fm.set rfl⟩
  · have hne := h.ne
    rw [put1, Mem.get_set, if_neg (fun q => hne q.symm), h.gt]
    simp
  · rw [put1, Mem.get_set, if_pos rfl]
    simp only [cellsR_set dm x hj]
theorem TabAt.up (h : TabAt m t r T) : ∃ m', storeE m 1 (.pointer (some ⟨t, 0, none⟩)) (I ((T.tags + 1 : Nat) : Int)) = some (.skip m') ∧ TabAt m' t r ⟨T.tags + 1, T.l⟩ ∧ Fm (· = t) m m' := by
  refine ⟨_, store1 h.gt rfl rfl (by simp) rfl rfl, ⟨h.ne, by simpa [put1] using h.lt, by simpa [put1] using h.lr, ?_, ?_⟩, Fm.set rfl⟩
  · rw [put1, Mem.get_set, if_pos rfl]
    rfl
  · have hne := h.ne
    rw [put1, Mem.get_set, if_neg hne, h.gr]

theorem at_spec {b o : Nat} {dm : Bool} : Ca 37 [.pointer (some ⟨b, o, none⟩), .bool dm] m (.pointer (some ⟨b, o + offM dm, none⟩)) m := by
  refine callX_of (call_go (F := _) rfl rfl fun Q hQ => ?_)
  cases dm with
  | true =>
    simp only [symA, go_opsd, symB, wantedX, X.put, X.look, Arg.ev, keepOf, restrict, evs, evO, initEnv, xres, tup, noTup, cls, quiet, Nat.reduceAdd, Nat.reduceEqDiff, ↓reduceIte, reduceCtorEq, goInt, exists_eq_left', eq_self, Int.reduceLT, Int.reduceLE, Int.reduceEq, Int.reduceNeg, Int.reduceAdd, Int.reduceSub, forall_const, ne_eq, undef, Nat.reducePow, Nat.reduceDiv, Nat.reduceMod]
    exact hQ _ _ _ rfl ⟨rfl, rfl⟩
  | false =>
    simp only [symA, go_opsd, symB, wantedX, X.put, X.look, Arg.ev, keepOf, restrict, evs, evO, initEnv, xres, tup, noTup, cls, quiet, Nat.reduceAdd, Nat.reduceEqDiff, ↓reduceIte, reduceCtorEq, goInt, exists_eq_left', eq_self, Int.reduceLT, Int.reduceLE, Int.reduceEq, Int.reduceNeg, Int.reduceAdd, Int.reduceSub, forall_const, ne_eq, undef, Nat.reducePow, Nat.reduceDiv, Nat.reduceMod]
    exact hQ _ _ _ rfl ⟨rfl, rfl⟩

/-! ## May it be done? -/
variable {dk dw dt dg : Int} {dm : Bool}
theorem check_spec (h : TabAt m t r T) (hw : T.Wf) : ∃ m', Ca 36 [Pt t, .agg ⟨rowD dk dw dt dg dm⟩] m (I (checkT T ⟨dk, dw, dt, dg, dm⟩)) m' ∧ Nx m m' := by
  obtain ⟨m1, hm1⟩ : ∃ m1, m.push { cells := rowD dk dw dt dg dm, rw := true, spare := none, kin := [] } = m1 := ⟨_, rfl⟩
  have g1 : m1.get m.next = some { cells := rowD dk dw dt dg dm, rw := true, spare := none, kin := [] } := by rw [← hm1, push_self]
  have f1 : Nx m m1 := hm1 ▸ .push
  have hn1 : m1.next = m.next + 1 := by rw [← hm1]; simp
  obtain ⟨m2, s2, g2, f2, n2⟩ := new_store (m := m1) (z := [I 0, I 0, I 0, U 0, .bool false]) (row := rowD 1 dw 0 0 false) (n := 5) rfl rfl (by omega)
  have g1' := f2.get (by omega) (fun h => h) g1
  have t2 := h.nx (f1.trans f2)
  have la : ldA m2 5 (Pt m.next) = some (.val (.agg ⟨rowD dk dw dt dg dm⟩) m2) := by simp [ldA, xload, g1']
  have lb : ldA m2 5 (Pt m1.next) = some (.val (.agg ⟨rowD 1 dw 0 0 false⟩) m2) := by simp [ldA, xload, g2]
  have bu : ∀ m : Mem, buildE m [I 0, I 0, I 0, U 0, .bool false] [(0, 1), (1, 1), (2, 1), (3, 1), (4, 1)] [(0, I 1), (1, I dw)] = some (.val (.agg ⟨rowD 1 dw 0 0 false⟩) m) := fun m => by kernel_rfl
  refine ⟨m2, callX_of (call_go (F := _) rfl rfl fun Q hQ => ?_), f1.trans f2⟩
  by_cases hk1 : dk = 1
  · subst hk1
    cases hmd : madeD ⟨1, dw, dt, dg, dm⟩ with
    | true =>
      have hx : dt = 0 ∧ dg = 0 ∧ dm = false := by simpa [madeD, and_assoc] using hmd
      obtain ⟨rfl, rfl, rfl⟩ := hx
      have k1 := one_spec (who := dw) t2
      cases ho : oneB T dw with
      | true =>
        rw [ho] at k1
        by_cases h16 : (16 : Int) ≤ (T.tags : Int)
        · have e : checkT T ⟨1, dw, 0, 0, false⟩ = 5 := by
            have : 16 ≤ T.tags := by omega
            simp [checkT, hmd, ho, this]
          rw [e] at hQ
          simp only [symA, go_opsd, symB, wantedX, X.put, X.look, Arg.ev, keepOf, restrict, evs, evO, initEnv, xres, tup, noTup, cls, quiet, Nat.reduceAdd, Nat.reduceEqDiff, ↓reduceIte, reduceCtorEq, goInt, exists_eq_left', eq_self, Int.reduceLT, Int.reduceLE, Int.reduceEq, Int.reduceNeg, Int.reduceAdd, Int.reduceSub, forall_const, ne_eq, undef, Nat.reducePow, Nat.reduceDiv, Nat.reduceMod, hm1, g1, g1', la, lb, bu, s2, eq35, goR_call k1, t2.gt, h16]
          exact hQ _ _ _ rfl ⟨rfl, rfl⟩
        · have e : checkT T ⟨1, dw, 0, 0, false⟩ = 0 := by
            have : ¬ 16 ≤ T.tags := by omega
            simp [checkT, hmd, ho, this]
          rw [e] at hQ
          simp only [symA, go_opsd, symB, wantedX, X.put, X.look, Arg.ev, keepOf, restrict, evs, evO, initEnv, xres, tup, noTup, cls, quiet, Nat.reduceAdd, Nat.reduceEqDiff, ↓reduceIte, reduceCtorEq, goInt, exists_eq_left', eq_self, Int.reduceLT, Int.reduceLE, Int.reduceEq, Int.reduceNeg, Int.reduceAdd, Int.reduceSub, forall_const, ne_eq, undef, Nat.reducePow, Nat.reduceDiv, Nat.reduceMod, hm1, g1, g1', la, lb, bu, s2, eq35, goR_call k1, t2.gt, h16]
          exact hQ _ _ _ rfl ⟨rfl, rfl⟩
      | false =>
        rw [ho] at k1
        have e : checkT T ⟨1, dw, 0, 0, false⟩ = 1 := by simp [checkT, ho]
        rw [e] at hQ
        simp only [symA, go_opsd, symB, wantedX, X.put, X.look, Arg.ev, keepOf, restrict, evs, evO, initEnv, xres, tup, noTup, cls, quiet, Nat.reduceAdd, Nat.reduceEqDiff, ↓reduceIte, reduceCtorEq, goInt, exists_eq_left', eq_self, Int.reduceLT, Int.reduceLE, Int.reduceEq, Int.reduceNeg, Int.reduceAdd, Int.reduceSub, forall_const, ne_eq, undef, Nat.reducePow, Nat.reduceDiv, Nat.reduceMod, hm1, g1, g1', la, lb, bu, s2, eq35, goR_call k1, t2.gt]
        exact hQ _ _ _ rfl ⟨rfl, rfl⟩
    | false =>
      have e : checkT T ⟨1, dw, dt, dg, dm⟩ = 1 := by simp [checkT, hmd]
      rw [e] at hQ
      have he : (decide (dt = 0) && decide (dg = 0) && decide (dm = false)) = false := by
        have hx : madeD ⟨1, dw, dt, dg, dm⟩ = (decide (dt = 0) && decide (dg = 0) && decide (dm = false)) := by cases dm <;> simp [madeD]
        rw [← hx]; exact hmd
      simp only [symA, go_opsd, symB, wantedX, X.put, X.look, Arg.ev, keepOf, restrict, evs, evO, initEnv, xres, tup, noTup, cls, quiet, Nat.reduceAdd, Nat.reduceEqDiff, ↓reduceIte, reduceCtorEq, goInt, exists_eq_left', eq_self, Int.reduceLT, Int.reduceLE, Int.reduceEq, Int.reduceNeg, Int.reduceAdd, Int.reduceSub, forall_const, ne_eq, undef, Nat.reducePow, Nat.reduceDiv, Nat.reduceMod, hm1, g1, g1', la, lb, bu, s2, eq35, he, t2.gt]
      exact hQ _ _ _ rfl ⟨rfl, rfl⟩
  · have hmd : madeD ⟨dk, dw, dt, dg, dm⟩ = false := by simp [madeD, hk1]
    by_cases hk2 : dk = 2
    · subst hk2
      have k1 := one_spec (who := dw) t2
      have k2 := one_spec (who := dt) t2
      rcases oneB_cases T dw with ho | ⟨ho, i, p, rfl, hi, hp, hpm, e1, e2⟩
      · rw [ho] at k1
        have e : checkT T ⟨2, dw, dt, dg, dm⟩ = 1 := by simp [checkT, hmd, ho]
        rw [e] at hQ
        simp only [symA, go_opsd, symB, wantedX, X.put, X.look, Arg.ev, keepOf, restrict, evs, evO, initEnv, xres, tup, noTup, cls, quiet, Nat.reduceAdd, Nat.reduceEqDiff, ↓reduceIte, reduceCtorEq, goInt, exists_eq_left', eq_self, Int.reduceLT, Int.reduceLE, Int.reduceEq, Int.reduceNeg, Int.reduceAdd, Int.reduceSub, forall_const, ne_eq, undef, Nat.reducePow, Nat.reduceDiv, Nat.reduceMod, hm1, g1, g1', la, lb, bu, s2, goR_call k1, t2.gt]
        exact hQ _ _ _ rfl ⟨rfl, rfl⟩
      · rw [ho] at k1
        rcases oneB_cases T dt with ho2 | ⟨ho2, j, q, rfl, hj, hq, hqm, e3, e4⟩
        · rw [ho2] at k2
          have e : checkT T ⟨2, i, dt, dg, dm⟩ = 1 := by simp [checkT, hmd, ho2]
          rw [e] at hQ
          simp only [symA, go_opsd, symB, wantedX, X.put, X.look, Arg.ev, keepOf, restrict, evs, evO, initEnv, xres, tup, noTup, cls, quiet, Nat.reduceAdd, Nat.reduceEqDiff, ↓reduceIte, reduceCtorEq, goInt, exists_eq_left', eq_self, Int.reduceLT, Int.reduceLE, Int.reduceEq, Int.reduceNeg, Int.reduceAdd, Int.reduceSub, forall_const, ne_eq, undef, Nat.reducePow, Nat.reduceDiv, Nat.reduceMod, hm1, g1, g1', la, lb, bu, s2, goR_call k1, goR_call k2, t2.gt]
          exact hQ _ _ _ rfl ⟨rfl, rfl⟩
        · rw [ho2] at k2
          have ht16 := hw.tags
          have cv : ∀ m : Mem, convE Try.prog 3 30 m (I (T.tags : Int)) = some (.val (U (T.tags : Int)) m) := fun m => conv_nu (by omega)
          by_cases hlt : dg < 1
          · have e : checkT T ⟨2, i, j, dg, dm⟩ = 7 := by simp [checkT, hmd, ho, ho2, hlt]
            rw [e] at hQ
            simp only [symA, go_opsd, symB, wantedX, X.put, X.look, Arg.ev, keepOf, restrict, evs, evO, initEnv, xres, tup, noTup, cls, quiet, Nat.reduceAdd, Nat.reduceEqDiff, ↓reduceIte, reduceCtorEq, goInt, exists_eq_left', eq_self, Int.reduceLT, Int.reduceLE, Int.reduceEq, Int.reduceNeg, Int.reduceAdd, Int.reduceSub, forall_const, ne_eq, undef, Nat.reducePow, Nat.reduceDiv, Nat.reduceMod, hm1, g1, g1', la, lb, bu, s2, goR_call k1, goR_call k2, t2.gt, cv, hlt]
            exact hQ _ _ _ rfl ⟨rfl, rfl⟩
          · by_cases hgt : (T.tags : Int) < dg
            · have e : checkT T ⟨2, i, j, dg, dm⟩ = 7 := by simp [checkT, hmd, ho, ho2, hgt]
              rw [e] at hQ
              simp only [symA, go_opsd, symB, wantedX, X.put, X.look, Arg.ev, keepOf, restrict, evs, evO, initEnv, xres, tup, noTup, cls, quiet, Nat.reduceAdd, Nat.reduceEqDiff, ↓reduceIte, reduceCtorEq, goInt, exists_eq_left', eq_self, Int.reduceLT, Int.reduceLE, Int.reduceEq, Int.reduceNeg, Int.reduceAdd, Int.reduceSub, forall_const, ne_eq, undef, Nat.reducePow, Nat.reduceDiv, Nat.reduceMod, hm1, g1, g1', la, lb, bu, s2, goR_call k1, goR_call k2, t2.gt, cv, hlt, hgt]
              exact hQ _ _ _ rfl ⟨rfl, rfl⟩
            · have a1 : atM T i dm = maskM p dm := by cases dm <;> simp [atM, maskM, e1, e2]
              have a2 : atM T j dm = maskM q dm := by cases dm <;> simp [atM, maskM, e3, e4]
              have b1 : maskM p dm < 65536 := by cases dm <;> first | exact (hw.masks p hpm).1 | exact (hw.masks p hpm).2
              have b2 : maskM q dm < 65536 := by cases dm <;> first | exact (hw.masks q hqm).1 | exact (hw.masks q hqm).2
              have c1 := cellsR_off hp dm
              have c2 := cellsR_off hq dm
              have z1 := mhas_spec (m := m2) (t := dg) b1
              have z2 := mhas_spec (m := m2) (t := dg) b2
              cases hh : hasM (maskM p dm) dg with
              | false =>
                rw [hh] at z1
                have e : checkT T ⟨2, i, j, dg, dm⟩ = 10 := by simp [checkT, hmd, ho, ho2, hlt, hgt, a1, hh]
                rw [e] at hQ
                simp only [symA, go_opsd, symB, wantedX, X.put, X.look, Arg.ev, keepOf, restrict, evs, evO, initEnv, xres, tup, noTup, cls, quiet, Nat.reduceAdd, Nat.reduceEqDiff, ↓reduceIte, reduceCtorEq, goInt, exists_eq_left', eq_self, Int.reduceLT, Int.reduceLE, Int.reduceEq, Int.reduceNeg, Int.reduceAdd, Int.reduceSub, forall_const, ne_eq, undef, Nat.reducePow, Nat.reduceDiv, Nat.reduceMod, hm1, g1, g1', la, lb, bu, s2, goR_call k1, goR_call k2, t2.gt, t2.gr, cv, hlt, hgt, hi, hj, c1, c2, goDV3c at_spec, goDV3c z1]
                exact hQ _ _ _ rfl ⟨rfl, rfl⟩
              | true =>
                rw [hh] at z1
                cases hh2 : hasM (maskM q dm) dg with
                | true =>
                  rw [hh2] at z2
                  have e : checkT T ⟨2, i, j, dg, dm⟩ = 8 := by simp [checkT, hmd, ho, ho2, hlt, hgt, a1, hh, a2, hh2]
                  rw [e] at hQ
                  simp only [symA, go_opsd, symB, wantedX, X.put, X.look, Arg.ev, keepOf, restrict, evs, evO, initEnv, xres, tup, noTup, cls, quiet, Nat.reduceAdd, Nat.reduceEqDiff, ↓reduceIte, reduceCtorEq, goInt, exists_eq_left', eq_self, Int.reduceLT, Int.reduceLE, Int.reduceEq, Int.reduceNeg, Int.reduceAdd, Int.reduceSub, forall_const, ne_eq, undef, Nat.reducePow, Nat.reduceDiv, Nat.reduceMod, hm1, g1, g1', la, lb, bu, s2, goR_call k1, goR_call k2, t2.gt, t2.gr, cv, hlt, hgt, hi, hj, c1, c2, goDV3c at_spec, goDV3c z1, goDV3c z2]
                  exact hQ _ _ _ rfl ⟨rfl, rfl⟩
                | false =>
                  rw [hh2] at z2
                  have e : checkT T ⟨2, i, j, dg, dm⟩ = 0 := by simp [checkT, hmd, ho, ho2, hlt, hgt, a1, hh, a2, hh2]
                  rw [e] at hQ
                  simp only [symA, go_opsd, symB, wantedX, X.put, X.look, Arg.ev, keepOf, restrict, evs, evO, initEnv, xres, tup, noTup, cls, quiet, Nat.reduceAdd, Nat.reduceEqDiff, ↓reduceIte, reduceCtorEq, goInt, exists_eq_left', eq_self, Int.reduceLT, Int.reduceLE, Int.reduceEq, Int.reduceNeg, Int.reduceAdd, Int.reduceSub, forall_const, ne_eq, undef, Nat.reducePow, Nat.reduceDiv, Nat.reduceMod, hm1, g1, g1', la, lb, bu, s2, goR_call k1, goR_call k2, t2.gt, t2.gr, cv, hlt, hgt, hi, hj, c1, c2, goDV3c at_spec, goDV3c z1, goDV3c z2]
                  exact hQ _ _ _ rfl ⟨rfl, rfl⟩
    · have e : checkT T ⟨dk, dw, dt, dg, dm⟩ = 1 := by simp [checkT, hmd, hk2]
      rw [e] at hQ
      simp only [symA, go_opsd, symB, wantedX, X.put, X.look, Arg.ev, keepOf, restrict, evs, evO, initEnv, xres, tup, noTup, cls, quiet, Nat.reduceAdd, Nat.reduceEqDiff, ↓reduceIte, reduceCtorEq, goInt, exists_eq_left', eq_self, Int.reduceLT, Int.reduceLE, Int.reduceEq, Int.reduceNeg, Int.reduceAdd, Int.reduceSub, forall_const, ne_eq, undef, Nat.reducePow, Nat.reduceDiv, Nat.reduceMod, hm1, g1, g1', la, lb, bu, s2, hk1, hk2, t2.gt]
      exact hQ _ _ _ rfl ⟨rfl, rfl⟩

/-! ## It is done -/
theorem check_two (hc : checkT T ⟨2, dw, dt, dg, dm⟩ = 0) : oneB T dt = true ∧ 1 ≤ dg := by
  have hmd : madeD ⟨2, dw, dt, dg, dm⟩ = false := by simp [madeD]
  unfold checkT at hc
  rw [hmd] at hc
  cases ho : oneB T dt with
  | false => simp [ho] at hc
  | true =>
    refine ⟨rfl, ?_⟩
    by_cases hlt : dg < 1
    · exfalso
      cases ho1 : oneB T dw <;> simp [ho, ho1, hlt] at hc
    · omega
theorem check_one (hk : dk ≠ 2) (hc : checkT T ⟨dk, dw, dt, dg, dm⟩ = 0) : oneB T dw = true ∧ T.tags < 16 := by
  unfold checkT at hc
  cases hmo : madeD ⟨dk, dw, dt, dg, dm⟩ && oneB T dw with
  | false => simp [hmo, hk] at hc
  | true =>
    rw [Bool.and_eq_true] at hmo
    refine ⟨hmo.2, ?_⟩
    by_cases h16 : 16 ≤ T.tags
    · simp [hmo.1, hmo.2, h16] at hc
    · omega
theorem Fm.two {a b m' : Mem} {x y : Nat} (h1 : Fm (· = x) a b) (h2 : Fm (· = y) b m') : Fm (fun i => i = x ∨ i = y) a m' :=
  (h1.mono (S' := fun i => i = x ∨ i = y) fun _ _ h => .inl h).trans (h2.mono fun _ _ h => .inr h)

theorem do_spec (h : TabAt m t r T) (hw : T.Wf) : Wc 11 [Pt t, .agg ⟨rowD dk dw dt dg dm⟩] m fun _ m' => TabAt m' t r (doT T ⟨dk, dw, dt, dg, dm⟩) ∧ Fm (fun i => i = t ∨ i = r) m m' := by
  refine call_go (F := _) rfl rfl fun Q hQ => ?_
  obtain ⟨m1, hm1⟩ : ∃ m1, m.push { cells := rowD dk dw dt dg dm, rw := true, spare := none, kin := [] } = m1 := ⟨_, rfl⟩
  have g1 : m1.get m.next = some { cells := rowD dk dw dt dg dm, rw := true, spare := none, kin := [] } := by rw [← hm1, push_self]
  have f1 : Nx m m1 := hm1 ▸ .push
  have hn1 : m1.next = m.next + 1 := by rw [← hm1]; simp
  have la : ldA m1 5 (Pt m.next) = some (.val (.agg ⟨rowD dk dw dt dg dm⟩) m1) := by simp [ldA, xload, g1]
  obtain ⟨m2, k1, f2⟩ := check_spec (dk := dk) (dw := dw) (dt := dt) (dg := dg) (dm := dm) (h.nx f1) hw
  have hn2 := f2.next
  have g2 := f2.get (by omega) (fun h => h) g1
  have t2 := (h.nx f1).nx f2
  have f12 : Nx m m2 := f1.trans f2
  have h1 := h.lt
  have h2 := h.lr
  by_cases hc : checkT T ⟨dk, dw, dt, dg, dm⟩ = 0
  · rw [hc] at k1
    by_cases hk2 : dk = 2
    · subst hk2
      have e : doT T ⟨2, dw, dt, dg, dm⟩ = giveT T ⟨2, dw, dt, dg, dm⟩ := by simp [doT, hc]
      rw [e] at hQ
      obtain ⟨ho, hg1⟩ := check_two hc
      rcases oneB_cases T dt with ho2 | ⟨_, j, q, rfl, hj, hq, hqm, e3, e4⟩
      · rw [ho2] at ho; cases ho
      have b2 : maskM q dm < 65536 := by cases dm <;> first | exact (hw.masks q hqm).1 | exact (hw.masks q hqm).2
      have c2 := cellsR_off hq dm
      have bb := bitN_lt dg
      have o1 : ∀ m : Mem, binE Try.prog .or 76 (U (maskM q dm : Nat)) (U (bitN dg : Nat)) m = some (.val (U ((maskM q dm ||| bitN dg : Nat) : Int)) m) := fun m => bin_or (by omega) (by omega)
      obtain ⟨m3, s3, t3, f3⟩ := t2.mask hq dm (maskM q dm ||| bitN dg)
      have g3 := f3.get (by omega) (fun h => by omega) g2
      have et : giveT T ⟨2, dw, j, dg, dm⟩ = ⟨T.tags, T.l.set j (putM q dm (maskM q dm ||| bitN dg))⟩ := by
        simp only [giveT, Int.toNat_natCast, e3, e4]
        cases dm <;> rfl
      rw [et] at hQ
      simp only [symA, go_opsd, symB, wantedX, X.put, X.look, Arg.ev, keepOf, restrict, evs, evO, initEnv, xres, tup, noTup, cls, quiet, Nat.reduceAdd, Nat.reduceEqDiff, ↓reduceIte, reduceCtorEq, goInt, exists_eq_left', eq_self, Int.reduceLT, Int.reduceLE, Int.reduceEq, Int.reduceNeg, Int.reduceAdd, Int.reduceSub, forall_const, ne_eq, undef, Nat.reducePow, Nat.reduceDiv, Nat.reduceMod, hm1, la, goR_call k1, g2, t2.gt, t2.gr, hj, c2, goDV3c at_spec, goDV3c bit_spec, o1, s3, g3]
      exact hQ _ _ _ rfl ⟨t3, (f12.mono (S' := fun i => i = t ∨ i = r) fun _ _ h => h.elim).trans (f3.mono fun _ _ h => .inr h)⟩
    · have e : doT T ⟨dk, dw, dt, dg, dm⟩ = makeT T ⟨dk, dw, dt, dg, dm⟩ := by simp [doT, hc, hk2]
      rw [e] at hQ
      obtain ⟨ho, h16⟩ := check_one hk2 hc
      rcases oneB_cases T dw with ho2 | ⟨_, i, p, rfl, hi, hp, hpm, e1, e2⟩
      · rw [ho2] at ho; cases ho
      obtain ⟨hp1, hp2⟩ := hw.masks p hpm
      have bb := bitN_lt ((T.tags + 1 : Nat) : Int)
      have w1 : IntKind.i64.wrap ((T.tags : Int) + 1) = ((T.tags + 1 : Nat) : Int) := by rw [wrap_i64 (by omega) (by omega)]; omega
      obtain ⟨m3, s3, t3, f3⟩ := t2.up
      have g3 := f3.get (by omega) (fun h => by omega) g2
      have cv : ∀ m : Mem, convE Try.prog 3 30 m (I ((T.tags + 1 : Nat) : Int)) = some (.val (U ((T.tags + 1 : Nat) : Int)) m) := fun m => conv_nu (by omega)
      obtain ⟨c1, _⟩ := cellsR_at hp
      have o1 : ∀ m : Mem, binE Try.prog .or 76 (U (p.1 : Nat)) (U (bitN ((T.tags + 1 : Nat) : Int) : Nat)) m = some (.val (U ((p.1 ||| bitN ((T.tags + 1 : Nat) : Int) : Nat) : Int)) m) := fun m => bin_or (by omega) (by omega)
      obtain ⟨m4, s4, t4, f4⟩ := t3.mask hp false (p.1 ||| bitN ((T.tags + 1 : Nat) : Int))
      have g4 := f4.get (by have := f3.next; omega) (fun h => by omega) g3
      simp only [offM, putM, cond_false, Nat.add_zero] at s4 t4
      have hp' : (T.l.set i (p.1 ||| bitN ((T.tags + 1 : Nat) : Int), p.2))[i]? = some (p.1 ||| bitN ((T.tags + 1 : Nat) : Int), p.2) := List.getElem?_set_self hi
      obtain ⟨_, c2⟩ := cellsR_at hp'
      have o2 : ∀ m : Mem, binE Try.prog .or 76 (U (p.2 : Nat)) (U (bitN ((T.tags + 1 : Nat) : Int) : Nat)) m = some (.val (U ((p.2 ||| bitN ((T.tags + 1 : Nat) : Int) : Nat) : Int)) m) := fun m => bin_or (by omega) (by omega)
      obtain ⟨m5, s5, t5, f5⟩ := t4.mask hp' true (p.2 ||| bitN ((T.tags + 1 : Nat) : Int))
      simp only [offM, putM, cond_true, List.set_set] at s5 t5
      have hil : i < (T.l.set i (p.1 ||| bitN ((T.tags + 1 : Nat) : Int), p.2)).length := by simpa using hi
      have et : makeT T ⟨dk, i, dt, dg, dm⟩ = ⟨T.tags + 1, T.l.set i (p.1 ||| bitN ((T.tags + 1 : Nat) : Int), p.2 ||| bitN ((T.tags + 1 : Nat) : Int))⟩ := by
        simp only [makeT, Int.toNat_natCast, e1, e2]
      rw [et] at hQ
      simp only [symA, go_opsd, symB, wantedX, X.put, X.look, Arg.ev, keepOf, restrict, evs, evO, initEnv, xres, tup, noTup, cls, quiet, Nat.reduceAdd, Nat.reduceEqDiff, ↓reduceIte, reduceCtorEq, goInt, exists_eq_left', eq_self, Int.reduceLT, Int.reduceLE, Int.reduceEq, Int.reduceNeg, Int.reduceAdd, Int.reduceSub, forall_const, ne_eq, undef, Nat.reducePow, Nat.reduceDiv, Nat.reduceMod, hm1, la, goR_call k1, g2, g3, g4, t2.gt, t3.gt, t3.gr, t4.gt, t4.gr, hi, hil, hk2, c1, c2, w1, cv, goDV3c bit_spec, o1, o2, s3, s4, s5]
      exact hQ _ _ _ rfl ⟨t5, (f12.mono (S' := fun i => i = t ∨ i = r) fun _ _ h => h.elim).trans ((Fm.two f3 f4).trans (f5.mono fun _ _ h => .inr h))⟩
  · have e : doT T ⟨dk, dw, dt, dg, dm⟩ = T := by simp [doT, hc]
    rw [e] at hQ
    simp only [symA, go_opsd, symB, wantedX, X.put, X.look, Arg.ev, keepOf, restrict, evs, evO, initEnv, xres, tup, noTup, cls, quiet, Nat.reduceAdd, Nat.reduceEqDiff, ↓reduceIte, reduceCtorEq, goInt, exists_eq_left', eq_self, Int.reduceLT, Int.reduceLE, Int.reduceEq, Int.reduceNeg, Int.reduceAdd, Int.reduceSub, forall_const, ne_eq, undef, Nat.reducePow, Nat.reduceDiv, Nat.reduceMod, hm1, la, goR_call k1, hc]
    exact hQ _ _ _ rfl ⟨t2, f12.mono fun _ _ h => h.elim⟩
end
end Go.Proofs.Ytfjeccaffenngaa
