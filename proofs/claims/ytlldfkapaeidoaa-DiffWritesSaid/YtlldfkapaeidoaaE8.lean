/-
  Own work. Merge: what it does key by key. Writes compared; what is merged with the base.
-/
import Derived.Test.YtlldfkapaeidoaaE6
namespace Go.Proofs.Ytlldfkapaeidoaa
open Go X
set_option maxRecDepth 100000
attribute [local irreducible] X.Go' X.GoO X.GoR X.GoG X.GoC X.GoF X.GoFV X.GoFG X.Ex X.GoD X.GoDV X.GoDG
set_option linter.unusedVariables false
set_option linter.unusedSimpArgs false

/-- A clash. -/
structure Cl where
  key : ByteArray
  a : Wr
  b : Wr
abbrev Cl.row (c : Cl) : List Value := [.string c.key, .string c.a.key, .bool c.a.gone, .bool c.a.num, .string c.a.text, U (c.a.bits : Int), .string c.b.key, .bool c.b.gone, .bool c.b.num, .string c.b.text, U (c.b.bits : Int)]
abbrev ZC : List Value := [.string .empty, .string .empty, .bool false, .bool false, .string .empty, U 0, .string .empty, .bool false, .bool false, .string .empty, U 0]
abbrev OwnC (F : List Nat) (m : Mem) (v : Value) (cs : List Cl) : Prop := Own2 11 F m v (cs.map Cl.row)
abbrev RdC (b : Nat) (m : Mem) (v : Value) (cs : List Cl) : Prop := RdS b m 11 v (cs.map Cl.row)
theorem ownC_one {F : List Nat} {m : Mem} {v : Value} {cs : List Cl} (h : OwnC F m v cs) (x : Cl) (hl : cs.length ≤ 1000000) :
    ∃ v' m' F', appendE (m.push { cells := x.row, rw := true, spare := none, kin := [] }) 11 128 ZC v (.slice (some ⟨m.next, 0, none⟩) 1 1) = some (.val v' m') ∧ OwnC F' m' v' (cs ++ [x]) ∧ Fm (· ∈ F) m m' ∧ ∀ i ∈ F', i ∈ F ∨ m.next ≤ i := by
  obtain ⟨v', m', F', h1, h2, h3, h4⟩ := h.one (bytes := 128) (zero := ZC) (row := x.row) rfl (by omega) rfl (by rw [List.length_map]; omega) (by rw [List.length_map]; omega)
  refine ⟨v', m', F', h1, ?_, h3, h4⟩
  rw [OwnC, List.map_append]
  exact h2
theorem buildC {m : Mem} {k : ByteArray} {x y : Wr} : buildE m ZC [(0, 1), (1, 5), (6, 5)] [(0, .string k), (1, .agg ⟨x.row⟩), (2, .agg ⟨y.row⟩)] = some (.val (.agg ⟨(Cl.mk k x y).row⟩) m) := by kernel_rfl
theorem buildCS {m : Mem} {x : Cl} : buildSliceE m ZC 11 1 [(0, .agg ⟨x.row⟩)] = some (.val (.slice (some ⟨m.next, 0, none⟩) 1 1) (m.push { cells := x.row, rw := true, spare := none, kin := [] })) := by kernel_rfl
theorem eq36 {m : Mem} {v w : Wr} : binE Try.prog .eql 36 (.agg ⟨v.row⟩) (.agg ⟨w.row⟩) m = some (.val (.bool (sameW v w)) m) :=
  bin_aeql Try.underlying36 (by kernel_rfl) (by kernel_rfl) rfl rfl (eq_rowW Try.underlying36)
theorem buildK3 {m : Mem} {p q r : Option Addr} {n c n' c' n'' c'' : Nat} : buildSliceE m [.slice none 0 0] 1 3 [(0, .slice p n c), (1, .slice q n' c'), (2, .slice r n'' c'')] = some (.val (.slice (some ⟨m.next, 0, none⟩) 3 3) (m.push { cells := [.slice p n c, .slice q n' c', .slice r n'' c''], rw := true, spare := none, kin := [] })) := by kernel_rfl

/-- The keys of three. -/
theorem keys3 {b : Nat} {m : Mem} {p q s : Option Addr} {c c' c'' : Nat} {vs ws us : List Ent} (h : RdE b m (.slice p vs.length c) vs) (h' : RdE b m (.slice q ws.length c') ws) (h'' : RdE b m (.slice s us.length c'') us) (hs : SortE vs) (hs' : SortE ws) (hs'' : SortE us) (hl : vs.length ≤ 60) (hl' : ws.length ≤ 60) (hl'' : us.length ≤ 60) (hb : b ≤ m.next) :
    ∃ r m', Ca 30 [.slice (some ⟨m.next, 0, none⟩) 3 3] (m.push { cells := [.slice p vs.length c, .slice q ws.length c', .slice s us.length c''], rw := true, spare := none, kin := [] }) r m' ∧ RdK m'.next m' r (mrg (mrg (mrg [] vs) ws) us) ∧ Nx m m' := by
  obtain ⟨m1, hm1⟩ : ∃ m1, m.push { cells := [.slice p vs.length c, .slice q ws.length c', .slice s us.length c''], rw := true, spare := none, kin := [] } = m1 := ⟨_, rfl⟩
  have g1 : m1.get m.next = some { cells := [.slice p vs.length c, .slice q ws.length c', .slice s us.length c''], rw := true, spare := none, kin := [] } := by rw [← hm1, push_self]
  have f1 : Nx m m1 := hm1 ▸ .push
  have n1 : m1.next = m.next + 1 := by rw [← hm1]; simp
  have hal : allK [vs, ws, us] = keysE vs ++ (keysE ws ++ keysE us) := by simp [allK]
  rw [hm1]
  obtain ⟨r, m', hc, ks, h1, h2, h3, h4⟩ := keys_spec (b := m1.next) (vss := [vs, ws, us]) (vals := [.slice p vs.length c, .slice q ws.length c', .slice s us.length c'']) rfl (rdS_lit g1 (by omega)) (fun i v us hi hu => by
    match i with
    | 0 => simp at hi hu; subst hi hu; exact rd_up' (h.fr f1 hb (fun _ h => h.elim)) (by omega)
    | 1 => simp at hi hu; subst hi hu; exact rd_up' (h'.fr f1 hb (fun _ h => h.elim)) (by omega)
    | 2 => simp at hi hu; subst hi hu; exact rd_up' (h''.fr f1 hb (fun _ h => h.elim)) (by omega)
    | i + 3 => simp at hi) (Nat.le_refl _) (by rw [hal]; simp; omega) (by simp)
  have e : ks = mrg (mrg (mrg [] vs) ws) us := by
    obtain ⟨k1, k2⟩ := mrg_sorted [] vs .nil hs
    obtain ⟨k3, k4⟩ := mrg_sorted (mrg [] vs) ws k1 hs'
    obtain ⟨k5, k6⟩ := mrg_sorted (mrg (mrg [] vs) ws) us k3 hs''
    refine sorted_ext h3 k5 fun k => ?_
    rw [h4 k, k6 k, k4 k, k2 k, hal]
    simp [or_assoc]
  rw [e] at h1
  exact ⟨r, m', hc, h1, f1.comp h2 fun _ _ h => h⟩

def mW (a b : Option Wr) : Option Wr := match a with
  | none => none
  | some x => if b = some x then none else some x
def mC (k : ByteArray) (a b : Option Wr) : Option Cl := match a, b with
  | some x, some y => if x = y then none else some ⟨k, x, y⟩
  | _, _ => none
def keyL (vs ws us : List Ent) : List ByteArray := mrg (mrg (mrg [] vs) ws) us
def mergeW (vs ws us : List Ent) : List Wr := (keyL vs ws us).filterMap fun k => mW (turnE k vs ws) (turnE k vs us)
def mergeC (vs ws us : List Ent) : List Cl := (keyL vs ws us).filterMap fun k => mC k (turnE k vs ws) (turnE k vs us)
def okM (vs ws us : List Ent) : Bool := okE none vs && okE none ws && okE none us
theorem sameW_dec {x y : Wr} : sameW x y = decide (x = y) := by
  by_cases h : x = y
  · rw [decide_eq_true h]; exact sameW_iff.2 h
  · rw [decide_eq_false h]
    cases hs : sameW x y with
    | false => rfl
    | true => exact absurd (sameW_iff.1 hs) h

theorem merge_spec {b : Nat} {m : Mem} {v w z : Value} {vs ws us : List Ent} (h : RdE b m v vs) (h' : RdE b m w ws) (h'' : RdE b m z us) (hw : ∀ x ∈ vs, x.Wf) (hw' : ∀ x ∈ ws, x.Wf) (hw'' : ∀ x ∈ us, x.Wf) (hl : vs.length ≤ 60) (hl' : ws.length ≤ 60) (hl'' : us.length ≤ 60) (hb : b ≤ m.next) :
    ∃ r s m', Ca 15 [v, w, z] m (.tuple #[r, s, I (bif okM vs ws us then 0 else 1)]) m' ∧ RdW m'.next m' r (bif okM vs ws us then mergeW vs ws us else []) ∧ RdC m'.next m' s (bif okM vs ws us then mergeC vs ws us else []) ∧ CutB m'.next m' 5 r ∧ Nx m m' := by
  have key : Wc 15 [v, w, z] m fun r m' => ∃ u s, r = .tuple #[u, s, I (bif okM vs ws us then 0 else 1)] ∧ RdW m'.next m' u (bif okM vs ws us then mergeW vs ws us else []) ∧ RdC m'.next m' s (bif okM vs ws us then mergeC vs ws us else []) ∧ CutB m'.next m' 5 u ∧ Nx m m' := by
    refine call_go (F := _) rfl rfl fun Q hQ => ?_
    obtain ⟨m1, r1, f1⟩ := right h hw (by omega) hb
    obtain ⟨m2, q1, q2⟩ := right (h'.fr f1 hb (fun _ h => h.elim)) hw' (by omega) (Nat.le_trans hb f1.next)
    have f2 : Nx m m2 := f1.comp q2 fun _ _ h => h
    obtain ⟨m3, z1, z2⟩ := right (h''.fr f2 hb (fun _ h => h.elim)) hw'' (by omega) (Nat.le_trans hb f2.next)
    have f3 : Nx m m3 := f2.comp z2 fun _ _ h => h
    obtain ⟨p, c, rfl⟩ := rdE_slice h
    obtain ⟨p', c', rfl⟩ := rdE_slice h'
    obtain ⟨p'', c'', rfl⟩ := rdE_slice h''
    unfold okM at hQ
    cases e1 : okE none vs with
    | false =>
      rw [e1] at r1 hQ
      simp only [symA, go_opsd, symB, wantedX, X.put, X.look, Arg.ev, keepOf, restrict, evs, evO, initEnv, xres, tup, noTup, cls, quiet, Nat.reduceAdd, Nat.reduceEqDiff, ↓reduceIte, reduceCtorEq, goInt, exists_eq_left', eq_self, Int.reduceLT, Int.reduceLE, Int.reduceEq, Int.reduceNeg, Int.reduceAdd, Int.reduceSub, forall_const, ne_eq, undef, Nat.reducePow, Nat.reduceDiv, Nat.reduceMod, goR_call r1]
      exact hQ _ _ _ rfl ⟨_, _, rfl, .nil, .nil, .nil, f1⟩
    | true =>
    cases e2 : okE none ws with
    | false =>
      rw [e1] at r1 hQ
      rw [e2] at q1 hQ
      simp only [symA, go_opsd, symB, wantedX, X.put, X.look, Arg.ev, keepOf, restrict, evs, evO, initEnv, xres, tup, noTup, cls, quiet, Nat.reduceAdd, Nat.reduceEqDiff, ↓reduceIte, reduceCtorEq, goInt, exists_eq_left', eq_self, Int.reduceLT, Int.reduceLE, Int.reduceEq, Int.reduceNeg, Int.reduceAdd, Int.reduceSub, forall_const, ne_eq, undef, Nat.reducePow, Nat.reduceDiv, Nat.reduceMod, goR_call r1, goR_call q1]
      exact hQ _ _ _ rfl ⟨_, _, rfl, .nil, .nil, .nil, f2⟩
    | true =>
    cases e3 : okE none us with
    | false =>
      rw [e1] at r1 hQ
      rw [e2] at q1 hQ
      rw [e3] at z1 hQ
      simp only [symA, go_opsd, symB, wantedX, X.put, X.look, Arg.ev, keepOf, restrict, evs, evO, initEnv, xres, tup, noTup, cls, quiet, Nat.reduceAdd, Nat.reduceEqDiff, ↓reduceIte, reduceCtorEq, goInt, exists_eq_left', eq_self, Int.reduceLT, Int.reduceLE, Int.reduceEq, Int.reduceNeg, Int.reduceAdd, Int.reduceSub, forall_const, ne_eq, undef, Nat.reducePow, Nat.reduceDiv, Nat.reduceMod, goR_call r1, goR_call q1, goR_call z1]
      exact hQ _ _ _ rfl ⟨_, _, rfl, .nil, .nil, .nil, f3⟩
    | true =>
    rw [e1] at r1 hQ
    rw [e2] at q1 hQ
    rw [e3] at z1 hQ
    have hs := (okE_srt e1).1
    have hs' := (okE_srt e2).1
    have hs'' := (okE_srt e3).1
    obtain ⟨kv, m4, k1, k2, k3⟩ := keys3 (h.fr f3 hb (fun _ h => h.elim)) (h'.fr f3 hb (fun _ h => h.elim)) (h''.fr f3 hb (fun _ h => h.elim)) hs hs' hs'' hl hl' hl'' (Nat.le_trans hb f3.next)
    have f4 : Nx m m4 := f3.comp k3 fun _ _ h => h
    have hk1 := mrg_length [] vs
    have hk2 := mrg_length (mrg [] vs) ws
    have hk3 := mrg_length (mrg (mrg [] vs) ws) us
    obtain ⟨ks, hks⟩ : ∃ ks, mrg (mrg (mrg [] vs) ws) us = ks := ⟨_, rfl⟩
    have hdW : mergeW vs ws us = ks.filterMap fun k => mW (turnE k vs ws) (turnE k vs us) := by unfold mergeW keyL; rw [hks]
    have hdC : mergeC vs ws us = ks.filterMap fun k => mC k (turnE k vs ws) (turnE k vs us) := by unfold mergeC keyL; rw [hks]
    rw [hks] at k2 hk3
    have hkl : ks.length ≤ 200 := by simp at hk1; omega
    obtain ⟨pk, ck, rfl⟩ := rdK_slice k2
    have hn4 := f4.next
    simp only [symA, go_opsd, symB, wantedX, X.put, X.look, Arg.ev, keepOf, restrict, evs, evO, initEnv, xres, tup, noTup, cls, quiet, Nat.reduceAdd, Nat.reduceEqDiff, ↓reduceIte, reduceCtorEq, goInt, exists_eq_left', eq_self, Int.reduceLT, Int.reduceLE, Int.reduceEq, Int.reduceNeg, Int.reduceAdd, Int.reduceSub, forall_const, ne_eq, undef, Nat.reducePow, Nat.reduceDiv, Nat.reduceMod, goR_call r1, goR_call q1, goR_call z1, buildK3, goR_call k1]
    refine loop_go (fun q e m' => ∃ (i : Nat) (v1 v2 : Value) (F G : List Nat), i ≤ ks.length ∧ q = ks.length - i ∧ Nx m4 m' ∧ OwnW F m' v1 ((ks.take i).filterMap fun k => mW (turnE k vs ws) (turnE k vs us)) ∧ OwnC G m' v2 ((ks.take i).filterMap fun k => mC k (turnE k vs ws) (turnE k vs us)) ∧ (∀ f ∈ F, m4.next ≤ f) ∧ (∀ f ∈ G, m4.next ≤ f) ∧ (∀ f ∈ F, f ∉ G) ∧
      e = [(0, .slice p vs.length c), (1, .slice p' ws.length c'), (2, .slice p'' us.length c''), (9, v1), (10, v2), (34, .slice pk ks.length ck), (35, I ks.length), (36, I i)]) ks.length ⟨0, _, _, [], [], by omega, by omega, .refl, .nil, .nil, by simp, by simp, by simp, rfl⟩ ?_
    rintro q e m5 N1 B1 hN1 hB1 ⟨i, v1, v2, F1, G1, hi, rfl, f5, o1, oc1, l1, lc1, dj, rfl⟩
    by_cases hlt : i < ks.length
    · have hlt' : (i : Int) < (ks.length : Int) := by omega
      obtain ⟨k, hk⟩ : ∃ k, ks[i]? = some k := ⟨_, List.getElem?_eq_getElem hlt⟩
      obtain ⟨ad, cc, o, hv, hg, hc⟩ := rdK_at (k2.fr f5 (Nat.le_refl _) (fun _ h => h.elim)) hk
      cases hv
      have f05 : Nx m m5 := f4.comp f5 fun _ _ h => h
      have w1 : IntKind.i64.wrap ((i : Int) + 1) = ((i + 1 : Nat) : Int) := by rw [wrap_i64 (by omega) (by omega)]; omega
      have hst := fm_take (f := fun k => mW (turnE k vs ws) (turnE k vs us)) hk
      have hstC := fm_take (f := fun k => mC k (turnE k vs ws) (turnE k vs us)) hk
      have hle := fm_le (f := fun k => mW (turnE k vs ws) (turnE k vs us)) (l := ks) i
      have hleC := fm_le (f := fun k => mC k (turnE k vs ws) (turnE k vs us)) (l := ks) i
      obtain ⟨m6, t1, t2⟩ := turn_spec (k := k) (h.fr f05 hb (fun _ h => h.elim)) (h'.fr f05 hb (fun _ h => h.elim)) hs hs' (by omega) (by omega) (Nat.le_trans hb f05.next)
      unfold tupW at t1
      generalize turnE k vs ws = A at t1 hst hstC
      obtain ⟨m7, s1, s2, s3, s4⟩ := new_store (m := m6) (z := ZW) (row := (A.getD zeroW).row) (n := 5) rfl rfl (by omega)
      have f57 : Nx m5 m7 := t2.comp s3 fun _ _ h => h
      have f07 : Nx m m7 := f05.comp f57 fun _ _ h => h
      obtain ⟨m8, t3, t4⟩ := turn_spec (k := k) (h.fr f07 hb (fun _ h => h.elim)) (h''.fr f07 hb (fun _ h => h.elim)) hs hs'' (by omega) (by omega) (Nat.le_trans hb f07.next)
      unfold tupW at t3
      generalize turnE k vs us = C at t3 hst hstC
      obtain ⟨m9, u1, u2, u3, u4⟩ := new_store (m := m8) (z := ZW) (row := (C.getD zeroW).row) (n := 5) rfl rfl (by omega)
      have f79 : Nx m7 m9 := t4.comp u3 fun _ _ h => h
      have f59 : Nx m5 m9 := f57.comp f79 fun _ _ h => h
      have f9 : Nx m4 m9 := f5.comp f59 fun _ _ h => h
      have n9 := f9.next
      have nt2 := t2.next
      have ga := f79.get (by omega) (fun h => h) s2
      have la := ld_wr ga
      have lb := ld_wr u2
      have o9 := o1.fr f59 (fun _ _ h => h)
      have oc9 := oc1.fr f59 (fun _ _ h => h)
      cases A with
      | none =>
        have hstC' : mC k none C = none := rfl
        rw [show mW none C = none from rfl] at hst
        rw [hstC'] at hstC
        simp only [Option.getD_none, Option.isSome_none] at t1 s1
        simp only [symA, go_opsd, symB, wantedX, X.put, X.look, Arg.ev, keepOf, restrict, evs, evO, initEnv, xres, tup, noTup, cls, quiet, Nat.reduceAdd, Nat.reduceEqDiff, ↓reduceIte, reduceCtorEq, goInt, exists_eq_left', eq_self, Int.reduceLT, Int.reduceLE, Int.reduceEq, Int.reduceNeg, Int.reduceAdd, Int.reduceSub, forall_const, ne_eq, undef, Nat.reducePow, Nat.reduceDiv, Nat.reduceMod, hlt', hlt, hg, hc, goR_call t1, s1, goR_call t3, u1, w1]
        exact hN1 _ _ (ks.length - (i + 1)) (by omega) ⟨i + 1, v1, v2, F1, G1, by omega, rfl, f9, by rw [hst]; simpa using o9, by rw [hstC]; simpa using oc9, l1, lc1, dj, rfl⟩
      | some x =>
        simp only [Option.getD_some, Option.isSome_some] at t1 s1 la
        -- its write is taken
        have put : ∀ (m' : Mem), Fm (· ∈ G1) m9 m' → ∃ v' m'' F', appendE (m'.push { cells := x.row, rw := true, spare := none, kin := [] }) 5 56 ZW v1 (.slice (some ⟨m'.next, 0, none⟩) 1 1) = some (.val v' m'') ∧ OwnW F' m'' v' (((ks.take i).filterMap fun k => mW (turnE k vs ws) (turnE k vs us)) ++ [x]) ∧ Fm (· ∈ F1) m' m'' ∧ ∀ i ∈ F', i ∈ F1 ∨ m'.next ≤ i := fun m' hf =>
          ownW_one (o9.fr hf dj) x (by omega)
        cases C with
        | none =>
          rw [show mW (some x) none = some x from by simp [mW]] at hst
          rw [show mC k (some x) none = none from rfl] at hstC
          simp only [Option.getD_none, Option.isSome_none] at t3 u1
          obtain ⟨v3, m10, F3, y1, y2, y3, y4⟩ := put m9 .refl
          simp only [symA, go_opsd, symB, wantedX, X.put, X.look, Arg.ev, keepOf, restrict, evs, evO, initEnv, xres, tup, noTup, cls, quiet, Nat.reduceAdd, Nat.reduceEqDiff, ↓reduceIte, reduceCtorEq, goInt, exists_eq_left', eq_self, Int.reduceLT, Int.reduceLE, Int.reduceEq, Int.reduceNeg, Int.reduceAdd, Int.reduceSub, forall_const, ne_eq, undef, Nat.reducePow, Nat.reduceDiv, Nat.reduceMod, hlt', hlt, hg, hc, goR_call t1, s1, goR_call t3, u1, la, buildS, y1, w1]
          refine hN1 _ _ (ks.length - (i + 1)) (by omega) ⟨i + 1, v3, v2, F3, G1, by omega, rfl, f9.comp y3 (fun y hy hF => by have := l1 y hF; omega), by rw [hst]; exact y2, by rw [hstC]; simpa using oc9.fr y3 (fun y hy hF => dj y hF hy), fun y hy => ?_, lc1, fun y hy hG => ?_, rfl⟩
          · rcases y4 y hy with h | h
            · exact l1 y h
            · omega
          · rcases y4 y hy with h | h
            · exact dj y h hG
            · have := oc9.lt y hG; omega
        | some y =>
          simp only [Option.getD_some, Option.isSome_some] at t3 u1 lb
          by_cases hxy : x = y
          · subst hxy
            rw [show mW (some x) (some x) = none from by simp [mW]] at hst
            rw [show mC k (some x) (some x) = none from by simp [mC]] at hstC
            have he : sameW x x = true := sameW_iff.2 rfl
            simp only [symA, go_opsd, symB, wantedX, X.put, X.look, Arg.ev, keepOf, restrict, evs, evO, initEnv, xres, tup, noTup, cls, quiet, Nat.reduceAdd, Nat.reduceEqDiff, ↓reduceIte, reduceCtorEq, goInt, exists_eq_left', eq_self, Int.reduceLT, Int.reduceLE, Int.reduceEq, Int.reduceNeg, Int.reduceAdd, Int.reduceSub, forall_const, ne_eq, undef, Nat.reducePow, Nat.reduceDiv, Nat.reduceMod, hlt', hlt, hg, hc, goR_call t1, s1, goR_call t3, u1, la, lb, eq36, he, w1]
            exact hN1 _ _ (ks.length - (i + 1)) (by omega) ⟨i + 1, v1, v2, F1, G1, by omega, rfl, f9, by rw [hst]; simpa using o9, by rw [hstC]; simpa using oc9, l1, lc1, dj, rfl⟩
          · have hyx : y ≠ x := Ne.symm hxy
            rw [show mW (some x) (some y) = some x from by simp [mW, hyx]] at hst
            rw [show mC k (some x) (some y) = some ⟨k, x, y⟩ from by simp [mC, hxy]] at hstC
            have he : sameW x y = false := by rw [sameW_dec, decide_eq_false hxy]
            obtain ⟨v4, m10, G3, x1, x2, x3, x4⟩ := ownC_one oc9 ⟨k, x, y⟩ (by omega)
            have n10 := x3.next
            have f10 : Nx m4 m10 := f9.comp x3 fun y hy hG => by have := lc1 y hG; omega
            have f5a : Fm (· ∈ G1) m5 m10 := (f59.mono fun _ _ h => h.elim).trans x3
            have hga : m10.get m6.next = some { cells := x.row, rw := true, spare := none, kin := [] } := x3.get (by have := f79.next; have := s3.next; omega) (fun hG => by have := oc1.lt _ hG; have := f5.next; omega) ga
            have la2 := ld_wr hga
            obtain ⟨v3, m11, F3, y1, y2, y3, y4⟩ := put m10 x3
            simp only [symA, go_opsd, symB, wantedX, X.put, X.look, Arg.ev, keepOf, restrict, evs, evO, initEnv, xres, tup, noTup, cls, quiet, Nat.reduceAdd, Nat.reduceEqDiff, ↓reduceIte, reduceCtorEq, goInt, exists_eq_left', eq_self, Int.reduceLT, Int.reduceLE, Int.reduceEq, Int.reduceNeg, Int.reduceAdd, Int.reduceSub, forall_const, ne_eq, undef, Nat.reducePow, Nat.reduceDiv, Nat.reduceMod, hlt', hlt, hg, hc, goR_call t1, s1, goR_call t3, u1, la, lb, eq36, he, buildC, buildCS, x1, la2, buildS, y1, w1]
            have dj2 : ∀ f ∈ F1, f ∉ G3 := fun f hf hG => by
              rcases x4 f hG with h | h
              · exact dj f hf h
              · have := o9.lt f hf; omega
            refine hN1 _ _ (ks.length - (i + 1)) (by omega) ⟨i + 1, v3, v4, F3, G3, by omega, rfl, f10.comp y3 (fun y hy hF => by have := l1 y hF; omega), by rw [hst]; exact y2, by rw [hstC]; exact x2.fr y3 (fun y hy hF => dj2 y hF hy), fun y hy => ?_, fun y hy => ?_, fun y hy hG => ?_, rfl⟩
            · rcases y4 y hy with h | h
              · exact l1 y h
              · omega
            · rcases x4 y hy with h | h
              · exact lc1 y h
              · omega
            · rcases y4 y hy with h | h
              · exact dj2 y h hG
              · have := x2.lt y hG; omega
    · have hlt' : ¬ (i : Int) < (ks.length : Int) := by omega
      have hall : ks.take i = ks := List.take_of_length_le (by omega)
      rw [hall] at o1 oc1
      simp only [symA, go_opsd, symB, wantedX, X.put, X.look, Arg.ev, keepOf, restrict, evs, evO, initEnv, xres, tup, noTup, cls, quiet, Nat.reduceAdd, Nat.reduceEqDiff, ↓reduceIte, reduceCtorEq, goInt, exists_eq_left', eq_self, Int.reduceLT, Int.reduceLE, Int.reduceEq, Int.reduceNeg, Int.reduceAdd, Int.reduceSub, forall_const, ne_eq, undef, Nat.reducePow, Nat.reduceDiv, Nat.reduceMod, hlt']
      refine hB1 _ _ _ ?_
      simp only [symA, go_opsd, symB, wantedX, X.put, X.look, Arg.ev, keepOf, restrict, evs, evO, initEnv, xres, tup, noTup, cls, quiet, Nat.reduceAdd, Nat.reduceEqDiff, ↓reduceIte, reduceCtorEq, goInt, exists_eq_left', eq_self, Int.reduceLT, Int.reduceLE, Int.reduceEq, Int.reduceNeg, Int.reduceAdd, Int.reduceSub, forall_const, ne_eq, undef, Nat.reducePow, Nat.reduceDiv, Nat.reduceMod]
      exact hQ _ _ _ rfl ⟨_, _, rfl, by simp only [Bool.and_self, cond_true]; rw [hdW]; exact o1.rd (by omega), by simp only [Bool.and_self, cond_true]; rw [hdC]; exact oc1.rd (by omega), o1.cutB, f4.comp f5 fun _ _ h => h⟩
  obtain ⟨r, m', hc, u, s, rfl, h1, h2, h3, h4⟩ := key
  exact ⟨u, s, m', hc, h1, h2, h3, h4⟩
end Go.Proofs.Ytlldfkapaeidoaa

namespace Go.Proofs.Ytlldfkapaeidoaa
open Go X
set_option maxRecDepth 100000
attribute [local irreducible] X.Go' X.GoO X.GoR X.GoG X.GoC X.GoF X.GoFV X.GoFG X.Ex X.GoD X.GoDV X.GoDG
set_option linter.unusedVariables false
set_option linter.unusedSimpArgs false

theorem sameW_spec {b b' : Nat} {m : Mem} {v w : Value} {vs ws : List Wr} (h : RdW b m v vs) (h' : RdW b' m w ws) (hl : vs.length ≤ 4611686018427387903) : Ca 16 [v, w] m (.bool (decide (vs = ws))) m := by
  refine callX_of (call_go (F := _) rfl rfl fun Q hQ => ?_)
  obtain ⟨p, c, rfl⟩ := rdW_slice h
  obtain ⟨p', c', rfl⟩ := rdW_slice h'
  by_cases h0 : (vs.length : Int) = (ws.length : Int)
  · have h0' : vs.length = ws.length := by omega
    simp only [symA, go_opsd, symB, wantedX, X.put, X.look, Arg.ev, keepOf, restrict, evs, evO, initEnv, xres, tup, noTup, cls, quiet, Nat.reduceAdd, Nat.reduceEqDiff, ↓reduceIte, reduceCtorEq, goInt, exists_eq_left', eq_self, Int.reduceLT, Int.reduceLE, Int.reduceEq, Int.reduceNeg, Int.reduceAdd, Int.reduceSub, forall_const, ne_eq, undef, Nat.reducePow, Nat.reduceDiv, Nat.reduceMod, h0]
    refine loop_go (fun j e m' => m' = m ∧ ∃ i : Nat, i ≤ vs.length ∧ j = vs.length - i ∧ vs.take i = ws.take i ∧ e = [(0, .slice p vs.length c), (1, .slice p' ws.length c'), (5, I i)]) vs.length ⟨rfl, 0, by omega, rfl, rfl, rfl⟩ ?_
    rintro j e m' N' B' hN hB ⟨rfl, i, hi, rfl, htk, rfl⟩
    by_cases hlt : i < vs.length
    · have hlt' : (i : Int) < (vs.length : Int) := by omega
      have hlt2 : i < ws.length := by omega
      obtain ⟨x, hx⟩ : ∃ x, vs[i]? = some x := ⟨_, List.getElem?_eq_getElem hlt⟩
      obtain ⟨y, hy⟩ : ∃ y, ws[i]? = some y := ⟨_, List.getElem?_eq_getElem hlt2⟩
      obtain ⟨a, d, hv, _, l5, _⟩ := rdW_at h hx
      cases hv
      obtain ⟨a', d', hv', _, k5, _⟩ := rdW_at h' hy
      cases hv'
      have w1 : IntKind.i64.wrap ((i : Int) + 1) = ((i + 1 : Nat) : Int) := by rw [wrap_i64 (by omega) (by omega)]; omega
      cases hs : sameW x y with
      | false =>
        have n1 := ne36 (m := m') (v := x) (w := y)
        rw [hs] at n1
        have e : decide (vs = ws) = false := decide_eq_false fun he => by
          subst he
          rw [hx] at hy
          cases hy
          have := sameW_iff.2 (rfl : x = x)
          rw [hs] at this
          cases this
        rw [e] at hQ
        simp only [symA, go_opsd, symB, wantedX, X.put, X.look, Arg.ev, keepOf, restrict, evs, evO, initEnv, xres, tup, noTup, cls, quiet, Nat.reduceAdd, Nat.reduceEqDiff, ↓reduceIte, reduceCtorEq, goInt, exists_eq_left', eq_self, Int.reduceLT, Int.reduceLE, Int.reduceEq, Int.reduceNeg, Int.reduceAdd, Int.reduceSub, forall_const, ne_eq, undef, Nat.reducePow, Nat.reduceDiv, Nat.reduceMod, hlt, hlt', hlt2, l5, k5, n1]
        exact hQ _ _ _ rfl ⟨rfl, rfl⟩
      | true =>
        have n1 := ne36 (m := m') (v := x) (w := y)
        rw [hs] at n1
        have hxy := sameW_iff.1 hs
        simp only [symA, go_opsd, symB, wantedX, X.put, X.look, Arg.ev, keepOf, restrict, evs, evO, initEnv, xres, tup, noTup, cls, quiet, Nat.reduceAdd, Nat.reduceEqDiff, ↓reduceIte, reduceCtorEq, goInt, exists_eq_left', eq_self, Int.reduceLT, Int.reduceLE, Int.reduceEq, Int.reduceNeg, Int.reduceAdd, Int.reduceSub, forall_const, ne_eq, undef, Nat.reducePow, Nat.reduceDiv, Nat.reduceMod, hlt, hlt', hlt2, l5, k5, n1, w1]
        exact hN _ _ (vs.length - (i + 1)) (by omega) ⟨rfl, i + 1, by omega, rfl, by rw [List.take_add_one, List.take_add_one, htk, hx, hy, hxy], rfl⟩
    · have hlt' : ¬ (i : Int) < (vs.length : Int) := by omega
      rw [List.take_of_length_le (by omega), List.take_of_length_le (by omega)] at htk
      have e : decide (vs = ws) = true := decide_eq_true htk
      rw [e] at hQ
      simp only [symA, go_opsd, symB, wantedX, X.put, X.look, Arg.ev, keepOf, restrict, evs, evO, initEnv, xres, tup, noTup, cls, quiet, Nat.reduceAdd, Nat.reduceEqDiff, ↓reduceIte, reduceCtorEq, goInt, exists_eq_left', eq_self, Int.reduceLT, Int.reduceLE, Int.reduceEq, Int.reduceNeg, Int.reduceAdd, Int.reduceSub, forall_const, ne_eq, undef, Nat.reducePow, Nat.reduceDiv, Nat.reduceMod, hlt']
      refine hB _ _ _ ?_
      simp only [symA, go_opsd, symB, wantedX, X.put, X.look, Arg.ev, keepOf, restrict, evs, evO, initEnv, xres, tup, noTup, cls, quiet, Nat.reduceAdd, Nat.reduceEqDiff, ↓reduceIte, reduceCtorEq, goInt, exists_eq_left', eq_self, Int.reduceLT, Int.reduceLE, Int.reduceEq, Int.reduceNeg, Int.reduceAdd, Int.reduceSub, forall_const, ne_eq, undef, Nat.reducePow, Nat.reduceDiv, Nat.reduceMod]
      exact hQ _ _ _ rfl ⟨rfl, rfl⟩
  · have e : decide (vs = ws) = false := decide_eq_false fun he => h0 (by rw [he])
    rw [e] at hQ
    simp only [symA, go_opsd, symB, wantedX, X.put, X.look, Arg.ev, keepOf, restrict, evs, evO, initEnv, xres, tup, noTup, cls, quiet, Nat.reduceAdd, Nat.reduceEqDiff, ↓reduceIte, reduceCtorEq, goInt, exists_eq_left', eq_self, Int.reduceLT, Int.reduceLE, Int.reduceEq, Int.reduceNeg, Int.reduceAdd, Int.reduceSub, forall_const, ne_eq, undef, Nat.reducePow, Nat.reduceDiv, Nat.reduceMod, h0]
    exact hQ _ _ _ rfl ⟨rfl, rfl⟩

/-! ## Merged with the base -/
theorem sameV_self {x : Ent} : sameV x x = true := by simp [sameV]
theorem turn_self {k : ByteArray} {vs : List Ent} : turnE k vs vs = none := by
  unfold turnE turnB
  rw [sameV_self]
  cases (lookE k vs).isSome <;> simp
theorem mW_none {a : Option Wr} : mW a none = a := by cases a <;> simp [mW]
theorem mW_self {a : Option Wr} : mW a a = none := by cases a <;> simp [mW]
theorem mC_none {k : ByteArray} {a : Option Wr} : mC k a none = none := by cases a <;> rfl
theorem mC_self {k : ByteArray} {a : Option Wr} : mC k a a = none := by cases a <;> simp [mC]
theorem fm_none {α β : Type} : ∀ {l : List α} {f : α → Option β}, (∀ x, f x = none) → l.filterMap f = []
  | [], f, h => rfl
  | x :: l, f, h => by rw [List.filterMap_cons, h x]; exact fm_none h
theorem keyL_base {vs ws : List Ent} (hs : SortE vs) (hs' : SortE ws) : keyL vs ws vs = mrg (mrg [] vs) ws := by
  obtain ⟨k1, k2⟩ := mrg_sorted [] vs .nil hs
  obtain ⟨k3, k4⟩ := mrg_sorted (mrg [] vs) ws k1 hs'
  obtain ⟨k5, k6⟩ := mrg_sorted (mrg (mrg [] vs) ws) vs k3 hs
  unfold keyL
  refine sorted_ext k5 k3 fun k => ?_
  rw [k6 k, k4 k, k2 k]
  constructor
  · rintro (h | h)
    · exact h
    · exact .inl (.inr h)
  · exact .inl
theorem merge_base {vs ws : List Ent} (hs : SortE vs) (hs' : SortE ws) : mergeW vs ws vs = docW vs ws ∧ mergeC vs ws vs = [] := by
  unfold mergeW mergeC docW
  rw [keyL_base hs hs']
  refine ⟨?_, fm_none fun k => ?_⟩
  · congr 1
    funext k
    rw [turn_self, mW_none]
  · rw [turn_self, mC_none]
theorem merge_same {vs ws : List Ent} : mergeW vs ws ws = [] ∧ mergeC vs ws ws = [] := ⟨fm_none fun k => mW_self, fm_none fun k => mC_self⟩
end Go.Proofs.Ytlldfkapaeidoaa
