/-
  Own work. The way from a label to another one, and the document's May. The document's May; labels as arguments.
-/
import Derived.Test.YtfjeccaffenngaaH4
import Derived.Test.YtfjeccaffenngaaGA
namespace Go.Proofs.Ytfjeccaffenngaa
open Go X
set_option maxRecDepth 100000
set_option linter.unusedVariables false
set_option linter.unusedSimpArgs false

abbrev rowQ (k : Int) (l : Value) (g : Int) : List Value := [I k, I 0, l, U g, .bool false, I 0, .string .empty, .bool false, .string .empty, U 0, .string .empty, .string .empty, I 0, I 0, .slice none 0 0]
theorem own_mem {size : Nat} {F : List Nat} {m m' : Mem} {v : Value} {rows : List (List Value)} {row : List Value} (h : Own3 size F m v rows) (hs : 0 < size) (hr : row.length = size) {id : Nat} (hid : m.next = id) (hm : m.push { cells := row, rw := true, spare := none, kin := [] } = m') (hb : (rows.length + 1) * 184 ≤ 140737488355328) {zero : List Value} (hz : zero.length = size) :
    ∃ v' m3 F', appendE m' size 184 zero v (.slice (some ⟨id, 0, none⟩) 1 1) = some (.val v' m3) ∧ Own3 size F' m3 v' (rows ++ [row]) ∧ Fm (· ∈ F) m m3 ∧ ∀ i ∈ F', i ∈ F ∨ m.next ≤ i := by
  subst hid
  have f2 : Nx m m' := hm ▸ .push
  have g2 : m'.get m.next = some { cells := row, rw := true, spare := none, kin := [] } := by rw [← hm, push_self]
  have hn2 : m'.next = m.next + 1 := by rw [← hm]; simp
  obtain ⟨v', m3, F', a1, a2, a3, a4, a5⟩ := (h.fr f2 (fun _ _ h => h)).append (bytes := 184) (zero := zero) (new := row) (vx := .slice (some ⟨m.next, 0, none⟩) 1 1) hz hs rfl (by simp [xfirst, xload, g2, ← hr]) hr hb (by omega)
  exact ⟨v', m3, F', a1, a2, (f2.mono fun _ _ h => h.elim).trans a3, fun i hi => by
    rcases a5 i hi with h | h
    · exact .inl h
    · exact .inr (by omega)⟩

section
variable {b t r : Nat} {m : Mem} {T : Tb} {who : Int} {va vb : Value} {us ws : List Int}
theorem way_bad (h : TabAt m t r T) (ha : RdU b m va us) (hb : RdU b m vb ws) (hq : (oneB T who && (rightL us && rightL ws)) = false) : Ca 13 [Pt t, I who, va, vb] m (.tuple #[.slice none 0 0, I 1]) m := by
  refine callX_of (call_go (F := _) rfl rfl fun Q hQ => ?_)
  have k1 := fone_spec (who := who) h
  have k2 := right_any ha
  have k3 := right_any hb
  cases h1 : oneB T who <;> cases h2 : rightL us <;> cases h3 : rightL ws
  all_goals first
    | (exfalso; rw [h1, h2, h3] at hq; cases hq; done)
    | (rw [h1] at k1; rw [h2] at k2; rw [h3] at k3; simp only [symA, go_opsd, symB, wantedX, X.put, X.look, Arg.ev, keepOf, restrict, evs, evO, initEnv, xres, tup, noTup, cls, quiet, Nat.reduceAdd, Nat.reduceEqDiff, ↓reduceIte, reduceCtorEq, goInt, exists_eq_left', eq_self, Int.reduceLT, Int.reduceLE, Int.reduceEq, Int.reduceNeg, Int.reduceAdd, Int.reduceSub, forall_const, ne_eq, undef, Nat.reducePow, Nat.reduceDiv, Nat.reduceMod, goR_call k1, goR_call k2, goR_call k3]; exact hQ _ _ _ rfl ⟨rfl, rfl⟩)
theorem way_none (h : TabAt m t r T) (hT : T.Wf) (ha : RdU b m va us) (hb : RdU b m vb ws) (hm : b ≤ m.next) (h1 : oneB T who = true) (h2 : rightL us = true) (h3 : rightL ws = true) (hc : comesT T who us ws = false) : ∃ m', Ca 13 [Pt t, I who, va, vb] m (.tuple #[.slice none 0 0, I 7]) m' ∧ Nx m m' := by
  have l2 := right_len h2
  have l3 := right_len h3
  obtain ⟨m', k4, f4⟩ := comes_spec (who := who) h hT ha hb hm (by omega) (by omega)
  refine ⟨m', callX_of (call_go (F := _) rfl rfl fun Q hQ => ?_), f4⟩
  have k1 := fone_spec (who := who) h
  have k2 := right_any ha
  have k3 := right_any hb
  rw [h1] at k1
  rw [h2] at k2
  rw [h3] at k3
  rw [hc] at k4
  simp only [symA, go_opsd, symB, wantedX, X.put, X.look, Arg.ev, keepOf, restrict, evs, evO, initEnv, xres, tup, noTup, cls, quiet, Nat.reduceAdd, Nat.reduceEqDiff, ↓reduceIte, reduceCtorEq, goInt, exists_eq_left', eq_self, Int.reduceLT, Int.reduceLE, Int.reduceEq, Int.reduceNeg, Int.reduceAdd, Int.reduceSub, forall_const, ne_eq, undef, Nat.reducePow, Nat.reduceDiv, Nat.reduceMod, goR_call k1, goR_call k2, goR_call k3, goR_call k4]
  exact hQ _ _ _ rfl ⟨rfl, rfl⟩
theorem way_spec (h : TabAt m t r T) (hT : T.Wf) (ha : RdU b m va us) (hb : RdU b m vb ws) (hm : b ≤ m.next) (h1 : oneB T who = true) (h2 : rightL us = true) (h3 : rightL ws = true) (hc : comesT T who us ws = true) :
    Wc 13 [Pt t, I who, va, vb] m fun rr m' => Nx m m' ∧ ∃ p c, rr = .tuple #[.slice p ((lessL us ws).length + (lessL ws us).length) c, I 0] := by
  have l2 := right_len h2
  have l3 := right_len h3
  have hless : ∀ a b : List Int, a.length ≤ 6 → (lessL a b).length ≤ 6 := fun a b hl => by
    unfold lessL
    cases (rightL a && rightL b) with
    | false => simp
    | true => exact Nat.le_trans (List.length_filter_le _ _) hl
  have n1 := hless us ws l2
  have n2 := hless ws us l3
  obtain ⟨m1, k4, f4⟩ := comes_spec (who := who) h hT ha hb hm (by omega) (by omega)
  have hn4 := f4.next
  obtain ⟨vl, m2, k5, hl, f5⟩ := less_spec (ha.fr f4 hm (fun _ h => h.elim)) (hb.fr f4 hm (fun _ h => h.elim)) (by omega) (by omega) (by omega)
  obtain ⟨pl, cl, rfl⟩ := rdu_slice hl
  have hn5 := f5.next
  refine call_go (F := _) rfl rfl fun Q hQ => ?_
  have k1 := fone_spec (who := who) h
  have k2 := right_any ha
  have k3 := right_any hb
  rw [h1] at k1
  rw [h2] at k2
  rw [h3] at k3
  rw [hc] at k4
  obtain ⟨A, hA⟩ : ∃ A, lessL us ws = A := ⟨_, rfl⟩
  obtain ⟨C, hC⟩ : ∃ C, lessL ws us = C := ⟨_, rfl⟩
  rw [hA] at hl k5 n1 hQ
  rw [hC] at n2 hQ
  simp only [symA, go_opsd, symB, wantedX, X.put, X.look, Arg.ev, keepOf, restrict, evs, evO, initEnv, xres, tup, noTup, cls, quiet, Nat.reduceAdd, Nat.reduceEqDiff, ↓reduceIte, reduceCtorEq, goInt, exists_eq_left', eq_self, Int.reduceLT, Int.reduceLE, Int.reduceEq, Int.reduceNeg, Int.reduceAdd, Int.reduceSub, forall_const, ne_eq, undef, Nat.reducePow, Nat.reduceDiv, Nat.reduceMod, goR_call k1, goR_call k2, goR_call k3, goR_call k4, hA, goR_call k5]
  refine loop_go (fun j e m' => Nx m2 m' ∧ ∃ (k : Nat) (F : List Nat) (v2 : Value) (rows : List (List Value)), k ≤ A.length ∧ j = A.length - k ∧ Own3 15 F m' v2 rows ∧ rows.length = k ∧ (∀ z ∈ F, m2.next ≤ z) ∧
    e = [(2, va), (3, vb), (10, v2), (42, .slice pl A.length cl), (43, I A.length), (44, I k)]) A.length ⟨.refl, 0, [], _, [], by omega, rfl, .inl .nil, rfl, by simp, rfl⟩ ?_
  rintro j e m3 N' B' hN hB' ⟨f3, k, F, v2, rows, hk, rfl, hO, hrl, hF, rfl⟩
  have hn3 := f3.next
  by_cases hlt : k < A.length
  · have hlt' : (k : Int) < (A.length : Int) := by omega
    have wk : IntKind.i64.wrap ((k : Int) + 1) = ((k + 1 : Nat) : Int) := by rw [wrap_i64 (by omega) (by omega)]; omega
    obtain ⟨g, hg⟩ : ∃ g, A[k]? = some g := ⟨_, List.getElem?_eq_getElem hlt⟩
    obtain ⟨a, c', o, hva, ho, hcc⟩ := rdu_at (hl.fr f3 (by omega) (fun _ h => h.elim)) hg
    cases hva
    obtain ⟨m4, hm4⟩ : ∃ m4, m3.push { cells := rowQ 4 (.slice none 0 0) g, rw := true, spare := none, kin := [] } = m4 := ⟨_, rfl⟩
    have bu : ∀ m : Mem, buildE m [I 0, I 0, .slice none 0 0, U 0, .bool false, I 0, .string .empty, .bool false, .string .empty, U 0, .string .empty, .string .empty, I 0, I 0, .slice none 0 0] [(0, 1), (1, 1), (2, 1), (3, 1), (4, 1), (5, 1), (6, 1), (7, 3), (10, 3), (13, 1), (14, 1)] [(0, I 4), (3, U g)] = some (.val (.agg ⟨rowQ 4 (.slice none 0 0) g⟩) m) := fun m => by kernel_rfl
    have bs : buildSliceE m3 [I 0, I 0, .slice none 0 0, U 0, .bool false, I 0, .string .empty, .bool false, .string .empty, U 0, .string .empty, .string .empty, I 0, I 0, .slice none 0 0] 15 1 [(0, .agg ⟨rowQ 4 (.slice none 0 0) g⟩)] = some (.val (.slice (some ⟨m3.next, 0, none⟩) 1 1) m4) := by rw [← hm4]; kernel_rfl
    obtain ⟨v', m5, F', q1, q2, q3, q4⟩ := own_mem hO (by omega) rfl rfl hm4 (by omega) (zero := [I 0, I 0, .slice none 0 0, U 0, .bool false, I 0, .string .empty, .bool false, .string .empty, U 0, .string .empty, .string .empty, I 0, I 0, .slice none 0 0]) rfl
    simp only [symA, go_opsd, symB, wantedX, X.put, X.look, Arg.ev, keepOf, restrict, evs, evO, initEnv, xres, tup, noTup, cls, quiet, Nat.reduceAdd, Nat.reduceEqDiff, ↓reduceIte, reduceCtorEq, goInt, exists_eq_left', eq_self, Int.reduceLT, Int.reduceLE, Int.reduceEq, Int.reduceNeg, Int.reduceAdd, Int.reduceSub, forall_const, ne_eq, undef, Nat.reducePow, Nat.reduceDiv, Nat.reduceMod, hlt, hlt', ho, hcc, bu, bs, q1, wk]
    refine hN _ _ (A.length - (k + 1)) (by omega) ⟨f3.comp q3 (fun z hz h => by have := hF z h; omega), k + 1, F', v', _, by omega, rfl, q2, by simp; omega, fun z hz => ?_, rfl⟩
    rcases q4 z hz with h | h
    · exact hF z h
    · omega
  · have hlt' : ¬ (k : Int) < (A.length : Int) := by omega
    have hke : k = A.length := by omega
    subst hke
    have F24 := (f4.trans f5).trans f3
    have hn24 := F24.next
    obtain ⟨vc, m6, k6, hc6, f6, hblk⟩ := lessB_spec (hb.fr F24 hm (fun _ h => h.elim)) (ha.fr F24 hm (fun _ h => h.elim)) (by omega) (by omega) (by omega)
    rw [hC] at hc6
    obtain ⟨pc, cc, rfl⟩ := rdu_slice hc6
    have hn6 := f6.next
    simp only [symA, go_opsd, symB, wantedX, X.put, X.look, Arg.ev, keepOf, restrict, evs, evO, initEnv, xres, tup, noTup, cls, quiet, Nat.reduceAdd, Nat.reduceEqDiff, ↓reduceIte, reduceCtorEq, goInt, exists_eq_left', eq_self, Int.reduceLT, Int.reduceLE, Int.reduceEq, Int.reduceNeg, Int.reduceAdd, Int.reduceSub, forall_const, ne_eq, undef, Nat.reducePow, Nat.reduceDiv, Nat.reduceMod, hlt']
    refine hB' _ _ _ ?_
    simp only [symA, go_opsd, symB, wantedX, X.put, X.look, Arg.ev, keepOf, restrict, evs, evO, initEnv, xres, tup, noTup, cls, quiet, Nat.reduceAdd, Nat.reduceEqDiff, ↓reduceIte, reduceCtorEq, goInt, exists_eq_left', eq_self, Int.reduceLT, Int.reduceLE, Int.reduceEq, Int.reduceNeg, Int.reduceAdd, Int.reduceSub, forall_const, ne_eq, undef, Nat.reducePow, Nat.reduceDiv, Nat.reduceMod, goR_call k6]
    refine loop_go (fun j e m' => ∃ (k : Nat) (F : List Nat) (v2 : Value) (rows : List (List Value)), k ≤ C.length ∧ j = C.length - k ∧ Own3 15 F m' v2 rows ∧ rows.length = A.length + k ∧ (∀ z ∈ F, m2.next ≤ z) ∧ (∀ z ∈ F, z < m3.next ∨ m6.next ≤ z) ∧ Fm (fun z => m2.next ≤ z ∧ (z < m3.next ∨ m6.next ≤ z)) m6 m' ∧
      e = [(10, v2), (56, .slice pc C.length cc), (57, I C.length), (58, I k)]) C.length ⟨0, F, _, rows, by omega, rfl, hO.fr f6 (fun _ _ h => h), by omega, hF, fun z hz => .inl (hO.lt z hz), .refl, rfl⟩ ?_
    rintro j e m7 N7 B7 hN7 hB7 ⟨k, F7, v7, rows7, hk, rfl, hO7, hrl7, hF7, hF7b, f7, rfl⟩
    have hn7 := f7.next
    have F26 : Nx m2 m6 := f3.trans f6
    by_cases hlt : k < C.length
    · have hlt' : (k : Int) < (C.length : Int) := by omega
      have wk : IntKind.i64.wrap ((k : Int) + 1) = ((k + 1 : Nat) : Int) := by rw [wrap_i64 (by omega) (by omega)]; omega
      obtain ⟨g, hg⟩ : ∃ g, C[k]? = some g := ⟨_, List.getElem?_eq_getElem hlt⟩
      have hc7 := hc6.fr2 f7 (Nat.le_refl _) (fun a n c hv hn hq => by
        have h1 := hblk a n c hv hn
        have h2 := hc6.block hv hn
        omega)
      obtain ⟨m8, hm8⟩ : ∃ m8, m7.push { cells := [U g], rw := true, spare := none, kin := [] } = m8 := ⟨_, rfl⟩
      have f8 : Nx m7 m8 := hm8 ▸ .push
      have hn8 : m8.next = m7.next + 1 := by rw [← hm8]; simp
      obtain ⟨a, c', o, hva, ho, hcc⟩ := rdu_at hc7 hg
      cases hva
      obtain ⟨m9, hm9⟩ : ∃ m9, m8.push { cells := rowQ 3 (.slice (some ⟨m7.next, 0, none⟩) 1 1) 0, rw := true, spare := none, kin := [] } = m9 := ⟨_, rfl⟩
      have bl : buildSliceE m7 [U 0] 1 1 [(0, U g)] = some (.val (.slice (some ⟨m7.next, 0, none⟩) 1 1) m8) := by rw [← hm8]; exact buildSlice_one rfl
      have bu : ∀ m : Mem, buildE m [I 0, I 0, .slice none 0 0, U 0, .bool false, I 0, .string .empty, .bool false, .string .empty, U 0, .string .empty, .string .empty, I 0, I 0, .slice none 0 0] [(0, 1), (1, 1), (2, 1), (3, 1), (4, 1), (5, 1), (6, 1), (7, 3), (10, 3), (13, 1), (14, 1)] [(0, I 3), (2, .slice (some ⟨m7.next, 0, none⟩) 1 1)] = some (.val (.agg ⟨rowQ 3 (.slice (some ⟨m7.next, 0, none⟩) 1 1) 0⟩) m) := fun m => by kernel_rfl
      have bs : buildSliceE m8 [I 0, I 0, .slice none 0 0, U 0, .bool false, I 0, .string .empty, .bool false, .string .empty, U 0, .string .empty, .string .empty, I 0, I 0, .slice none 0 0] 15 1 [(0, .agg ⟨rowQ 3 (.slice (some ⟨m7.next, 0, none⟩) 1 1) 0⟩)] = some (.val (.slice (some ⟨m8.next, 0, none⟩) 1 1) m9) := by rw [← hm9]; kernel_rfl
      obtain ⟨v', m5, F', q1, q2, q3, q4⟩ := own_mem (hO7.fr f8 (fun _ _ h => h)) (by omega) rfl rfl hm9 (by omega) (zero := [I 0, I 0, .slice none 0 0, U 0, .bool false, I 0, .string .empty, .bool false, .string .empty, U 0, .string .empty, .string .empty, I 0, I 0, .slice none 0 0]) rfl
      have hn26 := F26.next
      simp only [symA, go_opsd, symB, wantedX, X.put, X.look, Arg.ev, keepOf, restrict, evs, evO, initEnv, xres, tup, noTup, cls, quiet, Nat.reduceAdd, Nat.reduceEqDiff, ↓reduceIte, reduceCtorEq, goInt, exists_eq_left', eq_self, Int.reduceLT, Int.reduceLE, Int.reduceEq, Int.reduceNeg, Int.reduceAdd, Int.reduceSub, forall_const, ne_eq, undef, Nat.reducePow, Nat.reduceDiv, Nat.reduceMod, hlt, hlt', ho, hcc, bl, bu, bs, q1, wk]
      refine hN7 _ _ (C.length - (k + 1)) (by omega) ⟨k + 1, F', v', _, by omega, rfl, q2, by simp; omega, fun z hz => ?_, fun z hz => ?_, f7.trans ((f8.mono fun _ _ h => h.elim).trans (q3.mono fun z _ hz => ⟨hF7 z hz, hF7b z hz⟩)), rfl⟩
      · rcases q4 z hz with h | h
        · exact hF7 z h
        · omega
      · rcases q4 z hz with h | h
        · exact hF7b z h
        · exact .inr (by omega)
    · have hlt' : ¬ (k : Int) < (C.length : Int) := by omega
      have hke : k = C.length := by omega
      subst hke
      obtain ⟨p7, c7, hv7⟩ := (hO7.rd (by omega) : RdS m7.next m7 15 v7 rows7).slice
      rw [hrl7] at hv7
      subst hv7
      simp only [symA, go_opsd, symB, wantedX, X.put, X.look, Arg.ev, keepOf, restrict, evs, evO, initEnv, xres, tup, noTup, cls, quiet, Nat.reduceAdd, Nat.reduceEqDiff, ↓reduceIte, reduceCtorEq, goInt, exists_eq_left', eq_self, Int.reduceLT, Int.reduceLE, Int.reduceEq, Int.reduceNeg, Int.reduceAdd, Int.reduceSub, forall_const, ne_eq, undef, Nat.reducePow, Nat.reduceDiv, Nat.reduceMod, hlt']
      refine hB7 _ _ _ ?_
      simp only [symA, go_opsd, symB, wantedX, X.put, X.look, Arg.ev, keepOf, restrict, evs, evO, initEnv, xres, tup, noTup, cls, quiet, Nat.reduceAdd, Nat.reduceEqDiff, ↓reduceIte, reduceCtorEq, goInt, exists_eq_left', eq_self, Int.reduceLT, Int.reduceLE, Int.reduceEq, Int.reduceNeg, Int.reduceAdd, Int.reduceSub, forall_const, ne_eq, undef, Nat.reducePow, Nat.reduceDiv, Nat.reduceMod]
      exact hQ _ _ _ rfl ⟨((f4.trans f5).trans F26).comp f7 (fun z hz h => by omega), p7, c7, rfl⟩
end
end Go.Proofs.Ytfjeccaffenngaa

namespace Go.Proofs.Ytfjeccaffenngaa
open Go X
set_option maxRecDepth 100000
set_option linter.unusedVariables false
set_option linter.unusedSimpArgs false

theorem fold_people : ∀ (ds : List Deed) (s : Tb × Rf), (ds.foldl stepB s).1.l.length = s.1.l.length
  | [], s => rfl
  | d :: ds, s => by
    rw [List.foldl_cons, fold_people ds]
    unfold stepB
    cases fits s.2 d with
    | false => rfl
    | true => exact (le_doT s.1 d).len.symm
theorem fold_deeds : ∀ (ds : List Deed) (s : Tb × Rf), (ds.foldl stepB s).2.l.length ≤ s.2.l.length + 2 * ds.length
  | [], s => by simp
  | d :: ds, s => by
    rw [List.foldl_cons]
    have h1 := fold_deeds ds (stepB s d)
    have h2 : (stepB s d).2.l.length ≤ s.2.l.length + 2 := by
      unfold stepB
      cases fits s.2 d with
      | false => show s.2.l.length ≤ _; omega
      | true => exact doR_len s.2 d
    rw [List.length_cons]
    omega

theorem rel_plus {T : Tb} {R : Rf} (h : RelTR T R) {w : Int} (ho : oneB T w = true) : plusR R w = plusN T w := by
  funext t
  exact (h.has w (t : Int) false ho).symm
theorem rel_minus {T : Tb} {R : Rf} (h : RelTR T R) {w : Int} (ho : oneB T w = true) : minusR R w = minusN T w := by
  funext t
  exact (h.has w (t : Int) true ho).symm

section
variable {b b' bp f y : Nat} {m : Mem} {w : Int} {Fr : List Nat} {pq : Option Addr} {R : Rf} {v vb : Value}
/-- Where the search finds a label. -/
theorem found_spec {m' : Mem} {lo : Nat} {F G : List Nat} {ov sv : Value} {vals : List Value} {out : List Nat} {plus minus : Nat → Bool} (hS : SprAt m' lo f F G ov sv vals out) (hB : Bfs plus minus f out out.length 1) (pf : popN f ≤ 6) (hy : y < 256) (hv : RdU b' m' vb (labN y)) :
    Wc 16 [ov, vb] m' fun r m'' => m'' = m' ∧ ∃ k : Int, r = I k ∧ ((k = -1 ∧ ¬ ComesN plus minus f y) ∨ ∃ n : Nat, k = (n : Int) ∧ out[n]? = some y ∧ ComesN plus minus f y) := by
  have hlen := hB.len
  refine wpCall_mono ?_ (at_where hS.rooms hv (by simp; omega) (fun us hus => by
    obtain ⟨z, hz, rfl⟩ := List.mem_map.1 hus
    rw [len_lab]
    have := (hB.ok z hz).pop
    omega))
  rintro r m'' ⟨rfl, k, rfl, hk⟩
  refine ⟨rfl, k, rfl, ?_⟩
  rcases hk with ⟨rfl, hn⟩ | ⟨n, rfl, hn⟩
  · refine .inl ⟨rfl, fun hc => hn ?_⟩
    exact List.mem_map.2 ⟨y, (hB.done pf).2 hc, rfl⟩
  · rw [List.getElem?_map, Option.map_eq_some_iff] at hn
    obtain ⟨z, hz, he⟩ := hn
    have hzm := List.mem_of_getElem? hz
    have : z = y := lab_inj (hB.ok z hzm).lt hy he
    subst this
    exact .inr ⟨n, rfl, hz, hB.ok z hzm⟩

theorem rmay_spec (hR : RefAt m bp Fr pq R) (hRl : R.l.length ≤ 100000) (hv : RdU b m v (labN f)) (hvb : RdU b m vb (labN y)) (hb : b ≤ m.next) (hf : f < 256) (pf : popN f ≤ 6) (hy : y < 256) :
    Wc 17 [Pt bp, I w, v, vb] m fun r m' => Nx m m' ∧ ∃ t : Bool, r = .bool t ∧ (t = true ↔ ((((labN f).all fun g => hasR R (w, g, false)) && oneR R w) = true ∧ ComesN (plusR R w) (minusR R w) f y)) := by
  refine call_go (F := _) rfl rfl fun Q hQ => ?_
  simp only [symA, go_opsd, symB, wantedX, X.put, X.look, Arg.ev, keepOf, restrict, evs, evO, initEnv, xres, tup, noTup, cls, quiet, Nat.reduceAdd, Nat.reduceEqDiff, ↓reduceIte, reduceCtorEq, goInt, exists_eq_left', eq_self, Int.reduceLT, Int.reduceLE, Int.reduceEq, Int.reduceNeg, Int.reduceAdd, Int.reduceSub, forall_const, ne_eq, undef, Nat.reducePow, Nat.reduceDiv, Nat.reduceMod]
  refine goR_wp (spread_spec hR hRl hv hb hf pf) ?_
  rintro _ m1 ⟨f1, F, G, ov, sv, vals, out, rfl, hS, hB⟩
  have hn1 := f1.next
  obtain ⟨m2, hm2⟩ : ∃ m2, m1.push { cells := [], rw := true, spare := none, kin := [] } = m2 := ⟨_, rfl⟩
  have f2 : Nx m1 m2 := hm2 ▸ .push
  have bz : buildSliceE m1 [U 0] 1 0 [] = some (.val (.slice (some ⟨m1.next, 0, none⟩) 0 0) m2) := by rw [← hm2]; exact buildSlice_zero
  have F2 := f1.trans f2
  have k1 := rclear_spec (w := w) (b' := 0) (va := .slice (some ⟨m1.next, 0, none⟩) 0 0) (hR.nx F2) hRl (hv.fr F2 hb (fun _ h => h.elim)) ⟨_, _, rfl, Nat.le_refl _, fun i r hr => by simp at hr⟩ (by rw [len_lab]; unfold popN; have : T8.countP (hasN f) ≤ 8 := List.countP_le_length; omega)
  cases hc : (((labN f).all fun g => hasR R (w, g, false)) && oneR R w) with
  | false =>
    rw [hc] at k1
    simp only [symA, go_opsd, symB, wantedX, X.put, X.look, Arg.ev, keepOf, restrict, evs, evO, initEnv, xres, tup, noTup, cls, quiet, Nat.reduceAdd, Nat.reduceEqDiff, ↓reduceIte, reduceCtorEq, goInt, exists_eq_left', eq_self, Int.reduceLT, Int.reduceLE, Int.reduceEq, Int.reduceNeg, Int.reduceAdd, Int.reduceSub, forall_const, ne_eq, undef, Nat.reducePow, Nat.reduceDiv, Nat.reduceMod, bz, goR_call k1]
    refine hQ _ _ _ rfl ⟨F2, false, rfl, by rw [hc]; simp⟩
  | true =>
    rw [hc] at k1
    simp only [symA, go_opsd, symB, wantedX, X.put, X.look, Arg.ev, keepOf, restrict, evs, evO, initEnv, xres, tup, noTup, cls, quiet, Nat.reduceAdd, Nat.reduceEqDiff, ↓reduceIte, reduceCtorEq, goInt, exists_eq_left', eq_self, Int.reduceLT, Int.reduceLE, Int.reduceEq, Int.reduceNeg, Int.reduceAdd, Int.reduceSub, forall_const, ne_eq, undef, Nat.reducePow, Nat.reduceDiv, Nat.reduceMod, bz, goR_call k1]
    refine goR_wp (found_spec (hS.nx f2) hB pf hy (hvb.fr F2 hb (fun _ h => h.elim))) ?_
    rintro _ _ ⟨rfl, k, rfl, hk⟩
    rcases hk with ⟨rfl, hk⟩ | ⟨n, rfl, _, hk⟩
    · simp only [symA, go_opsd, symB, wantedX, X.put, X.look, Arg.ev, keepOf, restrict, evs, evO, initEnv, xres, tup, noTup, cls, quiet, Nat.reduceAdd, Nat.reduceEqDiff, ↓reduceIte, reduceCtorEq, goInt, exists_eq_left', eq_self, Int.reduceLT, Int.reduceLE, Int.reduceEq, Int.reduceNeg, Int.reduceAdd, Int.reduceSub, forall_const, ne_eq, undef, Nat.reducePow, Nat.reduceDiv, Nat.reduceMod]
      exact hQ _ _ _ rfl ⟨F2, false, rfl, by rw [hc]; simp [hk]⟩
    · have h0 : (0 : Int) ≤ (n : Int) := by omega
      simp only [symA, go_opsd, symB, wantedX, X.put, X.look, Arg.ev, keepOf, restrict, evs, evO, initEnv, xres, tup, noTup, cls, quiet, Nat.reduceAdd, Nat.reduceEqDiff, ↓reduceIte, reduceCtorEq, goInt, exists_eq_left', eq_self, Int.reduceLT, Int.reduceLE, Int.reduceEq, Int.reduceNeg, Int.reduceAdd, Int.reduceSub, forall_const, ne_eq, undef, Nat.reducePow, Nat.reduceDiv, Nat.reduceMod, h0]
      exact hQ _ _ _ rfl ⟨F2, true, rfl, by rw [hc]; simp [hk]⟩
end

section
variable {H : Type} {m m' : Mem} {v : Value}
theorem RdT.up {b b' : Nat} {ns : List Int} (h : RdT b m v ns) (hf : Nx m m') (hb : b ≤ m.next) : RdT b m' v ns := ⟨h.rd.fr hf hb (fun _ h => h.elim), h.len, h.nn⟩
theorem tagsT_last {ns : List Int} (h : RdT m.next m v ns) (f : Nx m m') : RdT m'.next m' v ns := ⟨tags_last h.rd f, h.len, h.nn⟩
theorem abs_tagsT {d : DataW H} (h : wfD Try.prog d 23) :
    ∃ (ns : List Int) (v : Value), (absD Try.prog d 23 m).1 = [v] ∧ Nx m (absD Try.prog d 23 m).2 ∧ RdT (absD Try.prog d 23 m).2.next (absD Try.prog d 23 m).2 v ns := by
  obtain ⟨ns, v, h1, h2, h3, h4, h5⟩ := abs_slice_ints (m := m) Try.underlying23 Try.underlying30 h
  exact ⟨ns, v, h1, h4, h5, h3, fun x hx => (h2 x hx).1⟩
end
end Go.Proofs.Ytfjeccaffenngaa
