/-
  Own work. The document's tree: keys that rise, and their numbers, in two slices. The document's tree: a key put, a key deleted. The document's tree: a key deleted. Keys in order. The tree: its keys in order; what is told of a key.
-/
import Derived.Test.YtecceimgpeookaaS6
namespace Go.Proofs.Ytecceimgpeookaa
open Go X
set_option maxRecDepth 100000
attribute [local irreducible] X.Go' X.GoO X.GoR X.GoG X.GoC X.GoF X.GoFV X.GoFG X.Ex X.GoD X.GoDV X.GoDG
set_option linter.unusedVariables false
set_option linter.unusedSimpArgs false

structure RefM (H FK FN : List Nat) (m : Mem) (d : Nat) (vk vn : Value) (es : List Ent) : Prop where
  get : m.get d = some { cells := [vk, vn], rw := true, spare := none, kin := [] }
  ok : OwnX FK m vk ((es.map (·.1)).map sv)
  on : OwnX FN m vn ((es.map (·.2)).map iv)
  dH : d ∈ H
  kH : ∀ i ∈ FK, i ∈ H ∧ i ≠ d
  nH : ∀ i ∈ FN, i ∈ H ∧ i ≠ d ∧ i ∉ FK
  lt : ∀ i ∈ H, i < m.next
def RefT (H : List Nat) (m : Mem) (d : Nat) (es : List Ent) : Prop := ∃ FK FN vk vn, RefM H FK FN m d vk vn es
section
variable {H FK FN : List Nat} {σ σ' : Nat → Tag} {m m' : Mem} {d p k : Nat} {vk vn : Value} {es : List Ent} {key : Key} {x : Int}
theorem RefM.fr {S : Nat → Prop} (h : RefM H FK FN m d vk vn es) (hf : Fm S m m') (hs : ∀ i ∈ H, ¬ S i) : RefM H FK FN m' d vk vn es :=
  ⟨hf.get (h.lt d h.dH) (hs d h.dH) h.get, h.ok.fr hf fun i hi => hs i (h.kH i hi).1, h.on.fr hf fun i hi => hs i (h.nH i hi).1, h.dH, h.kH, h.nH, fun i hi => Nat.lt_of_lt_of_le (h.lt i hi) hf.next⟩
theorem RefM.nx (h : RefM H FK FN m d vk vn es) (hf : Nx m m') : RefM H FK FN m' d vk vn es := h.fr hf fun _ _ h => h
theorem RefT.fr {S : Nat → Prop} (h : RefT H m d es) (hf : Fm S m m') (hs : ∀ i ∈ H, ¬ S i) : RefT H m' d es := by
  obtain ⟨FK, FN, vk, vn, h⟩ := h
  exact ⟨FK, FN, vk, vn, h.fr hf hs⟩
theorem RefT.nx (h : RefT H m d es) (hf : Nx m m') : RefT H m' d es := h.fr hf fun _ _ h => h
theorem RefM.ks (h : RefM H FK FN m d vk vn es) : ∃ q c, vk = .slice q es.length c := by
  obtain ⟨q, c, e⟩ := h.ok.slice
  simp only [List.length_map] at e
  exact ⟨q, c, e⟩
theorem RefM.keyAt (h : RefM H FK FN m d vk vn es) {i : Nat} {e : Ent} (hi : es[i]? = some e) : ∃ a c o, vk = .slice (some a) es.length c ∧ m.get a.block = some o ∧ o.cells[a.off + i]? = some (.string e.1) := by
  have := rd_at h.ok.rd (i := i) (x := .string e.1) (by rw [List.getElem?_map, List.getElem?_map, hi]; rfl)
  simp only [List.length_map] at this
  exact this
theorem RefM.numAt (h : RefM H FK FN m d vk vn es) {i : Nat} {e : Ent} (hi : es[i]? = some e) : ∃ a c o, vn = .slice (some a) es.length c ∧ m.get a.block = some o ∧ o.cells[a.off + i]? = some (I e.2) := by
  have := rd_at h.on.rd (i := i) (x := I e.2) (by rw [List.getElem?_map, List.getElem?_map, hi]; rfl)
  simp only [List.length_map] at this
  exact this

abbrev posE (key : Key) (es : List Ent) : Nat := posK key (es.map (·.1))
abbrev hasE (key : Key) (es : List Ent) : Bool := hasK key (es.map (·.1))
theorem posE_le : posE key es ≤ es.length := by
  have := posK_le key (es.map (·.1))
  rwa [List.length_map] at this
theorem sortKE (hs : SortE es) : SortK (es.map (·.1)) := by
  unfold SortK
  rw [List.pairwise_map]
  exact hs
/-- Where a key stands, or would. -/
theorem at_spec (h : RefM H FK FN m d vk vn es) (hs : SortE es) (hl : es.length ≤ 1000) : Ca 35 [Pt d, .string key] m (.tuple #[nv (posE key es), .bool (hasE key es)]) m := by
  refine callX_of (call_go (F := _) rfl rfl fun Q hQ => ?_)
  have hg := h.get
  obtain ⟨q, c, hv⟩ := h.ks
  obtain ⟨plo, phi⟩ := posK_lo (k := key) (sortKE hs)
  have hle := posE_le (key := key) (es := es)
  simp only [symA, go_opsd, symB, wantedX, X.put, X.look, Arg.ev, keepOf, restrict, evs, evO, initEnv, xres, tup, noTup, cls, quiet, Nat.reduceAdd, Nat.reduceEqDiff, ↓reduceIte, reduceCtorEq, goInt, exists_eq_left', eq_self, Int.reduceLT, Int.reduceLE, Int.reduceEq, Int.reduceNeg, Int.reduceAdd, Int.reduceSub, forall_const, ne_eq, undef, Nat.reducePow, Nat.reduceDiv, Nat.reduceMod]
  refine loop_go (fun j e m' => m' = m ∧ ∃ i : Nat, i ≤ posE key es ∧ j = es.length - i ∧ e = [(0, Pt d), (1, .string key), (6, I i)]) es.length ⟨rfl, 0, by omega, rfl, rfl⟩ ?_
  rintro j e m' N' B' hN hB ⟨rfl, i, hi, rfl, rfl⟩
  by_cases hlt : i < es.length
  · have hlt' : (i : Int) < (es.length : Int) := by omega
    obtain ⟨y, hy⟩ : ∃ y, es[i]? = some y := ⟨_, List.getElem?_eq_getElem hlt⟩
    obtain ⟨a, c', o, hv', g1, g2⟩ := h.keyAt hy
    rw [hv] at hv'
    cases hv'
    by_cases hle' : i < posE key es
    · have hy' := plo i y.1 hle' (by rw [List.getElem?_map, hy]; rfl)
      have w1 : IntKind.i64.wrap ((i : Int) + 1) = ((i + 1 : Nat) : Int) := by rw [wrap_i64 (by omega) (by omega)]; omega
      subst hv
      simp only [symA, go_opsd, symB, wantedX, X.put, X.look, Arg.ev, keepOf, restrict, evs, evO, initEnv, xres, tup, noTup, cls, quiet, Nat.reduceAdd, Nat.reduceEqDiff, ↓reduceIte, reduceCtorEq, goInt, exists_eq_left', eq_self, Int.reduceLT, Int.reduceLE, Int.reduceEq, Int.reduceNeg, Int.reduceAdd, Int.reduceSub, forall_const, ne_eq, undef, Nat.reducePow, Nat.reduceDiv, Nat.reduceMod, hg, hlt, hlt', g1, g2, bin_slss, hy', w1, decide_true]
      exact hN _ _ (es.length - (i + 1)) (by omega) ⟨rfl, i + 1, by omega, rfl, rfl⟩
    · have hie : i = posE key es := Nat.le_antisymm hi (Nat.le_of_not_lt hle')
      have hy' := phi i y.1 (Nat.le_of_not_lt hle') (by rw [List.getElem?_map, hy]; rfl)
      subst hv
      simp only [symA, go_opsd, symB, wantedX, X.put, X.look, Arg.ev, keepOf, restrict, evs, evO, initEnv, xres, tup, noTup, cls, quiet, Nat.reduceAdd, Nat.reduceEqDiff, ↓reduceIte, reduceCtorEq, goInt, exists_eq_left', eq_self, Int.reduceLT, Int.reduceLE, Int.reduceEq, Int.reduceNeg, Int.reduceAdd, Int.reduceSub, forall_const, ne_eq, undef, Nat.reducePow, Nat.reduceDiv, Nat.reduceMod, hg, hlt, hlt', g1, g2, bin_slss, hy', decide_false]
      refine hB _ _ _ ?_
      have hb : hasE key es = decide (y.1 = key) := by
        unfold hasE
        have := hasK_iff (k := key) (sortKE hs)
        rw [← show posE key es = posK key (es.map (·.1)) from rfl, ← hie, List.getElem?_map, hy] at this
        by_cases hq : y.1 = key
        · rw [decide_eq_true hq]; exact this.2 (by rw [← hq]; rfl)
        · rw [decide_eq_false hq]
          cases hz : hasK key (es.map (·.1)) with
          | false => rfl
          | true => exact absurd (by have := this.1 hz; simpa using this) hq
      rw [hb, ← hie] at hQ
      simp only [symA, go_opsd, symB, wantedX, X.put, X.look, Arg.ev, keepOf, restrict, evs, evO, initEnv, xres, tup, noTup, cls, quiet, Nat.reduceAdd, Nat.reduceEqDiff, ↓reduceIte, reduceCtorEq, goInt, exists_eq_left', eq_self, Int.reduceLT, Int.reduceLE, Int.reduceEq, Int.reduceNeg, Int.reduceAdd, Int.reduceSub, forall_const, ne_eq, undef, Nat.reducePow, Nat.reduceDiv, Nat.reduceMod, hg, hlt, hlt', g1, g2, bin_seql]
      exact hQ _ _ _ rfl ⟨rfl, rfl⟩
  · have hlt' : ¬ (i : Int) < (es.length : Int) := by omega
    have hie : i = posE key es := by omega
    subst hv
    simp only [symA, go_opsd, symB, wantedX, X.put, X.look, Arg.ev, keepOf, restrict, evs, evO, initEnv, xres, tup, noTup, cls, quiet, Nat.reduceAdd, Nat.reduceEqDiff, ↓reduceIte, reduceCtorEq, goInt, exists_eq_left', eq_self, Int.reduceLT, Int.reduceLE, Int.reduceEq, Int.reduceNeg, Int.reduceAdd, Int.reduceSub, forall_const, ne_eq, undef, Nat.reducePow, Nat.reduceDiv, Nat.reduceMod, hg, hlt']
    refine hB _ _ _ ?_
    have hb : hasE key es = false := by
      cases hz : hasE key es with
      | false => rfl
      | true =>
        have := (hasK_iff (k := key) (sortKE hs)).1 hz
        have := (List.getElem?_eq_some_iff.1 this).1
        rw [List.length_map] at this
        have : posE key es < es.length := this
        omega
    rw [hb, ← hie] at hQ
    simp only [symA, go_opsd, symB, wantedX, X.put, X.look, Arg.ev, keepOf, restrict, evs, evO, initEnv, xres, tup, noTup, cls, quiet, Nat.reduceAdd, Nat.reduceEqDiff, ↓reduceIte, reduceCtorEq, goInt, exists_eq_left', eq_self, Int.reduceLT, Int.reduceLE, Int.reduceEq, Int.reduceNeg, Int.reduceAdd, Int.reduceSub, forall_const, ne_eq, undef, Nat.reducePow, Nat.reduceDiv, Nat.reduceMod, hg, hlt']
    exact hQ _ _ _ rfl ⟨rfl, rfl⟩
/-- The first one that isn't below a key, or is above it. -/
def fromE (ab : Bool) (key : Key) (es : List Ent) : Nat := posE key es + if hasE key es = true ∧ ab = true then 1 else 0
theorem from_spec {ab : Bool} (h : RefM H FK FN m d vk vn es) (hs : SortE es) (hl : es.length ≤ 1000) : Ca 58 [Pt d, .string key, .bool ab] m (I (if fromE ab key es < es.length then (fromE ab key es : Int) else -1)) m := by
  have ha := at_spec (key := key) h hs hl
  have hg := h.get
  obtain ⟨q, c, hv⟩ := h.ks
  have hle := posE_le (key := key) (es := es)
  have w1 : IntKind.i64.wrap ((posE key es : Int) + 1) = ((posE key es + 1 : Nat) : Int) := by rw [wrap_i64 (by omega) (by omega)]; omega
  subst hv
  refine callX_of (call_go (F := _) rfl rfl fun Q hQ => ?_)
  unfold fromE at hQ
  cases hb : hasE key es with
  | false =>
    rw [hb] at ha hQ
    simp only [Bool.false_eq_true, false_and, ↓reduceIte, Nat.add_zero] at hQ
    by_cases hlt : posE key es < es.length
    · rw [if_pos hlt] at hQ
      have hlt' : ¬ (es.length : Int) ≤ (posE key es : Int) := by omega
      simp only [symA, go_opsd, symB, wantedX, X.put, X.look, Arg.ev, keepOf, restrict, evs, evO, initEnv, xres, tup, noTup, cls, quiet, Nat.reduceAdd, Nat.reduceEqDiff, ↓reduceIte, reduceCtorEq, goInt, exists_eq_left', eq_self, Int.reduceLT, Int.reduceLE, Int.reduceEq, Int.reduceNeg, Int.reduceAdd, Int.reduceSub, forall_const, ne_eq, undef, Nat.reducePow, Nat.reduceDiv, Nat.reduceMod, goR_call ha, hg, hlt']
      exact hQ _ _ _ rfl ⟨rfl, rfl⟩
    · rw [if_neg hlt] at hQ
      have hlt' : (es.length : Int) ≤ (posE key es : Int) := by omega
      simp only [symA, go_opsd, symB, wantedX, X.put, X.look, Arg.ev, keepOf, restrict, evs, evO, initEnv, xres, tup, noTup, cls, quiet, Nat.reduceAdd, Nat.reduceEqDiff, ↓reduceIte, reduceCtorEq, goInt, exists_eq_left', eq_self, Int.reduceLT, Int.reduceLE, Int.reduceEq, Int.reduceNeg, Int.reduceAdd, Int.reduceSub, forall_const, ne_eq, undef, Nat.reducePow, Nat.reduceDiv, Nat.reduceMod, goR_call ha, hg, hlt']
      exact hQ _ _ _ rfl ⟨rfl, rfl⟩
  | true =>
    rw [hb] at ha hQ
    cases ab with
    | false =>
      simp only [Bool.false_eq_true, and_false, ↓reduceIte, Nat.add_zero] at hQ
      by_cases hlt : posE key es < es.length
      · rw [if_pos hlt] at hQ
        have hlt' : ¬ (es.length : Int) ≤ (posE key es : Int) := by omega
        simp only [symA, go_opsd, symB, wantedX, X.put, X.look, Arg.ev, keepOf, restrict, evs, evO, initEnv, xres, tup, noTup, cls, quiet, Nat.reduceAdd, Nat.reduceEqDiff, ↓reduceIte, reduceCtorEq, goInt, exists_eq_left', eq_self, Int.reduceLT, Int.reduceLE, Int.reduceEq, Int.reduceNeg, Int.reduceAdd, Int.reduceSub, forall_const, ne_eq, undef, Nat.reducePow, Nat.reduceDiv, Nat.reduceMod, goR_call ha, hg, hlt']
        exact hQ _ _ _ rfl ⟨rfl, rfl⟩
      · rw [if_neg hlt] at hQ
        have hlt' : (es.length : Int) ≤ (posE key es : Int) := by omega
        simp only [symA, go_opsd, symB, wantedX, X.put, X.look, Arg.ev, keepOf, restrict, evs, evO, initEnv, xres, tup, noTup, cls, quiet, Nat.reduceAdd, Nat.reduceEqDiff, ↓reduceIte, reduceCtorEq, goInt, exists_eq_left', eq_self, Int.reduceLT, Int.reduceLE, Int.reduceEq, Int.reduceNeg, Int.reduceAdd, Int.reduceSub, forall_const, ne_eq, undef, Nat.reducePow, Nat.reduceDiv, Nat.reduceMod, goR_call ha, hg, hlt']
        exact hQ _ _ _ rfl ⟨rfl, rfl⟩
    | true =>
      simp only [and_self, ↓reduceIte] at hQ
      by_cases hlt : posE key es + 1 < es.length
      · rw [if_pos hlt] at hQ
        have hlt' : ¬ (es.length : Int) ≤ ((posE key es + 1 : Nat) : Int) := by omega
        simp only [symA, go_opsd, symB, wantedX, X.put, X.look, Arg.ev, keepOf, restrict, evs, evO, initEnv, xres, tup, noTup, cls, quiet, Nat.reduceAdd, Nat.reduceEqDiff, ↓reduceIte, reduceCtorEq, goInt, exists_eq_left', eq_self, Int.reduceLT, Int.reduceLE, Int.reduceEq, Int.reduceNeg, Int.reduceAdd, Int.reduceSub, forall_const, ne_eq, undef, Nat.reducePow, Nat.reduceDiv, Nat.reduceMod, goR_call ha, hg, w1, hlt']
        exact hQ _ _ _ rfl ⟨rfl, rfl⟩
      · rw [if_neg hlt] at hQ
        have hlt' : (es.length : Int) ≤ ((posE key es + 1 : Nat) : Int) := by omega
        simp only [symA, go_opsd, symB, wantedX, X.put, X.look, Arg.ev, keepOf, restrict, evs, evO, initEnv, xres, tup, noTup, cls, quiet, Nat.reduceAdd, Nat.reduceEqDiff, ↓reduceIte, reduceCtorEq, goInt, exists_eq_left', eq_self, Int.reduceLT, Int.reduceLE, Int.reduceEq, Int.reduceNeg, Int.reduceAdd, Int.reduceSub, forall_const, ne_eq, undef, Nat.reducePow, Nat.reduceDiv, Nat.reduceMod, goR_call ha, hg, w1, hlt']
        exact hQ _ _ _ rfl ⟨rfl, rfl⟩
end
end Go.Proofs.Ytecceimgpeookaa

namespace Go.Proofs.Ytecceimgpeookaa
open Go X
set_option maxRecDepth 100000
attribute [local irreducible] X.Go' X.GoO X.GoR X.GoG X.GoC X.GoF X.GoFV X.GoFG X.Ex X.GoD X.GoDV X.GoDG
set_option linter.unusedVariables false
set_option linter.unusedSimpArgs false

section
variable {H FK FN : List Nat} {σ σ' : Nat → Tag} {m m' : Mem} {d p k : Nat} {vk vn v : Value} {es : List Ent} {key : Key} {x : Int} {xs : List Value}
theorem own_empty {id : Nat} : OwnX [] m (.slice (some ⟨id, 0, none⟩) 0 0) [] := .inl ⟨ones_one _, .inr ⟨rfl, by simp, id, rfl⟩⟩
theorem fld2 {cs : List Value} {i : Nat} {y : Value} (hg : m.get d = some { cells := cs, rw := true, spare := none, kin := [] }) (hi : i < cs.length) (h1 : y.cells = #[y]) (h2 : noTup y = true) :
    ∃ m', storeE m 1 (.pointer (some ⟨d, i, none⟩)) y = some (.skip m') ∧ m'.get d = some { cells := cs.set i y, rw := true, spare := none, kin := [] } ∧ Fm (· = d) m m' ∧ m'.next = m.next := fld_store hg hi h1 h2
theorem rput_found (h : RefT H m d es) (hs : SortE es) (hl : es.length ≤ 1000) (hb : hasE key es = true) :
    ∃ m', Ca 32 [Pt d, .string key, I x] m (.tuple #[I ((getE key es).getD 0), .bool true]) m' ∧ RefT H m' d (putE key x es) ∧ Fm (· ∈ H) m m' := by
  obtain ⟨FK, FN, vk, vn, h⟩ := h
  obtain ⟨k1, k2, _⟩ := leafE (key := key) (above := false) hs
  obtain ⟨w, q1, q2⟩ := k1 hb
  have ha := at_spec (key := key) h hs hl
  rw [hb] at ha
  rw [q2]
  obtain ⟨p1, p2, p3, p4⟩ := putE_at (x := x) hs hb
  have hlp := (List.getElem?_eq_some_iff.1 q1).1
  obtain ⟨a, c, o, hv, g1, g2⟩ := h.numAt q1
  obtain ⟨a', c', m', hv', s1, s2, s3⟩ := h.on.set (i := posE key es) (x := I x) (by simp only [List.length_map]; exact hlp) rfl rfl
  simp only [List.length_map] at hv'
  rw [hv] at hv'
  cases hv'
  have hg := h.get
  have hlp' : posE key es < es.length := hlp
  have g2' : o.cells[a.off + posE key es]? = some (I w) := g2
  refine ⟨m', callX_of (call_go (F := _) rfl rfl fun Q hQ => ?_), ⟨FK, FN, vk, vn, s3.get (h.lt d h.dH) (fun q => (h.nH d q).2.1 rfl) h.get, ?_, ?_, h.dH, h.kH, h.nH, fun i hi => Nat.lt_of_lt_of_le (h.lt i hi) s3.next⟩, s3.mono fun j _ hj => (h.nH j hj).1⟩
  · subst hv
    simp only [symA, go_opsd, symB, wantedX, X.put, X.look, Arg.ev, keepOf, restrict, evs, evO, initEnv, xres, tup, noTup, cls, quiet, Nat.reduceAdd, Nat.reduceEqDiff, ↓reduceIte, reduceCtorEq, goInt, exists_eq_left', eq_self, Int.reduceLT, Int.reduceLE, Int.reduceEq, Int.reduceNeg, Int.reduceAdd, Int.reduceSub, forall_const, ne_eq, undef, Nat.reducePow, Nat.reduceDiv, Nat.reduceMod, goR_call ha, hg, hlp', g1, g2', s1, Option.getD_some]
    exact hQ _ _ _ rfl ⟨rfl, rfl⟩
  · rw [p3]
    exact h.ok.fr s3 fun i hi hn => (h.nH i hn).2.2 hi
  · rw [p4, List.map_set]
    exact s2
/-- Two parts of a slice, with something between. -/
theorem from_det {m m2 : Mem} {F : List Nat} {j : Nat} {r : Value} (h : OwnX F m v xs) (h2 : OwnX F m2 v xs) (hj : j ≤ xs.length) (hr : sliceE m 1 v (some (I (j : Int))) none none = some (.val r m)) : sliceE m2 1 v (some (I (j : Int))) none none = some (.val r m2) := by
  obtain ⟨r2, e2, _⟩ := h2.from hj
  rw [slice_det hr e2]
  exact e2
theorem rput_new (h : RefT H m d es) (hs : SortE es) (hl : es.length ≤ 1000) (hb : hasE key es = false) :
    ∃ m' H', Ca 32 [Pt d, .string key, I x] m (.tuple #[I 0, .bool false]) m' ∧ RefT H' m' d (putE key x es) ∧ Fm (· ∈ H) m m' ∧ ∀ i ∈ H', i ∈ H ∨ m.next ≤ i := by
  obtain ⟨FK, FN, vk, vn, h⟩ := h
  have ha := at_spec (key := key) h hs hl
  rw [hb] at ha
  have hle := posE_le (key := key) (es := es)
  obtain ⟨c1, c2, _⟩ := cutE (k := key) hs
  have hput : putE key x es = es.take (posE key es) ++ (key, x) :: es.drop (posE key es) := by
    unfold putE
    rw [← c1, ← c2 hb]
  have lk : ((es.map (·.1)).map sv).length = es.length := by simp
  have ln : ((es.map (·.2)).map iv).length = es.length := by simp
  -- the first parts
  obtain ⟨m1, hm1⟩ : ∃ m1, m.push { cells := [], rw := true, spare := none, kin := [] } = m1 := ⟨_, rfl⟩
  have f1 : Nx m m1 := hm1 ▸ .push
  have h1 := h.nx f1
  obtain ⟨r1, e1, o1⟩ := h1.ok.to (k := posE key es) (by rw [lk]; exact hle)
  obtain ⟨v2, m2, F2, a2, b2, f2, _, n2⟩ := (own_empty (m := m1) (id := m.next)).append (bytes := 16) (zero := .string .empty) o1.rd (by simp; omega) (by omega)
  have f2' : Nx m1 m2 := f2.mono fun i _ hi => (by simp at hi)
  have h2 := h1.nx f2'
  obtain ⟨m3, hm3⟩ : ∃ m3, m2.push { cells := [], rw := true, spare := none, kin := [] } = m3 := ⟨_, rfl⟩
  have f3 : Nx m2 m3 := hm3 ▸ .push
  have h3 := h2.nx f3
  obtain ⟨r3, e3, o3⟩ := h3.on.to (k := posE key es) (by rw [ln]; exact hle)
  obtain ⟨v4, m4, F4, a4, b4, f4, _, n4⟩ := (own_empty (m := m3) (id := m2.next)).append (bytes := 8) (zero := I 0) o3.rd (by simp; omega) (by omega)
  have f4' : Nx m3 m4 := f4.mono fun i _ hi => (by simp at hi)
  have h4 := h3.nx f4'
  have b2' := (b2.fr f3 fun _ _ h => h).fr f4' fun _ _ h => h
  have x1 := f1.next; have x2 := f2.next; have x3 := f3.next; have x4 := f4.next
  have hF2 : ∀ i ∈ F2, m1.next ≤ i ∧ i < m2.next := fun i hi => ⟨(n2 i hi).resolve_left (by simp), b2.lt i hi⟩
  have hF4 : ∀ i ∈ F4, m3.next ≤ i ∧ i < m4.next := fun i hi => ⟨(n4 i hi).resolve_left (by simp), b4.lt i hi⟩
  -- the keys
  obtain ⟨m5, hm5⟩ : ∃ m5, m4.push { cells := [.string key], rw := true, spare := none, kin := [] } = m5 := ⟨_, rfl⟩
  have f5 : Nx m4 m5 := hm5 ▸ .push
  have x5 : m5.next = m4.next + 1 := by rw [← hm5]; simp
  have h5 := h4.nx f5
  have k5 : OwnX [m4.next] m5 (.slice (some ⟨m4.next, 0, none⟩) 1 1) [.string key] := hm5 ▸ own_one
  obtain ⟨v6, m6, F6, a6, b6, f6, s6, n6⟩ := (b2'.fr f5 fun _ _ h => h).append (bytes := 16) (zero := .string .empty) (ys := [.string key]) k5.rd (by simp; omega) (by omega)
  have hH2 : ∀ i ∈ H, i ∉ F2 := fun i hi q => by have := h.lt i hi; have := (hF2 i q).1; omega
  have h6 := h5.fr f6 fun i hi q => hH2 i hi q
  have x6 := f6.next
  have hF6 : ∀ i ∈ F6, m1.next ≤ i ∧ i < m6.next := fun i hi => ⟨(n6 i hi).elim (fun q => (hF2 i q).1) (fun q => by omega), b6.lt i hi⟩
  obtain ⟨r6, e6, o6⟩ := h6.ok.from (k := posE key es) (by rw [lk]; exact hle)
  have e5 := from_det h6.ok h5.ok (by rw [lk]; exact hle) e6
  have e4 := from_det h6.ok h4.ok (by rw [lk]; exact hle) e6
  obtain ⟨v7, m7, F7, a7, b7, f7, s7, n7⟩ := b6.append (bytes := 16) (zero := .string .empty) o6 (by simp; omega) (by omega)
  have hH6 : ∀ i ∈ H, i ∉ F6 := fun i hi q => by have := h.lt i hi; have := (hF6 i q).1; omega
  have h7 := h6.fr f7 fun i hi q => hH6 i hi q
  have x7 := f7.next
  have e7 := from_det h6.ok h7.ok (by rw [lk]; exact hle) e6
  have hF7 : ∀ i ∈ F7, m1.next ≤ i ∧ i < m7.next := fun i hi => ⟨(n7 i hi).elim (fun q => (hF6 i q).1) (fun q => by omega), b7.lt i hi⟩
  have hd7 : ∀ i ∈ F4, i ∉ F6 := fun i hi q => by
    rcases n6 i q with q | q
    · have := (hF2 i q).2; have := (hF4 i hi).1; omega
    · have := (hF4 i hi).2; omega
  have hd6 : ∀ i ∈ F4, i ∉ F2 := fun i hi q => by have := (hF2 i q).2; have := (hF4 i hi).1; omega
  have b4' := ((b4.fr f5 fun _ _ h => h).fr f6 hd6).fr f7 hd7
  obtain ⟨q7, c7, hv7⟩ := b7.slice
  obtain ⟨m8, s8, g8, f8, x8⟩ := fld2 (i := 0) (y := v7) h7.get (by simp) (by rw [hv7]; rfl) (by rw [hv7]; rfl)
  have hdn : ∀ i ∈ H, i ∉ F7 := fun i hi q => by have := h.lt i hi; have := (hF7 i q).1; omega
  have n8 : OwnX FN m8 vn ((es.map (·.2)).map iv) := h7.on.fr f8 fun i hi => (h.nH i hi).2.1
  have hF4d : ∀ i ∈ F4, ¬ i = d := fun i hi q => by have := h.lt d h.dH; have := (hF4 i hi).1; omega
  have b4'' := b4'.fr f8 hF4d
  have b8 := b7.fr f8 fun i hi (q : i = d) => by have := h.lt d h.dH; have := (hF7 i hi).1; omega
  -- the numbers
  obtain ⟨m9, hm9⟩ : ∃ m9, m8.push { cells := [I x], rw := true, spare := none, kin := [] } = m9 := ⟨_, rfl⟩
  have f9 : Nx m8 m9 := hm9 ▸ .push
  have x9 : m9.next = m8.next + 1 := by rw [← hm9]; simp
  have k9 : OwnX [m8.next] m9 (.slice (some ⟨m8.next, 0, none⟩) 1 1) [I x] := hm9 ▸ own_one
  obtain ⟨va, ma, Fa, aa, ba, fa, sa, na⟩ := (b4''.fr f9 fun _ _ h => h).append (bytes := 8) (zero := I 0) (ys := [I x]) k9.rd (by simp; omega) (by omega)
  have xa := fa.next
  have hFa : ∀ i ∈ Fa, (m3.next ≤ i ∧ i < m4.next ∨ m9.next ≤ i) ∧ i < ma.next := fun i hi => ⟨(na i hi).elim (fun q => .inl (hF4 i q)) .inr, ba.lt i hi⟩
  have hdl := h.lt d h.dH
  have hnF4 : ∀ i ∈ FN, i ∉ F4 := fun i hi q => by have := h.lt i (h.nH i hi).1; have := (hF4 i q).1; omega
  have hnFa : ∀ i ∈ FN, i ∉ Fa := fun i hi q => by have := h.lt i (h.nH i hi).1; have := (hFa i q).1; omega
  have n9 := n8.fr f9 fun _ _ h => h
  have nA := n9.fr fa hnF4
  have g9 := f9.get (by omega) (fun h => h) g8
  have ga := fa.get (by omega) (fun q => by have := (hF4 d q).1; omega) g9
  obtain ⟨ra, ea, oa⟩ := nA.from (k := posE key es) (by rw [ln]; exact hle)
  have e9 := from_det nA n9 (by rw [ln]; exact hle) ea
  have e8 := from_det nA n8 (by rw [ln]; exact hle) ea
  obtain ⟨vb, mb, Fb, ab, bb, fb, sb, nb⟩ := ba.append (bytes := 8) (zero := I 0) oa (by simp; omega) (by omega)
  have xb := fb.next
  have nB := nA.fr fb hnFa
  have eb := from_det nA nB (by rw [ln]; exact hle) ea
  have gb := fb.get (by omega) (fun q => by have := (hFa d q).1; omega) ga
  obtain ⟨qb, cb, hvb⟩ := bb.slice
  obtain ⟨mc, sc, gc, fc, xc⟩ := fld2 (i := 1) (y := vb) gb (by simp) (by rw [hvb]; rfl) (by rw [hvb]; rfl)
  have hFb : ∀ i ∈ Fb, (m3.next ≤ i ∧ i < m4.next ∨ m9.next ≤ i) ∧ i < mb.next := fun i hi => ⟨(nb i hi).elim (fun q => (hFa i q).1) (fun q => .inr (by omega)), bb.lt i hi⟩
  have hF7' : ∀ i ∈ F7, (m1.next ≤ i ∧ i < m2.next ∨ m5.next ≤ i) ∧ i < m7.next := fun i hi => ⟨(n7 i hi).elim (fun q => (n6 i q).elim (fun q => .inl (hF2 i q)) .inr) (fun q => .inr (by omega)), b7.lt i hi⟩
  have b9 := ((b8.fr f9 fun _ _ h => h).fr fa fun i hi q => by have := hF7' i hi; have := hF4 i q; omega).fr fb fun i hi q => by have := hF7' i hi; have := hFa i q; omega
  have hnum := bb.fr fc fun i hi (q : i = d) => by have := (hFb i hi).1; omega
  have hkeys := b9.fr fc fun i hi (q : i = d) => by have := (hF7 i hi).1; omega
  have hfm : Fm (· ∈ H) m mc := by
    have t1 : Fm (· ∈ H) m m5 := ((((f1.comp f2' fun _ _ h => h).comp f3 fun _ _ h => h).comp f4' fun _ _ h => h).comp f5 fun _ _ h => h).mono fun _ _ h => h.elim
    have t2 : Fm (· ∈ H) m m7 := (t1.comp f6 fun i hi q => by have := (hF2 i q).1; omega).comp f7 fun i hi q => by have := (hF6 i q).1; omega
    have t3 : Fm (· ∈ H) m m8 := t2.comp f8 fun i hi (q : i = d) => by rw [q]; exact h.dH
    have t4 : Fm (· ∈ H) m mb := ((t3.comp f9 fun _ _ h => h.elim).comp fa fun i hi q => by have := (hF4 i q).1; omega).comp fb fun i hi q => by have := (hFa i q).1; omega
    exact t4.comp fc fun i hi (q : i = d) => by rw [q]; exact h.dH
  refine ⟨mc, d :: (F7 ++ Fb), callX_of (call_go (F := _) rfl rfl fun Q hQ => ?_), ⟨F7, Fb, v7, vb, gc, ?_, ?_, by simp, fun i hi => ⟨by simp [hi], fun q => by have := (hF7 i hi).1; omega⟩, fun i hi => ⟨by simp [hi], fun q => by have := (hFb i hi).1; omega, fun q => by have := (hFb i hi).1; have := hF7' i q; omega⟩, fun i hi => ?_⟩, hfm, fun i hi => ?_⟩
  · have gm := h.get; have gm1 := h1.get; have gm2 := h2.get; have gm3 := h3.get; have gm4 := h4.get; have gm5 := h5.get; have gm6 := h6.get; have gm7 := h7.get
    have B1 := bs72 (m := m)
    have B3 := bs73 (m := m2)
    have B5 := bone72 (m := m4) (x := key)
    have B9 := bone73 (m := m8) (x := x)
    rw [hm1] at B1
    rw [hm3] at B3
    rw [hm5] at B5
    rw [hm9] at B9
    obtain ⟨kq, kc, hvk⟩ := h.ks
    obtain ⟨nq, nc, hvn⟩ := h.on.slice
    simp only [List.length_map] at hvn
    obtain ⟨p6, l6, c6', hr6⟩ := sliceE_slice e6
    obtain ⟨pa, la, ca', hra⟩ := sliceE_slice ea
    have g8' : m8.get d = some { cells := [v7, vn], rw := true, spare := none, kin := [] } := g8
    have g9' : m9.get d = some { cells := [v7, vn], rw := true, spare := none, kin := [] } := g9
    have ga' : ma.get d = some { cells := [v7, vn], rw := true, spare := none, kin := [] } := ga
    have gb' : mb.get d = some { cells := [v7, vn], rw := true, spare := none, kin := [] } := gb
    subst hvk hvn hr6 hra
    simp only [↓tbS, Nat.reduceShiftRight, Nat.reduceAnd, Nat.reduceBneDiff, bne_self_eq_false, symA, go_opsd, symB, wantedX, X.put, X.look, Arg.ev, keepOf, restrict, evs, evO, initEnv, xres, tup, noTup, cls, quiet, Nat.reduceAdd, Nat.reduceEqDiff, ↓reduceIte, reduceCtorEq, goInt, exists_eq_left', eq_self, Int.reduceLT, Int.reduceLE, Int.reduceEq, Int.reduceNeg, Int.reduceAdd, Int.reduceSub, forall_const, ne_eq, undef, Nat.reducePow, Nat.reduceDiv, Nat.reduceMod, goR_call ha, B1, gm1, e1, a2, B3, gm3, e3, a4, gm4, gm5, gm6, gm7, B5, e4, e5, e6, e7, a6, a7, s8, g8', g9', ga', gb', B9, e8, e9, ea, eb, aa, ab, sc]
    exact hQ _ _ _ rfl ⟨rfl, rfl⟩
  · rw [hput]
    simpa using hkeys
  · rw [hput]
    simpa using hnum
  · rcases List.mem_cons.1 hi with rfl | hi
    · omega
    · rcases List.mem_append.1 hi with hi | hi
      · have := (hF7 i hi).2; omega
      · have := (hFb i hi).2; omega
  · rcases List.mem_cons.1 hi with rfl | hi
    · exact .inl h.dH
    · rcases List.mem_append.1 hi with hi | hi
      · have := (hF7 i hi).1; exact .inr (by omega)
      · have := (hFb i hi).1; exact .inr (by omega)
end
end Go.Proofs.Ytecceimgpeookaa

namespace Go.Proofs.Ytecceimgpeookaa
open Go X
set_option maxRecDepth 100000
attribute [local irreducible] X.Go' X.GoO X.GoR X.GoG X.GoC X.GoF X.GoFV X.GoFG X.Ex X.GoD X.GoDV X.GoDG
set_option linter.unusedVariables false
set_option linter.unusedSimpArgs false

section
variable {H FK FN : List Nat} {σ σ' : Nat → Tag} {m m' : Mem} {d p k : Nat} {vk vn v : Value} {es : List Ent} {key : Key} {x : Int} {xs : List Value}
theorem getE_no (h : hasE key es = false) : getE key es = none := by
  cases hq : getE key es with
  | none => rfl
  | some v =>
    have := getE_has (key := key) (es := es)
    rw [hq] at this
    rw [show hasK key (es.map (·.1)) = false from h] at this
    cases this
theorem rput_spec (h : RefT H m d es) (hs : SortE es) (hl : es.length ≤ 1000) :
    ∃ m' H', Ca 32 [Pt d, .string key, I x] m (.tuple #[I ((getE key es).getD 0), .bool (getE key es).isSome]) m' ∧ RefT H' m' d (putE key x es) ∧ Fm (· ∈ H) m m' ∧ ∀ i ∈ H', i ∈ H ∨ m.next ≤ i := by
  cases hb : hasE key es with
  | true =>
    obtain ⟨m', c1, c2, c3⟩ := rput_found (x := x) h hs hl hb
    have e : (getE key es).isSome = true := by rw [getE_has]; exact hb
    rw [e]
    exact ⟨m', H, c1, c2, c3, fun i hi => .inl hi⟩
  | false =>
    obtain ⟨m', H', c1, c2, c3, c4⟩ := rput_new (x := x) h hs hl hb
    rw [getE_no hb]
    exact ⟨m', H', c1, c2, c3, c4⟩
theorem rdel_spec (h : RefT H m d es) (hs : SortE es) (hl : es.length ≤ 1000) :
    ∃ m' H', Ca 33 [Pt d, .string key] m (.tuple #[I ((getE key es).getD 0), .bool (getE key es).isSome]) m' ∧ RefT H' m' d (delE key es) ∧ Fm (· ∈ H) m m' ∧ ∀ i ∈ H', i ∈ H ∨ m.next ≤ i := by
  cases hb : hasE key es with
  | false =>
    rw [getE_no hb, delE_no hs (by rw [getE_no hb]; rfl)]
    refine ⟨m, H, callX_of (call_go (F := _) rfl rfl fun Q hQ => ?_), h, .refl, fun i hi => .inl hi⟩
    obtain ⟨FK, FN, vk, vn, h⟩ := h
    have ha := at_spec (key := key) h hs hl
    rw [hb] at ha
    simp only [symA, go_opsd, symB, wantedX, X.put, X.look, Arg.ev, keepOf, restrict, evs, evO, initEnv, xres, tup, noTup, cls, quiet, Nat.reduceAdd, Nat.reduceEqDiff, ↓reduceIte, reduceCtorEq, goInt, exists_eq_left', eq_self, Int.reduceLT, Int.reduceLE, Int.reduceEq, Int.reduceNeg, Int.reduceAdd, Int.reduceSub, forall_const, ne_eq, undef, Nat.reducePow, Nat.reduceDiv, Nat.reduceMod, goR_call ha]
    exact hQ _ _ _ rfl ⟨rfl, rfl⟩
  | true =>
  obtain ⟨FK, FN, vk, vn, h⟩ := h
  have ha := at_spec (key := key) h hs hl
  rw [hb] at ha
  have hle := posE_le (key := key) (es := es)
  obtain ⟨k1, _, _⟩ := leafE (key := key) (above := false) hs
  obtain ⟨w, q1, q2⟩ := k1 hb
  rw [q2]
  obtain ⟨d1, d2, d3⟩ := del_len hs hb
  have d3' : posE key es < es.length := d3
  have hdel : delE key es = es.take (posE key es) ++ es.drop (posE key es + 1) := by rw [d1, List.eraseIdx_eq_take_drop_succ]
  have lk : ((es.map (·.1)).map sv).length = es.length := by simp
  have ln : ((es.map (·.2)).map iv).length = es.length := by simp
  obtain ⟨an, cn, on, hvn, gn1, gn2⟩ := h.numAt q1
  have gn2' : on.cells[an.off + posE key es]? = some (I w) := gn2
  -- the first parts
  obtain ⟨m1, hm1⟩ : ∃ m1, m.push { cells := [], rw := true, spare := none, kin := [] } = m1 := ⟨_, rfl⟩
  have f1 : Nx m m1 := hm1 ▸ .push
  have h1 := h.nx f1
  obtain ⟨r1, e1, o1⟩ := h1.ok.to (k := posE key es) (by rw [lk]; exact hle)
  obtain ⟨v2, m2, F2, a2, b2, f2, _, n2⟩ := (own_empty (m := m1) (id := m.next)).append (bytes := 16) (zero := .string .empty) o1.rd (by simp; omega) (by omega)
  have f2' : Nx m1 m2 := f2.mono fun i _ hi => (by simp at hi)
  have h2 := h1.nx f2'
  obtain ⟨m3, hm3⟩ : ∃ m3, m2.push { cells := [], rw := true, spare := none, kin := [] } = m3 := ⟨_, rfl⟩
  have f3 : Nx m2 m3 := hm3 ▸ .push
  have h3 := h2.nx f3
  obtain ⟨r3, e3, o3⟩ := h3.on.to (k := posE key es) (by rw [ln]; exact hle)
  obtain ⟨v4, m4, F4, a4, b4, f4, _, n4⟩ := (own_empty (m := m3) (id := m2.next)).append (bytes := 8) (zero := I 0) o3.rd (by simp; omega) (by omega)
  have f4' : Nx m3 m4 := f4.mono fun i _ hi => (by simp at hi)
  have h4 := h3.nx f4'
  have b2' := (b2.fr f3 fun _ _ h => h).fr f4' fun _ _ h => h
  have x1 := f1.next; have x2 := f2.next; have x3 := f3.next; have x4 := f4.next
  have hF2 : ∀ i ∈ F2, m1.next ≤ i ∧ i < m2.next := fun i hi => ⟨(n2 i hi).resolve_left (by simp), b2.lt i hi⟩
  have hF4 : ∀ i ∈ F4, m3.next ≤ i ∧ i < m4.next := fun i hi => ⟨(n4 i hi).resolve_left (by simp), b4.lt i hi⟩
  have hdl := h.lt d h.dH
  -- the keys
  have hH2 : ∀ i ∈ H, i ∉ F2 := fun i hi q => by have := h.lt i hi; have := (hF2 i q).1; omega
  obtain ⟨r6, e6, o6⟩ := h4.ok.from (k := posE key es + 1) (by rw [lk]; omega)
  obtain ⟨v7, m7, F7, a7, b7, f7, s7, n7⟩ := b2'.append (bytes := 16) (zero := .string .empty) o6 (by simp; omega) (by omega)
  have h7 := h4.fr f7 fun i hi q => hH2 i hi q
  have x7 := f7.next
  have hF7' : ∀ i ∈ F7, (m1.next ≤ i ∧ i < m2.next ∨ m4.next ≤ i) ∧ i < m7.next := fun i hi => ⟨(n7 i hi).elim (fun q => .inl (hF2 i q)) .inr, b7.lt i hi⟩
  have hd6 : ∀ i ∈ F4, i ∉ F2 := fun i hi q => by have := (hF2 i q).2; have := (hF4 i hi).1; omega
  have b4' := b4.fr f7 hd6
  obtain ⟨q7, c7, hv7⟩ := b7.slice
  obtain ⟨m8, s8, g8, f8, x8⟩ := fld2 (i := 0) (y := v7) h7.get (by simp) (by rw [hv7]; rfl) (by rw [hv7]; rfl)
  have n8 : OwnX FN m8 vn ((es.map (·.2)).map iv) := h7.on.fr f8 fun i hi => (h.nH i hi).2.1
  have b4'' := b4'.fr f8 fun i hi (q : i = d) => by have := (hF4 i hi).1; omega
  have b8 := b7.fr f8 fun i hi (q : i = d) => by have := (hF7' i hi).1; omega
  -- the numbers
  have hnF4 : ∀ i ∈ FN, i ∉ F4 := fun i hi q => by have := h.lt i (h.nH i hi).1; have := (hF4 i q).1; omega
  obtain ⟨ra, ea, oa⟩ := n8.from (k := posE key es + 1) (by rw [ln]; omega)
  obtain ⟨vb, mb, Fb, ab, bb, fb, sb, nb⟩ := b4''.append (bytes := 8) (zero := I 0) oa (by simp; omega) (by omega)
  have xb := fb.next
  have gb := fb.get (by omega) (fun q => by have := (hF4 d q).1; omega) g8
  obtain ⟨qb, cb, hvb⟩ := bb.slice
  obtain ⟨mc, sc, gc, fc, xc⟩ := fld2 (i := 1) (y := vb) gb (by simp) (by rw [hvb]; rfl) (by rw [hvb]; rfl)
  have hFb : ∀ i ∈ Fb, (m3.next ≤ i ∧ i < m4.next ∨ m8.next ≤ i) ∧ i < mb.next := fun i hi => ⟨(nb i hi).elim (fun q => .inl (hF4 i q)) .inr, bb.lt i hi⟩
  have b9 := b8.fr fb fun i hi q => by have := hF7' i hi; have := hF4 i q; omega
  have hnum := bb.fr fc fun i hi (q : i = d) => by have := (hFb i hi).1; omega
  have hkeys := b9.fr fc fun i hi (q : i = d) => by have := (hF7' i hi).1; omega
  have hfm : Fm (· ∈ H) m mc := by
    have t1 : Fm (· ∈ H) m m4 := (((f1.comp f2' fun _ _ h => h).comp f3 fun _ _ h => h).comp f4' fun _ _ h => h).mono fun _ _ h => h.elim
    have t2 : Fm (· ∈ H) m m7 := t1.comp f7 fun i hi q => by have := (hF2 i q).1; omega
    have t3 : Fm (· ∈ H) m m8 := t2.comp f8 fun i hi (q : i = d) => by rw [q]; exact h.dH
    have t4 : Fm (· ∈ H) m mb := t3.comp fb fun i hi q => by have := (hF4 i q).1; omega
    exact t4.comp fc fun i hi (q : i = d) => by rw [q]; exact h.dH
  refine ⟨mc, d :: (F7 ++ Fb), callX_of (call_go (F := _) rfl rfl fun Q hQ => ?_), ⟨F7, Fb, v7, vb, gc, ?_, ?_, by simp, fun i hi => ⟨by simp [hi], fun q => by have := (hF7' i hi).1; omega⟩, fun i hi => ⟨by simp [hi], fun q => by have := (hFb i hi).1; omega, fun q => by have := (hFb i hi).1; have := hF7' i q; omega⟩, fun i hi => ?_⟩, hfm, fun i hi => ?_⟩
  · have gm := h.get; have gm1 := h1.get; have gm3 := h3.get; have gm4 := h4.get; have gm7 := h7.get
    have B1 := bs72 (m := m)
    have B3 := bs73 (m := m2)
    rw [hm1] at B1
    rw [hm3] at B3
    have w1 : IntKind.i64.wrap ((posE key es : Int) + 1) = ((posE key es + 1 : Nat) : Int) := by rw [wrap_i64 (by omega) (by omega)]; omega
    have g8' : m8.get d = some { cells := [v7, vn], rw := true, spare := none, kin := [] } := g8
    have gb' : mb.get d = some { cells := [v7, vn], rw := true, spare := none, kin := [] } := gb
    subst hvn
    simp only [symA, go_opsd, symB, wantedX, X.put, X.look, Arg.ev, keepOf, restrict, evs, evO, initEnv, xres, tup, noTup, cls, quiet, Nat.reduceAdd, Nat.reduceEqDiff, ↓reduceIte, reduceCtorEq, goInt, exists_eq_left', eq_self, Int.reduceLT, Int.reduceLE, Int.reduceEq, Int.reduceNeg, Int.reduceAdd, Int.reduceSub, forall_const, ne_eq, undef, Nat.reducePow, Nat.reduceDiv, Nat.reduceMod, goR_call ha, gm, d3', gn1, gn2', B1, gm1, e1, a2, B3, gm3, e3, a4, gm4, w1, e6, a7, s8, g8', ea, ab, gb', sc, Option.getD_some, Option.isSome_some]
    exact hQ _ _ _ rfl ⟨rfl, rfl⟩
  · rw [hdel]
    simpa using hkeys
  · rw [hdel]
    simpa using hnum
  · rcases List.mem_cons.1 hi with rfl | hi
    · omega
    · rcases List.mem_append.1 hi with hi | hi
      · have := (hF7' i hi).2; omega
      · have := (hFb i hi).2; omega
  · rcases List.mem_cons.1 hi with rfl | hi
    · exact .inl h.dH
    · rcases List.mem_append.1 hi with hi | hi
      · have := (hF7' i hi).1; exact .inr (by omega)
      · have := (hFb i hi).1; exact .inr (by omega)
end
end Go.Proofs.Ytecceimgpeookaa

namespace Go.Proofs.Ytecceimgpeookaa
open Go X
set_option maxRecDepth 100000
attribute [local irreducible] X.Go' X.GoO X.GoR X.GoG X.GoC X.GoF X.GoFV X.GoFG X.Ex X.GoD X.GoDV X.GoDG
set_option linter.unusedVariables false
set_option linter.unusedSimpArgs false

section
variable {H FK FN : List Nat} {σ σ' : Nat → Tag} {m m' : Mem} {d p k : Nat} {vk vn v : Value} {es : List Ent} {key : Key} {x : Int} {xs : List Value}
theorem TreeM.ch (h : TreeM σ m p es k) (hc : Ch .no σ σ' m m') : TreeM σ' m' p es k := by
  obtain ⟨vl, vf, ns, ls, fr, root, ht, hr, b1, b2⟩ := h
  exact ⟨vl, vf, ns, ls, fr, root, ht.ch hc (by simp) (by simp) (by simp) (by simp), hr, b1, b2⟩
theorem TreeM.nx (h : TreeM σ m p es k) (hf : Nx m m') : TreeM σ m' p es k := h.ch (Ch.nx hf)
theorem TreeM.le {k' : Nat} (h : TreeM σ m p es k) (hk : k ≤ k') : TreeM σ m p es k' := by
  obtain ⟨vl, vf, ns, ls, fr, root, ht, hr, b1, b2⟩ := h
  exact ⟨vl, vf, ns, ls, fr, root, ht, hr, by omega, by omega⟩
theorem TreeM.len (h : TreeM σ m p es k) : es.length ≤ k := by
  obtain ⟨vl, vf, ns, ls, fr, root, ht, hr, b1, b2⟩ := h
  exact b2
theorem pos_at (hs : SortE es) {j : Nat} {e : Ent} (he : es[j]? = some e) : posE e.1 es = j ∧ hasE e.1 es = true := by
  have hsk := sortKE hs
  have he' : (es.map (·.1))[j]? = some e.1 := by rw [List.getElem?_map, he]; rfl
  have h1 : posE e.1 es = j := posK_eq (by rw [List.length_map]; have := (List.getElem?_eq_some_iff.1 he).1; omega) (fun d y hd hy => sortK_lt hsk hd hy he') (fun d y hd hy q => by
    rcases Nat.lt_or_eq_of_le hd with hd | rfl
    · exact ltT_asymm (sortK_lt hsk hd he' hy) q
    · rw [he'] at hy; cases hy; exact ltT_irrefl _ q)
  refine ⟨h1, (hasK_iff hsk).2 ?_⟩
  rw [show posK e.1 (es.map (·.1)) = j from h1]
  exact he'
theorem after_at (hs : SortE es) {j : Nat} {e : Ent} (he : es[j]? = some e) : fstE true e.1 es = es[j + 1]? := by
  obtain ⟨_, _, h, _⟩ := leafE (key := e.1) (above := true) hs
  obtain ⟨q1, q2⟩ := pos_at hs he
  have q1' : posK e.1 (es.map (·.1)) = j := q1
  have q2' : hasK e.1 (es.map (·.1)) = true := q2
  rw [h, q1', q2']
  rfl
theorem seek_at (hs : SortE es) : fstE false key es = es[posE key es]? := by
  obtain ⟨_, _, h, _⟩ := leafE (key := key) (above := false) hs
  rw [h]
  simp
/-- How many keys are told. -/
def keysE (key : Key) (n : Int) (es : List Ent) : List Key := ((es.drop (posE key es)).take n.toNat).map (·.1)
theorem keys_spec {n : Int} (h : TreeM σ m p es k) (hk : k ≤ 4000) : ∃ m' v F, Ca 28 [Pt p, .string key, I n] m v m' ∧ OwnX F m' v ((keysE key n es).map sv) ∧ (∀ i ∈ F, m.next ≤ i) ∧ Nx m m' := by
  have hs := h.sort
  have hlen := h.len
  have hseek := Seek_spec (key := key) h
  rw [seek_at hs] at hseek
  have key' : Wc 28 [Pt p, .string key, I n] m fun v m' => ∃ F, OwnX F m' v ((keysE key n es).map sv) ∧ (∀ i ∈ F, m.next ≤ i) ∧ Nx m m' := by
    refine call_go (F := _) rfl rfl fun Q hQ => ?_
    obtain ⟨s0, n0, o0, hgo⟩ : ∃ s0 n0 o0, tupF (es[posE key es]?) = .tuple #[.string s0, I n0, .bool o0] := ⟨_, _, _, rfl⟩
    rw [hgo] at hseek
    simp only [symA, go_opsd, symB, wantedX, X.put, X.look, Arg.ev, keepOf, restrict, evs, evO, initEnv, xres, tup, noTup, cls, quiet, Nat.reduceAdd, Nat.reduceEqDiff, ↓reduceIte, reduceCtorEq, goInt, exists_eq_left', eq_self, Int.reduceLT, Int.reduceLE, Int.reduceEq, Int.reduceNeg, Int.reduceAdd, Int.reduceSub, forall_const, ne_eq, undef, Nat.reducePow, Nat.reduceDiv, Nat.reduceMod, goR_call hseek]
    refine loop_go (fun j e m' => ∃ i F vl, posE key es + i ≤ es.length ∧ i ≤ n.toNat ∧ j = es.length - i ∧ Nx m m' ∧ OwnX F m' vl ((((es.drop (posE key es)).take i).map (·.1)).map sv) ∧ (∀ i ∈ F, m.next ≤ i) ∧ e = [(0, Pt p), (2, I n), (7, vl), (8, .string (((es[posE key es + i]?).getD zeroE).1)), (10, .bool (es[posE key es + i]?).isSome)]) es.length ⟨0, [], .slice none 0 0, by have := posE_le (key := key) (es := es); omega, by omega, rfl, .refl, OwnX.nil, by simp, ?_⟩ ?_
    · unfold tupF at hgo
      injection hgo with hgo
      injection hgo with hgo
      injection hgo with g1 g2
      injection g2 with g2 g3
      injection g3 with g3 _
      rw [← g1, ← g3]
      rfl
    rintro j e m1 N' B' hN hB ⟨i, F, vl, hi, hin, rfl, hnx, how, hF, rfl⟩
    have h1 := h.nx hnx
    obtain ⟨q, c, hvl⟩ := how.slice
    have hli : ((((es.drop (posE key es)).take i).map (·.1)).map sv).length = i := by simp; omega
    rw [hli] at hvl
    cases hq : es[posE key es + i]? with
    | none =>
      have hle := List.getElem?_eq_none_iff.1 hq
      simp only [symA, go_opsd, symB, wantedX, X.put, X.look, Arg.ev, keepOf, restrict, evs, evO, initEnv, xres, tup, noTup, cls, quiet, Nat.reduceAdd, Nat.reduceEqDiff, ↓reduceIte, reduceCtorEq, goInt, exists_eq_left', eq_self, Int.reduceLT, Int.reduceLE, Int.reduceEq, Int.reduceNeg, Int.reduceAdd, Int.reduceSub, forall_const, ne_eq, undef, Nat.reducePow, Nat.reduceDiv, Nat.reduceMod, Option.isSome_none]
      refine hB _ _ _ ?_
      simp only [symA, go_opsd, symB, wantedX, X.put, X.look, Arg.ev, keepOf, restrict, evs, evO, initEnv, xres, tup, noTup, cls, quiet, Nat.reduceAdd, Nat.reduceEqDiff, ↓reduceIte, reduceCtorEq, goInt, exists_eq_left', eq_self, Int.reduceLT, Int.reduceLE, Int.reduceEq, Int.reduceNeg, Int.reduceAdd, Int.reduceSub, forall_const, ne_eq, undef, Nat.reducePow, Nat.reduceDiv, Nat.reduceMod]
      refine hQ _ _ _ rfl ⟨F, ?_, hF, hnx⟩
      have e : keysE key n es = ((es.drop (posE key es)).take i).map (·.1) := by
        unfold keysE
        rw [List.take_of_length_le (by simp; omega), List.take_of_length_le (by simp; omega)]
      rw [e]
      exact how
    | some y =>
      have hlt := (List.getElem?_eq_some_iff.1 hq).1
      by_cases hm : (i : Int) < n
      · obtain ⟨mA, hA⟩ : ∃ mA, m1.push { cells := [.string y.1], rw := true, spare := none, kin := [] } = mA := ⟨_, rfl⟩
        have fA : Nx m1 mA := hA ▸ .push
        have kA : OwnX [m1.next] mA (.slice (some ⟨m1.next, 0, none⟩) 1 1) [.string y.1] := hA ▸ own_one
        obtain ⟨v2, m2, F2, a2, b2, f2, _, n2⟩ := (how.fr fA fun _ _ h => h).append (bytes := 16) (zero := .string .empty) (ys := [.string y.1]) kA.rd (by rw [hli]; simp; omega) (by omega)
        have hx1 := hnx.next
        have hxA := fA.next
        have f2' : Nx m m2 := (hnx.comp fA fun _ _ h => h).comp f2 fun i hi q => by have := hF i q; omega
        have h2 := h.nx f2'
        have haf := After_spec (key := y.1) h2
        rw [after_at hs hq] at haf
        have B := bone72 (m := m1) (x := y.1)
        rw [hA] at B
        subst hvl
        simp only [tupF] at haf
        simp only [symA, go_opsd, symB, wantedX, X.put, X.look, Arg.ev, keepOf, restrict, evs, evO, initEnv, xres, tup, noTup, cls, quiet, Nat.reduceAdd, Nat.reduceEqDiff, ↓reduceIte, reduceCtorEq, goInt, exists_eq_left', eq_self, Int.reduceLT, Int.reduceLE, Int.reduceEq, Int.reduceNeg, Int.reduceAdd, Int.reduceSub, forall_const, ne_eq, undef, Nat.reducePow, Nat.reduceDiv, Nat.reduceMod, Option.isSome_some, Option.getD_some, hm, decide_true, B, a2, goR_call haf]
        refine hN _ _ (es.length - (i + 1)) (by omega) ⟨i + 1, F2, v2, by omega, by omega, rfl, f2', ?_, fun j hj => (n2 j hj).elim (hF j) (fun q => by omega), by rw [Nat.add_assoc]⟩
        have e : (((es.drop (posE key es)).take (i + 1)).map (·.1)).map sv = ((((es.drop (posE key es)).take i).map (·.1)).map sv) ++ [.string y.1] := by
          rw [List.take_add_one, List.getElem?_drop, hq]
          simp
        rw [e]
        exact b2
      · subst hvl
        simp only [symA, go_opsd, symB, wantedX, X.put, X.look, Arg.ev, keepOf, restrict, evs, evO, initEnv, xres, tup, noTup, cls, quiet, Nat.reduceAdd, Nat.reduceEqDiff, ↓reduceIte, reduceCtorEq, goInt, exists_eq_left', eq_self, Int.reduceLT, Int.reduceLE, Int.reduceEq, Int.reduceNeg, Int.reduceAdd, Int.reduceSub, forall_const, ne_eq, undef, Nat.reducePow, Nat.reduceDiv, Nat.reduceMod, Option.isSome_some, hm, decide_false]
        refine hB _ _ _ ?_
        simp only [symA, go_opsd, symB, wantedX, X.put, X.look, Arg.ev, keepOf, restrict, evs, evO, initEnv, xres, tup, noTup, cls, quiet, Nat.reduceAdd, Nat.reduceEqDiff, ↓reduceIte, reduceCtorEq, goInt, exists_eq_left', eq_self, Int.reduceLT, Int.reduceLE, Int.reduceEq, Int.reduceNeg, Int.reduceAdd, Int.reduceSub, forall_const, ne_eq, undef, Nat.reducePow, Nat.reduceDiv, Nat.reduceMod]
        refine hQ _ _ _ rfl ⟨F, ?_, hF, hnx⟩
        have e : n.toNat = i := by omega
        unfold keysE
        rw [e]
        exact how
  obtain ⟨v, m', c, F, o, hF, hn⟩ := key'
  exact ⟨m', v, F, c, o, hF, hn⟩
end
end Go.Proofs.Ytecceimgpeookaa
