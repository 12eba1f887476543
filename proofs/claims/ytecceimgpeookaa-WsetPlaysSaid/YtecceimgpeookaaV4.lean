/-
  Own work. The set of writes: what stands in memory, and what its functions that only look come to.
-/
import Derived.Test.YtecceimgpeookaaV3
namespace Go.Proofs.Ytecceimgpeookaa
open Go X
set_option maxRecDepth 100000
attribute [local irreducible] X.Go' X.GoO X.GoR X.GoG X.GoC X.GoF X.GoFV X.GoFG X.Ex X.GoD X.GoDV X.GoDG
set_option linter.unusedVariables false
set_option linter.unusedSimpArgs false

/-! ## Plain -/
def zeroW : Wr := ⟨.empty, false, false, .empty, 0⟩
abbrev ZW : List Value := [.string .empty, .bool false, .bool false, .string .empty, U 0]
def getW (k : ByteArray) (W : List Wr) : Option Wr := W.find? fun x => decide (x.key = k)
def fromW (above : Bool) (k : ByteArray) (W : List Wr) : Option Wr := W.find? fun x => decide (ltT k x.key) || (!above && decide (x.key = k))
section
variable {k : ByteArray} {W A B : List Wr} {o : Option Wr}
theorem CutW.get (h : CutW k W A o B) : getW k W = o := by
  have h1 : A.find? (fun x => decide (x.key = k)) = none := List.find?_eq_none.2 fun x hx => by simpa using ltT_ne (h.lo x hx)
  have h2 : B.find? (fun x => decide (x.key = k)) = none := List.find?_eq_none.2 fun x hx => by simpa using fun e => ltT_ne (h.hi x hx) e.symm
  rw [getW, h.eq, List.find?_append, h1, List.find?_append, h2]
  cases ho : o with
  | none => rfl
  | some x => simp [h.mid x ho]
theorem CutW.above (h : CutW k W A o B) : fromW true k W = B.head? := by
  have h1 : A.find? (fun x => decide (ltT k x.key) || (!true && decide (x.key = k))) = none := List.find?_eq_none.2 fun x hx => by simpa using ltT_asymm (h.lo x hx)
  have h2 : o.toList.find? (fun x => decide (ltT k x.key) || (!true && decide (x.key = k))) = none := List.find?_eq_none.2 fun x hx => by
    have := h.mid x (by simpa using hx)
    simp [this, ltT_irrefl]
  rw [fromW, h.eq, List.find?_append, h1, List.find?_append, h2]
  cases B with
  | nil => rfl
  | cons x B => simp [h.hi x (by simp)]
theorem CutW.seek (h : CutW k W A o B) : fromW false k W = (o.toList ++ B).head? := by
  have h1 : A.find? (fun x => decide (ltT k x.key) || (!false && decide (x.key = k))) = none := List.find?_eq_none.2 fun x hx => by simpa using ⟨ltT_asymm (h.lo x hx), ltT_ne (h.lo x hx)⟩
  rw [fromW, h.eq, List.find?_append, h1]
  cases ho : o with
  | none =>
    cases B with
    | nil => rfl
    | cons x B => simp [h.hi x (by simp)]
  | some x => simp [h.mid x ho]
theorem CutW.at (h : CutW k W A o B) : W[A.length]? = (o.toList ++ B).head? := by
  rw [h.eq, List.getElem?_append_right (Nat.le_refl _), Nat.sub_self, List.head?_eq_getElem?]
theorem CutW.next (h : CutW k W A o B) : W[A.length + o.toList.length]? = B.head? := by
  rw [h.eq, ← List.append_assoc, List.getElem?_append_right (by simp), List.head?_eq_getElem?]
  simp
theorem CutW.len (h : CutW k W A o B) : W.length = A.length + (o.toList.length + B.length) := by rw [h.eq]; simp
end

/-! ## What stands in memory -/
structure Un where
  key : ByteArray
  was : Wr
  had : Bool
abbrev Un.row (u : Un) : List Value := [.string u.key, .string u.was.key, .bool u.was.gone, .bool u.was.num, .string u.was.text, U (u.was.bits : Int), .bool u.had]
abbrev rowsN (us : List Un) : List (List Value) := us.map Un.row
abbrev rowsI (ns : List Nat) : List (List Value) := ns.map fun (n : Nat) => [I (n : Int)]
abbrev Pt (p : Nat) : Value := .pointer (some ⟨p, 0, none⟩)
structure SetM (G : List Nat) (m : Mem) (p : Nat) (vl vu vm : Value) (FL FU FM : List Nat) (W : List Wr) (us : List Un) (Mk : List Nat) : Prop where
  get : m.get p = some { cells := [vl, vu, vm], rw := true, spare := none, kin := [] }
  ol : Own2 5 FL m vl (rowsW W)
  ou : Own2 7 FU m vu (rowsN us)
  om : Own2 1 FM m vm (rowsI Mk)
  pL : p ∉ FL
  pU : p ∉ FU
  pM : p ∉ FM
  lu : ∀ i ∈ FL, i ∉ FU
  lm : ∀ i ∈ FL, i ∉ FM
  um : ∀ i ∈ FU, i ∉ FM
  pG : p ∈ G
  lG : ∀ i ∈ FL, i ∈ G
  uG : ∀ i ∈ FU, i ∈ G
  mG : ∀ i ∈ FM, i ∈ G
  lt : ∀ i ∈ G, i < m.next

section
variable {G FL FU FM Mk : List Nat} {m m' : Mem} {p : Nat} {vl vu vm : Value} {W : List Wr} {us : List Un} {k : ByteArray}
theorem SetM.fr {S : Nat → Prop} (h : SetM G m p vl vu vm FL FU FM W us Mk) (hf : Fm S m m') (hs : ∀ i ∈ G, ¬ S i) : SetM G m' p vl vu vm FL FU FM W us Mk :=
  ⟨hf.get (h.lt p h.pG) (hs p h.pG) h.get, h.ol.fr hf fun i hi => hs i (h.lG i hi), h.ou.fr hf fun i hi => hs i (h.uG i hi), h.om.fr hf fun i hi => hs i (h.mG i hi), h.pL, h.pU, h.pM, h.lu, h.lm, h.um, h.pG, h.lG, h.uG, h.mG, fun i hi => Nat.lt_of_lt_of_le (h.lt i hi) hf.next⟩
theorem SetM.nx (h : SetM G m p vl vu vm FL FU FM W us Mk) (hf : Nx m m') : SetM G m' p vl vu vm FL FU FM W us Mk := h.fr hf fun _ _ h => h
theorem SetM.rd (h : SetM G m p vl vu vm FL FU FM W us Mk) : RdW m.next m vl W := h.ol.rd (by omega)
theorem own_slice {size : Nat} {F : List Nat} {v : Value} {rows : List (List Value)} (h : Own2 size F m v rows) (hs : 0 < size) : ∃ q c, v = .slice q rows.length c := (h.rd hs).slice

theorem at_spec (h : SetM G m p vl vu vm FL FU FM W us Mk) (hs : SortW W) (hl : W.length ≤ 1000) :
    ∃ (A : List Wr) (o : Option Wr) (B : List Wr) (m' : Mem), Ca 42 [Pt p, .string k] m (.tuple #[I (A.length : Int), .bool o.isSome]) m' ∧ CutW k W A o B ∧ Nx m m' := by
  obtain ⟨A, o, B, m', c1, c2, c3⟩ := search_spec (k := k) h.rd hs (by omega) (Nat.le_refl _)
  refine ⟨A, o, B, m', callX_of (call_go (F := _) rfl rfl fun Q hQ => ?_), c2, c3⟩
  simp only [symA, go_opsd, symB, wantedX, X.put, X.look, Arg.ev, keepOf, restrict, evs, evO, initEnv, xres, tup, noTup, cls, quiet, Nat.reduceAdd, Nat.reduceEqDiff, ↓reduceIte, reduceCtorEq, goInt, exists_eq_left', eq_self, Int.reduceLT, Int.reduceLE, Int.reduceEq, Int.reduceNeg, Int.reduceAdd, Int.reduceSub, forall_const, ne_eq, undef, Nat.reducePow, Nat.reduceDiv, Nat.reduceMod, h.get, goR_call c1]
  exact hQ _ _ _ rfl ⟨rfl, rfl⟩

def tupW (o : Option Wr) : Value := .tuple #[.agg ⟨(o.getD zeroW).row⟩, .bool o.isSome]
theorem res_cell5 {e : Env} {m : Mem} {t u p : Nat} {row : List Value} {b : Bool} (h1 : X.look e t = some (.pointer (some ⟨p, 0, none⟩))) (h2 : X.look e u = some (.bool b)) (h3 : m.get p = some { cells := row, rw := true, spare := none, kin := [] }) (h4 : row.length = 5) :
    xres e m [.cell true 5 t, .tmp u] = some [.agg ⟨row⟩, .bool b] := by
  have e1 : row.take 5 = row := List.take_of_length_le (by omega)
  simp [xres, h1, h2, xload, h3, h4, e1]
theorem buildZW {m : Mem} : buildE m ZW [(0, 1), (1, 1), (2, 3)] [] = some (.val (.agg ⟨zeroW.row⟩) m) := by kernel_rfl

theorem get_spec (h : SetM G m p vl vu vm FL FU FM W us Mk) (hs : SortW W) (hl : W.length ≤ 1000) :
    ∃ m' A o B, Ca 20 [Pt p, .string k] m (tupW o) m' ∧ CutW k W A o B ∧ Nx m m' := by
  obtain ⟨m1, hm1⟩ : ∃ m1, m.push { cells := ZW, rw := true, spare := none, kin := [] } = m1 := ⟨_, rfl⟩
  have g1 : m1.get m.next = some { cells := ZW, rw := true, spare := none, kin := [] } := by rw [← hm1, push_self]
  have f1 : Nx m m1 := hm1 ▸ .push
  have n1 : m1.next = m.next + 1 := by rw [← hm1]; simp
  obtain ⟨A, o, B, m2, c1, c2, c3⟩ := at_spec (k := k) (h.nx f1) hs hl
  have h2 := (h.nx f1).nx c3
  have g2 := c3.get (by omega) (fun h => h) g1
  have f2 : Nx m m2 := f1.comp c3 fun _ _ h => h
  cases o with
  | none =>
    obtain ⟨m3, s1, s2, s3, s4⟩ := row_store (n := 5) (row := zeroW.row) g2 rfl rfl rfl rfl (by omega)
    refine ⟨m3, A, none, B, callX_of (call_go (F := _) rfl rfl fun Q hQ => ?_), c2, f2.comp s3 fun i hi h => by omega⟩
    simp only [symA, go_opsd, symB, wantedX, X.put, X.look, Arg.ev, keepOf, restrict, evs, evO, initEnv, xres, tup, noTup, cls, quiet, Nat.reduceAdd, Nat.reduceEqDiff, ↓reduceIte, reduceCtorEq, goInt, exists_eq_left', eq_self, Int.reduceLT, Int.reduceLE, Int.reduceEq, Int.reduceNeg, Int.reduceAdd, Int.reduceSub, forall_const, ne_eq, undef, Nat.reducePow, Nat.reduceDiv, Nat.reduceMod, hm1, goR_call c1, Option.isSome_none, buildZW, s1]
    exact hQ _ _ _ (by exact res_cell5 (row := zeroW.row) (b := false) rfl rfl s2 rfl) ⟨rfl, rfl⟩
  | some x =>
    have hx : W[A.length]? = some x := by rw [c2.at]; rfl
    have hlt := (List.getElem?_eq_some_iff.1 hx).1
    obtain ⟨a, c', hv', _, l5, _⟩ := rdW_at h2.rd hx
    obtain ⟨m3, s1, s2, s3, s4⟩ := row_store (n := 5) (row := x.row) g2 rfl rfl rfl rfl (by omega)
    refine ⟨m3, A, some x, B, callX_of (call_go (F := _) rfl rfl fun Q hQ => ?_), c2, f2.comp s3 fun i hi h => by omega⟩
    subst hv'
    simp only [symA, go_opsd, symB, wantedX, X.put, X.look, Arg.ev, keepOf, restrict, evs, evO, initEnv, xres, tup, noTup, cls, quiet, Nat.reduceAdd, Nat.reduceEqDiff, ↓reduceIte, reduceCtorEq, goInt, exists_eq_left', eq_self, Int.reduceLT, Int.reduceLE, Int.reduceEq, Int.reduceNeg, Int.reduceAdd, Int.reduceSub, forall_const, ne_eq, undef, Nat.reducePow, Nat.reduceDiv, Nat.reduceMod, hm1, goR_call c1, Option.isSome_some, h2.get, hlt, l5, s1]
    exact hQ _ _ _ (by exact res_cell5 (row := x.row) (b := true) rfl rfl s2 rfl) ⟨rfl, rfl⟩

theorem from_at (h : SetM G m p vl vu vm FL FU FM W us Mk) (hl : W.length ≤ 1000) (i : Nat) :
    ∃ m', Ca 43 [Pt p, I (i : Int)] m (tupW W[i]?) m' ∧ Nx m m' := by
  obtain ⟨m1, hm1⟩ : ∃ m1, m.push { cells := ZW, rw := true, spare := none, kin := [] } = m1 := ⟨_, rfl⟩
  have g1 : m1.get m.next = some { cells := ZW, rw := true, spare := none, kin := [] } := by rw [← hm1, push_self]
  have f1 : Nx m m1 := hm1 ▸ .push
  have h1 := h.nx f1
  by_cases hi : i < W.length
  · obtain ⟨x, hx⟩ : ∃ x, W[i]? = some x := ⟨_, List.getElem?_eq_getElem hi⟩
    obtain ⟨a, c', hv', _, l5, _⟩ := rdW_at h1.rd hx
    obtain ⟨m3, s1, s2, s3, s4⟩ := row_store (n := 5) (row := x.row) g1 rfl rfl rfl rfl (by omega)
    have hi' : ¬ (W.length : Int) ≤ (i : Int) := by omega
    refine ⟨m3, callX_of (call_go (F := _) rfl rfl fun Q hQ => ?_), f1.comp s3 fun i hi h => by omega⟩
    rw [hx] at hQ
    subst hv'
    simp only [symA, go_opsd, symB, wantedX, X.put, X.look, Arg.ev, keepOf, restrict, evs, evO, initEnv, xres, tup, noTup, cls, quiet, Nat.reduceAdd, Nat.reduceEqDiff, ↓reduceIte, reduceCtorEq, goInt, exists_eq_left', eq_self, Int.reduceLT, Int.reduceLE, Int.reduceEq, Int.reduceNeg, Int.reduceAdd, Int.reduceSub, forall_const, ne_eq, undef, Nat.reducePow, Nat.reduceDiv, Nat.reduceMod, hm1, h1.get, hi, hi', l5, s1]
    exact hQ _ _ _ (by exact res_cell5 (row := x.row) (b := true) rfl rfl s2 rfl) ⟨rfl, rfl⟩
  · obtain ⟨m3, s1, s2, s3, s4⟩ := row_store (n := 5) (row := zeroW.row) g1 rfl rfl rfl rfl (by omega)
    have hi' : (W.length : Int) ≤ (i : Int) := by omega
    obtain ⟨q, c, hv⟩ := rdW_slice h1.rd
    refine ⟨m3, callX_of (call_go (F := _) rfl rfl fun Q hQ => ?_), f1.comp s3 fun i hi h => by omega⟩
    rw [List.getElem?_eq_none (by omega)] at hQ
    subst hv
    simp only [symA, go_opsd, symB, wantedX, X.put, X.look, Arg.ev, keepOf, restrict, evs, evO, initEnv, xres, tup, noTup, cls, quiet, Nat.reduceAdd, Nat.reduceEqDiff, ↓reduceIte, reduceCtorEq, goInt, exists_eq_left', eq_self, Int.reduceLT, Int.reduceLE, Int.reduceEq, Int.reduceNeg, Int.reduceAdd, Int.reduceSub, forall_const, ne_eq, undef, Nat.reducePow, Nat.reduceDiv, Nat.reduceMod, hm1, h1.get, hi', buildZW, s1]
    exact hQ _ _ _ (by exact res_cell5 (row := zeroW.row) (b := false) rfl rfl s2 rfl) ⟨rfl, rfl⟩

theorem after_spec (h : SetM G m p vl vu vm FL FU FM W us Mk) (hs : SortW W) (hl : W.length ≤ 1000) : ∃ m', Ca 22 [Pt p, .string k] m (tupW (fromW true k W)) m' ∧ Nx m m' := by
  obtain ⟨m1, hm1⟩ : ∃ m1, m.push { cells := ZW, rw := true, spare := none, kin := [] } = m1 := ⟨_, rfl⟩
  have g1 : m1.get m.next = some { cells := ZW, rw := true, spare := none, kin := [] } := by rw [← hm1, push_self]
  have f1 : Nx m m1 := hm1 ▸ .push
  have n1 : m1.next = m.next + 1 := by rw [← hm1]; simp
  obtain ⟨A, o, B, m2, c1, c2, c3⟩ := at_spec (k := k) (h.nx f1) hs hl
  have h2 := (h.nx f1).nx c3
  have g2 := c3.get (by omega) (fun h => h) g1
  have f2 : Nx m m2 := f1.comp c3 fun _ _ h => h
  have hAl := c2.len
  rw [c2.above]
  have key : ∀ i : Nat, W[i]? = B.head? → ∃ m3 m4, Ca 43 [Pt p, I (i : Int)] m2 (tupW B.head?) m3 ∧ storeE m3 5 (.pointer (some ⟨m.next, 0, none⟩)) (.agg ⟨(B.head?.getD zeroW).row⟩) = some (.skip m4) ∧ m4.get m.next = some { cells := (B.head?.getD zeroW).row, rw := true, spare := none, kin := [] } ∧ Nx m m4 := by
    intro i hi
    obtain ⟨m3, d1, d2⟩ := from_at h2 hl i
    rw [hi] at d1
    have g3 := d2.get (by have := c3.next; omega) (fun h => h) g2
    obtain ⟨m4, s1, s2, s3, s4⟩ := row_store (n := 5) (row := (B.head?.getD zeroW).row) g3 rfl rfl rfl rfl (by omega)
    exact ⟨m3, m4, d1, s1, s2, (f2.comp d2 fun _ _ h => h).comp s3 fun i hi h => by omega⟩
  cases o with
  | none =>
    obtain ⟨m3, m4, d1, s1, s2, f4⟩ := key A.length (by rw [c2.at]; rfl)
    refine ⟨m4, callX_of (call_go (F := _) rfl rfl fun Q hQ => ?_), f4⟩
    unfold tupW at d1 hQ
    simp only [symA, go_opsd, symB, wantedX, X.put, X.look, Arg.ev, keepOf, restrict, evs, evO, initEnv, xres, tup, noTup, cls, quiet, Nat.reduceAdd, Nat.reduceEqDiff, ↓reduceIte, reduceCtorEq, goInt, exists_eq_left', eq_self, Int.reduceLT, Int.reduceLE, Int.reduceEq, Int.reduceNeg, Int.reduceAdd, Int.reduceSub, forall_const, ne_eq, undef, Nat.reducePow, Nat.reduceDiv, Nat.reduceMod, hm1, goR_call c1, Option.isSome_none, goR_call d1, s1]
    exact hQ _ _ _ (by exact res_cell5 rfl rfl s2 rfl) ⟨rfl, rfl⟩
  | some x =>
    obtain ⟨m3, m4, d1, s1, s2, f4⟩ := key (A.length + 1) (by rw [← c2.next]; rfl)
    have w1 : IntKind.i64.wrap ((A.length : Int) + 1) = ((A.length + 1 : Nat) : Int) := by rw [wrap_i64 (by omega) (by omega)]; omega
    refine ⟨m4, callX_of (call_go (F := _) rfl rfl fun Q hQ => ?_), f4⟩
    unfold tupW at d1 hQ
    simp only [symA, go_opsd, symB, wantedX, X.put, X.look, Arg.ev, keepOf, restrict, evs, evO, initEnv, xres, tup, noTup, cls, quiet, Nat.reduceAdd, Nat.reduceEqDiff, ↓reduceIte, reduceCtorEq, goInt, exists_eq_left', eq_self, Int.reduceLT, Int.reduceLE, Int.reduceEq, Int.reduceNeg, Int.reduceAdd, Int.reduceSub, forall_const, ne_eq, undef, Nat.reducePow, Nat.reduceDiv, Nat.reduceMod, hm1, goR_call c1, Option.isSome_some, w1, goR_call d1, s1]
    exact hQ _ _ _ (by exact res_cell5 rfl rfl s2 rfl) ⟨rfl, rfl⟩
theorem seek_spec (h : SetM G m p vl vu vm FL FU FM W us Mk) (hs : SortW W) (hl : W.length ≤ 1000) : ∃ m', Ca 24 [Pt p, .string k] m (tupW (fromW false k W)) m' ∧ Nx m m' := by
  obtain ⟨m1, hm1⟩ : ∃ m1, m.push { cells := ZW, rw := true, spare := none, kin := [] } = m1 := ⟨_, rfl⟩
  have g1 : m1.get m.next = some { cells := ZW, rw := true, spare := none, kin := [] } := by rw [← hm1, push_self]
  have f1 : Nx m m1 := hm1 ▸ .push
  have n1 : m1.next = m.next + 1 := by rw [← hm1]; simp
  obtain ⟨A, o, B, m2, c1, c2, c3⟩ := at_spec (k := k) (h.nx f1) hs hl
  have h2 := (h.nx f1).nx c3
  have g2 := c3.get (by omega) (fun h => h) g1
  have f2 : Nx m m2 := f1.comp c3 fun _ _ h => h
  rw [c2.seek, ← c2.at]
  obtain ⟨m3, d1, d2⟩ := from_at h2 hl A.length
  have g3 := d2.get (by have := c3.next; omega) (fun h => h) g2
  obtain ⟨m4, s1, s2, s3, s4⟩ := row_store (n := 5) (row := (W[A.length]?.getD zeroW).row) g3 rfl rfl rfl rfl (by omega)
  refine ⟨m4, callX_of (call_go (F := _) rfl rfl fun Q hQ => ?_), (f2.comp d2 fun _ _ h => h).comp s3 fun i hi h => by omega⟩
  generalize W[A.length]? = ox at d1 s1 s2 hQ
  unfold tupW at d1 hQ
  simp only [symA, go_opsd, symB, wantedX, X.put, X.look, Arg.ev, keepOf, restrict, evs, evO, initEnv, xres, tup, noTup, cls, quiet, Nat.reduceAdd, Nat.reduceEqDiff, ↓reduceIte, reduceCtorEq, goInt, exists_eq_left', eq_self, Int.reduceLT, Int.reduceLE, Int.reduceEq, Int.reduceNeg, Int.reduceAdd, Int.reduceSub, forall_const, ne_eq, undef, Nat.reducePow, Nat.reduceDiv, Nat.reduceMod, hm1, goR_call c1, goR_call d1, s1]
  exact hQ _ _ _ (by exact res_cell5 rfl rfl s2 rfl) ⟨rfl, rfl⟩

theorem len_spec (h : SetM G m p vl vu vm FL FU FM W us Mk) : Ca 19 [Pt p] m (I (W.length : Int)) m := by
  obtain ⟨q, c, rfl⟩ := rdW_slice h.rd
  refine callX_of (call_go (F := _) rfl rfl fun Q hQ => ?_)
  simp only [symA, go_opsd, symB, wantedX, X.put, X.look, Arg.ev, keepOf, restrict, evs, evO, initEnv, xres, tup, noTup, cls, quiet, Nat.reduceAdd, Nat.reduceEqDiff, ↓reduceIte, reduceCtorEq, goInt, exists_eq_left', eq_self, Int.reduceLT, Int.reduceLE, Int.reduceEq, Int.reduceNeg, Int.reduceAdd, Int.reduceSub, forall_const, ne_eq, undef, Nat.reducePow, Nat.reduceDiv, Nat.reduceMod, h.get]
  exact hQ _ _ _ rfl ⟨rfl, rfl⟩
theorem marks_spec (h : SetM G m p vl vu vm FL FU FM W us Mk) : Ca 14 [Pt p] m (I (Mk.length : Int)) m := by
  obtain ⟨q, c, hv⟩ := own_slice h.om (by omega)
  rw [List.length_map] at hv
  subst hv
  refine callX_of (call_go (F := _) rfl rfl fun Q hQ => ?_)
  simp only [symA, go_opsd, symB, wantedX, X.put, X.look, Arg.ev, keepOf, restrict, evs, evO, initEnv, xres, tup, noTup, cls, quiet, Nat.reduceAdd, Nat.reduceEqDiff, ↓reduceIte, reduceCtorEq, goInt, exists_eq_left', eq_self, Int.reduceLT, Int.reduceLE, Int.reduceEq, Int.reduceNeg, Int.reduceAdd, Int.reduceSub, forall_const, ne_eq, undef, Nat.reducePow, Nat.reduceDiv, Nat.reduceMod, h.get]
  exact hQ _ _ _ rfl ⟨rfl, rfl⟩
theorem build50 {m : Mem} : buildSliceE m ZW 5 0 [] = some (.val (.slice (some ⟨m.next, 0, none⟩) 0 0) (m.push { cells := [], rw := true, spare := none, kin := [] })) := by kernel_rfl
theorem clone_spec {b : Nat} {v : Value} (h : RdW b m v W) (hb : b ≤ m.next) (hl : W.length ≤ 1000) : ∃ r m' F, Ca 39 [v] m r m' ∧ Own2 5 F m' r (rowsW W) ∧ (∀ i ∈ F, m.next ≤ i) ∧ Nx m m' := by
  obtain ⟨q, c, rfl⟩ := rdW_slice h
  cases q with
  | none =>
    have h0 : W = [] := by
      cases W with
      | nil => rfl
      | cons x l =>
        obtain ⟨a, c', hv, _⟩ := rdW_at h (i := 0) rfl
        cases hv
    subst h0
    refine ⟨.slice none 0 0, m, [], callX_of (call_go (F := _) rfl rfl fun Q hQ => ?_), .nil, by simp, .refl⟩
    simp only [symA, go_opsd, symB, wantedX, X.put, X.look, Arg.ev, keepOf, restrict, evs, evO, initEnv, xres, tup, noTup, cls, quiet, Nat.reduceAdd, Nat.reduceEqDiff, ↓reduceIte, reduceCtorEq, goInt, exists_eq_left', eq_self, Int.reduceLT, Int.reduceLE, Int.reduceEq, Int.reduceNeg, Int.reduceAdd, Int.reduceSub, forall_const, ne_eq, undef, Nat.reducePow, Nat.reduceDiv, Nat.reduceMod, isNil_slice]
    exact hQ _ _ _ rfl ⟨rfl, rfl⟩
  | some a =>
    obtain ⟨m1, hm1⟩ : ∃ m1, m.push { cells := [], rw := true, spare := none, kin := [] } = m1 := ⟨_, rfl⟩
    have f1 : Nx m m1 := hm1 ▸ .push
    have n1 : m1.next = m.next + 1 := by rw [← hm1]; simp
    obtain ⟨v', m', F, a1, a2, a3, a4⟩ := append_all (bytes := 56) (zero := ZW) (s := .slice (some ⟨m.next, 0, none⟩) 0 0) (.inr ⟨_, rfl⟩) (h.fr f1 hb (fun _ h => h.elim)) rfl (by omega) (by rw [List.length_map]; omega) (by rw [List.length_map]; omega)
    refine ⟨v', m', F, callX_of (call_go (F := _) rfl rfl fun Q hQ => ?_), a2, fun i hi => by have := a4 i hi; omega, f1.comp a3 fun _ _ h => h⟩
    simp only [symA, go_opsd, symB, wantedX, X.put, X.look, Arg.ev, keepOf, restrict, evs, evO, initEnv, xres, tup, noTup, cls, quiet, Nat.reduceAdd, Nat.reduceEqDiff, ↓reduceIte, reduceCtorEq, goInt, exists_eq_left', eq_self, Int.reduceLT, Int.reduceLE, Int.reduceEq, Int.reduceNeg, Int.reduceAdd, Int.reduceSub, forall_const, ne_eq, undef, Nat.reducePow, Nat.reduceDiv, Nat.reduceMod, isNil_slice, build50, hm1, a1]
    exact hQ _ _ _ rfl ⟨rfl, rfl⟩
theorem all_spec (h : SetM G m p vl vu vm FL FU FM W us Mk) (hl : W.length ≤ 1000) : ∃ r m' F, Ca 12 [Pt p] m r m' ∧ Own2 5 F m' r (rowsW W) ∧ (∀ i ∈ F, m.next ≤ i) ∧ Nx m m' := by
  obtain ⟨r, m', F, c1, c2, c3, c4⟩ := clone_spec h.rd (Nat.le_refl _) hl
  refine ⟨r, m', F, callX_of (call_go (F := _) rfl rfl fun Q hQ => ?_), c2, c3, c4⟩
  simp only [symA, go_opsd, symB, wantedX, X.put, X.look, Arg.ev, keepOf, restrict, evs, evO, initEnv, xres, tup, noTup, cls, quiet, Nat.reduceAdd, Nat.reduceEqDiff, ↓reduceIte, reduceCtorEq, goInt, exists_eq_left', eq_self, Int.reduceLT, Int.reduceLE, Int.reduceEq, Int.reduceNeg, Int.reduceAdd, Int.reduceSub, forall_const, ne_eq, undef, Nat.reducePow, Nat.reduceDiv, Nat.reduceMod, h.get, goR_call c1]
  exact hQ _ _ _ rfl ⟨rfl, rfl⟩
end
end Go.Proofs.Ytecceimgpeookaa
