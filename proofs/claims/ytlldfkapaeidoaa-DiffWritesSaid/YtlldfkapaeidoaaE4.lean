/-
  Own work. The document's: a key's value, its write, the keys of entries put among others.
-/
import Derived.Test.YtlldfkapaeidoaaE1
import Derived.Test.YtlldfkapaeidoaaXOwn3
namespace Go.Proofs.Ytlldfkapaeidoaa
open Go X
set_option maxRecDepth 100000
attribute [local irreducible] X.Go' X.GoO X.GoR X.GoG X.GoC X.GoF X.GoFV X.GoFG X.Ex X.GoD X.GoDV X.GoDG
set_option linter.unusedVariables false
set_option linter.unusedSimpArgs false

/-! ## A key's value -/
abbrev Z3 : List Value := [.bool false, .string .empty, U 0]
def tupV (o : Option Ent) : Value := .tuple #[.agg ⟨valL (o.getD zeroE).num (o.getD zeroE).text (o.getD zeroE).bits⟩, .bool o.isSome]
theorem res_cell3 {e : Env} {m : Mem} {t u p : Nat} {row : List Value} {b : Bool} (h1 : X.look e t = some (.pointer (some ⟨p, 0, none⟩))) (h2 : X.look e u = some (.bool b)) (h3 : m.get p = some { cells := row, rw := true, spare := none, kin := [] }) (h4 : row.length = 3) :
    xres e m [.cell true 3 t, .tmp u] = some [.agg ⟨row⟩, .bool b] := by
  have e1 : row.take 3 = row := List.take_of_length_le (by omega)
  simp [xres, h1, h2, xload, h3, h4, e1]
theorem buildZ3 {m : Mem} : buildE m Z3 [(0, 1), (1, 1), (2, 1)] [] = some (.val (.agg ⟨valL zeroE.num zeroE.text zeroE.bits⟩) m) := by kernel_rfl
theorem at_spec {b : Nat} {m : Mem} {v : Value} {vs : List Ent} {k : ByteArray} (h : RdE b m v vs) (hl : vs.length ≤ 1000000) (hb : b ≤ m.next) : ∃ m', Ca 20 [v, .string k] m (tupV (lookE k vs)) m' ∧ Nx m m' := by
  obtain ⟨m1, hm1⟩ : ∃ m1, m.push { cells := Z3, rw := true, spare := none, kin := [] } = m1 := ⟨_, rfl⟩
  have g1 : m1.get m.next = some { cells := Z3, rw := true, spare := none, kin := [] } := by rw [← hm1, push_self]
  have f1 : Nx m m1 := hm1 ▸ .push
  have n1 : m1.next = m.next + 1 := by rw [← hm1]; simp
  have h1 := h.fr f1 hb (fun _ h => h.elim)
  have key : Wc 20 [v, .string k] m fun r m' => r = tupV (lookE k vs) ∧ Nx m m' := by
    refine call_go (F := _) rfl rfl fun Q hQ => ?_
    obtain ⟨p, c, rfl⟩ := rdE_slice h
    simp only [symA, go_opsd, symB, wantedX, X.put, X.look, Arg.ev, keepOf, restrict, evs, evO, initEnv, xres, tup, noTup, cls, quiet, Nat.reduceAdd, Nat.reduceEqDiff, ↓reduceIte, reduceCtorEq, goInt, exists_eq_left', eq_self, Int.reduceLT, Int.reduceLE, Int.reduceEq, Int.reduceNeg, Int.reduceAdd, Int.reduceSub, forall_const, ne_eq, undef, Nat.reducePow, Nat.reduceDiv, Nat.reduceMod, hm1]
    refine loop_go (fun q e m' => m' = m1 ∧ ∃ i : Nat, i ≤ vs.length ∧ q = vs.length - i ∧ lookE k vs = lookE k (vs.drop i) ∧ e = [(0, .slice p vs.length c), (1, .string k), (4, .pointer (some ⟨m.next, 0, none⟩)), (6, I i)]) vs.length ⟨rfl, 0, by omega, rfl, rfl, rfl⟩ ?_
    rintro q e m' N' B' hN hB ⟨rfl, i, hi, rfl, hlk, rfl⟩
    by_cases hlt : i < vs.length
    · have hlt' : (i : Int) < (vs.length : Int) := by omega
      obtain ⟨x, hx⟩ : ∃ x, vs[i]? = some x := ⟨_, List.getElem?_eq_getElem hlt⟩
      obtain ⟨a, c', hv, ⟨o, hg, c0, _⟩, _, l3⟩ := rdE_at h1 hx
      cases hv
      have w1 : IntKind.i64.wrap ((i : Int) + 1) = ((i + 1 : Nat) : Int) := by rw [wrap_i64 (by omega) (by omega)]; omega
      have hd : vs.drop i = x :: vs.drop (i + 1) := by
        obtain ⟨_, rfl⟩ := List.getElem?_eq_some_iff.1 hx
        exact List.drop_eq_getElem_cons hlt
      rw [hd] at hlk
      by_cases hk : x.key = k
      · have e : lookE k vs = some x := by rw [hlk]; simp [lookE, hk]
        rw [e] at hQ
        obtain ⟨m3, s1, s2, s3, s4⟩ := row_store (n := 3) (row := valL x.num x.text x.bits) g1 rfl rfl rfl rfl (by omega)
        simp only [symA, go_opsd, symB, wantedX, X.put, X.look, Arg.ev, keepOf, restrict, evs, evO, initEnv, xres, tup, noTup, cls, quiet, Nat.reduceAdd, Nat.reduceEqDiff, ↓reduceIte, reduceCtorEq, goInt, exists_eq_left', eq_self, Int.reduceLT, Int.reduceLE, Int.reduceEq, Int.reduceNeg, Int.reduceAdd, Int.reduceSub, forall_const, ne_eq, undef, Nat.reducePow, Nat.reduceDiv, Nat.reduceMod, hlt', hlt, hg, c0, bin_seql, hk, l3, s1]
        exact hQ _ _ _ (by exact res_cell3 (row := valL x.num x.text x.bits) (b := true) rfl rfl s2 rfl) ⟨rfl, f1.comp s3 fun i hi h => by omega⟩
      · have e : lookE k vs = lookE k (vs.drop (i + 1)) := by rw [hlk]; simp [lookE, hk]
        simp only [symA, go_opsd, symB, wantedX, X.put, X.look, Arg.ev, keepOf, restrict, evs, evO, initEnv, xres, tup, noTup, cls, quiet, Nat.reduceAdd, Nat.reduceEqDiff, ↓reduceIte, reduceCtorEq, goInt, exists_eq_left', eq_self, Int.reduceLT, Int.reduceLE, Int.reduceEq, Int.reduceNeg, Int.reduceAdd, Int.reduceSub, forall_const, ne_eq, undef, Nat.reducePow, Nat.reduceDiv, Nat.reduceMod, hlt', hlt, hg, c0, bin_seql, hk, w1]
        exact hN _ _ (vs.length - (i + 1)) (by omega) ⟨rfl, i + 1, by omega, rfl, e, rfl⟩
    · have hlt' : ¬ (i : Int) < (vs.length : Int) := by omega
      have hd : vs.drop i = [] := List.drop_eq_nil_of_le (by omega)
      rw [hd] at hlk
      have e : lookE k vs = none := hlk
      rw [e] at hQ
      obtain ⟨m3, s1, s2, s3, s4⟩ := row_store (n := 3) (row := valL zeroE.num zeroE.text zeroE.bits) g1 rfl rfl rfl rfl (by omega)
      simp only [symA, go_opsd, symB, wantedX, X.put, X.look, Arg.ev, keepOf, restrict, evs, evO, initEnv, xres, tup, noTup, cls, quiet, Nat.reduceAdd, Nat.reduceEqDiff, ↓reduceIte, reduceCtorEq, goInt, exists_eq_left', eq_self, Int.reduceLT, Int.reduceLE, Int.reduceEq, Int.reduceNeg, Int.reduceAdd, Int.reduceSub, forall_const, ne_eq, undef, Nat.reducePow, Nat.reduceDiv, Nat.reduceMod, hlt']
      refine hB _ _ _ ?_
      simp only [symA, go_opsd, symB, wantedX, X.put, X.look, Arg.ev, keepOf, restrict, evs, evO, initEnv, xres, tup, noTup, cls, quiet, Nat.reduceAdd, Nat.reduceEqDiff, ↓reduceIte, reduceCtorEq, goInt, exists_eq_left', eq_self, Int.reduceLT, Int.reduceLE, Int.reduceEq, Int.reduceNeg, Int.reduceAdd, Int.reduceSub, forall_const, ne_eq, undef, Nat.reducePow, Nat.reduceDiv, Nat.reduceMod, buildZ3, s1]
      exact hQ _ _ _ (by exact res_cell3 (row := valL zeroE.num zeroE.text zeroE.bits) (b := false) rfl rfl s2 rfl) ⟨rfl, f1.comp s3 fun i hi h => by omega⟩
  obtain ⟨r, m', hc, rfl, hf⟩ := key
  exact ⟨m', hc, hf⟩

/-! ## Its write -/
def rturnB (wa wb : Bool) (x y : Ent) (k : ByteArray) : Option Wr := if wa = wb ∧ sameV x y = true then none else some ⟨k, !wb, y.num, y.text, y.bits⟩
theorem rturn_eq {k : ByteArray} {vs ws : List Ent} : rturnB (lookE k vs).isSome (lookE k ws).isSome ((lookE k vs).getD zeroE) ((lookE k ws).getD zeroE) k = turnE k vs ws := by
  unfold turnE turnB rturnB
  cases h1 : lookE k vs with
  | none => cases h2 : lookE k ws with
    | none => simp [sameV]
    | some y => simp
  | some x => cases h2 : lookE k ws with
    | none => simp [zeroE]
    | some y => by_cases hs : sameV x y = true <;> simp [hs]
theorem eqV {m : Mem} {x y : Ent} : binE Try.prog .eql 34 (.agg ⟨valL x.num x.text x.bits⟩) (.agg ⟨valL y.num y.text y.bits⟩) m = some (.val (.bool (sameV x y)) m) := by
  have h3 : decide ((x.bits : Int) = y.bits) = decide (x.bits = y.bits) := decide_eq_decide.2 (by omega)
  rw [eq34, h3]
  rfl
theorem bin_beql {m : Mem} {a b : Bool} : binE Try.prog .eql 4 (.bool a) (.bool b) m = some (.val (.bool (decide (a = b))) m) := by cases a <;> cases b <;> kernel_rfl
theorem buildT {m : Mem} {k t : ByteArray} {g n : Bool} {c : Nat} : buildE m ZW [(0, 1), (1, 1), (2, 3)] [(0, .string k), (1, .bool g), (2, .agg ⟨valL n t c⟩)] = some (.val (.agg ⟨row5 k (.bool g) n t c⟩) m) := by kernel_rfl
theorem ld_val0 {m : Mem} {p : Nat} {x : Ent} (hg : m.get p = some { cells := valL x.num x.text x.bits, rw := true, spare := none, kin := [] }) : ldA m 3 (.pointer (some ⟨p, 0, none⟩)) = some (.val (.agg ⟨valL x.num x.text x.bits⟩) m) := by
  simp [ldA, xload, hg]
theorem rturn_spec {b : Nat} {m : Mem} {v w : Value} {vs ws : List Ent} {k : ByteArray} (h : RdE b m v vs) (h' : RdE b m w ws) (hl : vs.length ≤ 1000000) (hl' : ws.length ≤ 1000000) (hb : b ≤ m.next) :
    ∃ m', Ca 19 [v, w, .string k] m (tupW (turnE k vs ws)) m' ∧ Nx m m' := by
  rw [← rturn_eq]
  obtain ⟨m1, hm1⟩ : ∃ m1, m.push { cells := ZW, rw := true, spare := none, kin := [] } = m1 := ⟨_, rfl⟩
  have g1 : m1.get m.next = some { cells := ZW, rw := true, spare := none, kin := [] } := by rw [← hm1, push_self]
  have f1 : Nx m m1 := hm1 ▸ .push
  have n1 : m1.next = m.next + 1 := by rw [← hm1]; simp
  obtain ⟨m2, q1, q2⟩ := at_spec (k := k) (h.fr f1 hb (fun _ h => h.elim)) hl (by omega)
  have n2 := q2.next
  unfold tupV at q1
  generalize (lookE k vs).isSome = wa at q1 ⊢
  generalize (lookE k vs).getD zeroE = x at q1 ⊢
  obtain ⟨m3, t1, t2, t3, t4⟩ := new_store (m := m2) (z := Z3) (row := valL x.num x.text x.bits) (n := 3) rfl rfl (by omega)
  have f23 : Nx m1 m3 := q2.comp t3 fun _ _ h => h
  have f3 : Nx m m3 := f1.comp f23 fun _ _ h => h
  obtain ⟨m4, u1, u2⟩ := at_spec (k := k) (h'.fr f3 hb (fun _ h => h.elim)) hl' (by omega)
  have n4 := u2.next
  unfold tupV at u1
  generalize (lookE k ws).isSome = wb at u1 ⊢
  generalize (lookE k ws).getD zeroE = y at u1 ⊢
  obtain ⟨m5, y1, y2, y3, y4⟩ := new_store (m := m4) (z := Z3) (row := valL y.num y.text y.bits) (n := 3) rfl rfl (by omega)
  have f35 : Nx m3 m5 := u2.comp y3 fun _ _ h => h
  have f5 : Nx m m5 := f3.comp f35 fun _ _ h => h
  have ga := f35.get (by omega) (fun h => h) t2
  have gz := (f23.comp f35 fun _ _ h => h).get (by omega) (fun h => h) g1
  have la := ld_val0 ga
  have lb := ld_val0 y2
  have fin : ∀ (o : Option Wr) (row : List Value), row = (o.getD zeroW).row → ∃ m6, storeE m5 5 (.pointer (some ⟨m.next, 0, none⟩)) (.agg ⟨row⟩) = some (.skip m6) ∧ m6.get m.next = some { cells := (o.getD zeroW).row, rw := true, spare := none, kin := [] } ∧ Nx m m6 := by
    rintro o _ rfl
    obtain ⟨m6, z1, z2, z3, z4⟩ := row_store (n := 5) (row := (o.getD zeroW).row) gz rfl rfl rfl rfl (by omega)
    exact ⟨m6, z1, z2, f5.comp z3 fun i hi h => by omega⟩
  obtain ⟨m7, z1, z2, z3⟩ := fin none zeroW.row rfl
  obtain ⟨m8, r1, r2, r3⟩ := fin (some ⟨k, !wb, y.num, y.text, y.bits⟩) (row5 k (.bool (!wb)) y.num y.text y.bits) rfl
  by_cases hw : wa = wb
  · cases hsv : sameV x y with
    | true =>
      refine ⟨m7, callX_of (call_go (F := _) rfl rfl fun Q hQ => ?_), z3⟩
      have e : rturnB wa wb x y k = none := by simp [rturnB, hw, hsv]
      rw [e] at hQ
      simp only [symA, go_opsd, symB, wantedX, X.put, X.look, Arg.ev, keepOf, restrict, evs, evO, initEnv, xres, tup, noTup, cls, quiet, Nat.reduceAdd, Nat.reduceEqDiff, ↓reduceIte, reduceCtorEq, goInt, exists_eq_left', eq_self, Int.reduceLT, Int.reduceLE, Int.reduceEq, Int.reduceNeg, Int.reduceAdd, Int.reduceSub, forall_const, ne_eq, undef, Nat.reducePow, Nat.reduceDiv, Nat.reduceMod, hm1, goR_call q1, t1, goR_call u1, y1, bin_beql, hw, la, lb, eqV, hsv, buildZW, z1]
      exact hQ _ _ _ (by exact res_cell5 (b := false) rfl rfl z2 rfl) ⟨rfl, rfl⟩
    | false =>
      refine ⟨m8, callX_of (call_go (F := _) rfl rfl fun Q hQ => ?_), r3⟩
      have e : rturnB wa wb x y k = some ⟨k, !wb, y.num, y.text, y.bits⟩ := by simp [rturnB, hsv]
      rw [e] at hQ
      simp only [symA, go_opsd, symB, wantedX, X.put, X.look, Arg.ev, keepOf, restrict, evs, evO, initEnv, xres, tup, noTup, cls, quiet, Nat.reduceAdd, Nat.reduceEqDiff, ↓reduceIte, reduceCtorEq, goInt, exists_eq_left', eq_self, Int.reduceLT, Int.reduceLE, Int.reduceEq, Int.reduceNeg, Int.reduceAdd, Int.reduceSub, forall_const, ne_eq, undef, Nat.reducePow, Nat.reduceDiv, Nat.reduceMod, hm1, goR_call q1, t1, goR_call u1, y1, bin_beql, hw, la, lb, eqV, hsv, buildT, r1]
      exact hQ _ _ _ (by exact res_cell5 (b := true) rfl rfl r2 rfl) ⟨rfl, rfl⟩
  · refine ⟨m8, callX_of (call_go (F := _) rfl rfl fun Q hQ => ?_), r3⟩
    have e : rturnB wa wb x y k = some ⟨k, !wb, y.num, y.text, y.bits⟩ := by simp [rturnB, hw]
    rw [e] at hQ
    simp only [symA, go_opsd, symB, wantedX, X.put, X.look, Arg.ev, keepOf, restrict, evs, evO, initEnv, xres, tup, noTup, cls, quiet, Nat.reduceAdd, Nat.reduceEqDiff, ↓reduceIte, reduceCtorEq, goInt, exists_eq_left', eq_self, Int.reduceLT, Int.reduceLE, Int.reduceEq, Int.reduceNeg, Int.reduceAdd, Int.reduceSub, forall_const, ne_eq, undef, Nat.reducePow, Nat.reduceDiv, Nat.reduceMod, hm1, goR_call q1, t1, goR_call u1, y1, bin_beql, hw, la, lb, buildT, r1]
    exact hQ _ _ _ (by exact res_cell5 (b := true) rfl rfl r2 rfl) ⟨rfl, rfl⟩

/-! ## Keys put among others -/
def mrg : List ByteArray → List Ent → List ByteArray
  | [], l => l.map Ent.key
  | h, [] => h
  | a :: h, x :: l => if ltT a x.key then a :: mrg h (x :: l) else if a = x.key then mrg h (x :: l) else x.key :: mrg (a :: h) l
termination_by h l => h.length + l.length
theorem mrg_nil {h : List ByteArray} : mrg h [] = h := by
  cases h <;> simp [mrg]
theorem mrg_length : ∀ (h : List ByteArray) (l : List Ent), (mrg h l).length ≤ h.length + l.length
  | [], l => by simp [mrg]
  | a :: h, [] => by simp [mrg]
  | a :: h, x :: l => by
    rw [mrg]
    split
    · have := mrg_length h (x :: l); simp at this ⊢; omega
    · split
      · have := mrg_length h (x :: l); simp at this ⊢; omega
      · have := mrg_length (a :: h) l; simp at this ⊢; omega
termination_by h l => h.length + l.length
abbrev RdK (b : Nat) (m : Mem) (v : Value) (ks : List ByteArray) : Prop := RdS b m 1 v (ks.map fun k => [.string k])
theorem rdK_slice {b : Nat} {m : Mem} {v : Value} {ks : List ByteArray} (h : RdK b m v ks) : ∃ p c, v = .slice p ks.length c := by
  obtain ⟨p, c, rfl⟩ := h.slice
  exact ⟨p, c, by simp⟩
theorem rdK_at {b : Nat} {m : Mem} {v : Value} {ks : List ByteArray} (h : RdK b m v ks) {i : Nat} {k : ByteArray} (hi : ks[i]? = some k) : ∃ a c o, v = .slice (some a) ks.length c ∧ m.get a.block = some o ∧ o.cells[a.off + i]? = some (.string k) := by
  obtain ⟨p, c, rfl, hc, h⟩ := h
  obtain ⟨k1, a, o, rfl, k3, k4, k5⟩ := h i [.string k] (by simp [hi])
  exact ⟨a, c, o, by simp, k4, by simpa using k5 0 (by omega)⟩
abbrev OwnT (F : List Nat) (m : Mem) (v : Value) (ks : List ByteArray) : Prop := Own2 1 F m v (ks.map fun k => [.string k])
theorem ownT_one {F : List Nat} {m : Mem} {v : Value} {ks : List ByteArray} (h : OwnT F m v ks) (k : ByteArray) (hl : ks.length ≤ 1000000) :
    ∃ v' m' F', appendE (m.push { cells := [.string k], rw := true, spare := none, kin := [] }) 1 16 [.string .empty] v (.slice (some ⟨m.next, 0, none⟩) 1 1) = some (.val v' m') ∧ OwnT F' m' v' (ks ++ [k]) ∧ Fm (· ∈ F) m m' ∧ ∀ i ∈ F', i ∈ F ∨ m.next ≤ i := by
  obtain ⟨v', m', F', h1, h2, h3, h4⟩ := h.one (bytes := 16) (zero := [.string .empty]) (row := [.string k]) rfl (by omega) rfl (by rw [List.length_map]; omega) (by rw [List.length_map]; omega)
  refine ⟨v', m', F', h1, ?_, h3, h4⟩
  rw [OwnT, List.map_append]
  exact h2
theorem build1 {m : Mem} {k : ByteArray} : buildSliceE m [.string .empty] 1 1 [(0, .string k)] = some (.val (.slice (some ⟨m.next, 0, none⟩) 1 1) (m.push { cells := [.string k], rw := true, spare := none, kin := [] })) := buildSlice_one rfl

theorem rkeys_spec {b : Nat} {m : Mem} {hv lv : Value} {ks : List ByteArray} {vs : List Ent} (h : RdK b m hv ks) (h' : RdE b m lv vs) (hl : ks.length ≤ 1000) (hl' : vs.length ≤ 1000) (hb : b ≤ m.next) :
    ∃ r m', Ca 18 [hv, lv] m r m' ∧ RdK m'.next m' r (mrg ks vs) ∧ Nx m m' := by
  have key : Wc 18 [hv, lv] m fun r m' => RdK m'.next m' r (mrg ks vs) ∧ Nx m m' := by
    refine call_go (F := _) rfl rfl fun Q hQ => ?_
    obtain ⟨p, c, rfl⟩ := rdK_slice h
    obtain ⟨p', c', rfl⟩ := rdE_slice h'
    obtain ⟨m0, hm0⟩ : ∃ m0, m.push { cells := [], rw := true, spare := none, kin := [] } = m0 := ⟨_, rfl⟩
    have f0 : Nx m m0 := hm0 ▸ .push
    simp only [symA, go_opsd, symB, wantedX, X.put, X.look, Arg.ev, keepOf, restrict, evs, evO, initEnv, xres, tup, noTup, cls, quiet, Nat.reduceAdd, Nat.reduceEqDiff, ↓reduceIte, reduceCtorEq, goInt, exists_eq_left', eq_self, Int.reduceLT, Int.reduceLE, Int.reduceEq, Int.reduceNeg, Int.reduceAdd, Int.reduceSub, forall_const, ne_eq, undef, Nat.reducePow, Nat.reduceDiv, Nat.reduceMod, buildSlice_zero, hm0]
    refine loop_go (fun q e m' => ∃ (i j : Nat) (out : List ByteArray) (v' : Value) (F : List Nat), i ≤ ks.length ∧ j ≤ vs.length ∧ q = (ks.length - i) + (vs.length - j) ∧ out.length ≤ i + j ∧ mrg ks vs = out ++ mrg (ks.drop i) (vs.drop j) ∧ Nx m m' ∧ OwnT F m' v' out ∧ (∀ f ∈ F, m.next ≤ f) ∧
      e = [(0, .slice p ks.length c), (1, .slice p' vs.length c'), (5, v'), (6, I i), (7, I j)]) (ks.length + vs.length) ⟨0, 0, [], _, [], by omega, by omega, by omega, by simp, rfl, f0, ⟨by simp, .inr ⟨rfl, by simp, m.next, rfl⟩⟩, by simp, rfl⟩ ?_
    rintro q e m1 N1 B1 hN1 hB1 ⟨i, j, out, v1, F1, hi, hj, rfl, hol, hmrg, f1, o1, l1, rfl⟩
    have hK := h.fr f1 hb (fun _ h => h.elim)
    have hE := h'.fr f1 hb (fun _ h => h.elim)
    have hn1 := f1.next
    have w1 : IntKind.i64.wrap ((i : Int) + 1) = ((i + 1 : Nat) : Int) := by rw [wrap_i64 (by omega) (by omega)]; omega
    have w2 : IntKind.i64.wrap ((j : Int) + 1) = ((j + 1 : Nat) : Int) := by rw [wrap_i64 (by omega) (by omega)]; omega
    -- what one more does
    have put : ∀ k : ByteArray, ∃ v2 m2 F2, appendE (m1.push { cells := [.string k], rw := true, spare := none, kin := [] }) 1 16 [.string .empty] v1 (.slice (some ⟨m1.next, 0, none⟩) 1 1) = some (.val v2 m2) ∧ OwnT F2 m2 v2 (out ++ [k]) ∧ Nx m m2 ∧ ∀ f ∈ F2, m.next ≤ f := fun k => by
      obtain ⟨v2, m2, F2, s1, s2, s3, s4⟩ := ownT_one o1 k (by omega)
      refine ⟨v2, m2, F2, s1, s2, f1.comp s3 fun y hy hF => by have := l1 y hF; omega, fun y hy => ?_⟩
      rcases s4 y hy with h | h
      · exact l1 y h
      · omega
    by_cases hik : i < ks.length
    · have hik' : (i : Int) < (ks.length : Int) := by omega
      obtain ⟨a, ha⟩ : ∃ a, ks[i]? = some a := ⟨_, List.getElem?_eq_getElem hik⟩
      obtain ⟨ad, cc, o, hv, hg, hc⟩ := rdK_at hK ha
      cases hv
      have hd : ks.drop i = a :: ks.drop (i + 1) := by
        obtain ⟨_, rfl⟩ := List.getElem?_eq_some_iff.1 ha
        exact List.drop_eq_getElem_cons hik
      by_cases hjl : j < vs.length
      · have hjl' : ¬ (vs.length : Int) ≤ (j : Int) := by omega
        obtain ⟨x, hx⟩ : ∃ x, vs[j]? = some x := ⟨_, List.getElem?_eq_getElem hjl⟩
        obtain ⟨ad', cc', hv', ⟨o', hg', c0, _⟩, _⟩ := rdE_at hE hx
        cases hv'
        have hd' : vs.drop j = x :: vs.drop (j + 1) := by
          obtain ⟨_, rfl⟩ := List.getElem?_eq_some_iff.1 hx
          exact List.drop_eq_getElem_cons hjl
        rw [hd, hd', mrg] at hmrg
        by_cases hax : ltT a x.key
        · rw [if_pos hax] at hmrg
          obtain ⟨v2, m2, F2, s1, s2, s3, s4⟩ := put a
          simp only [symA, go_opsd, symB, wantedX, X.put, X.look, Arg.ev, keepOf, restrict, evs, evO, initEnv, xres, tup, noTup, cls, quiet, Nat.reduceAdd, Nat.reduceEqDiff, ↓reduceIte, reduceCtorEq, goInt, exists_eq_left', eq_self, Int.reduceLT, Int.reduceLE, Int.reduceEq, Int.reduceNeg, Int.reduceAdd, Int.reduceSub, forall_const, ne_eq, undef, Nat.reducePow, Nat.reduceDiv, Nat.reduceMod, hik', hik, hjl', hjl, hg, hc, hg', c0, bin_slss, hax, build1, s1, w1]
          exact hN1 _ _ ((ks.length - (i + 1)) + (vs.length - j)) (by omega) ⟨i + 1, j, out ++ [a], v2, F2, by omega, hj, rfl, by rw [List.length_append, List.length_singleton]; omega, by rw [hmrg, hd', List.append_assoc]; rfl, s3, s2, s4, rfl⟩
        · rw [if_neg hax] at hmrg
          by_cases he : a = x.key
          · rw [if_pos he] at hmrg
            have hax2 := ltT_irrefl x.key
            simp only [symA, go_opsd, symB, wantedX, X.put, X.look, Arg.ev, keepOf, restrict, evs, evO, initEnv, xres, tup, noTup, cls, quiet, Nat.reduceAdd, Nat.reduceEqDiff, ↓reduceIte, reduceCtorEq, goInt, exists_eq_left', eq_self, Int.reduceLT, Int.reduceLE, Int.reduceEq, Int.reduceNeg, Int.reduceAdd, Int.reduceSub, forall_const, ne_eq, undef, Nat.reducePow, Nat.reduceDiv, Nat.reduceMod, hik', hik, hjl', hjl, hg, hc, hg', c0, bin_slss, hax2, bin_seql, he, w1]
            exact hN1 _ _ ((ks.length - (i + 1)) + (vs.length - j)) (by omega) ⟨i + 1, j, out, v1, F1, by omega, hj, rfl, by omega, by rw [hmrg, hd'], f1, o1, l1, rfl⟩
          · rw [if_neg he] at hmrg
            obtain ⟨v2, m2, F2, s1, s2, s3, s4⟩ := put x.key
            simp only [symA, go_opsd, symB, wantedX, X.put, X.look, Arg.ev, keepOf, restrict, evs, evO, initEnv, xres, tup, noTup, cls, quiet, Nat.reduceAdd, Nat.reduceEqDiff, ↓reduceIte, reduceCtorEq, goInt, exists_eq_left', eq_self, Int.reduceLT, Int.reduceLE, Int.reduceEq, Int.reduceNeg, Int.reduceAdd, Int.reduceSub, forall_const, ne_eq, undef, Nat.reducePow, Nat.reduceDiv, Nat.reduceMod, hik', hik, hjl', hjl, hg, hc, hg', c0, bin_slss, hax, bin_seql, he, build1, s1, w2]
            exact hN1 _ _ ((ks.length - i) + (vs.length - (j + 1))) (by omega) ⟨i, j + 1, out ++ [x.key], v2, F2, hi, by omega, rfl, by rw [List.length_append, List.length_singleton]; omega, by rw [hmrg, hd, List.append_assoc]; rfl, s3, s2, s4, rfl⟩
      · have hjl' : (vs.length : Int) ≤ (j : Int) := by omega
        have hd' : vs.drop j = [] := List.drop_eq_nil_of_le (by omega)
        rw [hd', mrg_nil, hd] at hmrg
        obtain ⟨v2, m2, F2, s1, s2, s3, s4⟩ := put a
        simp only [symA, go_opsd, symB, wantedX, X.put, X.look, Arg.ev, keepOf, restrict, evs, evO, initEnv, xres, tup, noTup, cls, quiet, Nat.reduceAdd, Nat.reduceEqDiff, ↓reduceIte, reduceCtorEq, goInt, exists_eq_left', eq_self, Int.reduceLT, Int.reduceLE, Int.reduceEq, Int.reduceNeg, Int.reduceAdd, Int.reduceSub, forall_const, ne_eq, undef, Nat.reducePow, Nat.reduceDiv, Nat.reduceMod, hik', hik, hjl', hg, hc, build1, s1, w1]
        exact hN1 _ _ ((ks.length - (i + 1)) + (vs.length - j)) (by omega) ⟨i + 1, j, out ++ [a], v2, F2, by omega, hj, rfl, by rw [List.length_append, List.length_singleton]; omega, by rw [hmrg, hd', mrg_nil, List.append_assoc]; rfl, s3, s2, s4, rfl⟩
    · have hik' : ¬ (i : Int) < (ks.length : Int) := by omega
      have hd : ks.drop i = [] := List.drop_eq_nil_of_le (by omega)
      by_cases hjl : j < vs.length
      · have hjl' : ¬ (vs.length : Int) ≤ (j : Int) := by omega
        have hjl2 : (j : Int) < (vs.length : Int) := by omega
        obtain ⟨x, hx⟩ : ∃ x, vs[j]? = some x := ⟨_, List.getElem?_eq_getElem hjl⟩
        obtain ⟨ad', cc', hv', ⟨o', hg', c0, _⟩, _⟩ := rdE_at hE hx
        cases hv'
        have hd' : vs.drop j = x :: vs.drop (j + 1) := by
          obtain ⟨_, rfl⟩ := List.getElem?_eq_some_iff.1 hx
          exact List.drop_eq_getElem_cons hjl
        rw [hd, hd', mrg, List.map_cons] at hmrg
        obtain ⟨v2, m2, F2, s1, s2, s3, s4⟩ := put x.key
        simp only [symA, go_opsd, symB, wantedX, X.put, X.look, Arg.ev, keepOf, restrict, evs, evO, initEnv, xres, tup, noTup, cls, quiet, Nat.reduceAdd, Nat.reduceEqDiff, ↓reduceIte, reduceCtorEq, goInt, exists_eq_left', eq_self, Int.reduceLT, Int.reduceLE, Int.reduceEq, Int.reduceNeg, Int.reduceAdd, Int.reduceSub, forall_const, ne_eq, undef, Nat.reducePow, Nat.reduceDiv, Nat.reduceMod, hik', hjl', hjl2, hjl, hg', c0, build1, s1, w2]
        exact hN1 _ _ ((ks.length - i) + (vs.length - (j + 1))) (by omega) ⟨i, j + 1, out ++ [x.key], v2, F2, hi, by omega, rfl, by rw [List.length_append, List.length_singleton]; omega, by rw [hmrg, hd, mrg, List.append_assoc]; rfl, s3, s2, s4, rfl⟩
      · have hjl2 : ¬ (j : Int) < (vs.length : Int) := by omega
        have hd' : vs.drop j = [] := List.drop_eq_nil_of_le (by omega)
        rw [hd, hd', mrg_nil, List.append_nil] at hmrg
        simp only [symA, go_opsd, symB, wantedX, X.put, X.look, Arg.ev, keepOf, restrict, evs, evO, initEnv, xres, tup, noTup, cls, quiet, Nat.reduceAdd, Nat.reduceEqDiff, ↓reduceIte, reduceCtorEq, goInt, exists_eq_left', eq_self, Int.reduceLT, Int.reduceLE, Int.reduceEq, Int.reduceNeg, Int.reduceAdd, Int.reduceSub, forall_const, ne_eq, undef, Nat.reducePow, Nat.reduceDiv, Nat.reduceMod, hik', hjl2]
        refine hB1 _ _ _ ?_
        simp only [symA, go_opsd, symB, wantedX, X.put, X.look, Arg.ev, keepOf, restrict, evs, evO, initEnv, xres, tup, noTup, cls, quiet, Nat.reduceAdd, Nat.reduceEqDiff, ↓reduceIte, reduceCtorEq, goInt, exists_eq_left', eq_self, Int.reduceLT, Int.reduceLE, Int.reduceEq, Int.reduceNeg, Int.reduceAdd, Int.reduceSub, forall_const, ne_eq, undef, Nat.reducePow, Nat.reduceDiv, Nat.reduceMod]
        exact hQ _ _ _ rfl ⟨by rw [hmrg]; exact o1.rd (by omega), f1⟩
  obtain ⟨r, m', hc, h1, h2⟩ := key
  exact ⟨r, m', hc, h1, h2⟩
end Go.Proofs.Ytlldfkapaeidoaa
