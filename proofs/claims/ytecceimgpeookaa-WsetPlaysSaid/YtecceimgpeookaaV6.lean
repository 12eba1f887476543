/-
  Own work. The set of writes: a write, a mark, and what stays as it should.
-/
import Derived.Test.YtecceimgpeookaaV5
namespace Go.Proofs.Ytecceimgpeookaa
open Go X
set_option maxRecDepth 100000
attribute [local irreducible] X.Go' X.GoO X.GoR X.GoG X.GoC X.GoF X.GoFV X.GoFG X.Ex X.GoD X.GoDV X.GoDG
set_option linter.unusedVariables false
set_option linter.unusedSimpArgs false

/-! ## Plain -/
def writeR (w : Wr) (W : List Wr) : Nat × List Wr :=
  if (keyOk w.key && vright w.num w.text w.bits) = false then (1, W) else if 16 < (layW w true W).length then (18, W) else (0, layW w true W)
/-- What stays: writes rise, undone from a mark on they are what there was at it. -/
structure Inv (W : List Wr) (us : List Un) (Mk : List Nat) (R : List (List Wr)) : Prop where
  sort : SortW W
  len : W.length ≤ 16
  mlen : Mk.length = R.length
  m4 : R.length ≤ 4
  le : ∀ (j n : Nat), Mk[j]? = some n → n ≤ us.length
  mono : ∀ (i j a b : Nat), i ≤ j → Mk[i]? = some a → Mk[j]? = some b → a ≤ b
  back : ∀ (j n : Nat) (S : List Wr), Mk[j]? = some n → R[j]? = some S → undo (us.drop n) W = S
  rs : ∀ S ∈ R, SortW S ∧ S.length ≤ 16
section
variable {W A B : List Wr} {us : List Un} {Mk : List Nat} {R : List (List Wr)} {w : Wr} {o : Option Wr}
theorem undo_app {u : Un} : undo (us ++ [u]) W = undo us (layW u.w u.had W) := by simp [undo, List.foldr_append]
theorem Inv.same (h : Inv W us Mk R) (hc : CutW w.key W A o B) (hl : (layW w true W).length ≤ 16) (h0 : Mk = []) : Inv (layW w true W) us Mk R := by
  subst h0
  exact ⟨hc.sort h.sort, hl, h.mlen, h.m4, fun j n hj => by simp at hj, fun i j a b _ hj => by simp at hj, fun j n S hj => by simp at hj, h.rs⟩
theorem Inv.more (h : Inv W us Mk R) (hc : CutW w.key W A o B) (hl : (layW w true W).length ≤ 16) : Inv (layW w true W) (us ++ [⟨w.key, o.getD zeroW, o.isSome⟩]) Mk R := by
  refine ⟨hc.sort h.sort, hl, h.mlen, h.m4, fun j n hj => by have := h.le j n hj; simp; omega, h.mono, fun j n S hj hS => ?_, h.rs⟩
  rw [List.drop_append_of_le_length (h.le j n hj), undo_app, ← h.back j n S hj hS]
  congr 1
  have hc2 : CutW (Un.w ⟨w.key, o.getD zeroW, o.isSome⟩).key (layW w true W) A (some w) B := hc.cut (has := true)
  rw [hc2.lay, hc.eq]
  cases ho : o with
  | none => rfl
  | some x =>
    have := hc.mid x ho
    obtain ⟨k, g, n, t, b⟩ := x
    subst this
    rfl
theorem Inv.mark (h : Inv W us Mk R) (hR : R.length < 4) : Inv W us (Mk ++ [us.length]) (R ++ [W]) := by
  have hm := h.mlen
  have last : ∀ (j n : Nat), (Mk ++ [us.length])[j]? = some n → (j < Mk.length ∧ Mk[j]? = some n) ∨ (j = Mk.length ∧ n = us.length) := fun j n hj => by
    by_cases hlt : j < Mk.length
    · rw [List.getElem?_append_left hlt] at hj; exact .inl ⟨hlt, hj⟩
    · rw [List.getElem?_append_right (by omega)] at hj
      cases hq : j - Mk.length with
      | zero => rw [hq] at hj; simp at hj; exact .inr ⟨by omega, hj.symm⟩
      | succ q => rw [hq] at hj; simp at hj
  refine ⟨h.sort, h.len, by simp [hm], by simp; omega, fun j n hj => ?_, fun i j a b hij hi hj => ?_, fun j n S hj hS => ?_, fun S hS => ?_⟩
  · rcases last j n hj with ⟨_, h1⟩ | ⟨_, rfl⟩
    · exact h.le j n h1
    · omega
  · rcases last i a hi with ⟨h1, h2⟩ | ⟨h1, rfl⟩
    · rcases last j b hj with ⟨h3, h4⟩ | ⟨h3, rfl⟩
      · exact h.mono i j a b hij h2 h4
      · exact h.le i a h2
    · rcases last j b hj with ⟨h3, h4⟩ | ⟨h3, rfl⟩
      · omega
      · omega
  · rcases last j n hj with ⟨h1, h2⟩ | ⟨h1, rfl⟩
    · rw [List.getElem?_append_left (by omega)] at hS
      exact h.back j n S h2 hS
    · rw [List.getElem?_append_right (by omega), h1, hm, Nat.sub_self] at hS
      simp at hS
      subst hS
      rw [List.drop_length]; rfl
  · rcases List.mem_append.1 hS with hS | hS
    · exact h.rs S hS
    · simp at hS; subst hS; exact ⟨h.sort, h.len⟩
end

/-! ## A write -/
section
variable {G FL FU FM Mk : List Nat} {m m' : Mem} {p : Nat} {vl vu vm : Value} {W : List Wr} {us : List Un} {k : ByteArray} {w : Wr} {R : List (List Wr)}
abbrev ZN : List Value := [.string .empty, .string .empty, .bool false, .bool false, .string .empty, U 0, .bool false]
theorem buildN {m : Mem} {k : ByteArray} {x : Wr} {b : Bool} : buildE m ZN [(0, 1), (1, 5), (6, 1)] [(0, .string k), (1, .agg ⟨x.row⟩), (2, .bool b)] = some (.val (.agg ⟨Un.row ⟨k, x, b⟩⟩) m) := by kernel_rfl
theorem buildN1 {m : Mem} {u : Un} : buildSliceE m ZN 7 1 [(0, .agg ⟨u.row⟩)] = some (.val (.slice (some ⟨m.next, 0, none⟩) 1 1) (m.push { cells := u.row, rw := true, spare := none, kin := [] })) := by kernel_rfl
theorem ld_val {m : Mem} {p : Nat} {x : Wr} (hg : m.get p = some { cells := x.row, rw := true, spare := none, kin := [] }) : ldA m 3 (.pointer (some ⟨p, 2, none⟩)) = some (.val (.agg ⟨valL x.num x.text x.bits⟩) m) := by
  simp [ldA, xload, hg]
theorem isNil_ptr {m : Mem} {a : Option Addr} {neg : Bool} : isNilE m .ptr neg (.pointer a) = some (.val (.bool (a.isNone != neg)) m) := (rfl)

theorem write_spec (h : SetM G m p vl vu vm FL FU FM W us Mk) (hI : Inv W us Mk R) (hu : us.length ≤ 1000) (hw : w.bits < 18446744073709551616) :
    ∃ m' G' vl' vu' FL' FU' us', Ca 41 [Pt p, .agg ⟨w.row⟩] m (I ((writeR w W).1 : Int)) m' ∧ SetM G' m' p vl' vu' vm FL' FU' FM (writeR w W).2 us' Mk ∧ Inv (writeR w W).2 us' Mk R ∧ us'.length ≤ us.length + 1 ∧ Fm (· ∈ G) m m' ∧ ∀ i ∈ G', i ∈ G ∨ m.next ≤ i := by
  obtain ⟨m1, hm1⟩ : ∃ m1, m.push { cells := w.row, rw := true, spare := none, kin := [] } = m1 := ⟨_, rfl⟩
  have g1 : m1.get m.next = some { cells := w.row, rw := true, spare := none, kin := [] } := by rw [← hm1, push_self]
  have f1 : Nx m m1 := hm1 ▸ .push
  have n1 : m1.next = m.next + 1 := by rw [← hm1]; simp
  have h1 := h.nx f1
  by_cases e1 : w.key = .empty
  · have e : writeR w W = (1, W) := by simp [writeR, keyOk, e1]
    rw [e]
    refine ⟨m1, G, vl, vu, FL, FU, us, callX_of (call_go (F := _) rfl rfl fun Q hQ => ?_), h1, hI, by omega, f1.mono fun _ _ h => h.elim, fun i hi => .inl hi⟩
    simp only [symA, go_opsd, symB, wantedX, X.put, X.look, Arg.ev, keepOf, restrict, evs, evO, initEnv, xres, tup, noTup, cls, quiet, Nat.reduceAdd, Nat.reduceEqDiff, ↓reduceIte, reduceCtorEq, goInt, exists_eq_left', eq_self, Int.reduceLT, Int.reduceLE, Int.reduceEq, Int.reduceNeg, Int.reduceAdd, Int.reduceSub, forall_const, ne_eq, undef, Nat.reducePow, Nat.reduceDiv, Nat.reduceMod, hm1, isNil_ptr, g1, bin_seql, e1]
    exact hQ _ _ _ rfl ⟨rfl, rfl⟩
  by_cases e2 : 32 < (w.key.size : Int)
  · have e : writeR w W = (1, W) := by
      have : ¬ w.key.size ≤ 32 := by omega
      simp [writeR, keyOk, e1, this]
    rw [e]
    refine ⟨m1, G, vl, vu, FL, FU, us, callX_of (call_go (F := _) rfl rfl fun Q hQ => ?_), h1, hI, by omega, f1.mono fun _ _ h => h.elim, fun i hi => .inl hi⟩
    simp only [symA, go_opsd, symB, wantedX, X.put, X.look, Arg.ev, keepOf, restrict, evs, evO, initEnv, xres, tup, noTup, cls, quiet, Nat.reduceAdd, Nat.reduceEqDiff, ↓reduceIte, reduceCtorEq, goInt, exists_eq_left', eq_self, Int.reduceLT, Int.reduceLE, Int.reduceEq, Int.reduceNeg, Int.reduceAdd, Int.reduceSub, forall_const, ne_eq, undef, Nat.reducePow, Nat.reduceDiv, Nat.reduceMod, hm1, isNil_ptr, g1, bin_seql, e1, calc_len, e2]
    exact hQ _ _ _ rfl ⟨rfl, rfl⟩
  have hk : keyOk w.key = true := by
    have : w.key.size ≤ 32 := by omega
    simp [keyOk, e1, this]
  obtain ⟨m2, r1, r2⟩ := vright_spec (m := m1) (n := w.num) (t := w.text) (b := w.bits) hw
  have lv := ld_val g1
  have f2 : Nx m m2 := f1.comp r2 fun _ _ h => h
  have g2 := r2.get (by omega) (fun h => h) g1
  have n2 := r2.next
  cases e3 : vright w.num w.text w.bits with
  | false =>
    rw [e3] at r1
    have e : writeR w W = (1, W) := by simp [writeR, e3]
    rw [e]
    refine ⟨m2, G, vl, vu, FL, FU, us, callX_of (call_go (F := _) rfl rfl fun Q hQ => ?_), h.nx f2, hI, by omega, f2.mono fun _ _ h => h.elim, fun i hi => .inl hi⟩
    simp only [symA, go_opsd, symB, wantedX, X.put, X.look, Arg.ev, keepOf, restrict, evs, evO, initEnv, xres, tup, noTup, cls, quiet, Nat.reduceAdd, Nat.reduceEqDiff, ↓reduceIte, reduceCtorEq, goInt, exists_eq_left', eq_self, Int.reduceLT, Int.reduceLE, Int.reduceEq, Int.reduceNeg, Int.reduceAdd, Int.reduceSub, forall_const, ne_eq, undef, Nat.reducePow, Nat.reduceDiv, Nat.reduceMod, hm1, isNil_ptr, g1, bin_seql, e1, calc_len, e2, lv, goR_call r1]
    exact hQ _ _ _ rfl ⟨rfl, rfl⟩
  | true =>
  rw [e3] at r1
  obtain ⟨m3, A, o, B, t1, hc, t3⟩ := get_spec (k := w.key) (h.nx f2) hI.sort (by have := hI.len; omega)
  have g3 := t3.get (by omega) (fun h => h) g2
  have n3 := t3.next
  obtain ⟨m4, u1, u2, u3, u4⟩ := new_store (m := m3) (z := ZW) (row := (o.getD zeroW).row) (n := 5) rfl rfl (by omega)
  have f4 : Nx m m4 := (f2.comp t3 fun _ _ h => h).comp u3 fun _ _ h => h
  have h4 := h.nx f4
  have g4 := u3.get (by omega) (fun h => h) g3
  have l4 := ld_wr g4
  have lo4 := ld_wr u2
  have hlen := hc.lay_len (has := true)
  rw [if_pos rfl] at hlen
  have hWl := hc.len
  have hW16 := hI.len
  obtain ⟨ql, cl, hvl⟩ := own_slice h4.ol (by omega)
  obtain ⟨qu, cu, hvu⟩ := own_slice h4.ou (by omega)
  obtain ⟨qm, cm, hvm⟩ := own_slice h4.om (by omega)
  rw [List.length_map] at hvl hvu hvm
  by_cases e4 : o = none ∧ 16 ≤ (W.length : Int)
  · obtain ⟨rfl, e4⟩ := e4
    have e : writeR w W = (18, W) := by
      simp only [Option.toList_none, List.length_nil] at hWl
      unfold writeR
      rw [hk, e3, if_neg (by simp), if_pos (by omega)]
    rw [e]
    have hgv := h4.get
    refine ⟨m4, G, vl, vu, FL, FU, us, callX_of (call_go (F := _) rfl rfl fun Q hQ => ?_), h4, hI, by omega, f4.mono fun _ _ h => h.elim, fun i hi => .inl hi⟩
    subst hvl
    unfold tupW at t1
    simp only [symA, go_opsd, symB, wantedX, X.put, X.look, Arg.ev, keepOf, restrict, evs, evO, initEnv, xres, tup, noTup, cls, quiet, Nat.reduceAdd, Nat.reduceEqDiff, ↓reduceIte, reduceCtorEq, goInt, exists_eq_left', eq_self, Int.reduceLT, Int.reduceLE, Int.reduceEq, Int.reduceNeg, Int.reduceAdd, Int.reduceSub, forall_const, ne_eq, undef, Nat.reducePow, Nat.reduceDiv, Nat.reduceMod, hm1, isNil_ptr, g1, bin_seql, e1, calc_len, e2, lv, goR_call r1, g2, goR_call t1, u1, Option.isSome_none, hgv, e4]
    exact hQ _ _ _ rfl ⟨rfl, rfl⟩
  have hl16 : (layW w true W).length ≤ 16 := by
    cases ho : o with
    | none => rw [ho] at hWl; simp only [Option.toList_none, List.length_nil] at hWl; have : ¬ 16 ≤ (W.length : Int) := fun h => e4 ⟨ho, h⟩; omega
    | some x => rw [ho] at hWl; simp only [Option.toList_some, List.length_singleton] at hWl; omega
  have e : writeR w W = (0, layW w true W) := by
    unfold writeR
    rw [hk, e3, if_neg (by simp), if_neg (by omega)]
  rw [e]
  -- what is told of the undo
  by_cases e5 : 0 < (Mk.length : Int)
  · have b1 := buildN (m := m4) (k := w.key) (x := o.getD zeroW) (b := o.isSome)
    have b2 := buildN1 (m := m4) (u := ⟨w.key, o.getD zeroW, o.isSome⟩)
    obtain ⟨vu', m5, F5, a1, a2, a3, a4⟩ := h4.ou.one (bytes := 80) (zero := ZN) (row := Un.row ⟨w.key, o.getD zeroW, o.isSome⟩) rfl (by omega) rfl (by rw [List.length_map]; omega) (by rw [List.length_map]; omega)
    have eN : rowsN us ++ [Un.row ⟨w.key, o.getD zeroW, o.isSome⟩] = rowsN (us ++ [⟨w.key, o.getD zeroW, o.isSome⟩]) := by simp
    rw [eN] at a2
    obtain ⟨m6, G6, s1, h6, s3, s4⟩ := h4.setU a3 a2 a4
    obtain ⟨m7, G7, vl7, FL7, c1, h7, c3, c4⟩ := lay_spec (w := w) (has := true) h6 hI.sort (by omega)
    have hng : m.next ∉ G := fun e => by have := h.lt _ e; omega
    have hnu : m.next ∉ FU := fun e => hng (h.uG _ e)
    have g5 := a3.get (by omega) hnu g4
    have g6 := s3.get (by omega) hng g4
    have l6 := ld_wr g6
    have n6 := s3.next
    have hnG6 : ∀ i, i ∈ G6 → i ∈ G ∨ m4.next ≤ i := s4
    have fall : Fm (· ∈ G) m m7 := ((f4.mono fun _ _ h => h.elim).trans s3).comp c3 fun i hi hg => (s4 i hg).elim id fun h => by have := f4.next; omega
    refine ⟨m7, G7, vl7, vu', FL7, F5, us ++ [⟨w.key, o.getD zeroW, o.isSome⟩], callX_of (call_go (F := _) rfl rfl fun Q hQ => ?_), h7, hI.more hc hl16, by simp, fall, fun i hi => (c4 i hi).elim (fun h => (s4 i h).imp id fun h => by have := f4.next; omega) fun h => .inr (by have := f4.next; omega)⟩
    obtain ⟨mp, hp⟩ : ∃ mp, m4.push { cells := Un.row ⟨w.key, o.getD zeroW, o.isSome⟩, rw := true, spare := none, kin := [] } = mp := ⟨_, rfl⟩
    rw [hp] at a1 b2
    have fp : Nx m4 mp := hp ▸ .push
    have gp := (h4.nx fp).get
    have gpo := fp.get (by omega) (fun h => h) u2
    have gpw := fp.get (by omega) (fun h => h) g4
    have lpo := ld_wr gpo
    have hgv := h4.get
    have e6 : 0 < Mk.length := by omega
    subst hvl hvu hvm
    unfold tupW at t1
    cases o with
    | none =>
      have e7 : ¬ 16 ≤ (W.length : Int) := fun h => e4 ⟨rfl, h⟩
      simp only [Option.isSome_none, Option.getD_none] at b1 b2 a1 t1 u1 lo4 lpo
      simp only [symA, go_opsd, symB, wantedX, X.put, X.look, Arg.ev, keepOf, restrict, evs, evO, initEnv, xres, tup, noTup, cls, quiet, Nat.reduceAdd, Nat.reduceEqDiff, ↓reduceIte, reduceCtorEq, goInt, exists_eq_left', eq_self, Int.reduceLT, Int.reduceLE, Int.reduceEq, Int.reduceNeg, Int.reduceAdd, Int.reduceSub, forall_const, ne_eq, undef, Nat.reducePow, Nat.reduceDiv, Nat.reduceMod, hm1, isNil_ptr, g1, bin_seql, e1, calc_len, e2, lv, goR_call r1, g2, goR_call t1, u1, Option.isSome_none, Option.getD_none, hgv, e7, e5, e6, g4, lo4, b1, b2, gp, lpo, gpw, a1, s1, l6, goR_call c1]
      exact hQ _ _ _ rfl ⟨rfl, rfl⟩
    | some x =>
      simp only [Option.isSome_some, Option.getD_some] at b1 b2 a1 t1 u1 lo4 lpo
      simp only [symA, go_opsd, symB, wantedX, X.put, X.look, Arg.ev, keepOf, restrict, evs, evO, initEnv, xres, tup, noTup, cls, quiet, Nat.reduceAdd, Nat.reduceEqDiff, ↓reduceIte, reduceCtorEq, goInt, exists_eq_left', eq_self, Int.reduceLT, Int.reduceLE, Int.reduceEq, Int.reduceNeg, Int.reduceAdd, Int.reduceSub, forall_const, ne_eq, undef, Nat.reducePow, Nat.reduceDiv, Nat.reduceMod, hm1, isNil_ptr, g1, bin_seql, e1, calc_len, e2, lv, goR_call r1, g2, goR_call t1, u1, Option.isSome_some, Option.getD_some, hgv, e5, e6, g4, lo4, b1, b2, gp, lpo, gpw, a1, s1, l6, goR_call c1]
      exact hQ _ _ _ rfl ⟨rfl, rfl⟩
  · have hMk : Mk = [] := List.eq_nil_of_length_eq_zero (by omega)
    obtain ⟨m7, G7, vl7, FL7, c1, h7, c3, c4⟩ := lay_spec (w := w) (has := true) h4 hI.sort (by omega)
    have fall : Fm (· ∈ G) m m7 := (f4.mono fun _ _ h => h.elim).trans c3
    have e6 : ¬ 0 < Mk.length := by omega
    have hgv := h4.get
    refine ⟨m7, G7, vl7, vu, FL7, FU, us, callX_of (call_go (F := _) rfl rfl fun Q hQ => ?_), h7, hI.same hc hl16 hMk, by omega, fall, fun i hi => (c4 i hi).imp id fun h => by have := f4.next; omega⟩
    subst hvl hvu hvm
    unfold tupW at t1
    cases o with
    | none =>
      have e7 : ¬ 16 ≤ (W.length : Int) := fun h => e4 ⟨rfl, h⟩
      simp only [Option.isSome_none, Option.getD_none] at t1 u1
      simp only [symA, go_opsd, symB, wantedX, X.put, X.look, Arg.ev, keepOf, restrict, evs, evO, initEnv, xres, tup, noTup, cls, quiet, Nat.reduceAdd, Nat.reduceEqDiff, ↓reduceIte, reduceCtorEq, goInt, exists_eq_left', eq_self, Int.reduceLT, Int.reduceLE, Int.reduceEq, Int.reduceNeg, Int.reduceAdd, Int.reduceSub, forall_const, ne_eq, undef, Nat.reducePow, Nat.reduceDiv, Nat.reduceMod, hm1, isNil_ptr, g1, bin_seql, e1, calc_len, e2, lv, goR_call r1, g2, goR_call t1, u1, Option.isSome_none, Option.getD_none, hgv, e7, e5, e6, l4, goR_call c1]
      exact hQ _ _ _ rfl ⟨rfl, rfl⟩
    | some x =>
      simp only [Option.isSome_some, Option.getD_some] at t1 u1
      simp only [symA, go_opsd, symB, wantedX, X.put, X.look, Arg.ev, keepOf, restrict, evs, evO, initEnv, xres, tup, noTup, cls, quiet, Nat.reduceAdd, Nat.reduceEqDiff, ↓reduceIte, reduceCtorEq, goInt, exists_eq_left', eq_self, Int.reduceLT, Int.reduceLE, Int.reduceEq, Int.reduceNeg, Int.reduceAdd, Int.reduceSub, forall_const, ne_eq, undef, Nat.reducePow, Nat.reduceDiv, Nat.reduceMod, hm1, isNil_ptr, g1, bin_seql, e1, calc_len, e2, lv, goR_call r1, g2, goR_call t1, u1, Option.isSome_some, Option.getD_some, hgv, e5, e6, l4, goR_call c1]
      exact hQ _ _ _ rfl ⟨rfl, rfl⟩
end
end Go.Proofs.Ytecceimgpeookaa
