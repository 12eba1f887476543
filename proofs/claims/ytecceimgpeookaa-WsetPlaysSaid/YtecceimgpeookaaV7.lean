/-
  Own work. The set of writes: Put, Del, a mark, and back to one.
-/
import Derived.Test.YtecceimgpeookaaV6
namespace Go.Proofs.Ytecceimgpeookaa
open Go X
set_option maxRecDepth 100000
attribute [local irreducible] X.Go' X.GoO X.GoR X.GoG X.GoC X.GoF X.GoFV X.GoFG X.Ex X.GoD X.GoDV X.GoDG
set_option linter.unusedVariables false
set_option linter.unusedSimpArgs false

/-- A set of writes stands there; c: so many of them are there to be undone at most. -/
def SetP (G : List Nat) (m : Mem) (v : Value) (W : List Wr) (R : List (List Wr)) (c : Nat) : Prop :=
  ∃ p vl vu vm FL FU FM us Mk, v = Pt p ∧ SetM G m p vl vu vm FL FU FM W us Mk ∧ Inv W us Mk R ∧ us.length ≤ c
def putW (k : ByteArray) (n : Bool) (t : ByteArray) (b : Nat) : Wr := ⟨k, false, n, t, b⟩
def delW (k : ByteArray) : Wr := ⟨k, true, false, .empty, 0⟩
def markR (W : List Wr) (R : List (List Wr)) : Nat × Nat × List (List Wr) := if 4 ≤ R.length then (0, 5, R) else (R.length + 1, 0, R ++ [W])
def backR (n : Int) (W : List Wr) (R : List (List Wr)) : Nat × List Wr × List (List Wr) :=
  if n < 1 ∨ (R.length : Int) < n then (7, W, R) else (0, (R[n.toNat - 1]?).getD [], R.take n.toNat)

section
variable {G : List Nat} {m : Mem} {v : Value} {W : List Wr} {R : List (List Wr)} {c : Nat} {w : Wr} {k t : ByteArray}
theorem SetP.fr {m' : Mem} {S : Nat → Prop} (h : SetP G m v W R c) (hf : Fm S m m') (hs : ∀ i ∈ G, ¬ S i) : SetP G m' v W R c := by
  obtain ⟨p, vl, vu, vm, FL, FU, FM, us, Mk, h1, h2, h3, h4⟩ := h
  exact ⟨p, vl, vu, vm, FL, FU, FM, us, Mk, h1, h2.fr hf hs, h3, h4⟩
theorem SetP.nx {m' : Mem} (h : SetP G m v W R c) (hf : Nx m m') : SetP G m' v W R c := h.fr hf fun _ _ h => h
theorem SetP.lt (h : SetP G m v W R c) : ∀ i ∈ G, i < m.next := by
  obtain ⟨p, vl, vu, vm, FL, FU, FM, us, Mk, h1, h2, h3, h4⟩ := h
  exact h2.lt
theorem SetP.le {c' : Nat} (h : SetP G m v W R c) (hc : c ≤ c') : SetP G m v W R c' := by
  obtain ⟨p, vl, vu, vm, FL, FU, FM, us, Mk, h1, h2, h3, h4⟩ := h
  exact ⟨p, vl, vu, vm, FL, FU, FM, us, Mk, h1, h2, h3, by omega⟩
theorem SetP.sort (h : SetP G m v W R c) : SortW W ∧ W.length ≤ 16 ∧ R.length ≤ 4 := by
  obtain ⟨p, vl, vu, vm, FL, FU, FM, us, Mk, h1, h2, h3, h4⟩ := h
  exact ⟨h3.sort, h3.len, h3.m4⟩

theorem buildPut {m : Mem} {n : Bool} {b : Nat} : buildE m ZW [(0, 1), (1, 1), (2, 3)] [(0, .string k), (2, .agg ⟨valL n t b⟩)] = some (.val (.agg ⟨(putW k n t b).row⟩) m) := by kernel_rfl
theorem buildDel {m : Mem} : buildE m ZW [(0, 1), (1, 1), (2, 3)] [(0, .string k), (1, .bool true)] = some (.val (.agg ⟨(delW k).row⟩) m) := by kernel_rfl
theorem put_spec {n : Bool} {b : Nat} (h : SetP G m v W R c) (hc : c ≤ 1000) (hb : b < 18446744073709551616) :
    ∃ m' G', Ca 17 [v, .string k, .agg ⟨valL n t b⟩] m (I ((writeR (putW k n t b) W).1 : Int)) m' ∧ SetP G' m' v (writeR (putW k n t b) W).2 R (c + 1) ∧ Fm (· ∈ G) m m' ∧ ∀ i ∈ G', i ∈ G ∨ m.next ≤ i := by
  obtain ⟨p, vl, vu, vm, FL, FU, FM, us, Mk, rfl, h2, h3, h4⟩ := h
  obtain ⟨m1, hm1⟩ : ∃ m1, m.push { cells := valL n t b, rw := true, spare := none, kin := [] } = m1 := ⟨_, rfl⟩
  have g1 : m1.get m.next = some { cells := valL n t b, rw := true, spare := none, kin := [] } := by rw [← hm1, push_self]
  have f1 : Nx m m1 := hm1 ▸ .push
  have n1 : m1.next = m.next + 1 := by rw [← hm1]; simp
  have l1 : ldA m1 3 (.pointer (some ⟨m.next, 0, none⟩)) = some (.val (.agg ⟨valL n t b⟩) m1) := by simp [ldA, xload, g1]
  obtain ⟨m', G', vl', vu', FL', FU', us', k1, k2, k3, k4, k5, k6⟩ := write_spec (w := putW k n t b) (h2.nx f1) h3 (by omega) hb
  refine ⟨m', G', callX_of (call_go (F := _) rfl rfl fun Q hQ => ?_), ⟨p, vl', vu', vm, FL', FU', FM, us', Mk, rfl, k2, k3, by omega⟩, (f1.mono fun _ _ h => h.elim).trans k5, fun i hi => (k6 i hi).imp id fun h => by omega⟩
  simp only [symA, go_opsd, symB, wantedX, X.put, X.look, Arg.ev, keepOf, restrict, evs, evO, initEnv, xres, tup, noTup, cls, quiet, Nat.reduceAdd, Nat.reduceEqDiff, ↓reduceIte, reduceCtorEq, goInt, exists_eq_left', eq_self, Int.reduceLT, Int.reduceLE, Int.reduceEq, Int.reduceNeg, Int.reduceAdd, Int.reduceSub, forall_const, ne_eq, undef, Nat.reducePow, Nat.reduceDiv, Nat.reduceMod, hm1, l1, buildPut, goR_call k1]
  exact hQ _ _ _ rfl ⟨rfl, rfl⟩
theorem del_call (h : SetP G m v W R c) (hc : c ≤ 1000) :
    ∃ m' G', Ca 18 [v, .string k] m (I ((writeR (delW k) W).1 : Int)) m' ∧ SetP G' m' v (writeR (delW k) W).2 R (c + 1) ∧ Fm (· ∈ G) m m' ∧ ∀ i ∈ G', i ∈ G ∨ m.next ≤ i := by
  obtain ⟨p, vl, vu, vm, FL, FU, FM, us, Mk, rfl, h2, h3, h4⟩ := h
  obtain ⟨m', G', vl', vu', FL', FU', us', k1, k2, k3, k4, k5, k6⟩ := write_spec (w := delW k) h2 h3 (by omega) (by show 0 < _; omega)
  refine ⟨m', G', callX_of (call_go (F := _) rfl rfl fun Q hQ => ?_), ⟨p, vl', vu', vm, FL', FU', FM, us', Mk, rfl, k2, k3, by omega⟩, k5, k6⟩
  simp only [symA, go_opsd, symB, wantedX, X.put, X.look, Arg.ev, keepOf, restrict, evs, evO, initEnv, xres, tup, noTup, cls, quiet, Nat.reduceAdd, Nat.reduceEqDiff, ↓reduceIte, reduceCtorEq, goInt, exists_eq_left', eq_self, Int.reduceLT, Int.reduceLE, Int.reduceEq, Int.reduceNeg, Int.reduceAdd, Int.reduceSub, forall_const, ne_eq, undef, Nat.reducePow, Nat.reduceDiv, Nat.reduceMod, buildDel, goR_call k1]
  exact hQ _ _ _ rfl ⟨rfl, rfl⟩

theorem buildI {m : Mem} {n : Int} : buildSliceE m [I 0] 1 1 [(0, I n)] = some (.val (.slice (some ⟨m.next, 0, none⟩) 1 1) (m.push { cells := [I n], rw := true, spare := none, kin := [] })) := by kernel_rfl
theorem mark_spec (h : SetP G m v W R c) (hc : c ≤ 1000) :
    ∃ m' G', Ca 13 [v] m (.tuple #[I ((markR W R).1 : Int), I ((markR W R).2.1 : Int)]) m' ∧ SetP G' m' v W (markR W R).2.2 c ∧ Fm (· ∈ G) m m' ∧ ∀ i ∈ G', i ∈ G ∨ m.next ≤ i := by
  obtain ⟨p, vl, vu, vm, FL, FU, FM, us, Mk, rfl, h2, h3, h4⟩ := h
  have hml := h3.mlen
  have hgv := h2.get
  obtain ⟨qu, cu, hvu⟩ := own_slice h2.ou (by omega)
  obtain ⟨qm, cm, hvm⟩ := own_slice h2.om (by omega)
  rw [List.length_map] at hvu hvm
  by_cases e1 : 4 ≤ (Mk.length : Int)
  · have e : markR W R = (0, 5, R) := by unfold markR; rw [if_pos (by omega)]
    rw [e]
    refine ⟨m, G, callX_of (call_go (F := _) rfl rfl fun Q hQ => ?_), ⟨p, vl, vu, vm, FL, FU, FM, us, Mk, rfl, h2, h3, h4⟩, .refl, fun i hi => .inl hi⟩
    subst hvm
    simp only [symA, go_opsd, symB, wantedX, X.put, X.look, Arg.ev, keepOf, restrict, evs, evO, initEnv, xres, tup, noTup, cls, quiet, Nat.reduceAdd, Nat.reduceEqDiff, ↓reduceIte, reduceCtorEq, goInt, exists_eq_left', eq_self, Int.reduceLT, Int.reduceLE, Int.reduceEq, Int.reduceNeg, Int.reduceAdd, Int.reduceSub, forall_const, ne_eq, undef, Nat.reducePow, Nat.reduceDiv, Nat.reduceMod, isNil_ptr, hgv, e1]
    exact hQ _ _ _ rfl ⟨rfl, rfl⟩
  · have e : markR W R = (R.length + 1, 0, R ++ [W]) := by unfold markR; rw [if_neg (by omega)]
    rw [e]
    obtain ⟨vm', m2, F2, a1, a2, a3, a4⟩ := h2.om.one (bytes := 8) (zero := [I 0]) (row := [I (us.length : Int)]) rfl (by omega) rfl (by rw [List.length_map]; omega) (by rw [List.length_map]; omega)
    have eN : rowsI Mk ++ [[I (us.length : Int)]] = rowsI (Mk ++ [us.length]) := by simp
    rw [eN] at a2
    obtain ⟨m3, G3, s1, k2, s3, s4⟩ := h2.setM a3 a2 a4
    refine ⟨m3, G3, callX_of (call_go (F := _) rfl rfl fun Q hQ => ?_), ⟨p, vl, vu, vm', FL, FU, F2, us, _, rfl, k2, h3.mark (by omega), h4⟩, s3, s4⟩
    obtain ⟨mp, hp⟩ : ∃ mp, m.push { cells := [I (us.length : Int)], rw := true, spare := none, kin := [] } = mp := ⟨_, rfl⟩
    have b1 := buildI (m := m) (n := us.length)
    rw [hp] at a1 b1
    have fp : Nx m mp := hp ▸ .push
    have gp := (h2.nx fp).get
    have g3 := k2.get
    obtain ⟨qn, cn, hvn⟩ := own_slice k2.om (by omega)
    rw [List.length_map, List.length_append, List.length_singleton, hml] at hvn
    subst hvm hvu hvn
    simp only [symA, go_opsd, symB, wantedX, X.put, X.look, Arg.ev, keepOf, restrict, evs, evO, initEnv, xres, tup, noTup, cls, quiet, Nat.reduceAdd, Nat.reduceEqDiff, ↓reduceIte, reduceCtorEq, goInt, exists_eq_left', eq_self, Int.reduceLT, Int.reduceLE, Int.reduceEq, Int.reduceNeg, Int.reduceAdd, Int.reduceSub, forall_const, ne_eq, undef, Nat.reducePow, Nat.reduceDiv, Nat.reduceMod, isNil_ptr, hgv, e1, b1, gp, a1, s1, g3]
    exact hQ _ _ _ rfl ⟨rfl, rfl⟩
end

/-! ## Back -/
section
variable {G FL FU FM Mk : List Nat} {m m' : Mem} {p : Nat} {vl vu vm : Value} {W : List Wr} {us : List Un} {R : List (List Wr)} {n : Nat} {S : List Wr}
theorem Inv.back1 (h : Inv W us Mk R) {q to : Nat} (hq : Mk[q]? = some to) (hS : R[q]? = some S) : Inv S (us.take to) (Mk.take (q + 1)) (R.take (q + 1)) := by
  have hto := h.le q to hq
  have hrs := h.rs S (List.mem_of_getElem? hS)
  have lt : ∀ (j n : Nat), (Mk.take (q + 1))[j]? = some n → j ≤ q ∧ Mk[j]? = some n := fun j n hj => by
    rw [List.getElem?_take] at hj
    split at hj
    · exact ⟨by omega, hj⟩
    · cases hj
  have hm := h.mlen
  refine ⟨hrs.1, hrs.2, by rw [List.length_take, List.length_take, hm], by rw [List.length_take]; have := h.m4; omega, fun j n hj => ?_, fun i j a b hij hi hj => h.mono i j a b hij (lt i a hi).2 (lt j b hj).2, fun j n T hj hT => ?_, fun T hT => h.rs T (List.mem_of_mem_take hT)⟩
  · obtain ⟨h1, h2⟩ := lt j n hj
    have := h.mono j q n to h1 h2 hq
    rw [List.length_take]; omega
  · obtain ⟨h1, h2⟩ := lt j n hj
    have h3 := h.mono j q n to h1 h2 hq
    rw [List.getElem?_take, if_pos (by omega)] at hT
    have b1 := h.back j n T h2 hT
    have b2 := h.back q to S hq hS
    rw [← b1, ← b2, undo, undo, undo, ← List.foldr_append]
    congr 1
    rw [← List.drop_append_of_le_length (by rw [List.length_take]; omega), List.take_append_drop]
theorem undo_sort {us : List Un} : ∀ {W : List Wr}, SortW W → SortW (undo us W) := by
  induction us with
  | nil => intro W h; exact h
  | cons u us ih =>
    intro W h
    have h1 := ih h
    obtain ⟨A, o, B, hc⟩ := cut_ex (k := u.w.key) h1
    exact hc.sort h1
theorem undo_len {us : List Un} : ∀ {W : List Wr}, SortW W → (undo us W).length ≤ W.length + us.length := by
  induction us with
  | nil => intro W h; exact Nat.le_refl _
  | cons u us ih =>
    intro W h
    have h1 := undo_sort (us := us) h
    obtain ⟨A, o, B, hc⟩ := cut_ex (k := u.w.key) h1
    have h2 := hc.lay_len (has := u.had)
    have h3 := hc.len
    have h4 := ih h
    show (layW u.w u.had (undo us W)).length ≤ W.length + (us.length + 1)
    rw [h2]
    split <;> omega

abbrev ZU : List Value := [.string .empty, .string .empty, .bool false, .bool false, .string .empty, U 0, .bool false]
theorem ld_un {m : Mem} {b off : Nat} {o : XObj} {u : Un} (hg : m.get b = some o) (h : ∀ j, j < 7 → o.cells[off + j]? = u.row[j]?) : ldA m 7 (.pointer (some ⟨b, off, none⟩)) = some (.val (.agg ⟨u.row⟩) m) := by
  have := xload_cells (m := m) (b := b) (off := off) (n := 7) (r := u.row) hg rfl (by omega) h
  simp [ldA, this]

theorem rdI_at {b : Nat} {v : Value} (h : RdS b m 1 v (rowsI Mk)) {i x : Nat} (hi : Mk[i]? = some x) : ∃ a c o, v = .slice (some a) Mk.length c ∧ m.get a.block = some o ∧ o.cells[a.off + i]? = some (I (x : Int)) := by
  obtain ⟨p, c, rfl, hc, h⟩ := h
  obtain ⟨k1, a, o, rfl, k3, k4, k5⟩ := h i [I (x : Int)] (by simp [hi])
  exact ⟨a, c, o, by simp, k4, by simpa using k5 0 (by omega)⟩
theorem rdN_at {b : Nat} {v : Value} (h : RdS b m 7 v (rowsN us)) {i : Nat} {u : Un} (hi : us[i]? = some u) : ∃ a c, v = .slice (some a) us.length c ∧ ldA m 7 (.pointer (some ⟨a.block, a.off + i * 7, none⟩)) = some (.val (.agg ⟨u.row⟩) m) := by
  obtain ⟨p, c, rfl, hc, h⟩ := h
  obtain ⟨k1, a, o, rfl, k3, k4, k5⟩ := h i u.row (by simp [hi])
  exact ⟨a, c, by simp, ld_un k4 k5⟩
abbrev inv15 (G : List Nat) (m : Mem) (p to : Nat) (vu vm : Value) (FU FM : List Nat) (W : List Wr) (us : List Un) (Mk : List Nat) (j : Nat) (e : Env) (m1 : Mem) : Prop :=
  ∃ (i : Nat) (z : Int) (G1 : List Nat) (vl1 : Value) (FL1 : List Nat), to ≤ i ∧ i ≤ us.length ∧ j = i - to ∧ z = (i : Int) - 1 ∧ SetM G1 m1 p vl1 vu vm FL1 FU FM (undo (us.drop i) W) us Mk ∧ Fm (· ∈ G) m m1 ∧ (∀ x ∈ G1, x ∈ G ∨ m.next ≤ x) ∧ e = [(0, Pt p), (5, I (to : Int)), (6, I z)]
theorem back_spec {v : Value} {c : Nat} {n : Int} (h : SetP G m v W R c) (hc : c ≤ 800) :
    ∃ m' G', Ca 15 [v, I n] m (I ((backR n W R).1 : Int)) m' ∧ SetP G' m' v (backR n W R).2.1 (backR n W R).2.2 c ∧ Fm (· ∈ G) m m' ∧ ∀ i ∈ G', i ∈ G ∨ m.next ≤ i := by
  obtain ⟨p, vl, vu, vm, FL, FU, FM, us, Mk, rfl, h2, h3, h4⟩ := h
  have hml := h3.mlen
  have hgv := h2.get
  obtain ⟨qm, cm, hvm⟩ := own_slice h2.om (by omega)
  rw [List.length_map] at hvm
  by_cases e1 : n < 1
  · have e : backR n W R = (7, W, R) := by unfold backR; rw [if_pos (.inl e1)]
    rw [e]
    refine ⟨m, G, callX_of (call_go (F := _) rfl rfl fun Q hQ => ?_), ⟨p, vl, vu, vm, FL, FU, FM, us, Mk, rfl, h2, h3, h4⟩, .refl, fun i hi => .inl hi⟩
    simp only [symA, go_opsd, symB, wantedX, X.put, X.look, Arg.ev, keepOf, restrict, evs, evO, initEnv, xres, tup, noTup, cls, quiet, Nat.reduceAdd, Nat.reduceEqDiff, ↓reduceIte, reduceCtorEq, goInt, exists_eq_left', eq_self, Int.reduceLT, Int.reduceLE, Int.reduceEq, Int.reduceNeg, Int.reduceAdd, Int.reduceSub, forall_const, ne_eq, undef, Nat.reducePow, Nat.reduceDiv, Nat.reduceMod, isNil_ptr, e1]
    exact hQ _ _ _ rfl ⟨rfl, rfl⟩
  by_cases e2 : (Mk.length : Int) < n
  · have e : backR n W R = (7, W, R) := by unfold backR; rw [if_pos (.inr (by omega))]
    rw [e]
    refine ⟨m, G, callX_of (call_go (F := _) rfl rfl fun Q hQ => ?_), ⟨p, vl, vu, vm, FL, FU, FM, us, Mk, rfl, h2, h3, h4⟩, .refl, fun i hi => .inl hi⟩
    subst hvm
    simp only [symA, go_opsd, symB, wantedX, X.put, X.look, Arg.ev, keepOf, restrict, evs, evO, initEnv, xres, tup, noTup, cls, quiet, Nat.reduceAdd, Nat.reduceEqDiff, ↓reduceIte, reduceCtorEq, goInt, exists_eq_left', eq_self, Int.reduceLT, Int.reduceLE, Int.reduceEq, Int.reduceNeg, Int.reduceAdd, Int.reduceSub, forall_const, ne_eq, undef, Nat.reducePow, Nat.reduceDiv, Nat.reduceMod, isNil_ptr, e1, hgv, e2]
    exact hQ _ _ _ rfl ⟨rfl, rfl⟩
  obtain ⟨q, rfl⟩ : ∃ q : Nat, n = ((q + 1 : Nat) : Int) := ⟨n.toNat - 1, by omega⟩
  have hq : q < Mk.length := by omega
  obtain ⟨to, hto⟩ : ∃ to, Mk[q]? = some to := ⟨_, List.getElem?_eq_getElem hq⟩
  obtain ⟨S, hS⟩ : ∃ S, R[q]? = some S := ⟨_, List.getElem?_eq_getElem (by omega)⟩
  have e : backR ((q + 1 : Nat) : Int) W R = (0, S, R.take (q + 1)) := by
    unfold backR
    rw [if_neg (by omega), Int.toNat_natCast, Nat.add_sub_cancel, hS]; rfl
  rw [e]
  have hle := h3.le q to hto
  obtain ⟨vm', c1, c2⟩ := own_cut (k := q + 1) (by omega) h2.om (by rw [List.length_map]; omega)
  rw [← List.map_take] at c2
  obtain ⟨m1, G1, s1, k2, s3, s4⟩ := h2.setM .refl c2 (fun i hi => .inl hi)
  have hg1 := k2.get
  obtain ⟨am, cm', om, hvm', hgm, hcm⟩ := rdI_at (c2.rd (by omega)) (i := q) (x := to) (by rw [List.getElem?_take, if_pos (by omega)]; exact hto)
  have hgm1 : ∃ om', m1.get am.block = some om' ∧ om'.cells[am.off + q]? = some (I (to : Int)) := by
    obtain ⟨am2, cm2, om2, hv2, hg2, hc2⟩ := rdI_at (k2.om.rd (by omega)) (i := q) (x := to) (by rw [List.getElem?_take, if_pos (by omega)]; exact hto)
    rw [hvm'] at hv2
    cases hv2
    exact ⟨om2, hg2, hc2⟩
  obtain ⟨om', hgm', hcm'⟩ := hgm1
  rw [List.length_take, Nat.min_eq_left (by omega)] at hvm'
  obtain ⟨qu, cu, hvu⟩ := own_slice h2.ou (by omega)
  rw [List.length_map] at hvu
  have hm4 := h3.m4
  have w1 : IntKind.i64.wrap (((q + 1 : Nat) : Int) - 1) = (q : Int) := by rw [wrap_i64 (by omega) (by omega)]; omega
  have w2 : IntKind.i64.wrap ((us.length : Int) - 1) = (us.length : Int) - 1 := wrap_i64 (by omega) (by omega)
  have hq' : q < q + 1 := by omega
  have hW := h3.len
  have hn1 := s3.next
  have key : Wc 15 [Pt p, I ((q + 1 : Nat) : Int)] m fun r m' => ∃ G' vu' vl', r = I 0 ∧ (∃ FL' FU', SetM G' m' p vl' vu' vm' FL' FU' FM S (us.take to) (Mk.take (q + 1))) ∧ Fm (· ∈ G) m m' ∧ ∀ i ∈ G', i ∈ G ∨ m.next ≤ i := by
    refine call_go (F := _) rfl rfl fun Q hQ => ?_
    have hvu0 := hvu
    have hvm0 := hvm'
    subst hvm hvm' hvu
    simp only [symA, go_opsd, symB, wantedX, X.put, X.look, Arg.ev, keepOf, restrict, evs, evO, initEnv, xres, tup, noTup, cls, quiet, Nat.reduceAdd, Nat.reduceEqDiff, ↓reduceIte, reduceCtorEq, goInt, exists_eq_left', eq_self, Int.reduceLT, Int.reduceLE, Int.reduceEq, Int.reduceNeg, Int.reduceAdd, Int.reduceSub, forall_const, ne_eq, undef, Nat.reducePow, Nat.reduceDiv, Nat.reduceMod, isNil_ptr, e1, hgv, e2, c1, s1, hg1, w1, hq', hgm', hcm', w2]
    refine loop_go (fun j e m' => inv15 G1 m1 p to (.slice qu us.length cu) (.slice (some am) (q + 1) cm') FU FM W us (Mk.take (q + 1)) j e m') (us.length - to) ⟨us.length, _, G1, vl, FL, hle, Nat.le_refl _, rfl, rfl, by rw [List.drop_length]; exact k2, .refl, fun i hi => .inl hi, rfl⟩ ?_
    rintro j e m2 N' B' hN hB ⟨i, z, G2, vl2, FL2, i1, i2, rfl, hz, k3, f3, n3, rfl⟩
    have hg2 := k3.get
    by_cases hlt : (to : Int) ≤ z
    · obtain ⟨d, rfl⟩ : ∃ d : Nat, i = d + 1 := ⟨i - 1, by omega⟩
      have hzd : z = (d : Int) := by omega
      subst hzd
      obtain ⟨u, hu⟩ : ∃ u, us[d]? = some u := ⟨_, List.getElem?_eq_getElem (by omega)⟩
      have hd : d < us.length := by omega
      obtain ⟨au, cu2, hv2, lu⟩ := rdN_at (k3.ou.rd (by omega)) hu
      cases hv2
      obtain ⟨m3, t1, t2, t3, t4⟩ := new_store (m := m2) (z := ZU) (row := u.row) (n := 7) rfl rfl (by omega)
      obtain ⟨m4, y1, y2, y3, y4⟩ := fld_store (i := 1) (x := .string u.key) t2 (by simp) rfl rfl
      have y2 : m4.get m2.next = some { cells := [.string u.key, .string u.key, .bool u.was.gone, .bool u.was.num, .string u.was.text, U (u.was.bits : Int), .bool u.had], rw := true, spare := none, kin := [] } := y2
      have l5 : ldA m4 5 (.pointer (some ⟨m2.next, 1, none⟩)) = some (.val (.agg ⟨u.w.row⟩) m4) := by simp [ldA, xload, y2, Un.w]
      have f24 : Nx m2 m4 := t3.comp y3 fun i hi h => by omega
      have hs2 : SortW (undo (us.drop (d + 1)) W) := undo_sort h3.sort
      have hl2 : (undo (us.drop (d + 1)) W).length ≤ 900 := by
        have := undo_len (us := us.drop (d + 1)) h3.sort
        rw [List.length_drop] at this
        omega
      obtain ⟨m5, G5, vl5, FL5, d1, k5, f5, n5⟩ := lay_spec (w := u.w) (has := u.had) (k3.nx f24) hs2 hl2
      have eU : layW u.w u.had (undo (us.drop (d + 1)) W) = undo (us.drop d) W := by
        have : us.drop d = u :: us.drop (d + 1) := by
          obtain ⟨_, rfl⟩ := List.getElem?_eq_some_iff.1 hu
          exact List.drop_eq_getElem_cons hd
        rw [this]; rfl
      rw [eU] at k5
      have w3 : IntKind.i64.wrap ((d : Int) - 1) = (d : Int) - 1 := wrap_i64 (by omega) (by omega)
      have f25 : Fm (· ∈ G2) m2 m5 := (f24.mono fun _ _ h => h.elim).trans f5
      simp only [symA, go_opsd, symB, wantedX, X.put, X.look, Arg.ev, keepOf, restrict, evs, evO, initEnv, xres, tup, noTup, cls, quiet, Nat.reduceAdd, Nat.reduceEqDiff, ↓reduceIte, reduceCtorEq, goInt, exists_eq_left', eq_self, Int.reduceLT, Int.reduceLE, Int.reduceEq, Int.reduceNeg, Int.reduceAdd, Int.reduceSub, forall_const, ne_eq, undef, Nat.reducePow, Nat.reduceDiv, Nat.reduceMod, hlt, hg2, hd, lu, t1, t2, y1, y2, l5, goR_call d1, w3]
      refine hN _ _ (d - to) (by omega) ⟨d, _, G5, vl5, FL5, by omega, by omega, rfl, rfl, k5, f3.comp f25 fun x hx hg => (n3 x hg).elim id fun h => by omega, fun x hx => ?_, rfl⟩
      rcases n5 x hx with h | h
      · exact n3 x h
      · have := f24.next; have := f3.next; exact .inr (by omega)
    · have hit : i = to := by omega
      subst hit
      obtain ⟨vu', b1, b2⟩ := own_cut (k := i) (by omega) k3.ou (by rw [List.length_map]; omega)
      rw [← List.map_take] at b2
      obtain ⟨m4, G4, y1, k4, y3, y4⟩ := k3.setU .refl b2 (fun i hi => .inl hi)
      rw [h3.back q i S hto hS] at k4
      simp only [symA, go_opsd, symB, wantedX, X.put, X.look, Arg.ev, keepOf, restrict, evs, evO, initEnv, xres, tup, noTup, cls, quiet, Nat.reduceAdd, Nat.reduceEqDiff, ↓reduceIte, reduceCtorEq, goInt, exists_eq_left', eq_self, Int.reduceLT, Int.reduceLE, Int.reduceEq, Int.reduceNeg, Int.reduceAdd, Int.reduceSub, forall_const, ne_eq, undef, Nat.reducePow, Nat.reduceDiv, Nat.reduceMod, hlt]
      refine hB _ _ _ ?_
      simp only [symA, go_opsd, symB, wantedX, X.put, X.look, Arg.ev, keepOf, restrict, evs, evO, initEnv, xres, tup, noTup, cls, quiet, Nat.reduceAdd, Nat.reduceEqDiff, ↓reduceIte, reduceCtorEq, goInt, exists_eq_left', eq_self, Int.reduceLT, Int.reduceLE, Int.reduceEq, Int.reduceNeg, Int.reduceAdd, Int.reduceSub, forall_const, ne_eq, undef, Nat.reducePow, Nat.reduceDiv, Nat.reduceMod, hg2, b1, y1]
      have f14 : Fm (· ∈ G1) m1 m4 := f3.comp y3 fun x hx hg => (n3 x hg).elim id fun h => by omega
      refine hQ _ _ _ rfl ⟨G4, vu', vl2, rfl, ⟨FL2, _, k4⟩, s3.comp f14 fun x hx hg => (s4 x hg).elim id fun h => by omega, fun x hx => ?_⟩
      rcases y4 x hx with h | h
      · rcases n3 x h with h | h
        · exact s4 x h
        · exact .inr (by omega)
      · have := f3.next; exact .inr (by omega)
  obtain ⟨r, m', hcall, G', vu', vl', rfl, ⟨FL', FU', k⟩, f, n⟩ := key
  exact ⟨m', G', hcall, ⟨p, vl', vu', vm', FL', FU', FM, _, _, rfl, k, h3.back1 hto hS, by rw [List.length_take]; omega⟩, f, n⟩
end
end Go.Proofs.Ytecceimgpeookaa
