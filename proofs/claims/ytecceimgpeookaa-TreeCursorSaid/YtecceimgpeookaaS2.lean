/-
  Own work. The tree: what its functions that only look come to. The tree: walks down from the root; what is told of a key. The tree: the first key from one on, the last one below it. The tree: a node more, a node less.
-/
import Derived.Test.YtecceimgpeookaaS1
namespace Go.Proofs.Ytecceimgpeookaa
open Go X
set_option maxRecDepth 100000
attribute [local irreducible] X.Go' X.GoO X.GoR X.GoG X.GoC X.GoF X.GoFV X.GoFG X.Ex X.GoD X.GoDV X.GoDG
set_option linter.unusedVariables false
set_option linter.unusedSimpArgs false

/-! ## Plain -/
def leafOf (ls : List Nd) (key : Key) : Nat → Nat → Nat
  | 0, i => i
  | h + 1, i => match ls[i]? with
    | some N => match N.kids[wayK key N.keys]? with
      | some c => leafOf ls key h c
      | none => i
    | none => i
def getE (key : Key) (es : List Ent) : Option Int := (es.find? fun x => decide (x.1 = key)).map (·.2)
def fstE (above : Bool) (key : Key) (es : List Ent) : Option Ent := es.find? fun x => decide (ltT key x.1) || (!above && decide (x.1 = key))
def lastE (key : Key) (es : List Ent) : Option Ent := (es.filter fun x => decide (ltT x.1 key)).getLast?
section
variable {key : Key} {es eA eB : List Ent} {above : Bool}
theorem getE_mid (hA : ∀ x ∈ eA, ltT x.1 key) (hB : ∀ x ∈ eB, ltT key x.1) : getE key (eA ++ (es ++ eB)) = getE key es := by
  have h1 : eA.find? (fun x => decide (x.1 = key)) = none := List.find?_eq_none.2 fun x hx => by simpa using ltT_ne (hA x hx)
  have h2 : eB.find? (fun x => decide (x.1 = key)) = none := List.find?_eq_none.2 fun x hx => by simpa using (ltT_ne (hB x hx)).symm
  unfold getE
  rw [List.find?_append, h1, List.find?_append, h2]
  simp
theorem fstE_mid (hA : ∀ x ∈ eA, ltT x.1 key) (hB : ∀ x ∈ eB, ltT key x.1) : fstE above key (eA ++ (es ++ eB)) = (fstE above key es).or eB.head? := by
  have h1 : eA.find? (fun x => decide (ltT key x.1) || (!above && decide (x.1 = key))) = none := List.find?_eq_none.2 fun x hx => by
    have := ltT_ne (hA x hx)
    simp [ltT_asymm (hA x hx), this]
  have h2 : eB.find? (fun x => decide (ltT key x.1) || (!above && decide (x.1 = key))) = eB.head? := by
    cases eB with
    | nil => rfl
    | cons y eB => simp [hB y (by simp)]
  unfold fstE
  rw [List.find?_append, h1, List.find?_append, h2]
  rfl
theorem lastE_mid (hA : ∀ x ∈ eA, ltT x.1 key) (hB : ∀ x ∈ eB, ltT key x.1) : lastE key (eA ++ (es ++ eB)) = (lastE key es).or eA.getLast? := by
  unfold lastE
  rw [List.filter_append, List.filter_append, (filt_lo hA).1, (filt_hi hB).2, List.append_nil, List.getLast?_append]
/-- At entries that rise. -/
theorem leafE (hs : SortE es) : (hasK key (es.map (·.1)) = true → ∃ v, es[posK key (es.map (·.1))]? = some (key, v) ∧ getE key es = some v) ∧ (hasK key (es.map (·.1)) = false → getE key es = none) ∧
    fstE above key es = es[posK key (es.map (·.1)) + (if hasK key (es.map (·.1)) = true ∧ above = true then 1 else 0)]? ∧ lastE key es = (if posK key (es.map (·.1)) = 0 then none else es[posK key (es.map (·.1)) - 1]?) := by
  obtain ⟨c1, c2, c3⟩ := cutE (k := key) hs
  have hlo : ∀ x ∈ es.take (posK key (es.map (·.1))), ltT x.1 key := fun x hx => by
    rw [c1] at hx
    simpa using (List.mem_filter.1 hx).2
  have hpl := posK_le key (es.map (·.1))
  rw [List.length_map] at hpl
  refine ⟨fun h => ?_, fun h => ?_, ?_, ?_⟩
  · obtain ⟨v, q1, q2⟩ := c3 h
    refine ⟨v, q1, ?_⟩
    have hd : es.drop (posK key (es.map (·.1))) = (key, v) :: es.drop (posK key (es.map (·.1)) + 1) := by
      obtain ⟨hl, hv⟩ := List.getElem?_eq_some_iff.1 q1
      rw [← hv]; exact List.drop_eq_getElem_cons hl
    have h1 : (es.take (posK key (es.map (·.1)))).find? (fun x => decide (x.1 = key)) = none := List.find?_eq_none.2 fun x hx => by simpa using ltT_ne (hlo x hx)
    unfold getE
    conv => lhs; rw [← List.take_append_drop (posK key (es.map (·.1))) es]
    rw [List.find?_append, h1, hd]
    simp
  · unfold getE
    rw [List.find?_eq_none.2]
    · rfl
    · intro x hx
      unfold hasK at h
      rw [List.any_eq_false] at h
      exact h x.1 (List.mem_map.2 ⟨x, hx, rfl⟩)
  · have h1 : ∀ ab : Bool, (es.take (posK key (es.map (·.1)))).find? (fun x => decide (ltT key x.1) || (!ab && decide (x.1 = key))) = none := fun ab => List.find?_eq_none.2 fun x hx => by
      have := ltT_ne (hlo x hx)
      simp [ltT_asymm (hlo x hx), this]
    have hhi : ∀ (l : List Ent), l = es.filter (fun x => decide (ltT key x.1)) → ∀ ab : Bool, l.find? (fun x => decide (ltT key x.1) || (!ab && decide (x.1 = key))) = l.head? := fun l hl ab => by
      cases hq : l with
      | nil => rfl
      | cons y l' =>
        have : y ∈ es.filter (fun x => decide (ltT key x.1)) := by rw [← hl, hq]; simp
        have := (List.mem_filter.1 this).2
        simp at this
        simp [this]
    unfold fstE
    conv => lhs; rw [← List.take_append_drop (posK key (es.map (·.1))) es]
    rw [List.find?_append, h1]
    cases hh : hasK key (es.map (·.1)) with
    | false =>
      rw [if_neg (by simp), Nat.add_zero, Option.none_or, hhi _ (c2 hh), List.head?_drop]
    | true =>
      obtain ⟨v, q1, q2⟩ := c3 hh
      have hd : es.drop (posK key (es.map (·.1))) = (key, v) :: es.drop (posK key (es.map (·.1)) + 1) := by
        obtain ⟨hl, hv⟩ := List.getElem?_eq_some_iff.1 q1
        rw [← hv]; exact List.drop_eq_getElem_cons hl
      rw [hd, Option.none_or]
      cases above with
      | false =>
        rw [if_neg (by simp)]
        show _ = es[posK key (es.map (·.1))]?
        rw [q1]
        simp
      | true =>
        rw [if_pos (by simp)]
        rw [List.find?_cons_of_neg (by simp [ltT_irrefl]), hhi _ q2, List.head?_drop]
  · unfold lastE
    rw [← c1]
    split
    · rename_i h; rw [h]; rfl
    · rw [List.getLast?_take]
      rw [if_neg (by assumption)]
      have : posK key (es.map (·.1)) - 1 < es.length := by omega
      rw [List.getElem?_eq_getElem this]
      rfl
end

/-! ## The walks -/
abbrev Pn (id i : Nat) : Value := .pointer (some ⟨id, i * 3, none⟩)
def zeroE : Ent := (.empty, 0)
def tupF (o : Option Ent) : Value := .tuple #[.string (o.getD zeroE).1, I (o.getD zeroE).2, .bool o.isSome]
section
variable {σ : Nat → Tag} {m : Mem} {p : Nat} {vl vf : Value} {ns : List (Nat → Value)} {ls : List Nd} {fr : List Nat} {root n : Int} {key : Key} {above : Bool}
structure NodeAt (m : Mem) (vl : Value) (ls : List Nd) (id i : Nat) (o : XObj) (N : Nd) (a b c : Value) : Prop where
  get : m.get id = some o
  c0 : o.cells[i * 3]? = some a
  c1 : o.cells[i * 3 + 1]? = some b
  c2 : o.cells[i * 3 + 2]? = some c
  r0 : RdS m.next m 1 a (ones (N.keys.map sv))
  r1 : RdS m.next m 1 b (ones (N.nums.map iv))
  r2 : RdS m.next m 1 c (ones (N.kids.map nv))
  s0 : ∃ q k, a = .slice q N.keys.length k
  s1 : ∃ q k, b = .slice q N.nums.length k
  s2 : ∃ q k, c = .slice q N.kids.length k
  lt : i < ls.length
theorem TMH.node (h : TMH [] σ m p vl vf ns ls fr root n) {i : Nat} {N : Nd} (hN : ls[i]? = some N) : ∃ id cp o a b c, vl = .slice (some ⟨id, 0, some 0⟩) ls.length cp ∧ NodeAt m vl ls id i o N a b c := by
  obtain ⟨g, k1, k2⟩ := h.nd i N (by simp) hN
  obtain ⟨id, o, cp, hv, hg, hc, hl, _⟩ := h.at k1
  have sl : ∀ f, f < 3 → ∃ q k, g f = .slice q (N.fld f).length k := fun f hf => (k2 f hf).slice
  have l0 : (N.fld 0).length = N.keys.length := List.length_map ..
  have l1 : (N.fld 1).length = N.nums.length := List.length_map ..
  have l2 : (N.fld 2).length = N.kids.length := List.length_map ..
  exact ⟨id, cp, o, g 0, g 1, g 2, hv, hg, hc 0 (by omega), hc 1 (by omega), hc 2 (by omega), (k2 0 (by omega)).rd, (k2 1 (by omega)).rd, (k2 2 (by omega)).rd, l0 ▸ sl 0 (by omega), l1 ▸ sl 1 (by omega), l2 ▸ sl 2 (by omega), (List.getElem?_eq_some_iff.1 hN).1⟩
theorem NodeAt.leaf {id i : Nat} {o : XObj} {N : Nd} {a b c : Value} (h : NodeAt m vl ls id i o N a b c) : Ca 56 [Pn id i] m (.bool (decide ((N.kids.length : Int) = 0))) m := by
  obtain ⟨q, k, rfl⟩ := h.s2
  exact leaf_call h.get h.c2
theorem NodeAt.size {id i : Nat} {o : XObj} {N : Nd} {a b c : Value} (h : NodeAt m vl ls id i o N a b c) : Ca 49 [Pn id i] m (I (N.size : Int)) m := by
  obtain ⟨q, k, rfl⟩ := h.s2
  obtain ⟨q0, k0, rfl⟩ := h.s0
  exact size_call h.get h.c0 h.c2
theorem NodeAt.way {id i : Nat} {o : XObj} {N : Nd} {a b c : Value} (h : NodeAt m vl ls id i o N a b c) (hs : SortK N.keys) (hl : N.keys.length ≤ 1000) : Ca 68 [Pn id i, .string key] m (nv (wayK key N.keys)) m := way_call h.get h.c0 h.r0 hs hl
/-- A kid's place. -/
theorem NodeAt.kidAt {id i : Nat} {o : XObj} {N : Nd} {a b c : Value} (h : NodeAt m vl ls id i o N a b c) {w k : Nat} (hw : N.kids[w]? = some k) : ∃ ac cc oc, c = .slice (some ac) N.kids.length cc ∧ m.get ac.block = some oc ∧ oc.cells[ac.off + w]? = some (nv k) := by
  obtain ⟨ac, cc, oc, h1, h2, h3⟩ := rd_at h.r2 (i := w) (x := nv k) (by rw [List.getElem?_map, hw]; rfl)
  rw [List.length_map] at h1
  exact ⟨ac, cc, oc, h1, h2, h3⟩
theorem NodeAt.keyAt {id i : Nat} {o : XObj} {N : Nd} {a b c : Value} (h : NodeAt m vl ls id i o N a b c) {w : Nat} {k : Key} (hw : N.keys[w]? = some k) : ∃ ac cc oc, a = .slice (some ac) N.keys.length cc ∧ m.get ac.block = some oc ∧ oc.cells[ac.off + w]? = some (.string k) := by
  obtain ⟨ac, cc, oc, h1, h2, h3⟩ := rd_at h.r0 (i := w) (x := sv k) (by rw [List.getElem?_map, hw]; rfl)
  rw [List.length_map] at h1
  exact ⟨ac, cc, oc, h1, h2, h3⟩
theorem NodeAt.numAt {id i : Nat} {o : XObj} {N : Nd} {a b c : Value} (h : NodeAt m vl ls id i o N a b c) {w : Nat} {k : Int} (hw : N.nums[w]? = some k) : ∃ ac cc oc, b = .slice (some ac) N.nums.length cc ∧ m.get ac.block = some oc ∧ oc.cells[ac.off + w]? = some (I k) := by
  obtain ⟨ac, cc, oc, h1, h2, h3⟩ := rd_at h.r1 (i := w) (x := iv k) (by rw [List.getElem?_map, hw]; rfl)
  rw [List.length_map] at h1
  exact ⟨ac, cc, oc, h1, h2, h3⟩

theorem isNil_ptr' {a : Option Addr} {neg : Bool} : isNilE m .ptr neg (.pointer a) = some (.val (.bool (a.isNone != neg)) m) := (rfl)
theorem some_spec (h : TMH [] σ m p vl vf ns ls fr root n) : Ca 51 [Pt p] m (.bool (decide (0 ≤ root))) m := by
  refine callX_of (call_go (F := _) rfl rfl fun Q hQ => ?_)
  simp only [symA, go_opsd, symB, wantedX, X.put, X.look, Arg.ev, keepOf, restrict, evs, evO, initEnv, xres, tup, noTup, cls, quiet, Nat.reduceAdd, Nat.reduceEqDiff, ↓reduceIte, reduceCtorEq, goInt, exists_eq_left', eq_self, Int.reduceLT, Int.reduceLE, Int.reduceEq, Int.reduceNeg, Int.reduceAdd, Int.reduceSub, forall_const, ne_eq, undef, Nat.reducePow, Nat.reduceDiv, Nat.reduceMod, isNil_ptr', h.get]
  exact hQ _ _ _ rfl ⟨rfl, rfl⟩
theorem len_spec (h : TMH [] σ m p vl vf ns ls fr root n) : Ca 59 [Pt p] m (I n) m := by
  refine callX_of (call_go (F := _) rfl rfl fun Q hQ => ?_)
  simp only [symA, go_opsd, symB, wantedX, X.put, X.look, Arg.ev, keepOf, restrict, evs, evO, initEnv, xres, tup, noTup, cls, quiet, Nat.reduceAdd, Nat.reduceEqDiff, ↓reduceIte, reduceCtorEq, goInt, exists_eq_left', eq_self, Int.reduceLT, Int.reduceLE, Int.reduceEq, Int.reduceNeg, Int.reduceAdd, Int.reduceSub, forall_const, ne_eq, undef, Nat.reducePow, Nat.reduceDiv, Nat.reduceMod, isNil_ptr', h.get]
  exact hQ _ _ _ rfl ⟨rfl, rfl⟩
end
end Go.Proofs.Ytecceimgpeookaa

namespace Go.Proofs.Ytecceimgpeookaa
open Go X
set_option maxRecDepth 100000
attribute [local irreducible] X.Go' X.GoO X.GoR X.GoG X.GoC X.GoF X.GoFV X.GoFG X.Ex X.GoD X.GoDV X.GoDG
set_option linter.unusedVariables false
set_option linter.unusedSimpArgs false

section
variable {σ : Nat → Tag} {m : Mem} {p : Nat} {vl vf : Value} {ns : List (Nat → Value)} {ls : List Nd} {fr : List Nat} {root n : Int} {key : Key} {above : Bool}
theorem Row.get {R : RepT} {lo hi : Option Key} {ks : List Key} {kids : List Nat} {es : List Ent} {J : List Nat} (h : Row R lo hi ks kids es J) : (∃ c hi' e1 J1 B, kids = c :: B ∧ R c lo hi' e1 J1 ∧ ∃ eB, es = e1 ++ eB) ∧ ∃ A c lo' e1 J1, kids = A ++ [c] ∧ R c lo' hi e1 J1 ∧ ∃ eA, es = eA ++ e1 := by
  induction h with
  | @one lo hi c es J h => exact ⟨⟨c, _, es, J, [], rfl, h, [], by simp⟩, [], c, _, es, J, rfl, h, [], by simp⟩
  | @cons lo hi k c ks kids e1 e2 J1 J2 h t ih =>
    obtain ⟨_, A, c', lo', e', J', rfl, h', eA, rfl⟩ := ih
    exact ⟨⟨c, _, e1, J1, A ++ [c'], rfl, h, _, rfl⟩, c :: A, c', lo', e', J', rfl, h', e1 ++ eA, by simp⟩
/-- The least, or the greatest key below a node. -/
theorem edge_spec {h a b i : Nat} {lo hi : Option Key} {es : List Ent} {J : List Nat} {last : Bool} (ht : TMH [] σ m p vl vf ns ls fr root n) (hr : Rep ls a b h i lo hi es J) (ha : 1 ≤ a) (hb : b ≤ 5) : Ca 74 [Pt p, nv i, .bool last] m (tupF (if last = true then es.getLast? else es.head?)) m := by
  refine callX_of (call_go (F := _) rfl rfl fun Q hQ => ?_)
  have hlt : i < ls.length := hr.lt i hr.top
  obtain ⟨N0, hN0⟩ : ∃ N, ls[i]? = some N := ⟨_, List.getElem?_eq_getElem hlt⟩
  obtain ⟨id, cp, o0, a0, b0, c0, rfl, nd0⟩ := ht.node hN0
  simp only [symA, go_opsd, symB, wantedX, X.put, X.look, Arg.ev, keepOf, restrict, evs, evO, initEnv, xres, tup, noTup, cls, quiet, Nat.reduceAdd, Nat.reduceEqDiff, ↓reduceIte, reduceCtorEq, goInt, exists_eq_left', eq_self, Int.reduceLT, Int.reduceLE, Int.reduceEq, Int.reduceNeg, Int.reduceAdd, Int.reduceSub, forall_const, ne_eq, undef, Nat.reducePow, Nat.reduceDiv, Nat.reduceMod, ht.get, hlt]
  refine loop_go (fun j e m' => m' = m ∧ ∃ (a b i : Nat) (lo hi : Option Key) (e1 : List Ent) (J1 : List Nat), Rep ls a b j i lo hi e1 J1 ∧ 1 ≤ a ∧ b ≤ 5 ∧ (if last = true then e1.getLast? else e1.head?) = (if last = true then es.getLast? else es.head?) ∧ e = [(0, Pt p), (2, .bool last), (9, Pn id i)]) h ⟨rfl, a, b, i, lo, hi, es, J, hr, ha, hb, rfl, rfl⟩ ?_
  rintro j e m' N' B' hN hB ⟨rfl, a, b, i, lo, hi, e1, J1, hr, ha, hb, heq, rfl⟩
  rw [← heq] at hQ
  cases j with
  | zero =>
    obtain ⟨q1, q2, q3, q4, q5, q6⟩ := hr
    obtain ⟨id', cp', o, av, bv, cv, hv, nd⟩ := ht.node q1
    cases hv
    have hl := nd.leaf
    have hl0 : decide ((([] : List Nat).length : Int) = 0) = true := rfl
    rw [hl0] at hl
    simp only [symA, go_opsd, symB, wantedX, X.put, X.look, Arg.ev, keepOf, restrict, evs, evO, initEnv, xres, tup, noTup, cls, quiet, Nat.reduceAdd, Nat.reduceEqDiff, ↓reduceIte, reduceCtorEq, goInt, exists_eq_left', eq_self, Int.reduceLT, Int.reduceLE, Int.reduceEq, Int.reduceNeg, Int.reduceAdd, Int.reduceSub, forall_const, ne_eq, undef, Nat.reducePow, Nat.reduceDiv, Nat.reduceMod, goR_call hl]
    refine hB _ _ _ ?_
    have hlen1 : (e1.map (·.1)).length = e1.length := List.length_map ..
    have hlen2 : (e1.map (·.2)).length = e1.length := List.length_map ..
    cases last with
    | true =>
      obtain ⟨x, hx⟩ : ∃ x, e1[e1.length - 1]? = some x := ⟨_, List.getElem?_eq_getElem (by omega)⟩
      have hgl : e1.getLast? = some x := by rw [List.getLast?_eq_getElem?]; exact hx
      obtain ⟨ac, cc, oc, h1, h2, h3⟩ := nd.keyAt (w := e1.length - 1) (k := x.1) (by simp [hx])
      obtain ⟨ad, cd, od, g1, g2, g3⟩ := nd.numAt (w := e1.length - 1) (k := x.2) (by simp [hx])
      subst h1 g1
      have w1 : IntKind.i64.wrap ((e1.length : Int) - 1) = ((e1.length - 1 : Nat) : Int) := by rw [wrap_i64 (by omega) (by omega)]; omega
      have hlt1 : e1.length - 1 < e1.length := by omega
      rw [if_pos rfl, hgl] at hQ
      simp only [symA, go_opsd, symB, wantedX, X.put, X.look, Arg.ev, keepOf, restrict, evs, evO, initEnv, xres, tup, noTup, cls, quiet, Nat.reduceAdd, Nat.reduceEqDiff, ↓reduceIte, reduceCtorEq, goInt, exists_eq_left', eq_self, Int.reduceLT, Int.reduceLE, Int.reduceEq, Int.reduceNeg, Int.reduceAdd, Int.reduceSub, forall_const, ne_eq, undef, Nat.reducePow, Nat.reduceDiv, Nat.reduceMod, nd.get, nd.c0, nd.c1, hlen1, hlen2, w1, hlt1, h2, h3, g2, g3]
      exact hQ _ _ _ rfl ⟨rfl, rfl⟩
    | false =>
      obtain ⟨x, hx⟩ : ∃ x, e1[0]? = some x := ⟨_, List.getElem?_eq_getElem (by omega)⟩
      have hgl : e1.head? = some x := by rw [List.head?_eq_getElem?]; exact hx
      obtain ⟨ac, cc, oc, h1, h2, h3⟩ := nd.keyAt (w := 0) (k := x.1) (by show (e1.map (·.1))[0]? = _; rw [List.getElem?_map, hx]; rfl)
      obtain ⟨ad, cd, od, g1, g2, g3⟩ := nd.numAt (w := 0) (k := x.2) (by show (e1.map (·.2))[0]? = _; rw [List.getElem?_map, hx]; rfl)
      subst h1 g1
      have hlt1 : 0 < e1.length := by omega
      rw [if_neg (by simp), hgl] at hQ
      rw [Nat.add_zero] at h3 g3
      simp only [symA, go_opsd, symB, wantedX, X.put, X.look, Arg.ev, keepOf, restrict, evs, evO, initEnv, xres, tup, noTup, cls, quiet, Nat.reduceAdd, Nat.reduceEqDiff, ↓reduceIte, reduceCtorEq, goInt, exists_eq_left', eq_self, Int.reduceLT, Int.reduceLE, Int.reduceEq, Int.reduceNeg, Int.reduceAdd, Int.reduceSub, forall_const, ne_eq, undef, Nat.reducePow, Nat.reduceDiv, Nat.reduceMod, nd.get, nd.c0, nd.c1, hlen1, hlen2, hlt1, indexAddr_zero, h2, h3, g2, g3]
      exact hQ _ _ _ rfl ⟨rfl, rfl⟩
  | succ j =>
    obtain ⟨ks, kids, J', q1, rfl, q3, q4, q5⟩ := hr
    obtain ⟨id', cp', o, av, bv, cv, hv, nd⟩ := ht.node q1
    cases hv
    have hl := nd.leaf
    have hk0 : ¬ ((kids.length : Nat) : Int) = 0 := by omega
    rw [decide_eq_false hk0] at hl
    obtain ⟨⟨c, hi', e2, J2, B, hkc, hrc, eB, hes⟩, A, c', lo', e3, J3, hkl, hrl, eA, hes'⟩ := q3.get
    obtain ⟨t1, t2, t3⟩ := Rep.good (by omega) hrc
    obtain ⟨u1, u2, u3⟩ := Rep.good (by omega) hrl
    cases last with
    | true =>
      have hw : kids[kids.length - 1]? = some c' := by rw [hkl]; simp
      obtain ⟨ac, cc, oc, h1, h2, h3⟩ := nd.kidAt hw
      subst h1
      have w1 : IntKind.i64.wrap ((kids.length : Int) - 1) = ((kids.length - 1 : Nat) : Int) := by rw [wrap_i64 (by omega) (by omega)]; omega
      have hlt1 : kids.length - 1 < kids.length := by omega
      have hcl : c' < ls.length := hrl.lt c' hrl.top
      simp only [symA, go_opsd, symB, wantedX, X.put, X.look, Arg.ev, keepOf, restrict, evs, evO, initEnv, xres, tup, noTup, cls, quiet, Nat.reduceAdd, Nat.reduceEqDiff, ↓reduceIte, reduceCtorEq, goInt, exists_eq_left', eq_self, Int.reduceLT, Int.reduceLE, Int.reduceEq, Int.reduceNeg, Int.reduceAdd, Int.reduceSub, forall_const, ne_eq, undef, Nat.reducePow, Nat.reduceDiv, Nat.reduceMod, goR_call hl, nd.get, nd.c2, w1, ht.get, hlt1, h2, h3, hcl]
      refine hN _ _ j (by omega) ⟨rfl, 2, 4, c', lo', hi, e3, J3, hrl, by omega, by omega, ?_, rfl⟩
      rw [← heq, hes']
      simp only [if_pos]
      rw [List.getLast?_append]
      cases hq : e3.getLast? with
      | none => exact absurd (List.getLast?_eq_none_iff.1 hq) u3
      | some x => rfl
    | false =>
      have hw : kids[0]? = some c := by rw [hkc]; rfl
      obtain ⟨ac, cc, oc, h1, h2, h3⟩ := nd.kidAt hw
      subst h1
      have hlt1 : 0 < kids.length := by omega
      have hcl : c < ls.length := hrc.lt c hrc.top
      rw [Nat.add_zero] at h3
      simp only [symA, go_opsd, symB, wantedX, X.put, X.look, Arg.ev, keepOf, restrict, evs, evO, initEnv, xres, tup, noTup, cls, quiet, Nat.reduceAdd, Nat.reduceEqDiff, ↓reduceIte, reduceCtorEq, goInt, exists_eq_left', eq_self, Int.reduceLT, Int.reduceLE, Int.reduceEq, Int.reduceNeg, Int.reduceAdd, Int.reduceSub, forall_const, ne_eq, undef, Nat.reducePow, Nat.reduceDiv, Nat.reduceMod, goR_call hl, nd.get, nd.c2, ht.get, hlt1, indexAddr_zero, h2, h3, hcl]
      refine hN _ _ j (by omega) ⟨rfl, 2, 4, c, lo, hi', e2, J2, hrc, by omega, by omega, ?_, rfl⟩
      rw [← heq, hes, if_neg (by simp), if_neg (by simp)]
      cases e2 with
      | nil => exact absurd rfl t3
      | cons x e2 => rfl

/-- A key's leaf, and its place in it. -/
theorem find_spec {h a b r : Nat} {lo hi : Option Key} {es : List Ent} {J : List Nat} (ht : TMH [] σ m p vl vf ns ls fr (r : Int) n) (hr : Rep ls a b h r lo hi es J) (ha : 1 ≤ a) (hb : b ≤ 5) (hk : Inb lo hi key) :
    ∃ id cp eL eA eB, vl = .slice (some ⟨id, 0, some 0⟩) ls.length cp ∧ Ca 46 [Pt p, .string key] m (.tuple #[Pn id (leafOf ls key h r), nv (posK key (eL.map (·.1))), .bool (hasK key (eL.map (·.1)))]) m ∧ ls[leafOf ls key h r]? = some ⟨eL.map (·.1), eL.map (·.2), []⟩ ∧
      SortE eL ∧ eL.length ≤ 5 ∧ es = eA ++ (eL ++ eB) ∧ (∀ x ∈ eA, ltT x.1 key) ∧ ∀ x ∈ eB, ltT key x.1 := by
  have hlt : r < ls.length := hr.lt r hr.top
  obtain ⟨N0, hN0⟩ : ∃ N, ls[r]? = some N := ⟨_, List.getElem?_eq_getElem hlt⟩
  obtain ⟨id, cp, o0, a0, b0, c0, rfl, nd0⟩ := ht.node hN0
  have key' : Wc 46 [Pt p, .string key] m fun v m' => m' = m ∧ ∃ eL eA eB, v = .tuple #[Pn id (leafOf ls key h r), nv (posK key (eL.map (·.1))), .bool (hasK key (eL.map (·.1)))] ∧ ls[leafOf ls key h r]? = some ⟨eL.map (·.1), eL.map (·.2), []⟩ ∧
      SortE eL ∧ eL.length ≤ 5 ∧ es = eA ++ (eL ++ eB) ∧ (∀ x ∈ eA, ltT x.1 key) ∧ ∀ x ∈ eB, ltT key x.1 := by
    refine call_go (F := _) rfl rfl fun Q hQ => ?_
    have hr0 : ¬ (r : Int) < 0 := by omega
    simp only [symA, go_opsd, symB, wantedX, X.put, X.look, Arg.ev, keepOf, restrict, evs, evO, initEnv, xres, tup, noTup, cls, quiet, Nat.reduceAdd, Nat.reduceEqDiff, ↓reduceIte, reduceCtorEq, goInt, exists_eq_left', eq_self, Int.reduceLT, Int.reduceLE, Int.reduceEq, Int.reduceNeg, Int.reduceAdd, Int.reduceSub, forall_const, ne_eq, undef, Nat.reducePow, Nat.reduceDiv, Nat.reduceMod, isNil_ptr', ht.get, hr0, hlt]
    refine loop_go (fun j e m' => m' = m ∧ ∃ (a b i : Nat) (lo hi : Option Key) (e1 eA eB : List Ent) (J1 : List Nat), Rep ls a b j i lo hi e1 J1 ∧ 1 ≤ a ∧ b ≤ 5 ∧ Inb lo hi key ∧ leafOf ls key j i = leafOf ls key h r ∧ es = eA ++ (e1 ++ eB) ∧ (∀ x ∈ eA, ltT x.1 key) ∧ (∀ x ∈ eB, ltT key x.1) ∧ e = [(0, Pt p), (1, .string key), (7, Pn id i)]) h ⟨rfl, a, b, r, lo, hi, es, [], [], J, hr, ha, hb, hk, rfl, by simp, by simp, by simp, rfl⟩ ?_
    rintro j e m' N' B' hN hB ⟨rfl, a, b, i, lo, hi, e1, eA, eB, J1, hr, ha, hb, hk, hleaf, hes, hA, hB', rfl⟩
    cases j with
    | zero =>
      obtain ⟨q1, q2, q3, q4, q5, q6⟩ := hr
      obtain ⟨id', cp', o, av, bv, cv, hv, nd⟩ := ht.node q1
      cases hv
      have hl := nd.leaf
      have hl0 : decide ((([] : List Nat).length : Int) = 0) = true := rfl
      rw [hl0] at hl
      have hsk : SortK (e1.map (·.1)) := by
        unfold SortK
        rw [List.pairwise_map]
        exact q3
      have hbs := bs_spec (k := key) nd.r0 hsk (by rw [List.length_map]; omega)
      simp only [symA, go_opsd, symB, wantedX, X.put, X.look, Arg.ev, keepOf, restrict, evs, evO, initEnv, xres, tup, noTup, cls, quiet, Nat.reduceAdd, Nat.reduceEqDiff, ↓reduceIte, reduceCtorEq, goInt, exists_eq_left', eq_self, Int.reduceLT, Int.reduceLE, Int.reduceEq, Int.reduceNeg, Int.reduceAdd, Int.reduceSub, forall_const, ne_eq, undef, Nat.reducePow, Nat.reduceDiv, Nat.reduceMod, goR_call hl]
      refine hB _ _ _ ?_
      simp only [symA, go_opsd, symB, wantedX, X.put, X.look, Arg.ev, keepOf, restrict, evs, evO, initEnv, xres, tup, noTup, cls, quiet, Nat.reduceAdd, Nat.reduceEqDiff, ↓reduceIte, reduceCtorEq, goInt, exists_eq_left', eq_self, Int.reduceLT, Int.reduceLE, Int.reduceEq, Int.reduceNeg, Int.reduceAdd, Int.reduceSub, forall_const, ne_eq, undef, Nat.reducePow, Nat.reduceDiv, Nat.reduceMod, nd.get, nd.c0, goR_call hbs]
      refine hQ _ _ _ rfl ⟨rfl, e1, eA, eB, ?_, ?_, q3, by omega, hes, hA, hB'⟩
      · rw [← hleaf]; rfl
      · rw [← hleaf]; exact q1
    | succ j =>
      obtain ⟨ks, kids, J', q1, rfl, q3, q4, q5⟩ := hr
      obtain ⟨id', cp', o, av, bv, cv, hv, nd⟩ := ht.node q1
      cases hv
      have hl := nd.leaf
      have hk0 : ¬ ((kids.length : Nat) : Int) = 0 := by omega
      rw [decide_eq_false hk0] at hl
      have hks := (q3.keys goodRep).1
      have hkl := q3.len
      have hw := nd.way (key := key) hks (by show ks.length ≤ 1000; omega)
      obtain ⟨KA, A, eA', JA, c, lo', hi', e2, Jc, KB, B, eB', JB, z1, z2, z3, z4, z5, z6, z7, z8, z9, z10, z11⟩ := q3.way goodRep hk
      have hwc : kids[wayK key ks]? = some c := by rw [z9, z6, List.getElem?_append_right (Nat.le_refl _), Nat.sub_self]; rfl
      obtain ⟨ac, cc, oc, h1, h2, h3⟩ := nd.kidAt hwc
      have hwl : wayK key ks < kids.length := (List.getElem?_eq_some_iff.1 hwc).1
      have hcl : c < ls.length := z2.lt c z2.top
      have hc2 := nd.c2
      subst h1
      simp only [symA, go_opsd, symB, wantedX, X.put, X.look, Arg.ev, keepOf, restrict, evs, evO, initEnv, xres, tup, noTup, cls, quiet, Nat.reduceAdd, Nat.reduceEqDiff, ↓reduceIte, reduceCtorEq, goInt, exists_eq_left', eq_self, Int.reduceLT, Int.reduceLE, Int.reduceEq, Int.reduceNeg, Int.reduceAdd, Int.reduceSub, forall_const, ne_eq, undef, Nat.reducePow, Nat.reduceDiv, Nat.reduceMod, goR_call hl, ht.get, nd.get, hc2, goDV3c hw, hwl, h2, h3, hcl]
      refine hN _ _ j (by omega) ⟨rfl, 2, 4, c, lo', hi', e2, eA ++ eA', eB' ++ eB, Jc, z2, by omega, by omega, z4, ?_, ?_, ?_, ?_, rfl⟩
      · rw [← hleaf]
        simp only [leafOf, q1, hwc]
      · rw [hes, z7]; simp
      · intro x hx
        rcases List.mem_append.1 hx with hx | hx
        · exact hA x hx
        · exact z10 x hx
      · intro x hx
        rcases List.mem_append.1 hx with hx | hx
        · exact z11 x hx
        · exact hB' x hx
  obtain ⟨v, m', hc, rfl, eL, eA, eB, rfl, h2⟩ := key'
  exact ⟨id, cp, eL, eA, eB, rfl, hc, h2⟩
/-- A key's number. -/
theorem get_spec {h a b r : Nat} {lo hi : Option Key} {es : List Ent} {J : List Nat} (ht : TMH [] σ m p vl vf ns ls fr (r : Int) n) (hr : Rep ls a b h r lo hi es J) (ha : 1 ≤ a) (hb : b ≤ 5) (hk : Inb lo hi key) :
    Ca 53 [Pt p, .string key] m (.tuple #[I ((getE key es).getD 0), .bool (getE key es).isSome]) m := by
  obtain ⟨id, cp, eL, eA, eB, hv, hf, hN, hs, hl, hes, hA, hB⟩ := find_spec (key := key) ht hr ha hb hk
  obtain ⟨k1, k2, _⟩ := leafE (key := key) (above := false) hs
  rw [hes, getE_mid hA hB]
  refine callX_of (call_go (F := _) rfl rfl fun Q hQ => ?_)
  cases hh : hasK key (eL.map (·.1)) with
  | false =>
    rw [hh] at hf
    rw [k2 hh] at hQ
    simp only [symA, go_opsd, symB, wantedX, X.put, X.look, Arg.ev, keepOf, restrict, evs, evO, initEnv, xres, tup, noTup, cls, quiet, Nat.reduceAdd, Nat.reduceEqDiff, ↓reduceIte, reduceCtorEq, goInt, exists_eq_left', eq_self, Int.reduceLT, Int.reduceLE, Int.reduceEq, Int.reduceNeg, Int.reduceAdd, Int.reduceSub, forall_const, ne_eq, undef, Nat.reducePow, Nat.reduceDiv, Nat.reduceMod, goR_call hf]
    exact hQ _ _ _ rfl ⟨rfl, rfl⟩
  | true =>
    rw [hh] at hf
    obtain ⟨v, q1, q2⟩ := k1 hh
    rw [q2] at hQ
    obtain ⟨id', cp', o, av, bv, cv, hv', nd⟩ := ht.node hN
    rw [hv] at hv'
    cases hv'
    obtain ⟨ad, cd, od, g1, g2, g3⟩ := nd.numAt (w := posK key (eL.map (·.1))) (k := v) (by show (eL.map (·.2))[_]? = _; rw [List.getElem?_map, q1]; rfl)
    have hlt := (List.getElem?_eq_some_iff.1 q1).1
    have hl2 : (eL.map (·.2)).length = eL.length := List.length_map ..
    have hc1 := nd.c1
    subst g1
    simp only [symA, go_opsd, symB, wantedX, X.put, X.look, Arg.ev, keepOf, restrict, evs, evO, initEnv, xres, tup, noTup, cls, quiet, Nat.reduceAdd, Nat.reduceEqDiff, ↓reduceIte, reduceCtorEq, goInt, exists_eq_left', eq_self, Int.reduceLT, Int.reduceLE, Int.reduceEq, Int.reduceNeg, Int.reduceAdd, Int.reduceSub, forall_const, ne_eq, undef, Nat.reducePow, Nat.reduceDiv, Nat.reduceMod, goR_call hf, nd.get, hc1, hl2, hlt, g2, g3]
    exact hQ _ _ _ rfl ⟨rfl, rfl⟩
end
end Go.Proofs.Ytecceimgpeookaa

namespace Go.Proofs.Ytecceimgpeookaa
open Go X
set_option maxRecDepth 100000
attribute [local irreducible] X.Go' X.GoO X.GoR X.GoG X.GoC X.GoF X.GoFV X.GoFG X.Ex X.GoD X.GoDV X.GoDG
set_option linter.unusedVariables false
set_option linter.unusedSimpArgs false

section
variable {σ : Nat → Tag} {m : Mem} {p : Nat} {vl vf : Value} {ns : List (Nat → Value)} {ls : List Nd} {fr : List Nat} {root n : Int} {key : Key} {above : Bool}
theorem sortK_of {es : List Ent} (h : SortE es) : SortK (es.map (·.1)) := by
  unfold SortK
  rw [List.pairwise_map]
  exact h
theorem Right.head {R : RepT} {hi' hi : Option Key} {KB : List Key} {B : List Nat} {eB : List Ent} {JB : List Nat} (hg : GoodR R) (h : Right R hi' hi KB B eB JB) : (B = [] ∧ eB = []) ∨ ∃ c B' lo hi e J, B = c :: B' ∧ R c lo hi e J ∧ eB.head? = e.head? := by
  cases h with
  | nil => exact .inl ⟨rfl, rfl⟩
  | cons t =>
    obtain ⟨⟨c, hi'', e1, J1, B', rfl, hc, eB', rfl⟩, _⟩ := t.get
    refine .inr ⟨c, B', _, _, e1, J1, rfl, hc, ?_⟩
    have := (hg _ _ _ _ _ hc).2.2
    cases e1 with
    | nil => exact absurd rfl this
    | cons x e1 => rfl
theorem first_spec (ht : TMH [] σ m p vl vf ns ls fr root n) : ∀ {h a b i : Nat} {lo hi : Option Key} {es : List Ent} {J : List Nat}, Rep ls a b h i lo hi es J → 1 ≤ a → b ≤ 5 → Inb lo hi key →
    Ca 52 [Pt p, nv i, .string key, .bool above] m (tupF (fstE above key es)) m
  | 0, a, b, i, lo, hi, es, J, hr, ha, hb, hk => by
    obtain ⟨q1, q2, q3, q4, q5, q6⟩ := hr
    have hlt : i < ls.length := (List.getElem?_eq_some_iff.1 q1).1
    obtain ⟨id, cp, o, av, bv, cv, rfl, nd⟩ := ht.node q1
    have hl := nd.leaf
    have hl0 : decide ((([] : List Nat).length : Int) = 0) = true := rfl
    rw [hl0] at hl
    have hbs := bs_spec (k := key) nd.r0 (sortK_of q3) (by rw [List.length_map]; omega)
    obtain ⟨_, _, k3, _⟩ := leafE (key := key) (above := above) q3
    have hp := posK_le key (es.map (·.1))
    rw [List.length_map] at hp
    have hl1 : (es.map (·.1)).length = es.length := List.length_map ..
    have hl2 : (es.map (·.2)).length = es.length := List.length_map ..
    have w1 : IntKind.i64.wrap ((posK key (es.map (·.1)) : Int) + 1) = ((posK key (es.map (·.1)) + 1 : Nat) : Int) := by rw [wrap_i64 (by omega) (by omega)]; omega
    have hc0 := nd.c0
    have hc1 := nd.c1
    have hs0 := nd.s0
    rw [hl1] at hs0
    -- what is told at a place
    have fin : ∀ j : Nat, (es[j]? = none ∧ (es.length : Int) ≤ (j : Int)) ∨ ∃ x ac cc oc ad cd od, es[j]? = some x ∧ j < es.length ∧ ¬ (es.length : Int) ≤ (j : Int) ∧ av = .slice (some ac) es.length cc ∧ m.get ac.block = some oc ∧ oc.cells[ac.off + j]? = some (.string x.1) ∧ bv = .slice (some ad) es.length cd ∧ m.get ad.block = some od ∧ od.cells[ad.off + j]? = some (I x.2) := fun j => by
      by_cases hj : j < es.length
      · obtain ⟨x, hx⟩ : ∃ x, es[j]? = some x := ⟨_, List.getElem?_eq_getElem hj⟩
        obtain ⟨ac, cc, oc, h1, h2, h3⟩ := nd.keyAt (w := j) (k := x.1) (by show (es.map (·.1))[_]? = _; rw [List.getElem?_map, hx]; rfl)
        obtain ⟨ad, cd, od, g1, g2, g3⟩ := nd.numAt (w := j) (k := x.2) (by show (es.map (·.2))[_]? = _; rw [List.getElem?_map, hx]; rfl)
        exact .inr ⟨x, ac, cc, oc, ad, cd, od, hx, hj, by omega, by rw [h1, hl1], h2, h3, by rw [g1, hl2], g2, g3⟩
      · exact .inl ⟨List.getElem?_eq_none (by omega), by omega⟩
    refine callX_of (call_go (F := _) rfl rfl fun Q hQ => ?_)
    rw [k3] at hQ
    cases hh : hasK key (es.map (·.1)) with
    | true =>
      rw [hh] at hbs hQ
      cases above with
      | true =>
        rw [if_pos (by simp)] at hQ
        rcases fin (posK key (es.map (·.1)) + 1) with ⟨h1, h2⟩ | ⟨x, ac, cc, oc, ad, cd, od, h1, h2, h3, rfl, h5, h6, rfl, h8, h9⟩
        · obtain ⟨q, k, rfl⟩ := hs0
          rw [h1] at hQ
          simp only [symA, go_opsd, symB, wantedX, X.put, X.look, Arg.ev, keepOf, restrict, evs, evO, initEnv, xres, tup, noTup, cls, quiet, Nat.reduceAdd, Nat.reduceEqDiff, ↓reduceIte, reduceCtorEq, goInt, exists_eq_left', eq_self, Int.reduceLT, Int.reduceLE, Int.reduceEq, Int.reduceNeg, Int.reduceAdd, Int.reduceSub, forall_const, ne_eq, undef, Nat.reducePow, Nat.reduceDiv, Nat.reduceMod, ht.get, hlt, goR_call hl, nd.get, hc0, goR_call hbs, w1, h2]
          exact hQ _ _ _ rfl ⟨rfl, rfl⟩
        · rw [h1] at hQ
          simp only [symA, go_opsd, symB, wantedX, X.put, X.look, Arg.ev, keepOf, restrict, evs, evO, initEnv, xres, tup, noTup, cls, quiet, Nat.reduceAdd, Nat.reduceEqDiff, ↓reduceIte, reduceCtorEq, goInt, exists_eq_left', eq_self, Int.reduceLT, Int.reduceLE, Int.reduceEq, Int.reduceNeg, Int.reduceAdd, Int.reduceSub, forall_const, ne_eq, undef, Nat.reducePow, Nat.reduceDiv, Nat.reduceMod, ht.get, hlt, goR_call hl, nd.get, hc0, hc1, goR_call hbs, w1, h2, h3, h5, h6, h8, h9]
          exact hQ _ _ _ rfl ⟨rfl, rfl⟩
      | false =>
        rw [if_neg (by simp), Nat.add_zero] at hQ
        rcases fin (posK key (es.map (·.1))) with ⟨h1, h2⟩ | ⟨x, ac, cc, oc, ad, cd, od, h1, h2, h3, rfl, h5, h6, rfl, h8, h9⟩
        · obtain ⟨q, k, rfl⟩ := hs0
          rw [h1] at hQ
          simp only [symA, go_opsd, symB, wantedX, X.put, X.look, Arg.ev, keepOf, restrict, evs, evO, initEnv, xres, tup, noTup, cls, quiet, Nat.reduceAdd, Nat.reduceEqDiff, ↓reduceIte, reduceCtorEq, goInt, exists_eq_left', eq_self, Int.reduceLT, Int.reduceLE, Int.reduceEq, Int.reduceNeg, Int.reduceAdd, Int.reduceSub, forall_const, ne_eq, undef, Nat.reducePow, Nat.reduceDiv, Nat.reduceMod, ht.get, hlt, goR_call hl, nd.get, hc0, goR_call hbs, h2]
          exact hQ _ _ _ rfl ⟨rfl, rfl⟩
        · rw [h1] at hQ
          simp only [symA, go_opsd, symB, wantedX, X.put, X.look, Arg.ev, keepOf, restrict, evs, evO, initEnv, xres, tup, noTup, cls, quiet, Nat.reduceAdd, Nat.reduceEqDiff, ↓reduceIte, reduceCtorEq, goInt, exists_eq_left', eq_self, Int.reduceLT, Int.reduceLE, Int.reduceEq, Int.reduceNeg, Int.reduceAdd, Int.reduceSub, forall_const, ne_eq, undef, Nat.reducePow, Nat.reduceDiv, Nat.reduceMod, ht.get, hlt, goR_call hl, nd.get, hc0, hc1, goR_call hbs, h2, h3, h5, h6, h8, h9]
          exact hQ _ _ _ rfl ⟨rfl, rfl⟩
    | false =>
      rw [hh] at hbs hQ
      rw [if_neg (by simp), Nat.add_zero] at hQ
      rcases fin (posK key (es.map (·.1))) with ⟨h1, h2⟩ | ⟨x, ac, cc, oc, ad, cd, od, h1, h2, h3, rfl, h5, h6, rfl, h8, h9⟩
      · obtain ⟨q, k, rfl⟩ := hs0
        rw [h1] at hQ
        simp only [symA, go_opsd, symB, wantedX, X.put, X.look, Arg.ev, keepOf, restrict, evs, evO, initEnv, xres, tup, noTup, cls, quiet, Nat.reduceAdd, Nat.reduceEqDiff, ↓reduceIte, reduceCtorEq, goInt, exists_eq_left', eq_self, Int.reduceLT, Int.reduceLE, Int.reduceEq, Int.reduceNeg, Int.reduceAdd, Int.reduceSub, forall_const, ne_eq, undef, Nat.reducePow, Nat.reduceDiv, Nat.reduceMod, ht.get, hlt, goR_call hl, nd.get, hc0, goR_call hbs, h2]
        exact hQ _ _ _ rfl ⟨rfl, rfl⟩
      · rw [h1] at hQ
        simp only [symA, go_opsd, symB, wantedX, X.put, X.look, Arg.ev, keepOf, restrict, evs, evO, initEnv, xres, tup, noTup, cls, quiet, Nat.reduceAdd, Nat.reduceEqDiff, ↓reduceIte, reduceCtorEq, goInt, exists_eq_left', eq_self, Int.reduceLT, Int.reduceLE, Int.reduceEq, Int.reduceNeg, Int.reduceAdd, Int.reduceSub, forall_const, ne_eq, undef, Nat.reducePow, Nat.reduceDiv, Nat.reduceMod, ht.get, hlt, goR_call hl, nd.get, hc0, hc1, goR_call hbs, h2, h3, h5, h6, h8, h9]
        exact hQ _ _ _ rfl ⟨rfl, rfl⟩
  | h + 1, a, b, i, lo, hi, es, J, hr, ha, hb, hk => by
    obtain ⟨ks, kids, J', q1, rfl, q3, q4, q5⟩ := hr
    have hlt : i < ls.length := (List.getElem?_eq_some_iff.1 q1).1
    obtain ⟨KA, A, eA, JA, c, lo', hi', e2, Jc, KB, B, eB, JB, z1, z2, z3, z4, z5, z6, z7, z8, z9, z10, z11⟩ := q3.way goodRep hk
    have ih := first_spec ht z2 (by omega) (by omega) z4
    obtain ⟨id, cp, o, av, bv, cv, rfl, nd⟩ := ht.node q1
    have hl := nd.leaf
    have hk0 : ¬ ((kids.length : Nat) : Int) = 0 := by omega
    rw [decide_eq_false hk0] at hl
    have hks := (q3.keys goodRep).1
    have hkl := q3.len
    have hw := nd.way (key := key) hks (by show ks.length ≤ 1000; omega)
    have hwc : kids[wayK key ks]? = some c := by rw [z9, z6, List.getElem?_append_right (Nat.le_refl _), Nat.sub_self]; rfl
    obtain ⟨ac, cc, oc, h1, h2, h3⟩ := nd.kidAt hwc
    have hwl : wayK key ks < kids.length := (List.getElem?_eq_some_iff.1 hwc).1
    have hc2 := nd.c2
    have w1 : IntKind.i64.wrap ((wayK key ks : Int) + 1) = ((wayK key ks + 1 : Nat) : Int) := by rw [wrap_i64 (by omega) (by omega)]; omega
    subst h1
    refine callX_of (call_go (F := _) rfl rfl fun Q hQ => ?_)
    rw [z7, fstE_mid z10 z11] at hQ
    cases hf : fstE above key e2 with
    | some x =>
      rw [hf] at ih hQ
      simp only [tupF, Option.isSome_some, Option.getD_some, Option.some_or] at ih hQ
      simp only [symA, go_opsd, symB, wantedX, X.put, X.look, Arg.ev, keepOf, restrict, evs, evO, initEnv, xres, tup, noTup, cls, quiet, Nat.reduceAdd, Nat.reduceEqDiff, ↓reduceIte, reduceCtorEq, goInt, exists_eq_left', eq_self, Int.reduceLT, Int.reduceLE, Int.reduceEq, Int.reduceNeg, Int.reduceAdd, Int.reduceSub, forall_const, ne_eq, undef, Nat.reducePow, Nat.reduceDiv, Nat.reduceMod, ht.get, hlt, goR_call hl, goR_call hw, nd.get, hc2, hwl, h2, h3, goR_call ih]
      exact hQ _ _ _ rfl ⟨rfl, rfl⟩
    | none =>
      rw [hf, Option.none_or] at hQ
      rw [hf] at ih
      simp only [tupF, Option.isSome_none, Option.getD_none] at ih
      have hBl : kids.length = wayK key ks + 1 + B.length := by rw [z9, z6]; simp; omega
      rcases z3.head goodRep with ⟨rfl, rfl⟩ | ⟨c', B', lo1, hi1, e1, J1, rfl, hc', hhd⟩
      · have hge : ¬ ((wayK key ks + 1 : Nat) : Int) < (kids.length : Int) := by rw [hBl]; simp
        simp only [tupF, List.head?_nil, Option.isSome_none, Option.getD_none] at hQ
        simp only [symA, go_opsd, symB, wantedX, X.put, X.look, Arg.ev, keepOf, restrict, evs, evO, initEnv, xres, tup, noTup, cls, quiet, Nat.reduceAdd, Nat.reduceEqDiff, ↓reduceIte, reduceCtorEq, goInt, exists_eq_left', eq_self, Int.reduceLT, Int.reduceLE, Int.reduceEq, Int.reduceNeg, Int.reduceAdd, Int.reduceSub, forall_const, ne_eq, undef, Nat.reducePow, Nat.reduceDiv, Nat.reduceMod, ht.get, hlt, goR_call hl, goR_call hw, nd.get, hc2, hwl, h2, h3, goR_call ih, w1, hge]
        exact hQ _ _ _ rfl ⟨rfl, rfl⟩
      · have hlt2 : ((wayK key ks + 1 : Nat) : Int) < (kids.length : Int) := by rw [hBl]; simp; omega
        have hlt3 : wayK key ks + 1 < kids.length := by omega
        have hwc' : kids[wayK key ks + 1]? = some c' := by rw [z9, z6, List.getElem?_append_right (by omega)]; simp
        obtain ⟨ac', cc', oc', g1, g2, g3⟩ := nd.kidAt hwc'
        cases g1
        rw [h2] at g2
        cases g2
        have he := edge_spec (last := false) ht hc' (by omega) (by omega)
        rw [if_neg (by simp), ← hhd] at he
        unfold tupF at he hQ
        simp only [symA, go_opsd, symB, wantedX, X.put, X.look, Arg.ev, keepOf, restrict, evs, evO, initEnv, xres, tup, noTup, cls, quiet, Nat.reduceAdd, Nat.reduceEqDiff, ↓reduceIte, reduceCtorEq, goInt, exists_eq_left', eq_self, Int.reduceLT, Int.reduceLE, Int.reduceEq, Int.reduceNeg, Int.reduceAdd, Int.reduceSub, forall_const, ne_eq, undef, Nat.reducePow, Nat.reduceDiv, Nat.reduceMod, ht.get, hlt, goR_call hl, goR_call hw, nd.get, hc2, hwl, h2, h3, goR_call ih, w1, hlt2, hlt3, g3, goR_call he]
        exact hQ _ _ _ rfl ⟨rfl, rfl⟩
theorem Left.lastK {R : RepT} {lo lo' : Option Key} {KA : List Key} {A : List Nat} {eA : List Ent} {JA : List Nat} (hg : GoodR R) (h : Left R lo lo' KA A eA JA) : (A = [] ∧ eA = []) ∨ ∃ c A' lo hi e J, A = A' ++ [c] ∧ R c lo hi e J ∧ eA.getLast? = e.getLast? := by
  by_cases h0 : A = []
  · subst h0
    cases h with
    | nil => exact .inl ⟨rfl, rfl⟩
  · obtain ⟨KA', A', eA', JA', a, lo1, k, e, J1, q1, q2, q3, rfl, rfl, rfl, rfl⟩ := h.snoc h0
    refine .inr ⟨a, A', _, _, e, J1, rfl, q2, ?_⟩
    have := (hg _ _ _ _ _ q2).2.2
    rw [List.getLast?_append]
    cases hq : e.getLast? with
    | none => exact absurd (List.getLast?_eq_none_iff.1 hq) this
    | some x => rfl
theorem last_spec (ht : TMH [] σ m p vl vf ns ls fr root n) : ∀ {h a b i : Nat} {lo hi : Option Key} {es : List Ent} {J : List Nat}, Rep ls a b h i lo hi es J → 1 ≤ a → b ≤ 5 → Inb lo hi key →
    Ca 78 [Pt p, nv i, .string key] m (tupF (lastE key es)) m
  | 0, a, b, i, lo, hi, es, J, hr, ha, hb, hk => by
    obtain ⟨q1, q2, q3, q4, q5, q6⟩ := hr
    have hlt : i < ls.length := (List.getElem?_eq_some_iff.1 q1).1
    obtain ⟨id, cp, o, av, bv, cv, rfl, nd⟩ := ht.node q1
    have hl := nd.leaf
    have hl0 : decide ((([] : List Nat).length : Int) = 0) = true := rfl
    rw [hl0] at hl
    have hbs := bs_spec (k := key) nd.r0 (sortK_of q3) (by rw [List.length_map]; omega)
    obtain ⟨_, _, _, k4⟩ := leafE (key := key) (above := true) q3
    have hp := posK_le key (es.map (·.1))
    rw [List.length_map] at hp
    have hl1 : (es.map (·.1)).length = es.length := List.length_map ..
    have hl2 : (es.map (·.2)).length = es.length := List.length_map ..
    have hc0 := nd.c0
    have hc1 := nd.c1
    refine callX_of (call_go (F := _) rfl rfl fun Q hQ => ?_)
    rw [k4] at hQ
    by_cases h0 : posK key (es.map (·.1)) = 0
    · rw [if_pos h0] at hQ
      have h0' : ((posK key (es.map (·.1)) : Nat) : Int) = 0 := by omega
      simp only [symA, go_opsd, symB, wantedX, X.put, X.look, Arg.ev, keepOf, restrict, evs, evO, initEnv, xres, tup, noTup, cls, quiet, Nat.reduceAdd, Nat.reduceEqDiff, ↓reduceIte, reduceCtorEq, goInt, exists_eq_left', eq_self, Int.reduceLT, Int.reduceLE, Int.reduceEq, Int.reduceNeg, Int.reduceAdd, Int.reduceSub, forall_const, ne_eq, undef, Nat.reducePow, Nat.reduceDiv, Nat.reduceMod, ht.get, hlt, goR_call hl, nd.get, hc0, goR_call hbs, h0']
      exact hQ _ _ _ rfl ⟨rfl, rfl⟩
    · rw [if_neg h0] at hQ
      have h0' : ¬ ((posK key (es.map (·.1)) : Nat) : Int) = 0 := by omega
      have w1 : IntKind.i64.wrap ((posK key (es.map (·.1)) : Int) - 1) = ((posK key (es.map (·.1)) - 1 : Nat) : Int) := by rw [wrap_i64 (by omega) (by omega)]; omega
      have hj : posK key (es.map (·.1)) - 1 < es.length := by omega
      obtain ⟨x, hx⟩ : ∃ x, es[posK key (es.map (·.1)) - 1]? = some x := ⟨_, List.getElem?_eq_getElem hj⟩
      obtain ⟨ac, cc, oc, h1, h2, h3⟩ := nd.keyAt (w := posK key (es.map (·.1)) - 1) (k := x.1) (by show (es.map (·.1))[_]? = _; rw [List.getElem?_map, hx]; rfl)
      obtain ⟨ad, cd, od, g1, g2, g3⟩ := nd.numAt (w := posK key (es.map (·.1)) - 1) (k := x.2) (by show (es.map (·.2))[_]? = _; rw [List.getElem?_map, hx]; rfl)
      rw [hx] at hQ
      have h1 : av = .slice (some ac) es.length cc := by rw [h1, hl1]
      have g1 : bv = .slice (some ad) es.length cd := by rw [g1, hl2]
      subst h1 g1
      simp only [symA, go_opsd, symB, wantedX, X.put, X.look, Arg.ev, keepOf, restrict, evs, evO, initEnv, xres, tup, noTup, cls, quiet, Nat.reduceAdd, Nat.reduceEqDiff, ↓reduceIte, reduceCtorEq, goInt, exists_eq_left', eq_self, Int.reduceLT, Int.reduceLE, Int.reduceEq, Int.reduceNeg, Int.reduceAdd, Int.reduceSub, forall_const, ne_eq, undef, Nat.reducePow, Nat.reduceDiv, Nat.reduceMod, ht.get, hlt, goR_call hl, nd.get, hc0, hc1, goR_call hbs, h0', w1, hl1, hl2, hj, h2, h3, g2, g3]
      exact hQ _ _ _ rfl ⟨rfl, rfl⟩
  | h + 1, a, b, i, lo, hi, es, J, hr, ha, hb, hk => by
    obtain ⟨ks, kids, J', q1, rfl, q3, q4, q5⟩ := hr
    have hlt : i < ls.length := (List.getElem?_eq_some_iff.1 q1).1
    obtain ⟨KA, A, eA, JA, c, lo', hi', e2, Jc, KB, B, eB, JB, z1, z2, z3, z4, z5, z6, z7, z8, z9, z10, z11⟩ := q3.way goodRep hk
    have ih := last_spec ht z2 (by omega) (by omega) z4
    obtain ⟨id, cp, o, av, bv, cv, rfl, nd⟩ := ht.node q1
    have hl := nd.leaf
    have hk0 : ¬ ((kids.length : Nat) : Int) = 0 := by omega
    rw [decide_eq_false hk0] at hl
    have hks := (q3.keys goodRep).1
    have hkl := q3.len
    have hw := nd.way (key := key) hks (by show ks.length ≤ 1000; omega)
    have hwc : kids[wayK key ks]? = some c := by rw [z9, z6, List.getElem?_append_right (Nat.le_refl _), Nat.sub_self]; rfl
    obtain ⟨ac, cc, oc, h1, h2, h3⟩ := nd.kidAt hwc
    have hwl : wayK key ks < kids.length := (List.getElem?_eq_some_iff.1 hwc).1
    have hc2 := nd.c2
    subst h1
    refine callX_of (call_go (F := _) rfl rfl fun Q hQ => ?_)
    rw [z7, lastE_mid z10 z11] at hQ
    cases hf : lastE key e2 with
    | some x =>
      rw [hf] at ih hQ
      simp only [tupF, Option.isSome_some, Option.getD_some, Option.some_or] at ih hQ
      simp only [symA, go_opsd, symB, wantedX, X.put, X.look, Arg.ev, keepOf, restrict, evs, evO, initEnv, xres, tup, noTup, cls, quiet, Nat.reduceAdd, Nat.reduceEqDiff, ↓reduceIte, reduceCtorEq, goInt, exists_eq_left', eq_self, Int.reduceLT, Int.reduceLE, Int.reduceEq, Int.reduceNeg, Int.reduceAdd, Int.reduceSub, forall_const, ne_eq, undef, Nat.reducePow, Nat.reduceDiv, Nat.reduceMod, ht.get, hlt, goR_call hl, goR_call hw, nd.get, hc2, hwl, h2, h3, goR_call ih]
      exact hQ _ _ _ rfl ⟨rfl, rfl⟩
    | none =>
      rw [hf, Option.none_or] at hQ
      rw [hf] at ih
      simp only [tupF, Option.isSome_none, Option.getD_none] at ih
      rcases z1.lastK goodRep with ⟨rfl, rfl⟩ | ⟨c', A', lo1, hi1, e1, J1, rfl, hc', hhd⟩
      · have hge : ¬ (0 : Int) < ((wayK key ks : Nat) : Int) := by rw [z9]; simp
        simp only [tupF, List.getLast?_nil, Option.isSome_none, Option.getD_none] at hQ
        simp only [symA, go_opsd, symB, wantedX, X.put, X.look, Arg.ev, keepOf, restrict, evs, evO, initEnv, xres, tup, noTup, cls, quiet, Nat.reduceAdd, Nat.reduceEqDiff, ↓reduceIte, reduceCtorEq, goInt, exists_eq_left', eq_self, Int.reduceLT, Int.reduceLE, Int.reduceEq, Int.reduceNeg, Int.reduceAdd, Int.reduceSub, forall_const, ne_eq, undef, Nat.reducePow, Nat.reduceDiv, Nat.reduceMod, ht.get, hlt, goR_call hl, goR_call hw, nd.get, hc2, hwl, h2, h3, goR_call ih, hge]
        exact hQ _ _ _ rfl ⟨rfl, rfl⟩
      · have hwA : wayK key ks = A'.length + 1 := by rw [z9]; simp
        have hlt2 : (0 : Int) < ((wayK key ks : Nat) : Int) := by omega
        have hlt3 : wayK key ks - 1 < kids.length := by omega
        have w1 : IntKind.i64.wrap ((wayK key ks : Int) - 1) = ((wayK key ks - 1 : Nat) : Int) := by rw [wrap_i64 (by omega) (by omega)]; omega
        have hwc' : kids[wayK key ks - 1]? = some c' := by rw [hwA, Nat.add_sub_cancel, z6, List.append_assoc, List.getElem?_append_right (Nat.le_refl _), Nat.sub_self]; rfl
        obtain ⟨ac', cc', oc', g1, g2, g3⟩ := nd.kidAt hwc'
        cases g1
        rw [h2] at g2
        cases g2
        have he := edge_spec (last := true) ht hc' (by omega) (by omega)
        rw [if_pos rfl, ← hhd] at he
        unfold tupF at he hQ
        simp only [symA, go_opsd, symB, wantedX, X.put, X.look, Arg.ev, keepOf, restrict, evs, evO, initEnv, xres, tup, noTup, cls, quiet, Nat.reduceAdd, Nat.reduceEqDiff, ↓reduceIte, reduceCtorEq, goInt, exists_eq_left', eq_self, Int.reduceLT, Int.reduceLE, Int.reduceEq, Int.reduceNeg, Int.reduceAdd, Int.reduceSub, forall_const, ne_eq, undef, Nat.reducePow, Nat.reduceDiv, Nat.reduceMod, ht.get, hlt, goR_call hl, goR_call hw, nd.get, hc2, hwl, h2, h3, goR_call ih, hlt2, w1, hlt3, g3, goR_call he]
        exact hQ _ _ _ rfl ⟨rfl, rfl⟩
end
end Go.Proofs.Ytecceimgpeookaa

namespace Go.Proofs.Ytecceimgpeookaa
open Go X
set_option maxRecDepth 100000
attribute [local irreducible] X.Go' X.GoO X.GoR X.GoG X.GoC X.GoF X.GoFV X.GoFG X.Ex X.GoD X.GoDV X.GoDG
set_option linter.unusedVariables false
set_option linter.unusedSimpArgs false

/-- Tags of the tree's rows, loose ones among them. -/
def tr : Tag → Bool
  | .no => false
  | .other n => decide (n < 3)
  | _ => true
/-- What the tree's functions change. -/
structure Gr (σ σ' : Nat → Tag) (m m' : Mem) : Prop where
  fm : Fm (fun j => tr (σ j) = true) m m'
  out : ∀ j, j < m.next → tr (σ j) = false → σ' j = σ j
  fut : ∀ j, m'.next ≤ j → σ' j = σ j
/-- Loose slices become a node's. -/
def rt (k : Nat) : Tag → Tag
  | .other 0 => .fld 0 k
  | .other 1 => .fld 1 k
  | .other 2 => .fld 2 k
  | t => t
section
variable {H : List Nat} {σ σ' σ'' : Nat → Tag} {t : Tag} {m m' m'' : Mem} {p : Nat} {vl vf v : Value} {ns : List (Nat → Value)} {ls : List Nd} {fr : List Nat} {root n : Int} {xs : List Value}
theorem Gr.refl : Gr σ σ m m := ⟨.refl, fun _ _ _ => rfl, fun _ _ => rfl⟩
theorem Gr.trans (h : Gr σ σ' m m') (h' : Gr σ' σ'' m' m'') : Gr σ σ'' m m'' := by
  refine ⟨h.fm.comp h'.fm fun j hj ht => ?_, fun j hj ht => by rw [h'.out j (Nat.lt_of_lt_of_le hj h.fm.next) (by rw [h.out j hj ht]; exact ht), h.out j hj ht], fun j hj => by rw [h'.fut j hj, h.fut j (Nat.le_trans h'.fm.next hj)]⟩
  cases hq : tr (σ j) with
  | true => rfl
  | false => rw [h.out j hj hq, hq] at ht; cases ht
theorem Gr.nx (h : Nx m m') : Gr σ σ m m' := ⟨h.mono fun _ _ h => h.elim, fun _ _ _ => rfl, fun _ _ => rfl⟩
theorem Gr.ch (h : Ch t σ σ' m m') (ht : tr t = true) : Gr σ σ' m m' := ⟨h.fm.mono fun j _ (e : σ j = t) => by rw [e]; exact ht, fun j hj _ => h.sig j hj, h.fut⟩
theorem Gr.new (h : Nx m m') (hs : (∀ j, j < m.next → σ' j = σ j) ∧ ∀ j, m'.next ≤ j → σ' j = σ j) : Gr σ σ' m m' := ⟨h.mono fun _ _ h => h.elim, fun j hj _ => hs.1 j hj, hs.2⟩
theorem Gr.tg (h : Gr σ σ' m m') (ht : tr t = false) (hg : Tg σ t m v xs) : Tg σ' t m' v xs := by
  obtain ⟨F, h1, h2⟩ := hg
  exact ⟨F, h1.fr h.fm fun j hj q => (by rw [h2 j hj, ht] at q; cases q), fun j hj => by rw [h.out j (h1.lt j hj) (by rw [h2 j hj]; exact ht)]; exact h2 j hj⟩
theorem Gr.next (h : Gr σ σ' m m') : m.next ≤ m'.next := h.fm.next
theorem rt_out {k : Nat} {t : Tag} (h : ∀ n, t ≠ .other n) : rt k t = t := by
  cases t with
  | other n => exact absurd rfl (h n)
  | _ => rfl
theorem tr_rt {k : Nat} {t : Tag} (h : tr t = false) : rt k t = t := by
  cases t with
  | other n =>
    match n with
    | 0 => cases h
    | 1 => cases h
    | 2 => cases h
    | _ + 3 => rfl
  | _ => rfl
theorem Gr.rtg {k : Nat} (h : ∀ j, m.next ≤ j → σ j = .no) : Gr σ (fun j => rt k (σ j)) m m := ⟨.refl, fun j _ h => tr_rt h, fun j hj => by show rt k (σ j) = σ j; rw [h j hj]; rfl⟩
theorem Tg.rtg {k : Nat} (h : Tg σ t m v xs) : Tg (fun j => rt k (σ j)) (rt k t) m v xs := by
  obtain ⟨F, h1, h2⟩ := h
  exact ⟨F, h1, fun j hj => by show rt k (σ j) = _; rw [h2 j hj]⟩
theorem TMH.rtg {k : Nat} (h : TMH H σ m p vl vf ns ls fr root n) : TMH H (fun j => rt k (σ j)) m p vl vf ns ls fr root n := by
  obtain ⟨F, o1, o2⟩ := h.ol
  refine ⟨h.get, by show rt k (σ p) = _; rw [h.top]; rfl, h.pl, ⟨F, o1, fun j hj => by show rt k (σ j) = _; rw [o2 j hj]; rfl⟩, h.free.rtg (k := k), h.len, fun j hj => by show rt k (σ j) = _; rw [h.fresh j hj]; rfl, fun i N hi hN => ?_⟩
  obtain ⟨g, k1, k2⟩ := h.nd i N hi hN
  exact ⟨g, k1, fun f hf => (k2 f hf).rtg (k := k)⟩
theorem fld_rt {k f : Nat} (hf : f < 3) : rt k (.other f) = .fld f k := by
  match f, hf with
  | 0, _ => rfl
  | 1, _ => rfl
  | 2, _ => rfl

/-- One node more behind the others. -/
theorem TMH.app (h : TMH [] σ m p vl vf ns ls fr root n) {g : Nat → Value} {N : Nd} (hl : ls.length ≤ 1000000) (hN : ∀ f, f < 3 → Tg σ (.other f) m (g f) (N.fld f)) :
    ∃ vl' m2 m3 σ', appendE (m.push { cells := row3 g, rw := true, spare := none, kin := [] }) 3 72 [.slice none 0 0, .slice none 0 0, .slice none 0 0] vl (.slice (some ⟨m.next, 0, none⟩) 1 1) = some (.val vl' m2) ∧ storeE m2 1 (.pointer (some ⟨p, 0, none⟩)) vl' = some (.skip m3) ∧
      TMH [] σ' m3 p vl' vf (ns ++ [g]) (ls ++ [N]) fr root n ∧ Gr σ σ' m m3 ∧ (∃ q c, vl' = .slice q (ls.length + 1) c) ∧ ∃ q c, vl = .slice q ls.length c := by
  obtain ⟨F, o1, o2⟩ := h.ol
  have hnl := h.len
  obtain ⟨vl', m2, F', a1, a2, a3, a4⟩ := o1.one (bytes := 72) (zero := [.slice none 0 0, .slice none 0 0, .slice none 0 0]) (row := row3 g) rfl (by omega) rfl (by rw [List.length_map]; omega) (by rw [List.length_map]; omega)
  have eN : ns.map row3 ++ [row3 g] = (ns ++ [g]).map row3 := by simp
  rw [eN] at a2
  obtain ⟨q, c, hv⟩ := (a2.rd (by omega)).slice
  obtain ⟨q0, c0, hv0⟩ := (o1.rd (by omega)).slice
  rw [List.length_map, List.length_append, List.length_singleton, hnl] at hv
  rw [List.length_map, hnl] at hv0
  have hFm : Ch .nodes σ (fun j => if j ∈ F' then Tag.nodes else σ j) m m2 := by
    refine ⟨fun j hj => ?_, a3.mono fun j _ hj => o2 j hj, fun j hj => if_neg fun q => by have := a2.lt j q; omega⟩
    show (if j ∈ F' then Tag.nodes else σ j) = σ j
    split
    · rename_i hh
      rcases a4 j hh with hh | hh
      · exact (o2 j hh).symm
      · omega
    · rfl
  have hg := hFm.fm.get h.pl (by rw [h.top]; simp) h.get
  obtain ⟨m3, s1, s2, s3, s4⟩ := fld_store (i := 0) (x := vl') hg (by simp) (by rw [hv]; rfl) (by rw [hv]; rfl)
  have htop : (if p ∈ F' then Tag.nodes else σ p) = .top := (hFm.sig p h.pl).trans h.top
  have hc2 : Ch .top (fun j => if j ∈ F' then Tag.nodes else σ j) (fun j => if j ∈ F' then Tag.nodes else σ j) m2 m3 := ⟨fun _ _ => rfl, s3.mono fun j _ (e : j = p) => by rw [e]; exact htop, fun _ _ => rfl⟩
  have hp' : ∀ j ∈ F', j ≠ p := fun j hj e => by
    have : (if j ∈ F' then Tag.nodes else σ j) = .top := by rw [e]; exact htop
    rw [if_pos hj] at this; cases this
  have hfr1 : ∀ j, m3.next ≤ j → (if j ∈ F' then Tag.nodes else σ j) = .no := fun j hj => by
    have := hFm.next
    have := hc2.next
    exact (hFm.fut j (by omega)).trans (h.fresh j (by omega))
  refine ⟨vl', m2, m3, fun j => rt ls.length (if j ∈ F' then Tag.nodes else σ j), a1, s1, ?_, (Gr.ch hFm rfl).trans ((Gr.ch hc2 rfl).trans (.rtg hfr1)), ⟨q, c, hv⟩, ⟨q0, c0, hv0⟩⟩
  refine ⟨s2, by show rt ls.length (if p ∈ F' then Tag.nodes else σ p) = _; rw [htop]; rfl, by have := hFm.next; have := hc2.next; have := h.pl; omega, ⟨F', a2.fr s3 fun j hj e => hp' j hj e, fun j hj => by show rt ls.length (if j ∈ F' then Tag.nodes else σ j) = _; rw [if_pos hj]; rfl⟩, ((h.free.ch hFm (by simp)).ch hc2 (by simp)).rtg (k := ls.length), by simp [hnl], fun j hj => by show rt ls.length (if j ∈ F' then Tag.nodes else σ j) = _; rw [hfr1 j hj]; rfl, fun i N' hi hN' => ?_⟩
  by_cases hlt : i < ls.length
  · rw [List.getElem?_append_left hlt] at hN'
    obtain ⟨g', k1, k2⟩ := h.nd i N' hi hN'
    exact ⟨g', by rw [List.getElem?_append_left (by omega)]; exact k1, fun f hf => (((k2 f hf).ch hFm (by simp)).ch hc2 (by simp)).rtg (k := ls.length)⟩
  · have hi' : i = ls.length := by have := (List.getElem?_eq_some_iff.1 hN').1; simp at this; omega
    subst hi'
    rw [List.getElem?_append_right (Nat.le_refl _), Nat.sub_self] at hN'
    simp at hN'
    subst hN'
    refine ⟨g, by rw [List.getElem?_append_right (by omega), hnl, Nat.sub_self]; rfl, fun f hf => ?_⟩
    have := (((hN f hf).ch hFm (by simp)).ch hc2 (by simp)).rtg (k := ls.length)
    rwa [fld_rt hf] at this

theorem veqC_slice {q : Option Addr} {a c : Nat} : veqC (.slice q a c) (.slice q a c) = true := by rcases q with _ | ⟨b, o, _ | s⟩ <;> simp [veqC, veqA]
def addI (ls : List Nd) (fr : List Nat) : Nat := match fr.getLast? with | some k => k | none => ls.length
def addL (ls : List Nd) (fr : List Nat) (N : Nd) : List Nd := match fr.getLast? with | some k => ls.set k N | none => ls ++ [N]
theorem ld_row3 {q : Nat} {g : Nat → Value} (hg : m.get q = some { cells := row3 g, rw := true, spare := none, kin := [] }) : ldA m 3 (.pointer (some ⟨q, 0, none⟩)) = some (.val (.agg ⟨row3 g⟩) m) := by
  simp [ldA, xload, hg]
theorem bs3 {g : Nat → Value} (h2 : noTup (.agg ⟨row3 g⟩) = true) : buildSliceE m [.slice none 0 0, .slice none 0 0, .slice none 0 0] 3 1 [(0, .agg ⟨row3 g⟩)] = some (.val (.slice (some ⟨m.next, 0, none⟩) 1 1) (m.push { cells := row3 g, rw := true, spare := none, kin := [] })) := by kernel_rfl
theorem add_spec (h : TMH [] σ m p vl vf ns ls fr root n) {g : Nat → Value} {N : Nd} (hl : ls.length ≤ 1000000) (hfr : ∀ j ∈ fr, j < ls.length) (hfl : fr.length ≤ 1000000) (hN : ∀ f, f < 3 → Tg σ (.other f) m (g f) (N.fld f)) :
    ∃ m' σ' vl' vf' ns', Ca 47 [Pt p, .agg ⟨row3 g⟩] m (nv (addI ls fr)) m' ∧ TMH [] σ' m' p vl' vf' ns' (addL ls fr N) fr.dropLast root n ∧ Gr σ σ' m m' ∧ ∀ j, j < ls.length → j ≠ addI ls fr → ns'[j]? = ns[j]? := by
  have hgs : ∀ f, f < 3 → ∃ q c, g f = .slice q (N.fld f).length c := fun f hf => (hN f hf).slice
  have hnt : noTup (.agg ⟨row3 g⟩) = true := by
    obtain ⟨q0, c0, e0⟩ := hgs 0 (by omega)
    obtain ⟨q1, c1, e1⟩ := hgs 1 (by omega)
    obtain ⟨q2, c2, e2⟩ := hgs 2 (by omega)
    simp only [row3, e0, e1, e2]
    rfl
  have hvq : (veqC (g 0) (g 0) && (veqC (g 1) (g 1) && veqC (g 2) (g 2))) = true := by
    obtain ⟨q0, c0, e0⟩ := hgs 0 (by omega)
    obtain ⟨q1, c1, e1⟩ := hgs 1 (by omega)
    obtain ⟨q2, c2, e2⟩ := hgs 2 (by omega)
    rw [e0, e1, e2, veqC_slice, veqC_slice, veqC_slice]; rfl
  obtain ⟨m1, hm1⟩ : ∃ m1, m.push { cells := row3 g, rw := true, spare := none, kin := [] } = m1 := ⟨_, rfl⟩
  have f1 : Nx m m1 := hm1 ▸ .push
  have n1 : m1.next = m.next + 1 := by rw [← hm1]; simp
  have g1 : m1.get m.next = some { cells := row3 g, rw := true, spare := none, kin := [] } := by rw [← hm1, push_self]
  have h1 := h.nx f1
  have hl1 := ld_row3 g1
  obtain ⟨q, c, hvf⟩ := h1.free.slice
  rw [List.length_map] at hvf
  cases hfe : fr.getLast? with
  | some k =>
    have hfn : fr ≠ [] := fun e => by rw [e] at hfe; cases hfe
    have hpos : 0 < fr.length := List.length_pos_iff.2 hfn
    have hk : fr[fr.length - 1]? = some k := by rw [← List.getLast?_eq_getElem?]; exact hfe
    have hkl : k < ls.length := hfr k (List.mem_of_getElem? hk)
    obtain ⟨Nk, hNk⟩ : ∃ N, ls[k]? = some N := ⟨_, List.getElem?_eq_getElem hkl⟩
    obtain ⟨F, of1, of2⟩ := h1.free
    obtain ⟨vf', c1, c2⟩ := of1.to (k := fr.length - 1) (by rw [List.length_map]; omega)
    have hdl : (fr.map nv).take (fr.length - 1) = fr.dropLast.map nv := by rw [← List.map_take, List.dropLast_eq_take]
    rw [hdl] at c2
    obtain ⟨m2, s1, s2, s3⟩ := h1.setfree (σ' := σ) (m' := m1) Ch.refl ⟨F, c2, of2⟩
    obtain ⟨gk, t1, t2, t3⟩ := s2.take (i := k) (by simp) hNk
    obtain ⟨id, cp, m3, hvl, u1, u2, u3⟩ := t3.store3 (i := k) (g' := g) (by simp) t1 hnt
    have hnk : k < ns.length := (List.getElem?_eq_some_iff.1 t1).1
    have h3 : TMH [k] (fun j => rt k (σ j)) m3 p vl vf' (ns.set k g) ls fr.dropLast root n := u2.rtg
    have hT := h3.give1 (N := N) (g := g) hkl (List.getElem?_set_self hnk) fun f hf => by
      have := ((((hN f hf).nx f1).ch s3 (by simp)).ch u3 (by simp)).rtg (k := k)
      rwa [fld_rt hf] at this
    have hfr1 : ∀ j, m3.next ≤ j → σ j = .no := u2.fresh
    have hG : Gr σ (fun j => rt k (σ j)) m m3 := (Gr.nx f1).trans ((Gr.ch s3 rfl).trans ((Gr.ch u3 rfl).trans (.rtg hfr1)))
    have eI : addI ls fr = k := by unfold addI; rw [hfe]
    have eL : addL ls fr N = ls.set k N := by unfold addL; rw [hfe]
    rw [eI, eL]
    refine ⟨m3, _, vl, vf', ns.set k g, callX_of (call_go (F := _) rfl rfl fun Q hQ => ?_), hT, hG, fun j hj hne => List.getElem?_set_ne (Ne.symm hne)⟩
    have hbox : σ m.next = .no := h.fresh _ (Nat.le_refl _)
    have g2 := s3.fm.get (i := m.next) (by omega) (by rw [hbox]; simp) g1
    have hl2 := ld_row3 g2
    have ht1 := h1.get
    have ht2 := s2.get
    obtain ⟨ac, cc, oc, hv1, hv2, hv3⟩ := rd_at h1.free.rd (i := fr.length - 1) (x := nv k) (by rw [List.getElem?_map, hk]; rfl)
    rw [List.length_map] at hv1
    rw [hv1] at hvf
    cases hvf
    have e1 : (0 : Int) < (fr.length : Int) := by omega
    have w1 : IntKind.i64.wrap ((fr.length : Int) - 1) = ((fr.length - 1 : Nat) : Int) := by rw [wrap_i64 (by omega) (by omega)]; omega
    have hlt : fr.length - 1 < fr.length := by omega
    subst hv1 hvl
    simp only [symA, go_opsd, symB, wantedX, X.put, X.look, Arg.ev, keepOf, restrict, evs, evO, initEnv, xres, tup, noTup, cls, quiet, Nat.reduceAdd, Nat.reduceEqDiff, ↓reduceIte, reduceCtorEq, goInt, exists_eq_left', eq_self, Int.reduceLT, Int.reduceLE, Int.reduceEq, Int.reduceNeg, Int.reduceAdd, Int.reduceSub, forall_const, ne_eq, undef, Nat.reducePow, Nat.reduceDiv, Nat.reduceMod, hm1, ht1, e1, w1, hlt, hv2, hv3, c1, s1, ht2, hl2, hkl, u1]
    exact ⟨hvq, hQ _ _ _ rfl ⟨rfl, rfl⟩⟩
  | none =>
    have hfn : fr = [] := List.getLast?_eq_none_iff.1 hfe
    have eI : addI ls fr = ls.length := by unfold addI; rw [hfe]
    have eL : addL ls fr N = ls ++ [N] := by unfold addL; rw [hfe]
    rw [eI, eL]
    obtain ⟨vl', m2, m3, σ', a1, a2, a3, a4, ⟨q', c', hv'⟩, q0, c0, hv0⟩ := h1.app (g := g) hl (fun f hf => (hN f hf).nx f1)
    subst hfn
    refine ⟨m3, σ', vl', vf, ns ++ [g], callX_of (call_go (F := _) rfl rfl fun Q hQ => ?_), a3, (Gr.nx f1).trans a4, fun j hj _ => List.getElem?_append_left (by rw [h.len]; exact hj)⟩
    obtain ⟨mp, hp⟩ : ∃ mp, m1.push { cells := row3 g, rw := true, spare := none, kin := [] } = mp := ⟨_, rfl⟩
    have b1 := bs3 (m := m1) (g := g) hnt
    rw [hp] at a1 b1
    have fp : Nx m1 mp := hp ▸ .push
    have ht1 := h1.get
    have htp := (h1.nx fp).get
    have ht3 := a3.get
    have gp := fp.get (by omega) (fun h => h) g1
    have hlp := ld_row3 gp
    have w1 : IntKind.i64.wrap (((ls.length + 1 : Nat) : Int) - 1) = (ls.length : Int) := by rw [wrap_i64 (by omega) (by omega)]; omega
    subst hvf hv' hv0
    simp only [List.length_nil] at ht1
    simp only [symA, go_opsd, symB, wantedX, X.put, X.look, Arg.ev, keepOf, restrict, evs, evO, initEnv, xres, tup, noTup, cls, quiet, Nat.reduceAdd, Nat.reduceEqDiff, ↓reduceIte, reduceCtorEq, goInt, exists_eq_left', eq_self, Int.reduceLT, Int.reduceLE, Int.reduceEq, Int.reduceNeg, Int.reduceAdd, Int.reduceSub, forall_const, ne_eq, undef, Nat.reducePow, Nat.reduceDiv, Nat.reduceMod, hm1, ht1, hl1, b1, htp, hlp, a1, a2, ht3, w1]
    exact ⟨hvq, hQ _ _ _ rfl ⟨rfl, rfl⟩⟩

abbrev noNd : Nd := ⟨[], [], []⟩
def gnil : Nat → Value := fun _ => .slice none 0 0
theorem build3n {m : Mem} : buildE m [.slice none 0 0, .slice none 0 0, .slice none 0 0] [(0, 1), (1, 1), (2, 1)] [] = some (.val (.agg ⟨row3 gnil⟩) m) := by kernel_rfl
theorem drop_spec2 (h : TMH [] σ m p vl vf ns ls fr root n) {i : Nat} (hi : i < ls.length) (hfl : fr.length ≤ 99990) :
    ∃ m' σ' vf' ns', Ca 55 [Pt p, nv i] m (.tuple #[]) m' ∧ TMH [] σ' m' p vl vf' ns' (ls.set i noNd) (fr ++ [i]) root n ∧ Gr σ σ' m m' ∧ ∀ t v xs, t ≠ .nodes → t ≠ .free → t ≠ .top → Tg σ t m v xs → Tg σ' t m' v xs := by
  obtain ⟨Ni, hNi⟩ : ∃ N, ls[i]? = some N := ⟨_, List.getElem?_eq_getElem hi⟩
  obtain ⟨g, t1, t2, t3⟩ := h.take (i := i) (by simp) hNi
  obtain ⟨id, cp, m1, hvl, u1, u2, u3⟩ := t3.store3 (i := i) (g' := gnil) (by simp) t1 rfl
  have hni : i < ns.length := (List.getElem?_eq_some_iff.1 t1).1
  have h1 : TMH [] σ m1 p vl vf (ns.set i gnil) (ls.set i noNd) fr root n := u2.give1 (N := noNd) (g := gnil) hi (List.getElem?_set_self hni) fun f hf => by
    have : (noNd : Nd).fld f = [] := by match f with | 0 => rfl | 1 => rfl | _ + 2 => rfl
    rw [this]; exact Tg.nil
  obtain ⟨m2, hm2⟩ : ∃ m2, m1.push { cells := [nv i], rw := true, spare := none, kin := [] } = m2 := ⟨_, rfl⟩
  have f2 : Nx m1 m2 := hm2 ▸ .push
  have h2 := h1.nx f2
  obtain ⟨F, of1, of2⟩ := h2.free
  have ho : OwnX [m1.next] m2 (.slice (some ⟨m1.next, 0, none⟩) 1 1) [nv i] := hm2 ▸ own_one
  obtain ⟨vf', m3, F', a1, a2, a3, a4, a5⟩ := of1.append (bytes := 8) (zero := I 0) (ys := [nv i]) ho.rd (by rw [List.length_map]; simp; omega) (by omega)
  have eF : fr.map nv ++ [nv i] = (fr ++ [i]).map nv := by simp
  rw [eF] at a2
  obtain ⟨σ', k1, k2⟩ := tag_of (σ := σ) (t := .free) of2 a2 a3 a5 of1.lt
  obtain ⟨m4, s1, s2, s3⟩ := h2.setfree k2 k1
  refine ⟨m4, σ', vf', _, callX_of (call_go (F := _) rfl rfl fun Q hQ => ?_), s2, (Gr.ch u3 rfl).trans ((Gr.nx f2).trans ((Gr.ch k2 rfl).trans (Gr.ch s3 rfl))), fun t v xs z1 z2 z3 z => ((((z.ch u3 z1).nx f2).ch k2 z2).ch s3 z3)⟩
  have b1 := bone73 (m := m1) (x := (i : Int))
  rw [hm2] at b1
  have ht := h.get
  have ht1 := h1.get
  subst hvl
  simp only [symA, go_opsd, symB, wantedX, X.put, X.look, Arg.ev, keepOf, restrict, evs, evO, initEnv, xres, tup, noTup, cls, quiet, Nat.reduceAdd, Nat.reduceEqDiff, ↓reduceIte, reduceCtorEq, goInt, exists_eq_left', eq_self, Int.reduceLT, Int.reduceLE, Int.reduceEq, Int.reduceNeg, Int.reduceAdd, Int.reduceSub, forall_const, ne_eq, undef, Nat.reducePow, Nat.reduceDiv, Nat.reduceMod, ht, build3n, hi, u1, ht1, b1, a1, s1]
  exact hQ _ _ _ rfl ⟨rfl, rfl⟩
theorem drop_spec (h : TMH [] σ m p vl vf ns ls fr root n) {i : Nat} (hi : i < ls.length) (hfl : fr.length ≤ 99990) :
    ∃ m' σ' vf' ns', Ca 55 [Pt p, nv i] m (.tuple #[]) m' ∧ TMH [] σ' m' p vl vf' ns' (ls.set i noNd) (fr ++ [i]) root n ∧ Gr σ σ' m m' := by
  obtain ⟨m', σ', vf', ns', h1, h2, h3, _⟩ := drop_spec2 h hi hfl
  exact ⟨m', σ', vf', ns', h1, h2, h3⟩
end
end Go.Proofs.Ytecceimgpeookaa
