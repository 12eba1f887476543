/-
  Own work. The tree as a whole; a key has a number. The tree as a whole: a new one; a key has a number. The tree as a whole: what is told of it. Own work, printed by mktg.py. slices.Grow of nothing, slices.Concat of two. The tree: elements behind a node's slices; elements out of two of a node's slices.
-/
import Derived.Test.YtecceimgpeookaaS3
namespace Go.Proofs.Ytecceimgpeookaa
open Go X
set_option maxRecDepth 100000
attribute [local irreducible] X.Go' X.GoO X.GoR X.GoG X.GoC X.GoF X.GoFV X.GoFG X.Ex X.GoD X.GoDV X.GoDG
set_option linter.unusedVariables false
set_option linter.unusedSimpArgs false

/-! ## Plain -/
theorem Rep.big2 {ls : List Nd} : ∀ {h i lo hi es J}, Rep ls 2 4 h i lo hi es J → 2 ^ (h + 1) ≤ es.length
  | 0, i, lo, hi, es, J, hr => hr.2.2.2.2.1
  | h + 1, i, lo, hi, es, J, hr => by
    obtain ⟨ks, kids, J', h1, h2, h3, h4, h5⟩ := hr
    have := h3.leng (n := 2 ^ (h + 1)) fun c lo hi es J hc => Rep.big2 hc
    have h6 : 1 * 2 ^ (h + 1) ≤ (kids.length - 1) * 2 ^ (h + 1) := Nat.mul_le_mul_right _ (by omega)
    rw [Nat.pow_succ]
    omega
theorem pow_lt10 {h n : Nat} (h1 : 2 ^ (h + 1) ≤ n) (h2 : n ≤ 4000) : h ≤ 10 := by
  by_cases q : h ≤ 10
  · exact q
  · have : 2 ^ 12 ≤ 2 ^ (h + 1) := Nat.pow_le_pow_right (by omega) (by omega)
    omega
inductive Root (ls : List Nd) (fr : List Nat) : Int → List Ent → Prop where
  | nil (h : Good ls fr []) : Root ls fr (-1) []
  | node {h r : Nat} {es : List Ent} {J : List Nat} (h1 : Rep ls (if h = 0 then 1 else 2) 4 h r none none es J) (h2 : Good ls fr J) : Root ls fr (r : Int) es
theorem Root.low {ls : List Nd} {es : List Ent} {h r : Nat} {J : List Nat} (h1 : Rep ls (if h = 0 then 1 else 2) 4 h r none none es J) (hn : es.length ≤ 4000) : h ≤ 10 := by
  cases h with
  | zero => omega
  | succ h => exact pow_lt10 (Rep.big2 h1) hn
theorem inb_none {k : Key} : Inb none none k := ⟨by simp, by simp⟩
theorem ent_inj : ∀ {a b : List Ent}, a.map (·.1) = b.map (·.1) → a.map (·.2) = b.map (·.2) → a = b
  | [], [], _, _ => rfl
  | [], y :: b, h, _ => by simp at h
  | x :: a, [], h, _ => by simp at h
  | x :: a, y :: b, h, h' => by
    simp only [List.map_cons, List.cons.injEq] at h h'
    rw [ent_inj h.2 h'.2, Prod.ext h.1 h'.1]
/-- As it is put in its place. -/
theorem putE_at {key : Key} {x : Int} {es : List Ent} (hs : SortE es) (h : hasK key (es.map (·.1)) = true) : putE key x es = es.take (posK key (es.map (·.1))) ++ (key, x) :: es.drop (posK key (es.map (·.1)) + 1) ∧ (putE key x es).length = es.length ∧ (putE key x es).map (·.1) = es.map (·.1) ∧ (putE key x es).map (·.2) = (es.map (·.2)).set (posK key (es.map (·.1))) x := by
  obtain ⟨c1, _, c3⟩ := cutE (k := key) hs
  obtain ⟨v, q1, q2⟩ := c3 h
  have hl := (List.getElem?_eq_some_iff.1 q1).1
  have e : putE key x es = es.take (posK key (es.map (·.1))) ++ (key, x) :: es.drop (posK key (es.map (·.1)) + 1) := by rw [c1, q2]; rfl
  have ed : es = es.take (posK key (es.map (·.1))) ++ (key, v) :: es.drop (posK key (es.map (·.1)) + 1) := by
    conv => lhs; rw [← List.take_append_drop (posK key (es.map (·.1))) es]
    congr 1
    obtain ⟨hl, hv⟩ := List.getElem?_eq_some_iff.1 q1
    rw [← hv]; exact List.drop_eq_getElem_cons hl
  refine ⟨e, ?_, ?_, ?_⟩
  · rw [e]; simp; omega
  · rw [e]
    conv => rhs; rw [ed]
    simp
  · rw [e, List.set_eq_take_append_cons_drop, if_pos (by rw [List.length_map]; exact hl)]
    simp [List.map_take, List.map_drop]
theorem Rep.setval {ls : List Nd} {key : Key} {x : Int} : ∀ {h i a b lo hi es J}, Rep ls a b h i lo hi es J → Inb lo hi key → J.Nodup → ∀ {eL : List Ent}, ls[leafOf ls key h i]? = some ⟨eL.map (·.1), eL.map (·.2), []⟩ → hasK key (eL.map (·.1)) = true →
    Rep (ls.set (leafOf ls key h i) ⟨(putE key x eL).map (·.1), (putE key x eL).map (·.2), []⟩) a b h i lo hi (putE key x es) J ∧ leafOf ls key h i ∈ J ∧ ∀ e ∈ eL, e ∈ es
  | 0, i, a, b, lo, hi, es, J, hr, hk, hn, eL, hL, hh => by
    obtain ⟨h1, rfl, h3, h4, h5, h6⟩ := hr
    have hL' : ls[i]? = some ⟨eL.map (·.1), eL.map (·.2), []⟩ := hL
    rw [h1] at hL'
    simp only [Option.some.injEq, Nd.mk.injEq] at hL'
    have e := ent_inj hL'.1 hL'.2.1
    subst e
    have hp := (putE_at (x := x) h3 hh).2.1
    refine ⟨⟨List.getElem?_set_self (List.getElem?_eq_some_iff.1 h1).1, rfl, putE_sort h3, putE_inb hk h4, by omega, by omega⟩, by show i ∈ [i]; simp, fun e he => he⟩
  | h + 1, i, a, b, lo, hi, es, J, hr, hk, hn, eL, hL, hh => by
    obtain ⟨ks, kids, J', h1, rfl, h3, h4, h5⟩ := hr
    obtain ⟨KA, A, eA, JA, c, lo', hi', e2, Jc, KB, B, eB, JB, z1, z2, z3, z4, rfl, rfl, rfl, rfl, z9, z10, z11⟩ := h3.way goodRep hk
    have hwc : (A ++ c :: B)[wayK key (KA ++ KB)]? = some c := by rw [z9, List.getElem?_append_right (Nat.le_refl _), Nat.sub_self]; rfl
    have e1 : leafOf ls key (h + 1) i = leafOf ls key h c := by
      simp only [leafOf, h1, hwc]
    rw [e1] at hL ⊢
    obtain ⟨m1, m2⟩ := List.nodup_cons.1 hn
    obtain ⟨n1, n2, n3⟩ := List.nodup_append.1 m2
    obtain ⟨n4, n5, n6⟩ := List.nodup_append.1 n2
    obtain ⟨r1, r2, r3⟩ := Rep.setval (x := x) z2 z4 n4 hL hh
    refine ⟨⟨KA ++ KB, A ++ c :: B, _, ?_, rfl, ?_, h4, h5⟩, by simp [r2], fun e he => by simp [r3 e he]⟩
    · rw [List.getElem?_set_ne fun e => m1 (by rw [← e]; simp [r2])]; exact h1
    · rw [putE_mid z10 z11]
      refine (z1.frame fun j hj => List.getElem?_set_ne fun e => n3 j hj j (by rw [← e]; simp [r2]) rfl).plug (Right.plug r1 (z3.frame fun j hj => List.getElem?_set_ne fun e => n6 j (by rw [← e]; exact r2) j hj rfl))
end Go.Proofs.Ytecceimgpeookaa

namespace Go.Proofs.Ytecceimgpeookaa
open Go X
set_option maxRecDepth 100000
attribute [local irreducible] X.Go' X.GoO X.GoR X.GoG X.GoC X.GoF X.GoFV X.GoFG X.Ex X.GoD X.GoDV X.GoDG
set_option linter.unusedVariables false
set_option linter.unusedSimpArgs false

/-- A tree with these entries, after k calls. -/
def TreeM (σ : Nat → Tag) (m : Mem) (p : Nat) (es : List Ent) (k : Nat) : Prop := ∃ vl vf ns ls fr root, TMH [] σ m p vl vf ns ls fr root (es.length : Int) ∧ Root ls fr root es ∧ ls.length ≤ 12 * k ∧ es.length ≤ k
section
variable {σ : Nat → Tag} {m : Mem} {p : Nat} {vl vf : Value} {ns : List (Nat → Value)} {ls : List Nd} {fr : List Nat} {root n : Int} {key : Key} {x : Int} {es : List Ent} {k : Nat}
theorem new_spec (hσ : ∀ j, m.next ≤ j → σ j = .no) : ∃ m', Ca 26 [] m (Pt m.next) m' ∧ Nx m m' ∧ m'.next = m.next + 1 ∧ TreeM (fun j => if j = m.next then .top else σ j) m' m.next [] 0 := by
  obtain ⟨m', hm⟩ : ∃ m', m.push { cells := [.slice none 0 0, .slice none 0 0, I (-1), I 0], rw := true, spare := none, kin := [] } = m' := ⟨_, rfl⟩
  have hb : buildE m [.slice none 0 0, .slice none 0 0, I 0, I 0] [(0, 1), (1, 1), (2, 1), (3, 1)] [(2, I (-1))] = some (.val (.agg ⟨[.slice none 0 0, .slice none 0 0, I (-1), I 0]⟩) m) := by kernel_rfl
  have hn : m'.next = m.next + 1 := by rw [← hm]; simp
  refine ⟨m', callX_of (call_go (F := _) rfl rfl fun Q hQ => ?_), hm ▸ .push, hn, .slice none 0 0, .slice none 0 0, [], [], [], -1, ⟨hm ▸ push_self, if_pos rfl, by omega, ⟨[], .nil, by simp⟩, Tg.nil, rfl, fun j hj => ?_, fun i N _ hN => by simp at hN⟩, .nil ⟨.nil, .nil, by simp, by simp⟩, by simp, by simp⟩
  · simp only [symA, go_opsd, symB, wantedX, X.put, X.look, Arg.ev, keepOf, restrict, evs, evO, initEnv, xres, tup, noTup, cls, quiet, Nat.reduceAdd, Nat.reduceEqDiff, ↓reduceIte, reduceCtorEq, goInt, exists_eq_left', eq_self, Int.reduceLT, Int.reduceLE, Int.reduceEq, Int.reduceNeg, Int.reduceAdd, Int.reduceSub, forall_const, ne_eq, undef, Nat.reducePow, Nat.reduceDiv, Nat.reduceMod, hb, hm]
    exact hQ _ _ _ rfl ⟨rfl, rfl⟩
  · show (if j = m.next then Tag.top else σ j) = .no
    rw [if_neg (by omega)]; exact hσ j (by omega)
theorem find_none (h : TMH [] σ m p vl vf ns ls fr (-1) n) : Ca 46 [Pt p, .string key] m (.tuple #[.pointer none, I 0, .bool false]) m := by
  refine callX_of (call_go (F := _) rfl rfl fun Q hQ => ?_)
  have h1 : (-1 : Int) < 0 := by omega
  simp only [symA, go_opsd, symB, wantedX, X.put, X.look, Arg.ev, keepOf, restrict, evs, evO, initEnv, xres, tup, noTup, cls, quiet, Nat.reduceAdd, Nat.reduceEqDiff, ↓reduceIte, reduceCtorEq, goInt, exists_eq_left', eq_self, Int.reduceLT, Int.reduceLE, Int.reduceEq, Int.reduceNeg, Int.reduceAdd, Int.reduceSub, forall_const, ne_eq, undef, Nat.reducePow, Nat.reduceDiv, Nat.reduceMod, isNil_ptr', h.get, h1]
  exact hQ _ _ _ rfl ⟨rfl, rfl⟩
theorem lit01 {m : Mem} {a b : Option Addr} {l c l' c' : Nat} : buildE m [.slice none 0 0, .slice none 0 0, .slice none 0 0] [(0, 1), (1, 1), (2, 1)] [(0, .slice a l c), (1, .slice b l' c')] = some (.val (.agg ⟨[.slice a l c, .slice b l' c', .slice none 0 0]⟩) m) := build01
/-- It stands there. -/
theorem put_found (h : TreeM σ m p es k) (hk : (getE key es).isSome = true) : ∃ m' σ', Ca 27 [Pt p, .string key, I x] m (.tuple #[I ((getE key es).getD 0), .bool true, I 0]) m' ∧ TreeM σ' m' p (putE key x es) (k + 1) ∧ Gr σ σ' m m' := by
  obtain ⟨vl, vf, ns, ls, fr, root, ht, hr, b1, b2⟩ := h
  cases hr with
  | nil _ => simp [getE] at hk
  | @node h r es J hr hg =>
    have ha : 1 ≤ (if h = 0 then 1 else 2) := by split <;> omega
    obtain ⟨id, cp, eL, eA, eB, hv, hf, hN, hs, hl, hes, hA, hB⟩ := find_spec (key := key) ht hr ha (by omega) inb_none
    obtain ⟨k1, k2, _⟩ := leafE (key := key) (above := false) hs
    have hgm : getE key es = getE key eL := by rw [hes, getE_mid hA hB]
    have hh : hasK key (eL.map (·.1)) = true := by
      cases hq : hasK key (eL.map (·.1)) with
      | true => rfl
      | false => rw [hgm, k2 hq] at hk; cases hk
    rw [hh] at hf
    obtain ⟨v, q1, q2⟩ := k1 hh
    rw [hgm, q2]
    obtain ⟨g, t1, t2, t3⟩ := ht.take (i := leafOf ls key h r) (by simp) hN
    obtain ⟨id', o, cp', hv', hgo, hco, _, hlt, hsn⟩ := ht.at t1
    rw [hv] at hv'
    cases hv'
    obtain ⟨ac, cc, oc, d1, d2, d3⟩ := rd_at (t2 1 (by omega)).rd (i := posK key (eL.map (·.1))) (x := I v) (by show ((eL.map (·.2)).map iv)[_]? = _; rw [List.getElem?_map, List.getElem?_map, q1]; rfl)
    obtain ⟨F, o1, o2⟩ := t2 1 (by omega)
    have hlp := (List.getElem?_eq_some_iff.1 q1).1
    have hfl : (Nd.fld ⟨eL.map (·.1), eL.map (·.2), []⟩ 1).length = eL.length := by show ((eL.map (·.2)).map iv).length = _; simp
    obtain ⟨ac', cc', m', d1', s1, s2, s3⟩ := o1.set (i := posK key (eL.map (·.1))) (x := I x) (by rw [hfl]; exact hlp) rfl rfl
    rw [d1] at d1'
    cases d1'
    rw [hfl] at d1
    have hc : Ch (.fld 1 (leafOf ls key h r)) σ σ m m' := ⟨fun _ _ => rfl, s3.mono fun j _ hj => o2 j hj, fun _ _ => rfl⟩
    obtain ⟨p1, p2, p3, p4⟩ := putE_at (x := x) hs hh
    have hT := (t3.ch hc (by simp) (by simp) (by simp) (fun f i' _ hi q => by
      have : leafOf ls key h r = i' := by injection q
      exact hi (by simp [this]))).give1 (N := ⟨(putE key x eL).map (·.1), (putE key x eL).map (·.2), []⟩) (g := g) (List.getElem?_eq_some_iff.1 hN).1 t1 fun f hf => by
        match f, hf with
        | 0, _ =>
          have e : Nd.fld ⟨(putE key x eL).map (·.1), (putE key x eL).map (·.2), []⟩ 0 = Nd.fld ⟨eL.map (·.1), eL.map (·.2), []⟩ 0 := by show ((putE key x eL).map (·.1)).map sv = _; rw [p3]; rfl
          rw [e]; exact (t2 0 (by omega)).ch hc (by simp)
        | 1, _ =>
          have e : Nd.fld ⟨(putE key x eL).map (·.1), (putE key x eL).map (·.2), []⟩ 1 = (Nd.fld ⟨eL.map (·.1), eL.map (·.2), []⟩ 1).set (posK key (eL.map (·.1))) (I x) := by
            show ((putE key x eL).map (·.2)).map iv = ((eL.map (·.2)).map iv).set _ _
            rw [p4, List.map_set]
          rw [e]; exact ⟨F, s2, o2⟩
        | 2, _ => exact (t2 2 (by omega)).ch hc (by simp)
    have hlen : (putE key x es).length = es.length := by rw [hes, putE_mid hA hB]; simp only [List.length_append, p2]
    obtain ⟨r1, r2, _⟩ := Rep.setval (x := x) hr inb_none hg.nd hN hh
    refine ⟨m', σ, callX_of (call_go (F := _) rfl rfl fun Q hQ => ?_), ⟨vl, vf, ns, _, fr, _, by rw [hlen]; exact hT, .node r1 (Chg.set hg r2).good, by rw [List.length_set]; omega, by omega⟩, Gr.ch hc rfl⟩
    have hc1 := hco 1 (by omega)
    rw [d1] at hc1
    subst hv
    simp only [symA, go_opsd, symB, wantedX, X.put, X.look, Arg.ev, keepOf, restrict, evs, evO, initEnv, xres, tup, noTup, cls, quiet, Nat.reduceAdd, Nat.reduceEqDiff, ↓reduceIte, reduceCtorEq, goInt, exists_eq_left', eq_self, Int.reduceLT, Int.reduceLE, Int.reduceEq, Int.reduceNeg, Int.reduceAdd, Int.reduceSub, forall_const, ne_eq, undef, Nat.reducePow, Nat.reduceDiv, Nat.reduceMod, isNil_ptr', goR_call hf, hgo, hc1, hlp, d2, d3, s1]
    exact hQ _ _ _ rfl ⟨rfl, rfl⟩

theorem own_two {x y : Value} : OwnX [m.next] (m.push { cells := [x, y], rw := true, spare := none, kin := [] }) (.slice (some ⟨m.next, 0, none⟩) 2 2) [x, y] :=
  .inr ⟨by simp, m.next, 2, _, rfl, ⟨Nat.le_refl _, by omega⟩, by simp, push_self, rfl, by simp, Nat.le_refl _, rfl⟩
theorem btwo73 {m : Mem} {x y : Int} : buildSliceE m [I 0] 1 2 [(0, I x), (1, I y)] = some (.val (.slice (some ⟨m.next, 0, none⟩) 2 2) (m.push { cells := [I x, I y], rw := true, spare := none, kin := [] })) := by kernel_rfl
/-- A node is made of two slices. -/
theorem lit_add {mA mB : Mem} {F : Nat} {N : Nd} {x0 : Value} {ys : List Value} {c : Nat} (h : TMH [] σ m p vl vf ns ls fr root n) (hF : F = 1 ∨ F = 2) (hA : m.push (box1 x0) = mA) (hB : mA.push { cells := ys, rw := true, spare := none, kin := [] } = mB) (ho : OwnX [mA.next] mB (.slice (some ⟨mA.next, 0, none⟩) c c) ys)
    (h0 : N.fld 0 = [x0]) (h1 : N.fld F = ys) (h2 : N.fld (3 - F) = []) (hl : ls.length ≤ 1000000) (hfr : ∀ j ∈ fr, j < ls.length) (hfl : fr.length ≤ 1000000) :
    ∃ m' σ' vl' vf' ns', Ca 47 [Pt p, .agg ⟨row3 fun f => if f = 0 then .slice (some ⟨m.next, 0, none⟩) 1 1 else if f = F then .slice (some ⟨mA.next, 0, none⟩) c c else .slice none 0 0⟩] mB (nv (addI ls fr)) m' ∧ TMH [] σ' m' p vl' vf' ns' (addL ls fr N) fr.dropLast root n ∧ Gr σ σ' m m' := by
  have fA : Nx m mA := hA ▸ .push
  have fB : Nx mA mB := hB ▸ .push
  obtain ⟨σ1, s1, s2⟩ := tag_new (σ := σ) (m := m) (.other 0) (hA ▸ own_one : OwnX [m.next] mA (.slice (some ⟨m.next, 0, none⟩) 1 1) [x0]) fA (by simp)
  have h3 := h.new fA s2
  obtain ⟨σ2, u1, u2⟩ := tag_new (σ := σ1) (m := mA) (.other F) ho fB (by simp)
  have h4 := h3.new fB u2
  have ch : Ch .no σ1 σ2 mA mB := .nx' fB u2
  obtain ⟨m', σ', vl', vf', ns', a1, a2, a3, a4⟩ := add_spec (g := fun f => if f = 0 then .slice (some ⟨m.next, 0, none⟩) 1 1 else if f = F then .slice (some ⟨mA.next, 0, none⟩) c c else .slice none 0 0) (N := N) h4 hl hfr hfl fun f hf => by
    have hcs : f = 0 ∨ f = F ∨ f = 3 - F := by omega
    rcases hcs with rfl | rfl | rfl
    · rw [h0, if_pos rfl]; exact s1.ch ch (by simp)
    · rw [h1, if_neg (by omega), if_pos rfl]; exact u1
    · rw [h2, if_neg (by omega), if_neg (by omega)]; exact Tg.nil
  exact ⟨m', σ', vl', vf', ns', a1, a2, (Gr.new fA s2).trans ((Gr.new fB u2).trans a3)⟩
theorem wrap1 {a : Nat} (h : a ≤ 100000) : IntKind.i64.wrap ((a : Int) + 1) = ((a + 1 : Nat) : Int) := by rw [wrap_i64 (by omega) (by omega)]; omega
theorem put_first (h : TreeM σ m p [] k) (hk : k ≤ 4000) : ∃ m' σ', Ca 27 [Pt p, .string key, I x] m (.tuple #[I 0, .bool false, I 0]) m' ∧ TreeM σ' m' p [(key, x)] (k + 1) ∧ Gr σ σ' m m' := by
  obtain ⟨vl, vf, ns, ls, fr, root, ht, hr, b1, b2⟩ := h
  generalize hes : ([] : List Ent) = es at hr
  cases hr with
  | @node h r es J hr hg =>
    have ha : 1 ≤ (if h = 0 then 1 else 2) := by split <;> omega
    exact absurd hes.symm (hr.good ha).2.2
  | nil hg =>
    have hfl := hg.frlen
    have ht0 : TMH [] σ m p vl vf ns ls fr (-1) 0 := ht
    obtain ⟨m1, s1, s2, s3⟩ := ht0.setn 1
    obtain ⟨mA, hA⟩ : ∃ mA, m1.push (box1 (.string key)) = mA := ⟨_, rfl⟩
    obtain ⟨mB, hB⟩ : ∃ mB, mA.push { cells := [I x], rw := true, spare := none, kin := [] } = mB := ⟨_, rfl⟩
    have g2 := Chg.add (N := ⟨[key], [x], []⟩) hg (by simp)
    obtain ⟨m2, σ2, vl2, vf2, ns2, a1, a2, a3⟩ := lit_add (F := 1) (N := ⟨[key], [x], []⟩) (c := 1) s2 (.inl rfl) hA hB (hB ▸ own_one) rfl rfl rfl (by omega) hg.fl (by omega)
    obtain ⟨m3, u1, u2, u3⟩ := a2.setroot (addI ls fr)
    have hll := addL_len (ls := ls) (fr := fr) (N := ⟨[key], [x], []⟩)
    refine ⟨m3, σ2, callX_of (call_go (F := _) rfl rfl fun Q hQ => ?_), ⟨vl2, vf2, ns2, _, _, _, u2, .node (h := 0) (J := [addI ls fr]) ⟨addL_at hg.fl, rfl, by simp, fun e _ => inb_none, by simp, by simp⟩ g2.good, by omega, by simp⟩, (Gr.ch s3 rfl).trans (a3.trans (Gr.ch u3 rfl))⟩
    have hf := find_none (key := key) ht0
    have h1 : (-1 : Int) < 0 := by omega
    have h2 : ¬ (100000 : Int) ≤ 0 := by omega
    have w1 : IntKind.i64.wrap (0 + 1) = 1 := wrap_i64 (by omega) (by omega)
    have w2 : IntKind.i64.wrap 1 = 1 := wrap_i64 (by omega) (by omega)
    have c1 := bone72 (m := m1) (x := key)
    have c2 := bone73 (m := mA) (x := x)
    rw [hA] at c1
    rw [hB] at c2
    have a1' : Ca 47 [Pt p, .agg ⟨[.slice (some ⟨m1.next, 0, none⟩) 1 1, .slice (some ⟨mA.next, 0, none⟩) 1 1, .slice none 0 0]⟩] mB (nv (addI ls fr)) m2 := a1
    have q0 := ht0.get
    have q1 := s2.get
    simp only [symA, go_opsd, symB, wantedX, X.put, X.look, Arg.ev, keepOf, restrict, evs, evO, initEnv, xres, tup, noTup, cls, quiet, Nat.reduceAdd, Nat.reduceEqDiff, ↓reduceIte, reduceCtorEq, goInt, exists_eq_left', eq_self, Int.reduceLT, Int.reduceLE, Int.reduceEq, Int.reduceNeg, Int.reduceAdd, Int.reduceSub, forall_const, ne_eq, undef, Nat.reducePow, Nat.reduceDiv, Nat.reduceMod, isNil_ptr', goR_call hf, q0, h1, h2, w1, w2, s1, q1, c1, c2, lit01, goR_call a1', u1]
    exact hQ _ _ _ rfl ⟨rfl, rfl⟩
/-- It is new. -/
theorem put_new (h : TreeM σ m p es k) (hno : getE key es = none) (hk : k ≤ 3999) : ∃ m' σ', Ca 27 [Pt p, .string key, I x] m (.tuple #[I 0, .bool false, I 0]) m' ∧ TreeM σ' m' p (putE key x es) (k + 1) ∧ Gr σ σ' m m' := by
  obtain ⟨vl, vf, ns, ls, fr, root, ht, hr, b1, b2⟩ := h
  cases hr with
  | nil hg => exact put_first ⟨vl, vf, ns, ls, fr, _, ht, .nil hg, b1, b2⟩ (by omega)
  | @node h r es J hr hg =>
    have ha : 1 ≤ (if h = 0 then 1 else 2) := by split <;> omega
    have ha' : (if h = 0 then 1 else 2) ≤ 2 := by split <;> omega
    have hlow := Root.low hr (by omega)
    have hno' : ∀ e ∈ es, e.1 ≠ key := fun e he q => by
      have : getE key es ≠ none := by
        unfold getE
        rw [ne_eq, Option.map_eq_none_iff, List.find?_eq_none]
        intro q'
        have := q' e he
        simp [q] at this
      exact this hno
    have hlen := putE_len (n := x) (hr.good ha).1 hno'
    obtain ⟨id, cp, eL, eA, eB, hv, hf, hN, hs, hl, hes, hA, hB⟩ := find_spec (key := key) ht hr ha (by omega) inb_none
    have hh : hasK key (eL.map (·.1)) = false := hasK_no fun e he => hno' e (by rw [hes]; simp [he])
    rw [hh] at hf
    obtain ⟨m1, s1, s2, s3⟩ := ht.setn ((es.length + 1 : Nat) : Int)
    obtain ⟨m2, σ2, vl2, vf2, ns2, ls2, fr2, J2, c2, t2, g2, r2, q2⟩ := put_spec (key := key) (x := x) s2 hr ha inb_none hno' hg (by omega)
    obtain ⟨N, hN2, n1, n2, n3⟩ := r2.sz
    have hql := q2.len
    have q0 := ht.get
    have q1 := s2.get
    have qq2 := t2.get
    have h1 : ¬ (r : Int) < 0 := by omega
    have h2 : ¬ (100000 : Int) ≤ (es.length : Int) := by omega
    have w1 := wrap1 (a := es.length) (by omega)
    have hrl : r < ls2.length := (List.getElem?_eq_some_iff.1 hN2).1
    obtain ⟨id2, cp2, o2, av2, bv2, cv2, hv2, nd2⟩ := t2.node hN2
    have hsize := nd2.size
    have hvl2 : veq vl2 vl2 = true := by rw [hv2]; exact veq_slice
    by_cases h5 : N.size ≤ 4
    · have hgt : ¬ (4 : Int) < (N.size : Int) := by omega
      refine ⟨m2, σ2, callX_of (call_go (F := _) rfl rfl fun Q hQ => ?_), ⟨vl2, vf2, ns2, ls2, fr2, _, by rw [hlen]; exact t2, .node (n3 _ 4 n1 h5) q2.good, by omega, by omega⟩, (Gr.ch s3 rfl).trans g2⟩
      subst hv2
      simp only [symA, go_opsd, symB, wantedX, X.put, X.look, Arg.ev, keepOf, restrict, evs, evO, initEnv, xres, tup, noTup, cls, quiet, Nat.reduceAdd, Nat.reduceEqDiff, ↓reduceIte, reduceCtorEq, goInt, exists_eq_left', eq_self, Int.reduceLT, Int.reduceLE, Int.reduceEq, Int.reduceNeg, Int.reduceAdd, Int.reduceSub, forall_const, ne_eq, undef, Nat.reducePow, Nat.reduceDiv, Nat.reduceMod, isNil_ptr', goR_call hf, q0, h2, w1, s1, q1, h1, goR_call c2, qq2, hrl, goDV3c hsize, hgt]
      exact hQ _ _ _ rfl ⟨rfl, rfl⟩
    · have hgt : (4 : Int) < (N.size : Int) := by omega
      obtain ⟨m3, σ3, vl3, vf3, ns3, ls3, fr3, least, k', e3, e4, J3, J4, c3, t3, g3, r3, r4, heq, q3, hin⟩ := split_spec t2 r2 hN2 (by omega) q2.good (by omega)
      have hql3 := q3.len
      obtain ⟨mA, hA⟩ : ∃ mA, m3.push (box1 (.string least)) = mA := ⟨_, rfl⟩
      obtain ⟨mB, hB⟩ : ∃ mB, mA.push { cells := [I (r : Int), I (k' : Int)], rw := true, spare := none, kin := [] } = mB := ⟨_, rfl⟩
      have hJ34 : ∀ j ∈ J3 ++ J4, j < ls3.length := fun j hj => by
        rcases List.mem_append.1 hj with hj | hj
        · exact r3.lt j hj
        · exact r4.lt j hj
      have hga := Chg.add (N := ⟨[least], [], [r, k']⟩) q3.good hJ34
      have hfl3 := q3.good.frlen
      obtain ⟨m4, σ4, vl4, vf4, ns4, a1, a2, a3⟩ := lit_add (F := 2) (N := ⟨[least], [], [r, k']⟩) (c := 2) t3 (.inr rfl) hA hB (hB ▸ own_two) rfl rfl rfl (by omega) q3.good.fl (by omega)
      obtain ⟨m5, u1, u2, u3⟩ := a2.setroot (addI ls3 fr3)
      have hll := addL_len (ls := ls3) (fr := fr3) (N := ⟨[least], [], [r, k']⟩)
      have hfrm : ∀ j ∈ J3 ++ J4, (addL ls3 fr3 ⟨[least], [], [r, k']⟩)[j]? = ls3[j]? := fun j hj => addL_ne (hJ34 j hj) fun e => (List.nodup_cons.1 hga.good.nd).1 (e ▸ hj)
      refine ⟨m5, σ4, callX_of (call_go (F := _) rfl rfl fun Q hQ => ?_), ⟨vl4, vf4, ns4, _, _, _, by rw [hlen]; exact u2, .node (h := h + 1) (J := addI ls3 fr3 :: (J3 ++ J4)) ⟨[least], [r, k'], _, addL_at q3.good.fl, rfl, ?_, by simp, by simp⟩ hga.good, by omega, by omega⟩, (Gr.ch s3 rfl).trans (g2.trans (g3.trans (a3.trans (Gr.ch u3 rfl))))⟩
      · have d1 := bone72 (m := m3) (x := least)
        have d2 := btwo73 (m := mA) (x := (r : Int)) (y := (k' : Int))
        rw [hA] at d1
        rw [hB] at d2
        have a1' : Ca 47 [Pt p, .agg ⟨[.slice (some ⟨m3.next, 0, none⟩) 1 1, .slice none 0 0, .slice (some ⟨mA.next, 0, none⟩) 2 2]⟩] mB (nv (addI ls3 fr3)) m4 := a1
        have qq3 := t3.get
        subst hv2
        simp only [symA, go_opsd, symB, wantedX, X.put, X.look, Arg.ev, keepOf, restrict, evs, evO, initEnv, xres, tup, noTup, cls, quiet, Nat.reduceAdd, Nat.reduceEqDiff, ↓reduceIte, reduceCtorEq, goInt, exists_eq_left', eq_self, Int.reduceLT, Int.reduceLE, Int.reduceEq, Int.reduceNeg, Int.reduceAdd, Int.reduceSub, forall_const, ne_eq, undef, Nat.reducePow, Nat.reduceDiv, Nat.reduceMod, isNil_ptr', goR_call hf, q0, h2, w1, s1, q1, h1, goR_call c2, qq2, hrl, goDV3c hsize, hgt, goR_call c3, d1, d2, build02, goR_call a1', u1]
        exact hQ _ _ _ rfl ⟨rfl, rfl⟩
      · rw [heq]
        exact .cons (r3.frame fun j hj => hfrm j (by simp [hj])) (.one (r4.frame fun j hj => hfrm j (by simp [hj])))
end
end Go.Proofs.Ytecceimgpeookaa

namespace Go.Proofs.Ytecceimgpeookaa
open Go X
set_option maxRecDepth 100000
attribute [local irreducible] X.Go' X.GoO X.GoR X.GoG X.GoC X.GoF X.GoFV X.GoFG X.Ex X.GoD X.GoDV X.GoDG
set_option linter.unusedVariables false
set_option linter.unusedSimpArgs false

section
variable {σ : Nat → Tag} {m : Mem} {p : Nat} {vl vf : Value} {ns : List (Nat → Value)} {ls : List Nd} {fr : List Nat} {root n : Int} {key : Key} {x : Int} {es : List Ent} {k : Nat} {above : Bool}
theorem Put_spec (h : TreeM σ m p es k) (hk : k ≤ 3999) : ∃ m' σ', Ca 27 [Pt p, .string key, I x] m (.tuple #[I ((getE key es).getD 0), .bool (getE key es).isSome, I 0]) m' ∧ TreeM σ' m' p (putE key x es) (k + 1) ∧ Gr σ σ' m m' := by
  cases hq : getE key es with
  | none => exact put_new h hq hk
  | some v =>
    have := put_found (x := x) h (by rw [hq]; rfl)
    rw [hq] at this
    exact this
theorem Get_spec (h : TreeM σ m p es k) : Ca 53 [Pt p, .string key] m (.tuple #[I ((getE key es).getD 0), .bool (getE key es).isSome]) m := by
  obtain ⟨vl, vf, ns, ls, fr, root, ht, hr, b1, b2⟩ := h
  cases hr with
  | nil hg =>
    have hf := find_none (key := key) ht
    refine callX_of (call_go (F := _) rfl rfl fun Q hQ => ?_)
    simp only [symA, go_opsd, symB, wantedX, X.put, X.look, Arg.ev, keepOf, restrict, evs, evO, initEnv, xres, tup, noTup, cls, quiet, Nat.reduceAdd, Nat.reduceEqDiff, ↓reduceIte, reduceCtorEq, goInt, exists_eq_left', eq_self, Int.reduceLT, Int.reduceLE, Int.reduceEq, Int.reduceNeg, Int.reduceAdd, Int.reduceSub, forall_const, ne_eq, undef, Nat.reducePow, Nat.reduceDiv, Nat.reduceMod, goR_call hf]
    exact hQ _ _ _ rfl ⟨rfl, rfl⟩
  | @node h r es J hr hg =>
    have ha : 1 ≤ (if h = 0 then 1 else 2) := by split <;> omega
    exact get_spec ht hr ha (by omega) inb_none
theorem Len_spec (h : TreeM σ m p es k) : Ca 59 [Pt p] m (I (es.length : Int)) m := by
  obtain ⟨vl, vf, ns, ls, fr, root, ht, hr, b1, b2⟩ := h
  exact len_spec ht
theorem Seek_spec (h : TreeM σ m p es k) : Ca 29 [Pt p, .string key] m (tupF (fstE false key es)) m := by
  obtain ⟨vl, vf, ns, ls, fr, root, ht, hr, b1, b2⟩ := h
  have hs := some_spec ht
  have htg := ht.get
  cases hr with
  | nil hg =>
    have e : decide ((0 : Int) ≤ -1) = false := rfl
    rw [e] at hs
    refine callX_of (call_go (F := _) rfl rfl fun Q hQ => ?_)
    simp only [symA, go_opsd, symB, wantedX, X.put, X.look, Arg.ev, keepOf, restrict, evs, evO, initEnv, xres, tup, noTup, cls, quiet, Nat.reduceAdd, Nat.reduceEqDiff, ↓reduceIte, reduceCtorEq, goInt, exists_eq_left', eq_self, Int.reduceLT, Int.reduceLE, Int.reduceEq, Int.reduceNeg, Int.reduceAdd, Int.reduceSub, forall_const, ne_eq, undef, Nat.reducePow, Nat.reduceDiv, Nat.reduceMod, goR_call hs]
    exact hQ _ _ _ rfl ⟨rfl, rfl⟩
  | @node h r es J hr hg =>
    have ha : 1 ≤ (if h = 0 then 1 else 2) := by split <;> omega
    have e : decide ((0 : Int) ≤ (r : Int)) = true := decide_eq_true (by omega)
    rw [e] at hs
    have hf := first_spec (key := key) (above := false) ht hr ha (by omega) inb_none
    refine callX_of (call_go (F := _) rfl rfl fun Q hQ => ?_)
    simp only [symA, go_opsd, symB, wantedX, X.put, X.look, Arg.ev, keepOf, restrict, evs, evO, initEnv, xres, tup, noTup, cls, quiet, Nat.reduceAdd, Nat.reduceEqDiff, ↓reduceIte, reduceCtorEq, goInt, exists_eq_left', eq_self, Int.reduceLT, Int.reduceLE, Int.reduceEq, Int.reduceNeg, Int.reduceAdd, Int.reduceSub, forall_const, ne_eq, undef, Nat.reducePow, Nat.reduceDiv, Nat.reduceMod, goR_call hs, htg, goR_call hf, tupF]
    exact hQ _ _ _ rfl ⟨rfl, rfl⟩
theorem After_spec (h : TreeM σ m p es k) : Ca 31 [Pt p, .string key] m (tupF (fstE true key es)) m := by
  obtain ⟨vl, vf, ns, ls, fr, root, ht, hr, b1, b2⟩ := h
  have hs := some_spec ht
  have htg := ht.get
  cases hr with
  | nil hg =>
    have e : decide ((0 : Int) ≤ -1) = false := rfl
    rw [e] at hs
    refine callX_of (call_go (F := _) rfl rfl fun Q hQ => ?_)
    simp only [symA, go_opsd, symB, wantedX, X.put, X.look, Arg.ev, keepOf, restrict, evs, evO, initEnv, xres, tup, noTup, cls, quiet, Nat.reduceAdd, Nat.reduceEqDiff, ↓reduceIte, reduceCtorEq, goInt, exists_eq_left', eq_self, Int.reduceLT, Int.reduceLE, Int.reduceEq, Int.reduceNeg, Int.reduceAdd, Int.reduceSub, forall_const, ne_eq, undef, Nat.reducePow, Nat.reduceDiv, Nat.reduceMod, goR_call hs]
    exact hQ _ _ _ rfl ⟨rfl, rfl⟩
  | @node h r es J hr hg =>
    have ha : 1 ≤ (if h = 0 then 1 else 2) := by split <;> omega
    have e : decide ((0 : Int) ≤ (r : Int)) = true := decide_eq_true (by omega)
    rw [e] at hs
    have hf := first_spec (key := key) (above := true) ht hr ha (by omega) inb_none
    refine callX_of (call_go (F := _) rfl rfl fun Q hQ => ?_)
    simp only [symA, go_opsd, symB, wantedX, X.put, X.look, Arg.ev, keepOf, restrict, evs, evO, initEnv, xres, tup, noTup, cls, quiet, Nat.reduceAdd, Nat.reduceEqDiff, ↓reduceIte, reduceCtorEq, goInt, exists_eq_left', eq_self, Int.reduceLT, Int.reduceLE, Int.reduceEq, Int.reduceNeg, Int.reduceAdd, Int.reduceSub, forall_const, ne_eq, undef, Nat.reducePow, Nat.reduceDiv, Nat.reduceMod, goR_call hs, htg, goR_call hf, tupF]
    exact hQ _ _ _ rfl ⟨rfl, rfl⟩
theorem Before_spec (h : TreeM σ m p es k) : Ca 57 [Pt p, .string key] m (tupF (lastE key es)) m := by
  obtain ⟨vl, vf, ns, ls, fr, root, ht, hr, b1, b2⟩ := h
  have hs := some_spec ht
  have htg := ht.get
  cases hr with
  | nil hg =>
    have e : decide ((0 : Int) ≤ -1) = false := rfl
    rw [e] at hs
    refine callX_of (call_go (F := _) rfl rfl fun Q hQ => ?_)
    simp only [symA, go_opsd, symB, wantedX, X.put, X.look, Arg.ev, keepOf, restrict, evs, evO, initEnv, xres, tup, noTup, cls, quiet, Nat.reduceAdd, Nat.reduceEqDiff, ↓reduceIte, reduceCtorEq, goInt, exists_eq_left', eq_self, Int.reduceLT, Int.reduceLE, Int.reduceEq, Int.reduceNeg, Int.reduceAdd, Int.reduceSub, forall_const, ne_eq, undef, Nat.reducePow, Nat.reduceDiv, Nat.reduceMod, goR_call hs]
    exact hQ _ _ _ rfl ⟨rfl, rfl⟩
  | @node h r es J hr hg =>
    have ha : 1 ≤ (if h = 0 then 1 else 2) := by split <;> omega
    have e : decide ((0 : Int) ≤ (r : Int)) = true := decide_eq_true (by omega)
    rw [e] at hs
    have hf := last_spec (key := key) ht hr ha (by omega) inb_none
    refine callX_of (call_go (F := _) rfl rfl fun Q hQ => ?_)
    simp only [symA, go_opsd, symB, wantedX, X.put, X.look, Arg.ev, keepOf, restrict, evs, evO, initEnv, xres, tup, noTup, cls, quiet, Nat.reduceAdd, Nat.reduceEqDiff, ↓reduceIte, reduceCtorEq, goInt, exists_eq_left', eq_self, Int.reduceLT, Int.reduceLE, Int.reduceEq, Int.reduceNeg, Int.reduceAdd, Int.reduceSub, forall_const, ne_eq, undef, Nat.reducePow, Nat.reduceDiv, Nat.reduceMod, goR_call hs, htg, goR_call hf, tupF]
    exact hQ _ _ _ rfl ⟨rfl, rfl⟩
end
end Go.Proofs.Ytecceimgpeookaa

namespace Go.Proofs.Ytecceimgpeookaa
open Go X
set_option maxRecDepth 100000
attribute [local irreducible] X.Go' X.GoO X.GoR X.GoG X.GoC X.GoF X.GoFV X.GoFG X.Ex X.GoD X.GoDV X.GoDG
set_option linter.unusedVariables false
set_option linter.unusedSimpArgs false

def azE (m : Mem) (size bytes : Nat) (zero : List Value) (vs vx : Value) : Option XR := (asNat vx).bind fun n => if zero.length = size ∧ n ≤ 9223372036854775807 ∧ n * bytes ≤ 281474976710656 ∧ bytes ≠ 0 then (xappend m size bytes vs n (zerosOf zero n)).bind fun (v, m') => some (.val v m') else none
theorem xi_az {P : Program} {e : Env} {m : Mem} {size bytes : Nat} {zero : List Value} {x y : Arg} : xi P e m (.appendZeros size bytes zero x y) = (x.ev e).bind fun vs => (y.ev e).bind fun vx => azE m size bytes zero vs vx := (rfl)
def capE (m : Mem) (v : Value) : Option XR := match v with
    | .slice none _ c => some (.val (goInt c) m)
    | .slice (some a) _ c => match a.spot with
      | some 0 => none
      | _ => some (.val (goInt c) m)
    | _ => none
theorem xi_cap' {P : Program} {e : Env} {m : Mem} {x : Arg} : xi P e m (.cap x) = (x.ev e).bind fun v => capE m v := (rfl)
theorem cap_nil {m : Mem} : capE m (.slice none 0 0) = some (.val (I 0) m) := (rfl)
theorem zerosOf_one {z : Value} : ∀ {n : Nat}, zerosOf [z] n = List.replicate n z
  | 0 => rfl
  | n + 1 => by
    show [z] ++ zerosOf [z] n = _
    rw [zerosOf_one, List.replicate_succ]; rfl
theorem az_nil {m : Mem} {bytes n : Nat} {z : Value} (hn : 0 < n) (hl : n ≤ 10000) (h1 : 0 < bytes) (h2 : bytes ≤ 100) :
    ∃ v m', azE m 1 bytes [z] (.slice none 0 0) (nv n) = some (.val v m') ∧ OwnX [m.next] m' v (List.replicate n z) ∧ Nx m m' := by
  have hb : n * bytes ≤ 1000000 := Nat.mul_le_mul hl h2
  have ho := own2_of (F := [m.next]) (m := m.push { cells := List.replicate n z, rw := true, spare := some 1, kin := [] }) (xs := List.replicate n z) (id := m.next) (cap := n) (rest := []) (fun i hi => by
      rw [Mem.next_push]
      have : i = m.next := by simpa using hi
      omega) push_self (by simp) (by simp) rfl rfl (by simp) (by simp)
  rw [List.length_replicate] at ho
  refine ⟨.slice (some ⟨m.next, 0, some 0⟩) n n, _, ?_, ho, .push⟩
  unfold azE
  rw [show asNat (nv n) = some n from asNat_nat]
  simp only [Option.bind_some]
  rw [if_pos ⟨rfl, by omega, by omega, by omega⟩, zerosOf_one]
  simp only [xappend]
  rw [if_neg (by omega), if_pos ⟨by omega, by omega⟩]
  rfl
theorem cut_nil {m : Mem} : sliceE m 1 (.slice none 0 0) none (some (I 0)) none = some (.val (.slice none 0 0) m) := by kernel_rfl
theorem btwo {m : Mem} {p q : Option Addr} {a b c d : Nat} : buildSliceE m [.slice none 0 0] 1 2 [(0, .slice p a b), (1, .slice q c d)] = some (.val (.slice (some ⟨m.next, 0, none⟩) 2 2) (m.push { cells := [.slice p a b, .slice q c d], rw := true, spare := none, kin := [] })) := by kernel_rfl
section
variable {m : Mem} {xs ys : List Value}

theorem grow103 {n : Nat} (hl : n ≤ 10000) : ∃ v m' F, Ca 103 [.slice none 0 0, nv n] m v m' ∧ OwnX F m' v [] ∧ (∀ i ∈ F, m.next ≤ i) ∧ Nx m m' := by
  have h1 : ¬ (n : Int) < 0 := by omega
  have w1 : IntKind.i64.wrap (0 - 0) = 0 := wrap_i64 (by omega) (by omega)
  have w2 : IntKind.i64.wrap ((n : Int) - 0) = (n : Int) := by rw [wrap_i64 (by omega) (by omega)]; omega
  have w3 : IntKind.i64.wrap 0 = 0 := wrap_i64 (by omega) (by omega)
  have w4 : IntKind.i64.wrap (n : Int) = (n : Int) := wrap_i64 (by omega) (by omega)
  by_cases h0 : n = 0
  · subst h0
    refine ⟨.slice none 0 0, m, [], callX_of (call_go (F := _) rfl rfl fun Q hQ => ?_), .nil, by simp, .refl⟩
    have h2 : ¬ (0 : Int) < 0 := by omega
    have h3 : ¬ ((0 : Nat) : Int) < 0 := by omega
    have e0 : ((0 : Nat) : Int) = 0 := rfl
    simp only [symA, go_opsd, symB, wantedX, X.put, X.look, Arg.ev, keepOf, restrict, evs, evO, initEnv, xres, tup, noTup, cls, quiet, Nat.reduceAdd, Nat.reduceEqDiff, ↓reduceIte, reduceCtorEq, goInt, exists_eq_left', eq_self, Int.reduceLT, Int.reduceLE, Int.reduceEq, Int.reduceNeg, Int.reduceAdd, Int.reduceSub, forall_const, ne_eq, undef, Nat.reducePow, Nat.reduceDiv, Nat.reduceMod, e0, h2, xi_cap', cap_nil, w1, w2, w3]
    exact hQ _ _ _ rfl ⟨rfl, rfl⟩
  · have h2 : (0 : Int) < (n : Int) := by omega
    obtain ⟨v1, m1, a1, a2, a3⟩ := az_nil (m := m) (bytes := 16) (z := .string .empty) (by omega) hl (by omega) (by omega)
    obtain ⟨v2, c1, c2⟩ := a2.to (k := 0) (by omega)
    have e0 : ((0 : Nat) : Int) = 0 := rfl
    rw [e0] at c1
    refine ⟨v2, m1, [m.next], callX_of (call_go (F := _) rfl rfl fun Q hQ => ?_), by simpa using c2, by simp, a3⟩
    obtain ⟨p, n', d, rfl⟩ := sliceE_slice c1
    obtain ⟨p', c', rfl⟩ := a2.slice
    simp only [symA, go_opsd, symB, wantedX, X.put, X.look, Arg.ev, keepOf, restrict, evs, evO, initEnv, xres, tup, noTup, cls, quiet, Nat.reduceAdd, Nat.reduceEqDiff, ↓reduceIte, reduceCtorEq, goInt, exists_eq_left', eq_self, Int.reduceLT, Int.reduceLE, Int.reduceEq, Int.reduceNeg, Int.reduceAdd, Int.reduceSub, forall_const, ne_eq, undef, Nat.reducePow, Nat.reduceDiv, Nat.reduceMod, e0, h1, w1, w2, w3, w4, h2, xi_cap', cap_nil, cut_nil, xi_az, a1, c1]
    exact hQ _ _ _ rfl ⟨rfl, rfl⟩
theorem concat93 {q bb : Nat} {a b : Value} (hq : m.get q = some { cells := [a, b], rw := true, spare := none, kin := [] }) (hql : q < m.next) (ha : RdS bb m 1 a (ones xs)) (hb : RdS bb m 1 b (ones ys)) (hbb : bb ≤ m.next) (hl : xs.length + ys.length ≤ 1000) :
    ∃ v m' F, Ca 93 [.slice (some ⟨q, 0, none⟩) 2 2] m v m' ∧ OwnX F m' v (xs ++ ys) ∧ (∀ i ∈ F, m.next ≤ i) ∧ Nx m m' := by
  obtain ⟨v1, m1, F1, g1, g2, g3, g4⟩ := grow103 (m := m) (n := xs.length + ys.length) (by omega)
  have ha1 := ha.fr g4 hbb (fun _ h => h.elim)
  have hb1 := hb.fr g4 hbb (fun _ h => h.elim)
  obtain ⟨v2, m2, F2, k1, k2, k3, k4, k5⟩ := g2.append (bytes := 16) (zero := .string .empty) (ys := xs) ha1 (by simp; omega) (by omega)
  have f2 : Fm (fun j => m.next ≤ j) m1 m2 := k3.mono fun j _ hj => g3 j hj
  have hb2 : RdS bb m2 1 b (ones ys) := hb1.fr f2 (by have := g4.next; omega) (fun j hj => by omega)
  rw [List.nil_append] at k2
  obtain ⟨v3, m3, F3, l1, l2, l3, l4, l5⟩ := k2.append (bytes := 16) (zero := .string .empty) hb2 (by omega) (by omega)
  have hn4 := g4.next
  have g3' : ∀ i ∈ F2, m.next ≤ i := fun i hi => by
    rcases k5 i hi with q | q
    · exact g3 i q
    · omega
  have hn2 := k3.next
  have f3 : Fm (fun j => m.next ≤ j) m2 m3 := l3.mono fun j _ hj => g3' j hj
  have hq1 := g4.get hql (fun h => h) hq
  have hq2 := f2.get (i := q) (by omega) (by omega) hq1
  have hw : Nx m m3 := g4.comp (f2.comp f3 fun j hj h => h) fun j hj h => by omega
  obtain ⟨pa, ca, rfl⟩ := ha.slice
  obtain ⟨pb, cb, rfl⟩ := hb.slice
  simp only [ones_len] at *
  have g3'' : ∀ i ∈ F3, m.next ≤ i := fun i hi => by
    rcases l5 i hi with q | q
    · exact g3' i q
    · omega
  refine ⟨v3, m3, F3, callX_of (call_go (F := _) rfl rfl fun Q hQ => ?_), l2, g3'', hw⟩
  have c01 : (0 : Int) < 2 := by omega
  have c12 : (1 : Int) < 2 := by omega
  have c22 : ¬ (2 : Int) < 2 := by omega
  have i0 : ∀ M : Mem, indexAddrE M 1 (.slice (some ⟨q, 0, none⟩) 2 2) (I 0) = some (.val (.pointer (some ⟨q, 0, none⟩)) M) := fun M => by
    have := indexAddr_at (m := M) (size := 1) (i := 0) (len := 2) (c := 2) (a := ⟨q, 0, none⟩) (kd := .i64) (by omega)
    simpa using this
  have i1 : ∀ M : Mem, indexAddrE M 1 (.slice (some ⟨q, 0, none⟩) 2 2) (I 1) = some (.val (.pointer (some ⟨q, 1, none⟩)) M) := fun M => by
    have := indexAddr_at (m := M) (size := 1) (i := 1) (len := 2) (c := 2) (a := ⟨q, 0, none⟩) (kd := .i64) (by omega)
    simpa using this
  have w1 : IntKind.i64.wrap (0 + (xs.length : Int)) = (xs.length : Int) := by rw [wrap_i64 (by omega) (by omega)]; omega
  have w2 : IntKind.i64.wrap ((xs.length : Int) + (ys.length : Int)) = ((xs.length + ys.length : Nat) : Int) := by rw [wrap_i64 (by omega) (by omega)]; omega
  have w3 : IntKind.i64.wrap (0 + 1) = 1 := wrap_i64 (by omega) (by omega)
  have w4 : IntKind.i64.wrap (1 + 1) = 2 := wrap_i64 (by omega) (by omega)
  have w5 : IntKind.i64.wrap 1 = 1 := wrap_i64 (by omega) (by omega)
  have w6 : IntKind.i64.wrap 2 = 2 := wrap_i64 (by omega) (by omega)
  have w7 : IntKind.i64.wrap (xs.length : Int) = (xs.length : Int) := by rw [wrap_i64 (by omega) (by omega)]
  have p1 : ¬ (xs.length : Int) < 0 := by omega
  have p2 : ¬ ((xs.length + ys.length : Nat) : Int) < 0 := by omega
  have e2 : ((2 : Nat) : Int) = 2 := rfl
  simp only [symA, go_opsd, symB, wantedX, X.put, X.look, Arg.ev, keepOf, restrict, evs, evO, initEnv, xres, tup, noTup, cls, quiet, Nat.reduceAdd, Nat.reduceEqDiff, ↓reduceIte, reduceCtorEq, goInt, exists_eq_left', eq_self, Int.reduceLT, Int.reduceLE, Int.reduceEq, Int.reduceNeg, Int.reduceAdd, Int.reduceSub, forall_const, ne_eq, undef, Nat.reducePow, Nat.reduceDiv, Nat.reduceMod, e2]
  refine loop_go (fun q' e m' => m' = m ∧ ((q' = 2 ∧ e = [(0, .slice (some ⟨q, 0, none⟩) 2 2), (3, I 0), (9, .slice (some ⟨q, 0, none⟩) 2 2), (10, I 2), (11, I 0)]) ∨ (q' = 1 ∧ e = [(0, .slice (some ⟨q, 0, none⟩) 2 2), (3, I (xs.length : Int)), (9, .slice (some ⟨q, 0, none⟩) 2 2), (10, I 2), (11, I 1)]) ∨ (q' = 0 ∧ e = [(0, .slice (some ⟨q, 0, none⟩) 2 2), (3, I ((xs.length + ys.length : Nat) : Int)), (9, .slice (some ⟨q, 0, none⟩) 2 2), (10, I 2), (11, I 2)]))) 2 ⟨rfl, .inl ⟨rfl, rfl⟩⟩ ?_
  rintro q' e m' N' B' hN hB ⟨rfl, ⟨rfl, rfl⟩ | ⟨rfl, rfl⟩ | ⟨rfl, rfl⟩⟩
  · simp only [symA, go_opsd, symB, wantedX, X.put, X.look, Arg.ev, keepOf, restrict, evs, evO, initEnv, xres, tup, noTup, cls, quiet, Nat.reduceAdd, Nat.reduceEqDiff, ↓reduceIte, reduceCtorEq, goInt, exists_eq_left', eq_self, Int.reduceLT, Int.reduceLE, Int.reduceEq, Int.reduceNeg, Int.reduceAdd, Int.reduceSub, forall_const, ne_eq, undef, Nat.reducePow, Nat.reduceDiv, Nat.reduceMod, c01, i0, hq, w1, w3, w5, w7, p1]
    exact hN _ _ 1 (by omega) ⟨rfl, .inr (.inl ⟨rfl, rfl⟩)⟩
  · simp only [symA, go_opsd, symB, wantedX, X.put, X.look, Arg.ev, keepOf, restrict, evs, evO, initEnv, xres, tup, noTup, cls, quiet, Nat.reduceAdd, Nat.reduceEqDiff, ↓reduceIte, reduceCtorEq, goInt, exists_eq_left', eq_self, Int.reduceLT, Int.reduceLE, Int.reduceEq, Int.reduceNeg, Int.reduceAdd, Int.reduceSub, forall_const, ne_eq, undef, Nat.reducePow, Nat.reduceDiv, Nat.reduceMod, c12, i1, hq, w2, w4, w6, p2]
    exact hN _ _ 0 (by omega) ⟨rfl, .inr (.inr ⟨rfl, rfl⟩)⟩
  · simp only [symA, go_opsd, symB, wantedX, X.put, X.look, Arg.ev, keepOf, restrict, evs, evO, initEnv, xres, tup, noTup, cls, quiet, Nat.reduceAdd, Nat.reduceEqDiff, ↓reduceIte, reduceCtorEq, goInt, exists_eq_left', eq_self, Int.reduceLT, Int.reduceLE, Int.reduceEq, Int.reduceNeg, Int.reduceAdd, Int.reduceSub, forall_const, ne_eq, undef, Nat.reducePow, Nat.reduceDiv, Nat.reduceMod, c22]
    refine hB _ _ _ ?_
    simp only [symA, go_opsd, symB, wantedX, X.put, X.look, Arg.ev, keepOf, restrict, evs, evO, initEnv, xres, tup, noTup, cls, quiet, Nat.reduceAdd, Nat.reduceEqDiff, ↓reduceIte, reduceCtorEq, goInt, exists_eq_left', eq_self, Int.reduceLT, Int.reduceLE, Int.reduceEq, Int.reduceNeg, Int.reduceAdd, Int.reduceSub, forall_const, ne_eq, undef, Nat.reducePow, Nat.reduceDiv, Nat.reduceMod, goR_call g1, e2]
    refine loop_go (fun q' e m' => ((q' = 2 ∧ m' = m1 ∧ e = [(6, v1), (25, .slice (some ⟨q, 0, none⟩) 2 2), (26, I 2), (27, I 0)]) ∨ (q' = 1 ∧ m' = m2 ∧ e = [(6, v2), (25, .slice (some ⟨q, 0, none⟩) 2 2), (26, I 2), (27, I 1)]) ∨ (q' = 0 ∧ m' = m3 ∧ e = [(6, v3), (25, .slice (some ⟨q, 0, none⟩) 2 2), (26, I 2), (27, I 2)]))) 2 (.inl ⟨rfl, rfl, rfl⟩) ?_
    rintro q' e m'' N' B' hN hB (⟨rfl, rfl, rfl⟩ | ⟨rfl, rfl, rfl⟩ | ⟨rfl, rfl, rfl⟩)
    · simp only [symA, go_opsd, symB, wantedX, X.put, X.look, Arg.ev, keepOf, restrict, evs, evO, initEnv, xres, tup, noTup, cls, quiet, Nat.reduceAdd, Nat.reduceEqDiff, ↓reduceIte, reduceCtorEq, goInt, exists_eq_left', eq_self, Int.reduceLT, Int.reduceLE, Int.reduceEq, Int.reduceNeg, Int.reduceAdd, Int.reduceSub, forall_const, ne_eq, undef, Nat.reducePow, Nat.reduceDiv, Nat.reduceMod, c01, i0, hq1, k1, w3, w5]
      exact hN _ _ 1 (by omega) (.inr (.inl ⟨rfl, rfl, rfl⟩))
    · simp only [symA, go_opsd, symB, wantedX, X.put, X.look, Arg.ev, keepOf, restrict, evs, evO, initEnv, xres, tup, noTup, cls, quiet, Nat.reduceAdd, Nat.reduceEqDiff, ↓reduceIte, reduceCtorEq, goInt, exists_eq_left', eq_self, Int.reduceLT, Int.reduceLE, Int.reduceEq, Int.reduceNeg, Int.reduceAdd, Int.reduceSub, forall_const, ne_eq, undef, Nat.reducePow, Nat.reduceDiv, Nat.reduceMod, c12, i1, hq2, l1, w4, w6]
      exact hN _ _ 0 (by omega) (.inr (.inr ⟨rfl, rfl, rfl⟩))
    · simp only [symA, go_opsd, symB, wantedX, X.put, X.look, Arg.ev, keepOf, restrict, evs, evO, initEnv, xres, tup, noTup, cls, quiet, Nat.reduceAdd, Nat.reduceEqDiff, ↓reduceIte, reduceCtorEq, goInt, exists_eq_left', eq_self, Int.reduceLT, Int.reduceLE, Int.reduceEq, Int.reduceNeg, Int.reduceAdd, Int.reduceSub, forall_const, ne_eq, undef, Nat.reducePow, Nat.reduceDiv, Nat.reduceMod, c22]
      refine hB _ _ _ ?_
      obtain ⟨p3, c3, rfl⟩ := l2.slice
      simp only [symA, go_opsd, symB, wantedX, X.put, X.look, Arg.ev, keepOf, restrict, evs, evO, initEnv, xres, tup, noTup, cls, quiet, Nat.reduceAdd, Nat.reduceEqDiff, ↓reduceIte, reduceCtorEq, goInt, exists_eq_left', eq_self, Int.reduceLT, Int.reduceLE, Int.reduceEq, Int.reduceNeg, Int.reduceAdd, Int.reduceSub, forall_const, ne_eq, undef, Nat.reducePow, Nat.reduceDiv, Nat.reduceMod]
      exact hQ _ _ _ rfl ⟨rfl, rfl⟩

theorem grow104 {n : Nat} (hl : n ≤ 10000) : ∃ v m' F, Ca 104 [.slice none 0 0, nv n] m v m' ∧ OwnX F m' v [] ∧ (∀ i ∈ F, m.next ≤ i) ∧ Nx m m' := by
  have h1 : ¬ (n : Int) < 0 := by omega
  have w1 : IntKind.i64.wrap (0 - 0) = 0 := wrap_i64 (by omega) (by omega)
  have w2 : IntKind.i64.wrap ((n : Int) - 0) = (n : Int) := by rw [wrap_i64 (by omega) (by omega)]; omega
  have w3 : IntKind.i64.wrap 0 = 0 := wrap_i64 (by omega) (by omega)
  have w4 : IntKind.i64.wrap (n : Int) = (n : Int) := wrap_i64 (by omega) (by omega)
  by_cases h0 : n = 0
  · subst h0
    refine ⟨.slice none 0 0, m, [], callX_of (call_go (F := _) rfl rfl fun Q hQ => ?_), .nil, by simp, .refl⟩
    have h2 : ¬ (0 : Int) < 0 := by omega
    have h3 : ¬ ((0 : Nat) : Int) < 0 := by omega
    have e0 : ((0 : Nat) : Int) = 0 := rfl
    simp only [symA, go_opsd, symB, wantedX, X.put, X.look, Arg.ev, keepOf, restrict, evs, evO, initEnv, xres, tup, noTup, cls, quiet, Nat.reduceAdd, Nat.reduceEqDiff, ↓reduceIte, reduceCtorEq, goInt, exists_eq_left', eq_self, Int.reduceLT, Int.reduceLE, Int.reduceEq, Int.reduceNeg, Int.reduceAdd, Int.reduceSub, forall_const, ne_eq, undef, Nat.reducePow, Nat.reduceDiv, Nat.reduceMod, e0, h2, xi_cap', cap_nil, w1, w2, w3]
    exact hQ _ _ _ rfl ⟨rfl, rfl⟩
  · have h2 : (0 : Int) < (n : Int) := by omega
    obtain ⟨v1, m1, a1, a2, a3⟩ := az_nil (m := m) (bytes := 8) (z := I 0) (by omega) hl (by omega) (by omega)
    obtain ⟨v2, c1, c2⟩ := a2.to (k := 0) (by omega)
    have e0 : ((0 : Nat) : Int) = 0 := rfl
    rw [e0] at c1
    refine ⟨v2, m1, [m.next], callX_of (call_go (F := _) rfl rfl fun Q hQ => ?_), by simpa using c2, by simp, a3⟩
    obtain ⟨p, n', d, rfl⟩ := sliceE_slice c1
    obtain ⟨p', c', rfl⟩ := a2.slice
    simp only [symA, go_opsd, symB, wantedX, X.put, X.look, Arg.ev, keepOf, restrict, evs, evO, initEnv, xres, tup, noTup, cls, quiet, Nat.reduceAdd, Nat.reduceEqDiff, ↓reduceIte, reduceCtorEq, goInt, exists_eq_left', eq_self, Int.reduceLT, Int.reduceLE, Int.reduceEq, Int.reduceNeg, Int.reduceAdd, Int.reduceSub, forall_const, ne_eq, undef, Nat.reducePow, Nat.reduceDiv, Nat.reduceMod, e0, h1, w1, w2, w3, w4, h2, xi_cap', cap_nil, cut_nil, xi_az, a1, c1]
    exact hQ _ _ _ rfl ⟨rfl, rfl⟩
theorem concat94 {q bb : Nat} {a b : Value} (hq : m.get q = some { cells := [a, b], rw := true, spare := none, kin := [] }) (hql : q < m.next) (ha : RdS bb m 1 a (ones xs)) (hb : RdS bb m 1 b (ones ys)) (hbb : bb ≤ m.next) (hl : xs.length + ys.length ≤ 1000) :
    ∃ v m' F, Ca 94 [.slice (some ⟨q, 0, none⟩) 2 2] m v m' ∧ OwnX F m' v (xs ++ ys) ∧ (∀ i ∈ F, m.next ≤ i) ∧ Nx m m' := by
  obtain ⟨v1, m1, F1, g1, g2, g3, g4⟩ := grow104 (m := m) (n := xs.length + ys.length) (by omega)
  have ha1 := ha.fr g4 hbb (fun _ h => h.elim)
  have hb1 := hb.fr g4 hbb (fun _ h => h.elim)
  obtain ⟨v2, m2, F2, k1, k2, k3, k4, k5⟩ := g2.append (bytes := 8) (zero := I 0) (ys := xs) ha1 (by simp; omega) (by omega)
  have f2 : Fm (fun j => m.next ≤ j) m1 m2 := k3.mono fun j _ hj => g3 j hj
  have hb2 : RdS bb m2 1 b (ones ys) := hb1.fr f2 (by have := g4.next; omega) (fun j hj => by omega)
  rw [List.nil_append] at k2
  obtain ⟨v3, m3, F3, l1, l2, l3, l4, l5⟩ := k2.append (bytes := 8) (zero := I 0) hb2 (by omega) (by omega)
  have hn4 := g4.next
  have g3' : ∀ i ∈ F2, m.next ≤ i := fun i hi => by
    rcases k5 i hi with q | q
    · exact g3 i q
    · omega
  have hn2 := k3.next
  have f3 : Fm (fun j => m.next ≤ j) m2 m3 := l3.mono fun j _ hj => g3' j hj
  have hq1 := g4.get hql (fun h => h) hq
  have hq2 := f2.get (i := q) (by omega) (by omega) hq1
  have hw : Nx m m3 := g4.comp (f2.comp f3 fun j hj h => h) fun j hj h => by omega
  obtain ⟨pa, ca, rfl⟩ := ha.slice
  obtain ⟨pb, cb, rfl⟩ := hb.slice
  simp only [ones_len] at *
  have g3'' : ∀ i ∈ F3, m.next ≤ i := fun i hi => by
    rcases l5 i hi with q | q
    · exact g3' i q
    · omega
  refine ⟨v3, m3, F3, callX_of (call_go (F := _) rfl rfl fun Q hQ => ?_), l2, g3'', hw⟩
  have c01 : (0 : Int) < 2 := by omega
  have c12 : (1 : Int) < 2 := by omega
  have c22 : ¬ (2 : Int) < 2 := by omega
  have i0 : ∀ M : Mem, indexAddrE M 1 (.slice (some ⟨q, 0, none⟩) 2 2) (I 0) = some (.val (.pointer (some ⟨q, 0, none⟩)) M) := fun M => by
    have := indexAddr_at (m := M) (size := 1) (i := 0) (len := 2) (c := 2) (a := ⟨q, 0, none⟩) (kd := .i64) (by omega)
    simpa using this
  have i1 : ∀ M : Mem, indexAddrE M 1 (.slice (some ⟨q, 0, none⟩) 2 2) (I 1) = some (.val (.pointer (some ⟨q, 1, none⟩)) M) := fun M => by
    have := indexAddr_at (m := M) (size := 1) (i := 1) (len := 2) (c := 2) (a := ⟨q, 0, none⟩) (kd := .i64) (by omega)
    simpa using this
  have w1 : IntKind.i64.wrap (0 + (xs.length : Int)) = (xs.length : Int) := by rw [wrap_i64 (by omega) (by omega)]; omega
  have w2 : IntKind.i64.wrap ((xs.length : Int) + (ys.length : Int)) = ((xs.length + ys.length : Nat) : Int) := by rw [wrap_i64 (by omega) (by omega)]; omega
  have w3 : IntKind.i64.wrap (0 + 1) = 1 := wrap_i64 (by omega) (by omega)
  have w4 : IntKind.i64.wrap (1 + 1) = 2 := wrap_i64 (by omega) (by omega)
  have w5 : IntKind.i64.wrap 1 = 1 := wrap_i64 (by omega) (by omega)
  have w6 : IntKind.i64.wrap 2 = 2 := wrap_i64 (by omega) (by omega)
  have w7 : IntKind.i64.wrap (xs.length : Int) = (xs.length : Int) := by rw [wrap_i64 (by omega) (by omega)]
  have p1 : ¬ (xs.length : Int) < 0 := by omega
  have p2 : ¬ ((xs.length + ys.length : Nat) : Int) < 0 := by omega
  have e2 : ((2 : Nat) : Int) = 2 := rfl
  simp only [symA, go_opsd, symB, wantedX, X.put, X.look, Arg.ev, keepOf, restrict, evs, evO, initEnv, xres, tup, noTup, cls, quiet, Nat.reduceAdd, Nat.reduceEqDiff, ↓reduceIte, reduceCtorEq, goInt, exists_eq_left', eq_self, Int.reduceLT, Int.reduceLE, Int.reduceEq, Int.reduceNeg, Int.reduceAdd, Int.reduceSub, forall_const, ne_eq, undef, Nat.reducePow, Nat.reduceDiv, Nat.reduceMod, e2]
  refine loop_go (fun q' e m' => m' = m ∧ ((q' = 2 ∧ e = [(0, .slice (some ⟨q, 0, none⟩) 2 2), (3, I 0), (9, .slice (some ⟨q, 0, none⟩) 2 2), (10, I 2), (11, I 0)]) ∨ (q' = 1 ∧ e = [(0, .slice (some ⟨q, 0, none⟩) 2 2), (3, I (xs.length : Int)), (9, .slice (some ⟨q, 0, none⟩) 2 2), (10, I 2), (11, I 1)]) ∨ (q' = 0 ∧ e = [(0, .slice (some ⟨q, 0, none⟩) 2 2), (3, I ((xs.length + ys.length : Nat) : Int)), (9, .slice (some ⟨q, 0, none⟩) 2 2), (10, I 2), (11, I 2)]))) 2 ⟨rfl, .inl ⟨rfl, rfl⟩⟩ ?_
  rintro q' e m' N' B' hN hB ⟨rfl, ⟨rfl, rfl⟩ | ⟨rfl, rfl⟩ | ⟨rfl, rfl⟩⟩
  · simp only [symA, go_opsd, symB, wantedX, X.put, X.look, Arg.ev, keepOf, restrict, evs, evO, initEnv, xres, tup, noTup, cls, quiet, Nat.reduceAdd, Nat.reduceEqDiff, ↓reduceIte, reduceCtorEq, goInt, exists_eq_left', eq_self, Int.reduceLT, Int.reduceLE, Int.reduceEq, Int.reduceNeg, Int.reduceAdd, Int.reduceSub, forall_const, ne_eq, undef, Nat.reducePow, Nat.reduceDiv, Nat.reduceMod, c01, i0, hq, w1, w3, w5, w7, p1]
    exact hN _ _ 1 (by omega) ⟨rfl, .inr (.inl ⟨rfl, rfl⟩)⟩
  · simp only [symA, go_opsd, symB, wantedX, X.put, X.look, Arg.ev, keepOf, restrict, evs, evO, initEnv, xres, tup, noTup, cls, quiet, Nat.reduceAdd, Nat.reduceEqDiff, ↓reduceIte, reduceCtorEq, goInt, exists_eq_left', eq_self, Int.reduceLT, Int.reduceLE, Int.reduceEq, Int.reduceNeg, Int.reduceAdd, Int.reduceSub, forall_const, ne_eq, undef, Nat.reducePow, Nat.reduceDiv, Nat.reduceMod, c12, i1, hq, w2, w4, w6, p2]
    exact hN _ _ 0 (by omega) ⟨rfl, .inr (.inr ⟨rfl, rfl⟩)⟩
  · simp only [symA, go_opsd, symB, wantedX, X.put, X.look, Arg.ev, keepOf, restrict, evs, evO, initEnv, xres, tup, noTup, cls, quiet, Nat.reduceAdd, Nat.reduceEqDiff, ↓reduceIte, reduceCtorEq, goInt, exists_eq_left', eq_self, Int.reduceLT, Int.reduceLE, Int.reduceEq, Int.reduceNeg, Int.reduceAdd, Int.reduceSub, forall_const, ne_eq, undef, Nat.reducePow, Nat.reduceDiv, Nat.reduceMod, c22]
    refine hB _ _ _ ?_
    simp only [symA, go_opsd, symB, wantedX, X.put, X.look, Arg.ev, keepOf, restrict, evs, evO, initEnv, xres, tup, noTup, cls, quiet, Nat.reduceAdd, Nat.reduceEqDiff, ↓reduceIte, reduceCtorEq, goInt, exists_eq_left', eq_self, Int.reduceLT, Int.reduceLE, Int.reduceEq, Int.reduceNeg, Int.reduceAdd, Int.reduceSub, forall_const, ne_eq, undef, Nat.reducePow, Nat.reduceDiv, Nat.reduceMod, goR_call g1, e2]
    refine loop_go (fun q' e m' => ((q' = 2 ∧ m' = m1 ∧ e = [(6, v1), (25, .slice (some ⟨q, 0, none⟩) 2 2), (26, I 2), (27, I 0)]) ∨ (q' = 1 ∧ m' = m2 ∧ e = [(6, v2), (25, .slice (some ⟨q, 0, none⟩) 2 2), (26, I 2), (27, I 1)]) ∨ (q' = 0 ∧ m' = m3 ∧ e = [(6, v3), (25, .slice (some ⟨q, 0, none⟩) 2 2), (26, I 2), (27, I 2)]))) 2 (.inl ⟨rfl, rfl, rfl⟩) ?_
    rintro q' e m'' N' B' hN hB (⟨rfl, rfl, rfl⟩ | ⟨rfl, rfl, rfl⟩ | ⟨rfl, rfl, rfl⟩)
    · simp only [symA, go_opsd, symB, wantedX, X.put, X.look, Arg.ev, keepOf, restrict, evs, evO, initEnv, xres, tup, noTup, cls, quiet, Nat.reduceAdd, Nat.reduceEqDiff, ↓reduceIte, reduceCtorEq, goInt, exists_eq_left', eq_self, Int.reduceLT, Int.reduceLE, Int.reduceEq, Int.reduceNeg, Int.reduceAdd, Int.reduceSub, forall_const, ne_eq, undef, Nat.reducePow, Nat.reduceDiv, Nat.reduceMod, c01, i0, hq1, k1, w3, w5]
      exact hN _ _ 1 (by omega) (.inr (.inl ⟨rfl, rfl, rfl⟩))
    · simp only [symA, go_opsd, symB, wantedX, X.put, X.look, Arg.ev, keepOf, restrict, evs, evO, initEnv, xres, tup, noTup, cls, quiet, Nat.reduceAdd, Nat.reduceEqDiff, ↓reduceIte, reduceCtorEq, goInt, exists_eq_left', eq_self, Int.reduceLT, Int.reduceLE, Int.reduceEq, Int.reduceNeg, Int.reduceAdd, Int.reduceSub, forall_const, ne_eq, undef, Nat.reducePow, Nat.reduceDiv, Nat.reduceMod, c12, i1, hq2, l1, w4, w6]
      exact hN _ _ 0 (by omega) (.inr (.inr ⟨rfl, rfl, rfl⟩))
    · simp only [symA, go_opsd, symB, wantedX, X.put, X.look, Arg.ev, keepOf, restrict, evs, evO, initEnv, xres, tup, noTup, cls, quiet, Nat.reduceAdd, Nat.reduceEqDiff, ↓reduceIte, reduceCtorEq, goInt, exists_eq_left', eq_self, Int.reduceLT, Int.reduceLE, Int.reduceEq, Int.reduceNeg, Int.reduceAdd, Int.reduceSub, forall_const, ne_eq, undef, Nat.reducePow, Nat.reduceDiv, Nat.reduceMod, c22]
      refine hB _ _ _ ?_
      obtain ⟨p3, c3, rfl⟩ := l2.slice
      simp only [symA, go_opsd, symB, wantedX, X.put, X.look, Arg.ev, keepOf, restrict, evs, evO, initEnv, xres, tup, noTup, cls, quiet, Nat.reduceAdd, Nat.reduceEqDiff, ↓reduceIte, reduceCtorEq, goInt, exists_eq_left', eq_self, Int.reduceLT, Int.reduceLE, Int.reduceEq, Int.reduceNeg, Int.reduceAdd, Int.reduceSub, forall_const, ne_eq, undef, Nat.reducePow, Nat.reduceDiv, Nat.reduceMod]
      exact hQ _ _ _ rfl ⟨rfl, rfl⟩

end
end Go.Proofs.Ytecceimgpeookaa

namespace Go.Proofs.Ytecceimgpeookaa
open Go X
set_option maxRecDepth 100000
attribute [local irreducible] X.Go' X.GoO X.GoR X.GoG X.GoC X.GoF X.GoFV X.GoFG X.Ex X.GoD X.GoDV X.GoDG
set_option linter.unusedVariables false
set_option linter.unusedSimpArgs false

section
variable {H : List Nat} {σ σ' : Nat → Tag} {m m' : Mem} {p : Nat} {vl vf v vx : Value} {ns : List (Nat → Value)} {ls : List Nd} {fr : List Nat} {root n : Int} {xs ys : List Value} {i f bb : Nat}
theorem TMH.chf (h : TMH H σ m p vl vf ns ls fr root n) (hi : i ∈ H) (hc : Ch (.fld f i) σ σ' m m') : TMH H σ' m' p vl vf ns ls fr root n :=
  h.ch hc (by simp) (by simp) (by simp) fun f' i' _ hi' q => hi' (by
    have : i = i' := by injection q
    rwa [← this])
/-- Behind a slice of a node in hand. -/
theorem hand_append {bytes : Nat} {zero : Value} (h : TMH H σ m p vl vf ns ls fr root n) (hi : i ∈ H) (hT : Tg σ (.fld f i) m v xs) (hx : RdS bb m 1 vx (ones ys)) (hl : xs.length + ys.length ≤ 100000) (hb : bytes ≤ 100) :
    ∃ v' m' σ', appendE m 1 bytes [zero] v vx = some (.val v' m') ∧ Tg σ' (.fld f i) m' v' (xs ++ ys) ∧ Ch (.fld f i) σ σ' m m' ∧ TMH H σ' m' p vl vf ns ls fr root n := by
  obtain ⟨F, o1, o2⟩ := hT
  obtain ⟨v', m', F', a1, a2, a3, a4, a5⟩ := o1.append (bytes := bytes) (zero := zero) hx hl hb
  obtain ⟨σ', s1, s2⟩ := tag_of (σ := σ) (t := .fld f i) o2 a2 a3 a5 o1.lt
  exact ⟨v', m', σ', a1, s1, s2, h.chf hi s2⟩
theorem row_keep {b : Nat} {o : XObj} (hc : Ch (.fld f i) σ σ' m m') (hb : b < m.next) (hn : ∀ f i, σ b ≠ .fld f i) (hg : m.get b = some o) : m'.get b = some o ∧ σ' b = σ b :=
  ⟨hc.fm.get hb (hn f i) hg, hc.sig b hb⟩
theorem sl_cells {xs : List Value} {m : Mem} {v : Value} {t : Tag} (h : Tg σ t m v xs) : v.cells = #[v] ∧ noTup v = true ∧ veq v v = true := by
  obtain ⟨q, c, rfl⟩ := h.slice
  exact ⟨rfl, rfl, veq_slice⟩
/-- A key behind a node's keys. -/
theorem app1 {mA : Mem} {N : Nd} {s : Key} (h : TMH [] σ m p vl vf ns ls fr root n) (hN : ls[i]? = some N) (hl : N.keys.length ≤ 1000) (hA : m.push (box1 (.string s)) = mA) :
    ∃ id cp o g v1 mB mC σ', vl = .slice (some ⟨id, 0, some 0⟩) ls.length cp ∧ m.get id = some o ∧ mA.get id = some o ∧ o.cells[i * 3]? = some (g 0) ∧ ns[i]? = some g ∧ veq (g 0) (g 0) = true ∧
      appendE mA 1 16 [.string .empty] (g 0) (.slice (some ⟨m.next, 0, none⟩) 1 1) = some (.val v1 mB) ∧ storeE mB 1 (.pointer (some ⟨id, i * 3, none⟩)) v1 = some (.skip mC) ∧
      TMH [] σ' mC p vl vf (ns.set i (upd g 0 v1)) (ls.set i ⟨N.keys ++ [s], N.nums, N.kids⟩) fr root n ∧ Gr σ σ' m mC := by
  have hil : i < ls.length := (List.getElem?_eq_some_iff.1 hN).1
  obtain ⟨g, k1, k2, h3⟩ := h.take (i := i) (by simp) hN
  obtain ⟨id, o, cp, hvl, hgo, hco, hld, hlt, hsn⟩ := h.at k1
  have fA : Nx m mA := hA ▸ .push
  have nA : mA.next = m.next + 1 := by rw [← hA]; simp
  have gA : mA.get id = some o := fA.get hlt (fun h => h) hgo
  have l0 : (N.fld 0).length = N.keys.length := List.length_map ..
  obtain ⟨v1, mB, σ1, a1, a2, a3, a4⟩ := hand_append (bytes := 16) (zero := .string .empty) (h3.nx fA) (i := i) (by simp) ((k2 0 (by omega)).nx fA) (hA ▸ own_one : OwnX [m.next] mA (.slice (some ⟨m.next, 0, none⟩) 1 1) [.string s]).rd (by simp; omega) (by omega)
  obtain ⟨c1, c2, c3⟩ := sl_cells a2
  obtain ⟨id', cp', mC, hv', st1, st2, st3⟩ := a4.store (i := i) (f := 0) (v := v1) (by simp) k1 (by omega) c1 c2
  rw [hvl] at hv'
  cases hv'
  have hni : i < ns.length := (List.getElem?_eq_some_iff.1 k1).1
  have hT := st2.give1 (N := ⟨N.keys ++ [s], N.nums, N.kids⟩) (g := upd g 0 v1) hil (List.getElem?_set_self hni) fun f hf => by
    match f, hf with
    | 0, _ =>
      have e : Nd.fld ⟨N.keys ++ [s], N.nums, N.kids⟩ 0 = N.fld 0 ++ [.string s] := by show (N.keys ++ [s]).map sv = N.keys.map sv ++ _; simp
      rw [e]; exact a2.ch st3 (by simp)
    | 1, _ => exact (((k2 1 (by omega)).nx fA).ch a3 (by simp)).ch st3 (by simp)
    | 2, _ => exact (((k2 2 (by omega)).nx fA).ch a3 (by simp)).ch st3 (by simp)
  exact ⟨id, cp, o, g, v1, mB, mC, σ1, hvl, hgo, gA, hco 0 (by omega), k1, (sl_cells (k2 0 (by omega))).2.2, a1, st1, hT, (Gr.nx fA).trans ((Gr.ch a3 rfl).trans (Gr.ch st3 rfl))⟩
/-- Another node's elements behind a node's. -/
theorem app3 {j : Nat} {A B : Nd} {ga gb : Nat → Value} (h : TMH [] σ m p vl vf ns ls fr root n) (hA : ls[i]? = some A) (hB : ls[j]? = some B) (hij : i ≠ j) (ha : ns[i]? = some ga) (hb : ns[j]? = some gb)
    (hl : ∀ f, f < 3 → (A.fld f).length + (B.fld f).length ≤ 1000) {id o cp} (hvl : vl = .slice (some ⟨id, 0, some 0⟩) ls.length cp) (hgo : m.get id = some o) :
    ∃ v5 m5 v6 m6 v7 m7 m8 m9 m10 σ', appendE m 1 16 [.string .empty] (ga 0) (gb 0) = some (.val v5 m5) ∧ appendE m5 1 8 [I 0] (ga 1) (gb 1) = some (.val v6 m6) ∧ appendE m6 1 8 [I 0] (ga 2) (gb 2) = some (.val v7 m7) ∧
      storeE m7 1 (.pointer (some ⟨id, i * 3, none⟩)) v5 = some (.skip m8) ∧ storeE m8 1 (.pointer (some ⟨id, i * 3 + 1, none⟩)) v6 = some (.skip m9) ∧ storeE m9 1 (.pointer (some ⟨id, i * 3 + 2, none⟩)) v7 = some (.skip m10) ∧
      (∀ f, f < 3 → o.cells[i * 3 + f]? = some (ga f)) ∧ (∀ f, f < 3 → veq (ga f) (ga f) = true ∧ veq (gb f) (gb f) = true) ∧ (veq v5 v5 = true ∧ veq v6 v6 = true ∧ veq v7 v7 = true) ∧
      (∀ b ob, b < m.next → (∀ f i, σ b ≠ .fld f i) → m.get b = some ob → m5.get b = some ob ∧ m6.get b = some ob ∧ m7.get b = some ob) ∧
      TMH [] σ' m10 p vl vf (ns.set i (fun f => if f = 0 then v5 else if f = 1 then v6 else v7)) (ls.set i ⟨A.keys ++ B.keys, A.nums ++ B.nums, A.kids ++ B.kids⟩) fr root n ∧ Gr σ σ' m m10 := by
  have hil : i < ls.length := (List.getElem?_eq_some_iff.1 hA).1
  obtain ⟨g, k1, k2, h3⟩ := h.take (i := i) (by simp) hA
  rw [ha] at k1; cases k1
  obtain ⟨g', k1', q2⟩ := h.nd j B (by simp) hB
  rw [hb] at k1'; cases k1'
  obtain ⟨id', o', cp', hvl', hgo', hco, hld, hlt, hsn⟩ := h.at ha
  rw [hvl] at hvl'
  cases hvl'
  rw [hgo] at hgo'
  cases hgo'
  have nij : ∀ f f', Tag.fld f j ≠ Tag.fld f' i := fun f f' q => hij (by injection q with q1 q2; exact q2.symm)
  obtain ⟨v5, m5, σ5, a1, a2, a3, a4⟩ := hand_append (bytes := 16) (zero := .string .empty) h3 (i := i) (by simp) (k2 0 (by omega)) (q2 0 (by omega)).rd (by have := hl 0 (by omega); omega) (by omega)
  obtain ⟨v6, m6, σ6, b1, b2, b3, b4⟩ := hand_append (bytes := 8) (zero := I 0) a4 (i := i) (by simp) ((k2 1 (by omega)).ch a3 (by simp)) ((q2 1 (by omega)).ch a3 (nij _ _)).rd (by have := hl 1 (by omega); omega) (by omega)
  obtain ⟨v7, m7, σ7, c1, c2, c3, c4⟩ := hand_append (bytes := 8) (zero := I 0) b4 (i := i) (by simp) (((k2 2 (by omega)).ch a3 (by simp)).ch b3 (by simp)) (((q2 2 (by omega)).ch a3 (nij _ _)).ch b3 (nij _ _)).rd (by have := hl 2 (by omega); omega) (by omega)
  obtain ⟨x5, y5, z5⟩ := sl_cells a2
  obtain ⟨x6, y6, z6⟩ := sl_cells b2
  obtain ⟨x7, y7, z7⟩ := sl_cells c2
  have hni : i < ns.length := (List.getElem?_eq_some_iff.1 ha).1
  obtain ⟨id', cp', m8, hv', st1, st2, st3⟩ := c4.store (i := i) (f := 0) (v := v5) (by simp) ha (by omega) x5 y5
  rw [hvl] at hv'; cases hv'
  obtain ⟨id', cp', m9, hv', su1, su2, su3⟩ := st2.store (i := i) (f := 1) (v := v6) (g := upd ga 0 v5) (by simp) (List.getElem?_set_self hni) (by omega) x6 y6
  rw [hvl] at hv'; cases hv'
  obtain ⟨id', cp', m10, hv', sw1, sw2, sw3⟩ := su2.store (i := i) (f := 2) (v := v7) (g := upd (upd ga 0 v5) 1 v6) (by simp) (List.getElem?_set_self (by rw [List.length_set]; exact hni)) (by omega) x7 y7
  rw [hvl] at hv'; cases hv'
  have ens : (((ns.set i (upd ga 0 v5)).set i (upd (upd ga 0 v5) 1 v6)).set i (upd (upd (upd ga 0 v5) 1 v6) 2 v7)) = ns.set i (upd (upd (upd ga 0 v5) 1 v6) 2 v7) := by simp
  rw [ens] at sw2
  have hT := sw2.give1 (N := ⟨A.keys ++ B.keys, A.nums ++ B.nums, A.kids ++ B.kids⟩) (g := upd (upd (upd ga 0 v5) 1 v6) 2 v7) hil (List.getElem?_set_self hni) fun f hf => by
    match f, hf with
    | 0, _ =>
      have e : Nd.fld ⟨A.keys ++ B.keys, A.nums ++ B.nums, A.kids ++ B.kids⟩ 0 = A.fld 0 ++ B.fld 0 := List.map_append
      rw [e]; exact ((((a2.ch b3 (by simp)).ch c3 (by simp)).ch st3 (by simp)).ch su3 (by simp)).ch sw3 (by simp)
    | 1, _ =>
      have e : Nd.fld ⟨A.keys ++ B.keys, A.nums ++ B.nums, A.kids ++ B.kids⟩ 1 = A.fld 1 ++ B.fld 1 := List.map_append
      rw [e]; exact (((b2.ch c3 (by simp)).ch st3 (by simp)).ch su3 (by simp)).ch sw3 (by simp)
    | 2, _ =>
      have e : Nd.fld ⟨A.keys ++ B.keys, A.nums ++ B.nums, A.kids ++ B.kids⟩ 2 = A.fld 2 ++ B.fld 2 := List.map_append
      rw [e]; exact ((c2.ch st3 (by simp)).ch su3 (by simp)).ch sw3 (by simp)
  have e3 : (upd (upd (upd ga 0 v5) 1 v6) 2 v7) = upd (upd (upd ga 0 v5) 1 v6) 2 v7 := rfl
  refine ⟨v5, m5, v6, m6, v7, m7, m8, m9, m10, σ7, a1, b1, c1, st1, su1, sw1, hco, fun f hf => ⟨(sl_cells (k2 f hf)).2.2, (sl_cells (q2 f hf)).2.2⟩, ⟨z5, z6, z7⟩, fun b ob hbl hbn hbg => ?_, ?_, (Gr.ch a3 rfl).trans ((Gr.ch b3 rfl).trans ((Gr.ch c3 rfl).trans ((Gr.ch st3 rfl).trans ((Gr.ch su3 rfl).trans (Gr.ch sw3 rfl)))))⟩
  · obtain ⟨r1, r2⟩ := row_keep a3 hbl hbn hbg
    have n1 := a3.next
    obtain ⟨r3, r4⟩ := row_keep b3 (by omega) (fun f i => by rw [r2]; exact hbn f i) r1
    have n2 := b3.next
    obtain ⟨r5, r6⟩ := row_keep c3 (by omega) (fun f i => by rw [r4, r2]; exact hbn f i) r3
    exact ⟨r1, r3, r5⟩
  · refine ⟨hT.get, hT.top, hT.pl, ?_, hT.free, by have := hT.len; simpa using this, hT.fresh, fun i' N hi' hN => ?_⟩
    · obtain ⟨F, w1, w2⟩ := hT.ol
      refine ⟨F, ?_, w2⟩
      rw [List.map_set] at w1 ⊢
      exact w1
    · obtain ⟨g2, w1, w2⟩ := hT.nd i' N hi' hN
      by_cases e : i' = i
      · subst e
        rw [List.getElem?_set_self hni] at w1
        cases w1
        exact ⟨_, List.getElem?_set_self hni, fun f hf => by
          have := w2 f hf
          match f, hf with
          | 0, _ => exact this
          | 1, _ => exact this
          | 2, _ => exact this⟩
      · rw [List.getElem?_set_ne (Ne.symm e)] at w1
        exact ⟨g2, by rw [List.getElem?_set_ne (Ne.symm e)]; exact w1, w2⟩
end
end Go.Proofs.Ytecceimgpeookaa
