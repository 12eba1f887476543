/-
  Own work. The tree: a node that is too full is split. The tree: two elements are put into two of a node's slices. The tree, plain: which places a change of nodes reaches; rows that are parted; entries put. The tree: a node is split, with what it stands for; a key is put below a node. The tree as a whole; a key has a number. The tree as a whole: a new one; a key has a number. The tree as a whole: what is told of it. Own work, printed by mktg.py. slices.Grow of nothing, slices.Concat of two. The tree: elements behind a node's slices; elements out of two of a node's slices.
-/
import Derived.Test.YtnlmnejellipdaaTX
namespace Go.Proofs.Ytnlmnejellipdaa
open Go X
set_option maxRecDepth 100000
attribute [local irreducible] X.Go' X.GoO X.GoR X.GoG X.GoC X.GoF X.GoFV X.GoFG X.Ex X.GoD X.GoDV X.GoDG
set_option linter.unusedVariables false
set_option linter.unusedSimpArgs false
theorem slice_det {size : Nat} {l hh k : Option Value} {v r r' : Value} {m m' m1 m1' : Mem} (h : sliceE m size v l hh k = some (.val r m1)) (h' : sliceE m' size v l hh k = some (.val r' m1')) : r = r' := by
 unfold sliceE at h h'
 split at h
 ·rename_i p n c
  simp only at h'
  cases hb : xbounds n c l hh k with
  | none => rw [hb] at h; cases h
  | some b =>
   rw [hb] at h h'
   simp only [Option.bind_some] at h h'
   have key : ∀ q q', xsliceR m size p b.1 b.2.1 b.2.2 k.isSome = some q → xsliceR m' size p b.1 b.2.1 b.2.2 k.isSome = some q' → q = q' := fun q q' hq hq' => by
    unfold xsliceR at hq hq'
    cases p with
    | none => simp only [Option.some.injEq] at hq hq'; rw [← hq, ← hq']
    | some a =>
     obtain ⟨ab, ao, sp⟩ := a
     match sp with
     | none => simp only [Option.some.injEq] at hq hq'; rw [← hq, ← hq']
     | some 0 =>
      simp only at hq hq'
      split at hq
      ·rename_i hk
       rw [if_pos hk] at hq'
       simp only [Option.some.injEq] at hq hq'; rw [← hq, ← hq']
      ·rename_i hk
       rw [if_neg hk] at hq'
       split at hq
       ·split at hq
        ·split at hq'
         ·split at hq'
          ·simp only [Option.some.injEq] at hq hq'; rw [← hq, ← hq']
          ·cases hq'
         ·cases hq'
        ·cases hq
       ·cases hq
     | some (s + 1) => simp only [Option.some.injEq] at hq hq'; rw [← hq, ← hq']
   cases hr : xsliceR m size p b.1 b.2.1 b.2.2 k.isSome with
   | none => rw [hr] at h; cases h
   | some q =>
    cases hr' : xsliceR m' size p b.1 b.2.1 b.2.2 k.isSome with
    | none => rw [hr'] at h'; cases h'
    | some q' =>
     rw [hr] at h
     rw [hr'] at h'
     simp only [Option.bind_some, Option.some.injEq, XR.val.injEq] at h h'
     rw [← h.1, ← h'.1]
     exact key q q' hr hr'
 ·cases h
theorem build01 {m : Mem} {a b : Option Addr} {l c l' c' : Nat} : buildE m [.slice none 0 0, .slice none 0 0, .slice none 0 0] [(0, 1), (1, 1), (2, 1)] [(0, .slice a l c), (1, .slice b l' c')] = some (.val (.agg ⟨[.slice a l c, .slice b l' c', .slice none 0 0]⟩) m) := by kernel_rfl
theorem build02 {m : Mem} {a b : Option Addr} {l c l' c' : Nat} : buildE m [.slice none 0 0, .slice none 0 0, .slice none 0 0] [(0, 1), (1, 1), (2, 1)] [(0, .slice a l c), (2, .slice b l' c')] = some (.val (.agg ⟨[.slice a l c, .slice none 0 0, .slice b l' c']⟩) m) := by kernel_rfl
theorem tbS {x i : Nat} : Nat.testBit x i = (1 &&& (x >>> i) != 0) := rfl
section
variable {σ : Nat → Tag} {m : Mem} {p : Nat} {vl vf : Value} {ns : List (Nat → Value)} {ls : List Nd} {fr : List Nat} {root n : Int}
theorem Tg.from {σ : Nat → Tag} {t : Tag} {m : Mem} {v : Value} {xs : List Value} {k : Nat} (h : Tg σ t m v xs) (hk : k ≤ xs.length) : ∃ v', sliceE m 1 v (some (I (k : Int))) none none = some (.val v' m) ∧ RdS m.next m 1 v' (ones (xs.drop k)) := by
 obtain ⟨F, h1, h2⟩ := h
 exact h1.from hk
theorem Tg.to {σ : Nat → Tag} {t : Tag} {m : Mem} {v : Value} {xs : List Value} {k : Nat} (h : Tg σ t m v xs) (hk : k ≤ xs.length) : ∃ v', sliceE m 1 v none (some (I (k : Int))) none = some (.val v' m) ∧ Tg σ t m v' (xs.take k) := by
 obtain ⟨F, h1, h2⟩ := h
 obtain ⟨v', h3, h4⟩ := h1.to hk
 exact ⟨v', h3, F, h4, h2⟩
theorem Tg.to3 {σ : Nat → Tag} {t : Tag} {m : Mem} {v : Value} {xs : List Value} {k : Nat} (h : Tg σ t m v xs) (h0 : 0 < k) (hk : k ≤ xs.length) (hl : xs.length ≤ 1000) : ∃ v', sliceE m 1 v none (some (I (k : Int))) (some (I (k : Int))) = some (.val v' m) ∧ Tg σ t m v' (xs.take k) := by
 obtain ⟨F, h1, h2⟩ := h
 obtain ⟨v', h3, h4⟩ := h1.to3 h0 hk hl
 exact ⟨v', h3, F, h4, h2⟩
theorem splitL {i : Nat} {ks : List Key} {vs : List Int} (h : TMH [] σ m p vl vf ns ls fr root n) (hN : ls[i]? = some ⟨ks, vs, []⟩) (hk : ks.length = 5) (hv : vs.length = 5) (hl : ls.length ≤ 1000000) (hfr : ∀ j ∈ fr, j < ls.length) (hfl : fr.length ≤ 1000000) (hif : i ∉ fr) {least : Key} (hle : ks[2]? = some least) :
  ∃ m' σ' vl' vf' ns', Ca 64 [Pt p, nv i] m (.tuple #[nv (addI ls fr), .string least]) m' ∧ TMH [] σ' m' p vl' vf' ns' ((addL ls fr ⟨ks.drop 2, vs.drop 2, []⟩).set i ⟨ks.take 2, vs.take 2, []⟩) fr.dropLast root n ∧ Gr σ σ' m m' := by
 have hi : i < ls.length := (List.getElem?_eq_some_iff.1 hN).1
 obtain ⟨g, k1, k2⟩ := h.nd i _ (by simp) hN
 obtain ⟨id, o, cp, hvl, hgo, hco, hld, _⟩ := h.at k1
 have sl : ∀ f, f < 3 → ∃ q c, g f = .slice q (Nd.fld ⟨ks, vs, []⟩ f).length c := fun f hf => (k2 f hf).slice
 have l0 : (Nd.fld ⟨ks, vs, []⟩ 0).length = 5 := by show (ks.map sv).length = _; rw [List.length_map, hk]
 have lv : (Nd.fld ⟨ks, vs, []⟩ 1).length = 5 := by show (vs.map iv).length = _; rw [List.length_map, hv]
 have lz : (Nd.fld ⟨ks, vs, []⟩ 2).length = 0 := rfl
 
 obtain ⟨m1, t1, t2, t3, t4⟩ := new_store (m := m) (z := [.slice none 0 0, .slice none 0 0, .slice none 0 0]) (row := row3 g) (n := 3) rfl rfl (by omega)
 have h1 := h.nx t3
 have kg : ∀ f, f < 3 → Tg σ (.fld f i) m1 (g f) (Nd.fld ⟨ks, vs, []⟩ f) := fun f hf => (k2 f hf).nx t3
 obtain ⟨q0, c0, e0⟩ := sl 0 (by omega)
 obtain ⟨q1, c1, e1⟩ := sl 1 (by omega)
 obtain ⟨q2, c2, e2⟩ := sl 2 (by omega)
 have cc0 : (row3 g)[0]? = some (.slice q0 (Nd.fld ⟨ks, vs, []⟩ 0).length c0) := by rw [← e0]; rfl
 have cc2 : (row3 g)[0 + 2]? = some (.slice q2 (Nd.fld ⟨ks, vs, []⟩ 2).length c2) := by rw [← e2]; rfl
 have hleaf := leaf_call (off := 0) t2 cc2
 have hsize := size_call (off := 0) t2 cc0 cc2
 have hlf : decide (((Nd.fld ⟨ks, vs, []⟩ 2).length : Int) = 0) = true := by rw [lz]; rfl
 have hsz : ((if (Nd.fld ⟨ks, vs, []⟩ 2).length = 0 then (Nd.fld ⟨ks, vs, []⟩ 0).length else (Nd.fld ⟨ks, vs, []⟩ 2).length : Nat) : Int) = 5 := by rw [lz, l0]; rfl
 rw [hlf] at hleaf
 rw [hsz] at hsize
 
 obtain ⟨w0, w0e, w0r⟩ := (kg 0 (by omega)).from (k := 2) (by rw [l0]; omega)
 obtain ⟨w1, w1e, w1r⟩ := (kg 1 (by omega)).from (k := 2) (by rw [lv]; omega)
 obtain ⟨r0, m2, F0, b1, b2, b3, b4⟩ := clone72 w0r (Nat.le_refl _) (by rw [List.length_drop, l0]; omega)
 obtain ⟨σ2, s1, s2⟩ := tag_new (σ := σ) (.other 0) b2 b4 b3
 have ch2 : Ch .no σ σ2 m1 m2 := .nx' b4 s2
 have h2 := h1.new b4 s2
 have w1r2 := w1r.fr b4 (Nat.le_refl _) (fun _ h => h.elim)
 obtain ⟨w1', w1e2, _⟩ := ((kg 1 (by omega)).ch ch2 (by simp)).from (k := 2) (by rw [lv]; omega)
 rw [← slice_det w1e w1e2] at w1e2
 obtain ⟨r1, m3, F1, d1, d2, d3, d4⟩ := clone73 w1r2 ch2.next (by rw [List.length_drop, lv]; omega)
 obtain ⟨σ3, u1, u2⟩ := tag_new (σ := σ2) (.other 1) d2 d4 d3
 have ch3 : Ch .no σ2 σ3 m2 m3 := .nx' d4 u2
 have h3 := h2.new d4 u2
 have kg3 : ∀ f, f < 3 → Tg σ3 (.fld f i) m3 (g f) (Nd.fld ⟨ks, vs, []⟩ f) := fun f hf => ((kg f hf).ch ch2 (by simp)).ch ch3 (by simp)
 obtain ⟨m4, σ4, vl4, vf4, ns4, a1, a2, a3, a4⟩ := add_spec (g := fun f => if f = 0 then r0 else if f = 1 then r1 else .slice none 0 0) (N := ⟨ks.drop 2, vs.drop 2, []⟩) h3 hl hfr hfl (fun f hf => by
  have e0' : Nd.fld ⟨ks.drop 2, vs.drop 2, []⟩ 0 = (ks.map sv).drop 2 := by show (ks.drop 2).map sv = _; rw [List.map_drop]
  have e1' : Nd.fld ⟨ks.drop 2, vs.drop 2, []⟩ 1 = (vs.map iv).drop 2 := by show (vs.drop 2).map iv = _; rw [List.map_drop]
  have : f = 0 ∨ f = 1 ∨ f = 2 := by omega
  rcases this with rfl | rfl | rfl
  ·rw [e0']; exact s1.ch ch3 (by simp)
  ·rw [e1']; exact u1
  ·exact Tg.nil)
 have hne : i ≠ addI ls fr := fun e => by
  unfold addI at e
  cases hq : fr.getLast? with
  | none => rw [hq] at e; simp only at e; omega
  | some k => rw [hq] at e; simp only at e; exact hif (e ▸ List.mem_of_getLast? hq)
 have hN4 : (addL ls fr ⟨ks.drop 2, vs.drop 2, []⟩)[i]? = some ⟨ks, vs, []⟩ := by
  unfold addL
  unfold addI at hne
  cases hq : fr.getLast? with
  | none => simp only; rw [List.getElem?_append_left hi]; exact hN
  | some k => rw [hq] at hne; simp only at hne ⊢; rw [List.getElem?_set_ne (Ne.symm hne)]; exact hN
 obtain ⟨g4, z1, z2, z3⟩ := a2.take (i := i) (by simp) hN4
 rw [a4 i hi hne, k1] at z1
 cases z1
 have z1 : ns4[i]? = some g := by rw [a4 i hi hne]; exact k1
 have hi4 : i < ns4.length := (List.getElem?_eq_some_iff.1 z1).1
 
 obtain ⟨x0, x0e, x0t⟩ := (z2 0 (by omega)).to3 (k := 2) (by omega) (by rw [l0]; omega) (by rw [l0]; omega)
 obtain ⟨x1, x1e, x1t⟩ := (z2 1 (by omega)).to3 (k := 2) (by omega) (by rw [lv]; omega) (by rw [lv]; omega)
 obtain ⟨y0, yc0, ye0⟩ := x0t.slice
 obtain ⟨y1, yc1, ye1⟩ := x1t.slice
 obtain ⟨id5, cp5, m5, hvl5, st1, st2, st3⟩ := z3.store (i := i) (f := 0) (v := x0) (by simp) z1 (by omega) (by rw [ye0]; rfl) (by rw [ye0]; rfl)
 have z5 : (ns4.set i (upd g 0 x0))[i]? = some (upd g 0 x0) := List.getElem?_set_self hi4
 obtain ⟨id6, cp6, m6, hvl6, su1, su2, su3⟩ := st2.store (i := i) (f := 1) (v := x1) (by simp) z5 (by omega) (by rw [ye1]; rfl) (by rw [ye1]; rfl)
 rw [hvl5] at hvl6
 cases hvl6
 obtain ⟨x1', x1e5, _⟩ := ((z2 1 (by omega)).ch st3 (by simp)).to3 (k := 2) (by omega) (by rw [lv]; omega) (by rw [lv]; omega)
 rw [← slice_det x1e x1e5] at x1e5
 have hT := su2.give1 (N := ⟨ks.take 2, vs.take 2, []⟩) (g := upd (upd g 0 x0) 1 x1) (by unfold addL; split <;> simp <;> omega) (List.getElem?_set_self (by rw [List.length_set]; exact hi4)) (fun f hf => by
  have e0' : Nd.fld ⟨ks.take 2, vs.take 2, []⟩ 0 = (ks.map sv).take 2 := by show (ks.take 2).map sv = _; rw [List.map_take]
  have e1' : Nd.fld ⟨ks.take 2, vs.take 2, []⟩ 1 = (vs.map iv).take 2 := by show (vs.take 2).map iv = _; rw [List.map_take]
  have : f = 0 ∨ f = 1 ∨ f = 2 := by omega
  rcases this with rfl | rfl | rfl
  ·rw [e0']; exact (x0t.ch st3 (by simp)).ch su3 (by simp)
  ·rw [e1']; exact (x1t.ch st3 (by simp)).ch su3 (by simp)
  ·exact ((z2 2 (by omega)).ch st3 (by simp)).ch su3 (by simp))
 refine ⟨m6, σ4, vl4, vf4, _, callX_of (call_go (F := _) rfl rfl fun Q hQ => ?_), hT, (Gr.nx t3).trans ((Gr.new b4 s2).trans ((Gr.new d4 u2).trans (a3.trans ((Gr.ch st3 rfl).trans (Gr.ch su3 rfl)))))⟩
 
 have hb0 : σ m.next = .no := h.fresh _ (Nat.le_refl _)
 have gc2 := b4.get (i := m.next) (by omega) (fun h => h) t2
 have gc3 := d4.get (i := m.next) (by have := b4.next; omega) (fun h => h) gc2
 have hb3 : tr (σ3 m.next) = false := by
  rw [u2.1 _ (by have := b4.next; omega), s2.1 _ (by omega), hb0]; rfl
 have gc4 := a3.fm.get (i := m.next) (by have := b4.next; have := d4.next; omega) (by rw [hb3]; simp) gc3
 have hb4 : σ4 m.next = .no := by
  rw [a3.out _ (by have := b4.next; have := d4.next; omega) hb3, u2.1 _ (by have := b4.next; omega), s2.1 _ (by omega), hb0]
 have hlt4 : m.next < m4.next := by have := b4.next; have := d4.next; have := a3.next; omega
 have gc5 := st3.fm.get (i := m.next) hlt4 (by rw [hb4]; simp) gc4
 have gc6 := su3.fm.get (i := m.next) (Nat.lt_of_lt_of_le hlt4 st3.next) (by rw [hb4]; simp) gc5
 have ht0 := h.get
 have ht4 := a2.get
 have ht5 := st2.get
 obtain ⟨ak, ck, ok, f1, f2, f3⟩ := rd_at (z2 0 (by omega)).rd (i := 2) (x := sv least) (by show (ks.map sv)[_]? = _; rw [List.getElem?_map, hle]; rfl)
 have hok : ∃ ok', m6.get ak.block = some ok' ∧ ok'.cells[ak.off + 2]? = some (.string least) := by
  have hg6 : Tg σ4 (.fld 0 i) m6 (g 0) (Nd.fld ⟨ks, vs, []⟩ 0) := ((z2 0 (by omega)).ch st3 (by simp)).ch su3 (by simp)
  obtain ⟨ak', ck', ok', f1', f2', f3'⟩ := rd_at hg6.rd (i := 2) (x := sv least) (by show (ks.map sv)[_]? = _; rw [List.getElem?_map, hle]; rfl)
  rw [f1] at f1'
  cases f1'
  exact ⟨ok', f2', f3'⟩
 obtain ⟨ok', f2', f3'⟩ := hok
 have hi4' : i < (addL ls fr ⟨ks.drop 2, vs.drop 2, []⟩).length := (List.getElem?_eq_some_iff.1 hN4).1
 obtain ⟨w0', w0e1, _⟩ := (kg 0 (by omega)).from (k := 2) (by rw [l0]; omega)
 obtain ⟨p0, n0, d0, rfl⟩ := sliceE_slice w0e
 obtain ⟨p1, n1, d1', rfl⟩ := sliceE_slice w1e
 rw [l0] at f1
 have f1 : g 0 = .slice (some ak) 5 ck := f1
 have hq5 : binE Try.prog .quo 3 (I 5) (I 2) m1 = some (.val (I 2) m1) := by kernel_rfl
 have eg0 : row3 g = [g 0, g 1, g 2] := rfl
 subst hvl hvl5
 have n2 : ((2 : Nat) : Int) = 2 := rfl
 have n1 : ((1 : Nat) : Int) = 1 := rfl
 simp only [n2] at w0e w1e w1e2 x0e x1e x1e5
 have v0 : veq (g 0) (g 0) = true := by rw [e0]; exact veq_slice
 have v1 : veq (g 1) (g 1) = true := by rw [e1]; exact veq_slice
 have v2 : veq (g 2) (g 2) = true := by rw [e2]; exact veq_slice
 obtain ⟨rq0, rc0, re0⟩ := s1.slice
 obtain ⟨rq1, rc1, re1⟩ := u1.slice
 subst re0 re1
 have vx0 : veq x0 x0 = true := by rw [ye0]; exact veq_slice
 have vx1 : veq x1 x1 = true := by rw [ye1]; exact veq_slice
 have hix : ∀ M : Mem, indexAddrE M 1 (.slice (some ak) 5 ck) (I 2) = some (.val (.pointer (some ⟨ak.block, ak.off + 2, none⟩)) M) := fun M => by
  have := indexAddr_at (m := M) (size := 1) (i := 2) (len := 5) (c := ck) (a := ak) (kd := .i64) (by omega)
  simpa using this
 have st1' : storeE m4 1 (.pointer (some ⟨id5, i * 3, none⟩)) x0 = some (.skip m5) := st1
 have a1' : Ca 61 [Pt p, .agg ⟨[.slice rq0 _ rc0, .slice rq1 _ rc1, .slice none 0 0]⟩] m3 (nv (addI ls fr)) m4 := a1
 have wr1 : IntKind.i64.wrap 1 = 1 := wrap_i64 (by omega) (by omega)
 rw [f1] at w0e x0e
 simp only [eg0, f1] at t1 t2 gc2 gc3 gc4 gc5 gc6 hld
 simp only [↓tbS, Nat.reduceShiftRight, Nat.reduceAnd, Nat.reduceBneDiff, bne_self_eq_false, symA, go_opsd, symB, X.put, X.look, Arg.ev, keepOf, restrict, evs, evO, initEnv, noTup, cls, quiet, Nat.reduceEqDiff, ↓reduceIte, reduceCtorEq, eq_self, ht0, hi, hld, t1, goR_call hsize, hq5, goR_call hleaf, t2, w0e, w1e, goDV3c b1, gc2, w1e2, goDV3c d1, build01, goDV3c a1', ht4, gc4, x0e, x1e, hi4', st1', x1e5, su1, gc6, v1]
 refine ⟨by rw [vx0, vx1]; rfl, vx1, ?_⟩
 rw [hix]
 simp only [symA, symB, X.put, X.look, Arg.ev, keepOf, restrict, Nat.reduceEqDiff, ↓reduceIte, eq_self, f2', f3']
 exact hQ _ _ _ rfl ⟨rfl, rfl⟩
theorem splitN {i : Nat} {ks : List Key} {vs : List Nat} (h : TMH [] σ m p vl vf ns ls fr root n) (hN : ls[i]? = some ⟨ks, [], vs⟩) (hk : ks.length = 4) (hv : vs.length = 5) (hl : ls.length ≤ 1000000) (hfr : ∀ j ∈ fr, j < ls.length) (hfl : fr.length ≤ 1000000) (hif : i ∉ fr) {least : Key} (hle : ks[1]? = some least) :
  ∃ m' σ' vl' vf' ns', Ca 64 [Pt p, nv i] m (.tuple #[nv (addI ls fr), .string least]) m' ∧ TMH [] σ' m' p vl' vf' ns' ((addL ls fr ⟨ks.drop 2, [], vs.drop 2⟩).set i ⟨ks.take 1, [], vs.take 2⟩) fr.dropLast root n ∧ Gr σ σ' m m' := by
 have hi : i < ls.length := (List.getElem?_eq_some_iff.1 hN).1
 obtain ⟨g, k1, k2⟩ := h.nd i _ (by simp) hN
 obtain ⟨id, o, cp, hvl, hgo, hco, hld, _⟩ := h.at k1
 have sl : ∀ f, f < 3 → ∃ q c, g f = .slice q (Nd.fld ⟨ks, [], vs⟩ f).length c := fun f hf => (k2 f hf).slice
 have l0 : (Nd.fld ⟨ks, [], vs⟩ 0).length = 4 := by show (ks.map sv).length = _; rw [List.length_map, hk]
 have lv : (Nd.fld ⟨ks, [], vs⟩ 2).length = 5 := by show (vs.map nv).length = _; rw [List.length_map, hv]
 have lz : (Nd.fld ⟨ks, [], vs⟩ 1).length = 0 := rfl
 
 obtain ⟨m1, t1, t2, t3, t4⟩ := new_store (m := m) (z := [.slice none 0 0, .slice none 0 0, .slice none 0 0]) (row := row3 g) (n := 3) rfl rfl (by omega)
 have h1 := h.nx t3
 have kg : ∀ f, f < 3 → Tg σ (.fld f i) m1 (g f) (Nd.fld ⟨ks, [], vs⟩ f) := fun f hf => (k2 f hf).nx t3
 obtain ⟨q0, c0, e0⟩ := sl 0 (by omega)
 obtain ⟨q1, c1, e1⟩ := sl 1 (by omega)
 obtain ⟨q2, c2, e2⟩ := sl 2 (by omega)
 have cc0 : (row3 g)[0]? = some (.slice q0 (Nd.fld ⟨ks, [], vs⟩ 0).length c0) := by rw [← e0]; rfl
 have cc2 : (row3 g)[0 + 2]? = some (.slice q2 (Nd.fld ⟨ks, [], vs⟩ 2).length c2) := by rw [← e2]; rfl
 have hleaf := leaf_call (off := 0) t2 cc2
 have hsize := size_call (off := 0) t2 cc0 cc2
 have hlf : decide (((Nd.fld ⟨ks, [], vs⟩ 2).length : Int) = 0) = false := by rw [lv]; rfl
 have hsz : ((if (Nd.fld ⟨ks, [], vs⟩ 2).length = 0 then (Nd.fld ⟨ks, [], vs⟩ 0).length else (Nd.fld ⟨ks, [], vs⟩ 2).length : Nat) : Int) = 5 := by rw [lv]; rfl
 rw [hlf] at hleaf
 rw [hsz] at hsize
 
 obtain ⟨w0, w0e, w0r⟩ := (kg 0 (by omega)).from (k := 2) (by rw [l0]; omega)
 obtain ⟨w1, w1e, w1r⟩ := (kg 2 (by omega)).from (k := 2) (by rw [lv]; omega)
 obtain ⟨r0, m2, F0, b1, b2, b3, b4⟩ := clone72 w0r (Nat.le_refl _) (by rw [List.length_drop, l0]; omega)
 obtain ⟨σ2, s1, s2⟩ := tag_new (σ := σ) (.other 0) b2 b4 b3
 have ch2 : Ch .no σ σ2 m1 m2 := .nx' b4 s2
 have h2 := h1.new b4 s2
 have w1r2 := w1r.fr b4 (Nat.le_refl _) (fun _ h => h.elim)
 obtain ⟨w1', w1e2, _⟩ := ((kg 2 (by omega)).ch ch2 (by simp)).from (k := 2) (by rw [lv]; omega)
 rw [← slice_det w1e w1e2] at w1e2
 obtain ⟨r1, m3, F1, d1, d2, d3, d4⟩ := clone73 w1r2 ch2.next (by rw [List.length_drop, lv]; omega)
 obtain ⟨σ3, u1, u2⟩ := tag_new (σ := σ2) (.other 2) d2 d4 d3
 have ch3 : Ch .no σ2 σ3 m2 m3 := .nx' d4 u2
 have h3 := h2.new d4 u2
 have kg3 : ∀ f, f < 3 → Tg σ3 (.fld f i) m3 (g f) (Nd.fld ⟨ks, [], vs⟩ f) := fun f hf => ((kg f hf).ch ch2 (by simp)).ch ch3 (by simp)
 obtain ⟨m4, σ4, vl4, vf4, ns4, a1, a2, a3, a4⟩ := add_spec (g := fun f => if f = 0 then r0 else if f = 2 then r1 else .slice none 0 0) (N := ⟨ks.drop 2, [], vs.drop 2⟩) h3 hl hfr hfl (fun f hf => by
  have e0' : Nd.fld ⟨ks.drop 2, [], vs.drop 2⟩ 0 = (ks.map sv).drop 2 := by show (ks.drop 2).map sv = _; rw [List.map_drop]
  have e1' : Nd.fld ⟨ks.drop 2, [], vs.drop 2⟩ 2 = (vs.map nv).drop 2 := by show (vs.drop 2).map nv = _; rw [List.map_drop]
  have : f = 0 ∨ f = 2 ∨ f = 1 := by omega
  rcases this with rfl | rfl | rfl
  ·rw [e0']; exact s1.ch ch3 (by simp)
  ·rw [e1']; exact u1
  ·exact Tg.nil)
 have hne : i ≠ addI ls fr := fun e => by
  unfold addI at e
  cases hq : fr.getLast? with
  | none => rw [hq] at e; simp only at e; omega
  | some k => rw [hq] at e; simp only at e; exact hif (e ▸ List.mem_of_getLast? hq)
 have hN4 : (addL ls fr ⟨ks.drop 2, [], vs.drop 2⟩)[i]? = some ⟨ks, [], vs⟩ := by
  unfold addL
  unfold addI at hne
  cases hq : fr.getLast? with
  | none => simp only; rw [List.getElem?_append_left hi]; exact hN
  | some k => rw [hq] at hne; simp only at hne ⊢; rw [List.getElem?_set_ne (Ne.symm hne)]; exact hN
 obtain ⟨g4, z1, z2, z3⟩ := a2.take (i := i) (by simp) hN4
 rw [a4 i hi hne, k1] at z1
 cases z1
 have z1 : ns4[i]? = some g := by rw [a4 i hi hne]; exact k1
 have hi4 : i < ns4.length := (List.getElem?_eq_some_iff.1 z1).1
 
 obtain ⟨x0, x0e, x0t⟩ := (z2 0 (by omega)).to3 (k := 1) (by omega) (by rw [l0]; omega) (by rw [l0]; omega)
 obtain ⟨x1, x1e, x1t⟩ := (z2 2 (by omega)).to3 (k := 2) (by omega) (by rw [lv]; omega) (by rw [lv]; omega)
 obtain ⟨y0, yc0, ye0⟩ := x0t.slice
 obtain ⟨y1, yc1, ye1⟩ := x1t.slice
 obtain ⟨id5, cp5, m5, hvl5, st1, st2, st3⟩ := z3.store (i := i) (f := 0) (v := x0) (by simp) z1 (by omega) (by rw [ye0]; rfl) (by rw [ye0]; rfl)
 have z5 : (ns4.set i (upd g 0 x0))[i]? = some (upd g 0 x0) := List.getElem?_set_self hi4
 obtain ⟨id6, cp6, m6, hvl6, su1, su2, su3⟩ := st2.store (i := i) (f := 2) (v := x1) (by simp) z5 (by omega) (by rw [ye1]; rfl) (by rw [ye1]; rfl)
 rw [hvl5] at hvl6
 cases hvl6
 obtain ⟨x1', x1e5, _⟩ := ((z2 2 (by omega)).ch st3 (by simp)).to3 (k := 2) (by omega) (by rw [lv]; omega) (by rw [lv]; omega)
 rw [← slice_det x1e x1e5] at x1e5
 have hT := su2.give1 (N := ⟨ks.take 1, [], vs.take 2⟩) (g := upd (upd g 0 x0) 2 x1) (by unfold addL; split <;> simp <;> omega) (List.getElem?_set_self (by rw [List.length_set]; exact hi4)) (fun f hf => by
  have e0' : Nd.fld ⟨ks.take 1, [], vs.take 2⟩ 0 = (ks.map sv).take 1 := by show (ks.take 1).map sv = _; rw [List.map_take]
  have e1' : Nd.fld ⟨ks.take 1, [], vs.take 2⟩ 2 = (vs.map nv).take 2 := by show (vs.take 2).map nv = _; rw [List.map_take]
  have : f = 0 ∨ f = 2 ∨ f = 1 := by omega
  rcases this with rfl | rfl | rfl
  ·rw [e0']; exact (x0t.ch st3 (by simp)).ch su3 (by simp)
  ·rw [e1']; exact (x1t.ch st3 (by simp)).ch su3 (by simp)
  ·exact ((z2 1 (by omega)).ch st3 (by simp)).ch su3 (by simp))
 refine ⟨m6, σ4, vl4, vf4, _, callX_of (call_go (F := _) rfl rfl fun Q hQ => ?_), hT, (Gr.nx t3).trans ((Gr.new b4 s2).trans ((Gr.new d4 u2).trans (a3.trans ((Gr.ch st3 rfl).trans (Gr.ch su3 rfl)))))⟩
 
 have hb0 : σ m.next = .no := h.fresh _ (Nat.le_refl _)
 have gc2 := b4.get (i := m.next) (by omega) (fun h => h) t2
 have gc3 := d4.get (i := m.next) (by have := b4.next; omega) (fun h => h) gc2
 have hb3 : tr (σ3 m.next) = false := by
  rw [u2.1 _ (by have := b4.next; omega), s2.1 _ (by omega), hb0]; rfl
 have gc4 := a3.fm.get (i := m.next) (by have := b4.next; have := d4.next; omega) (by rw [hb3]; simp) gc3
 have hb4 : σ4 m.next = .no := by
  rw [a3.out _ (by have := b4.next; have := d4.next; omega) hb3, u2.1 _ (by have := b4.next; omega), s2.1 _ (by omega), hb0]
 have hlt4 : m.next < m4.next := by have := b4.next; have := d4.next; have := a3.next; omega
 have gc5 := st3.fm.get (i := m.next) hlt4 (by rw [hb4]; simp) gc4
 have gc6 := su3.fm.get (i := m.next) (Nat.lt_of_lt_of_le hlt4 st3.next) (by rw [hb4]; simp) gc5
 have ht0 := h.get
 have ht4 := a2.get
 have ht5 := st2.get
 obtain ⟨ak, ck, ok, f1, f2, f3⟩ := rd_at (z2 0 (by omega)).rd (i := 1) (x := sv least) (by show (ks.map sv)[_]? = _; rw [List.getElem?_map, hle]; rfl)
 have hok : ∃ ok', m6.get ak.block = some ok' ∧ ok'.cells[ak.off + 1]? = some (.string least) := by
  have hg6 : Tg σ4 (.fld 0 i) m6 (g 0) (Nd.fld ⟨ks, [], vs⟩ 0) := ((z2 0 (by omega)).ch st3 (by simp)).ch su3 (by simp)
  obtain ⟨ak', ck', ok', f1', f2', f3'⟩ := rd_at hg6.rd (i := 1) (x := sv least) (by show (ks.map sv)[_]? = _; rw [List.getElem?_map, hle]; rfl)
  rw [f1] at f1'
  cases f1'
  exact ⟨ok', f2', f3'⟩
 obtain ⟨ok', f2', f3'⟩ := hok
 have hi4' : i < (addL ls fr ⟨ks.drop 2, [], vs.drop 2⟩).length := (List.getElem?_eq_some_iff.1 hN4).1
 obtain ⟨w0', w0e1, _⟩ := (kg 0 (by omega)).from (k := 2) (by rw [l0]; omega)
 obtain ⟨p0, n0, d0, rfl⟩ := sliceE_slice w0e
 obtain ⟨p1, n1, d1', rfl⟩ := sliceE_slice w1e
 rw [l0] at f1
 have f1 : g 0 = .slice (some ak) 4 ck := f1
 have hq5 : binE Try.prog .quo 3 (I 5) (I 2) m1 = some (.val (I 2) m1) := by kernel_rfl
 have eg0 : row3 g = [g 0, g 1, g 2] := rfl
 subst hvl hvl5
 have n2 : ((2 : Nat) : Int) = 2 := rfl
 have n1 : ((1 : Nat) : Int) = 1 := rfl
 simp only [n1, n2] at w0e w1e w1e2 x0e x1e x1e5
 have v0 : veq (g 0) (g 0) = true := by rw [e0]; exact veq_slice
 have v1 : veq (g 1) (g 1) = true := by rw [e1]; exact veq_slice
 have v2 : veq (g 2) (g 2) = true := by rw [e2]; exact veq_slice
 obtain ⟨rq0, rc0, re0⟩ := s1.slice
 obtain ⟨rq1, rc1, re1⟩ := u1.slice
 subst re0 re1
 have vx0 : veq x0 x0 = true := by rw [ye0]; exact veq_slice
 have vx1 : veq x1 x1 = true := by rw [ye1]; exact veq_slice
 have hix : ∀ M : Mem, indexAddrE M 1 (.slice (some ak) 4 ck) (I 1) = some (.val (.pointer (some ⟨ak.block, ak.off + 1, none⟩)) M) := fun M => by
  have := indexAddr_at (m := M) (size := 1) (i := 1) (len := 4) (c := ck) (a := ak) (kd := .i64) (by omega)
  simpa using this
 have st1' : storeE m4 1 (.pointer (some ⟨id5, i * 3, none⟩)) x0 = some (.skip m5) := st1
 have a1' : Ca 61 [Pt p, .agg ⟨[.slice rq0 _ rc0, .slice none 0 0, .slice rq1 _ rc1]⟩] m3 (nv (addI ls fr)) m4 := a1
 have wr1 : IntKind.i64.wrap 1 = 1 := wrap_i64 (by omega) (by omega)
 rw [f1] at w0e x0e
 simp only [eg0, f1] at t1 t2 gc2 gc3 gc4 gc5 gc6 hld
 simp only [↓tbS, Nat.reduceShiftRight, Nat.reduceAnd, Nat.reduceBneDiff, bne_self_eq_false, symA, go_opsd, symB, X.put, X.look, Arg.ev, keepOf, restrict, evs, evO, initEnv, noTup, cls, quiet, Nat.reduceEqDiff, ↓reduceIte, reduceCtorEq, eq_self, Int.reduceSub, ht0, hi, hld, t1, goR_call hsize, hq5, goR_call hleaf, t2, w0e, w1e, goDV3c b1, gc2, w1e2, goDV3c d1, build02, goDV3c a1', ht4, gc4, x0e, x1e, hi4', st1', x1e5, su1, gc6, v2, wr1]
 refine ⟨by rw [vx0, vx1]; rfl, vx1, ?_⟩
 rw [hix]
 simp only [symA, symB, X.put, X.look, Arg.ev, keepOf, restrict, Nat.reduceEqDiff, ↓reduceIte, eq_self, f2', f3']
 exact hQ _ _ _ rfl ⟨rfl, rfl⟩
end
end Go.Proofs.Ytnlmnejellipdaa
namespace Go.Proofs.Ytnlmnejellipdaa
open Go X
set_option maxRecDepth 100000
attribute [local irreducible] X.Go' X.GoO X.GoR X.GoG X.GoC X.GoF X.GoFV X.GoFG X.Ex X.GoD X.GoDV X.GoDG
set_option linter.unusedVariables false
set_option linter.unusedSimpArgs false
abbrev box1 (x : Value) : XObj := { cells := [x], rw := true, spare := none, kin := [] }
section
variable {σ : Nat → Tag} {m : Mem} {p : Nat} {vl vf : Value} {ns : List (Nat → Value)} {ls : List Nd} {fr : List Nat} {root n : Int}
theorem ins2 {mA mB : Mem} {i : Nat} {N N' : Nd} {F k0 k1 : Nat} {x0 x1 : Value} (h : TMH [] σ m p vl vf ns ls fr root n) (hN : ls[i]? = some N) (hF : F = 1 ∨ F = 2) (hk0 : k0 ≤ (N.fld 0).length) (hk1 : k1 ≤ (N.fld F).length) (hl0 : (N.fld 0).length ≤ 1000) (hl1 : (N.fld F).length ≤ 1000)
    (hA : m.push (box1 x0) = mA) (hB : mA.push (box1 x1) = mB) (h0 : N'.fld 0 = (N.fld 0).take k0 ++ x0 :: (N.fld 0).drop k0) (h1 : N'.fld F = (N.fld F).take k1 ++ x1 :: (N.fld F).drop k1) (h2 : N'.fld (3 - F) = N.fld (3 - F)) :
    ∃ id cp o q0 c0 q1 c1 mC mD mE mF v0 v1 σ' ns', vl = .slice (some ⟨id, 0, some 0⟩) ls.length cp ∧ m.get id = some o ∧ mA.get id = some o ∧ mB.get id = some o ∧ mC.get id = some o ∧
      o.cells[i * 3]? = some (.slice q0 (N.fld 0).length c0) ∧ o.cells[i * 3 + F]? = some (.slice q1 (N.fld F).length c1) ∧
      Ca 76 [.slice q0 (N.fld 0).length c0, nv k0, .slice (some ⟨m.next, 0, none⟩) 1 1] mB v0 mC ∧ Ca 77 [.slice q1 (N.fld F).length c1, nv k1, .slice (some ⟨mA.next, 0, none⟩) 1 1] mC v1 mD ∧
      storeE mD 1 (.pointer (some ⟨id, i * 3, none⟩)) v0 = some (.skip mE) ∧ storeE mE 1 (.pointer (some ⟨id, i * 3 + F, none⟩)) v1 = some (.skip mF) ∧
      TMH [] σ' mF p vl vf ns' (ls.set i N') fr root n ∧ Gr σ σ' m mF := by
  have hil : i < ls.length := (List.getElem?_eq_some_iff.1 hN).1
  obtain ⟨g, k1', k2, h3⟩ := h.take (i := i) (by simp) hN
  obtain ⟨id, o, cp, hvl, hgo, hco, hld, hlt, hsn⟩ := h.at k1'
  obtain ⟨q0, c0, e0⟩ := (k2 0 (by omega)).slice
  obtain ⟨q1, c1, e1⟩ := (k2 F (by omega)).slice
  have fA : Nx m mA := hA ▸ .push
  have fB : Nx mA mB := hB ▸ .push
  have nA : mA.next = m.next + 1 := by rw [← hA]; simp
  have nB : mB.next = mA.next + 1 := by rw [← hB]; simp
  have gA : mA.get id = some o := fA.get hlt (fun h => h) hgo
  have gB : mB.get id = some o := fB.get (by omega) (fun h => h) gA
  have b0 : mB.get m.next = some (box1 x0) := fB.get (by omega) (fun h => h) (hA ▸ push_self)
  have b1 : mB.get mA.next = some (box1 x1) := hB ▸ push_self
  obtain ⟨F0, o1, o2⟩ := ((k2 0 (by omega)).nx fA).nx fB
  have hn0 : σ m.next = .no := h.fresh _ (Nat.le_refl _)
  have hn1 : σ mA.next = .no := h.fresh _ (by omega)
  obtain ⟨v0, mC, F0', a1, a2, a3, a4⟩ := ins70 (i := k0) (va := m.next) (x := x0) o1 hk0 hl0 b0 (fun q => by have := o2 _ q; rw [hn0] at this; cases this) (by omega)
  obtain ⟨σ1, s1, s2⟩ := tag_of (σ := σ) (t := .fld 0 i) o2 a2 a3 a4 o1.lt
  have gC : mC.get id = some o := s2.fm.get (by omega) (by rw [hsn]; simp) gB
  have hFt : Tag.fld F i ≠ Tag.fld 0 i := fun q => by
    have : F = 0 := by injection q
    omega
  have hn1' : σ1 mA.next = .no := by rw [s2.sig _ (by omega)]; exact hn1
  have b1' : mC.get mA.next = some (box1 x1) := s2.fm.get (by omega) (by rw [hn1]; simp) b1
  obtain ⟨F1, u1, u2⟩ := (((k2 F (by omega)).nx fA).nx fB).ch s2 hFt
  obtain ⟨v1, mD, F1', d1, d2, d3, d4⟩ := ins71 (i := k1) (va := mA.next) (x := x1) u1 hk1 hl1 b1' (fun q => by have := u2 _ q; rw [hn1'] at this; cases this) (by have := s2.next; omega)
  obtain ⟨σ2, w1, w2⟩ := tag_of (σ := σ1) (t := .fld F i) u2 d2 d3 d4 u1.lt
  have hne : ∀ f' f i', f < 3 → i' ∉ [i] → Tag.fld f' i ≠ Tag.fld f i' := fun f' f i' _ hi q => by
    have : i = i' := by injection q
    exact hi (by simp [this])
  have h4 := ((h3.nx fA).nx fB).ch s2 (by simp) (by simp) (by simp) (hne 0)
  have h5 := h4.ch w2 (by simp) (by simp) (by simp) (hne F)
  obtain ⟨y0, yc0, ye0⟩ := s1.slice
  obtain ⟨y1, yc1, ye1⟩ := w1.slice
  obtain ⟨id', cp', mE, hvl', st1, st2, st3⟩ := h5.store (i := i) (f := 0) (v := v0) (by simp) k1' (by omega) (by rw [ye0]; rfl) (by rw [ye0]; rfl)
  rw [hvl] at hvl'
  cases hvl'
  have hni : i < ns.length := (List.getElem?_eq_some_iff.1 k1').1
  obtain ⟨id', cp', mF, hvl', su1, su2, su3⟩ := st2.store (i := i) (f := F) (v := v1) (g := upd g 0 v0) (by simp) (List.getElem?_set_self hni) (by omega) (by rw [ye1]; rfl) (by rw [ye1]; rfl)
  rw [hvl] at hvl'
  cases hvl'
  have hT := su2.give1 (N := N') (g := upd (upd g 0 v0) F v1) hil (List.getElem?_set_self (by rw [List.length_set]; exact hni)) fun f hf => by
    have hcs : f = F ∨ f = 0 ∨ f = 3 - F := by omega
    rcases hcs with rfl | rfl | rfl
    · have e : upd (upd g 0 v0) f v1 f = v1 := if_pos rfl
      rw [e, h1]
      exact (w1.ch st3 (by simp)).ch su3 (by simp)
    · have e : upd (upd g 0 v0) F v1 0 = v0 := by
        unfold upd
        rw [if_neg (by omega), if_pos rfl]
      rw [e, h0]
      exact ((s1.ch w2 hFt.symm).ch st3 (by simp)).ch su3 (by simp)
    · have e : upd (upd g 0 v0) F v1 (3 - F) = g (3 - F) := by
        unfold upd
        rw [if_neg (by omega), if_neg (by omega)]
      rw [e, h2]
      exact ((((((k2 (3 - F) (by omega)).nx fA).nx fB).ch s2 (fun q => by have : 3 - F = 0 := by injection q
                                                                          omega)).ch w2 (fun q => by have : 3 - F = F := by injection q
                                                                                                     omega)).ch st3 (by simp)).ch su3 (by simp)
  refine ⟨id, cp, o, q0, c0, q1, c1, mC, mD, mE, mF, v0, v1, σ2, _, hvl, hgo, gA, gB, gC, ?_, ?_, ?_, ?_, st1, su1, hT, (Gr.nx fA).trans ((Gr.nx fB).trans ((Gr.ch s2 rfl).trans ((Gr.ch w2 rfl).trans ((Gr.ch st3 rfl).trans (Gr.ch su3 rfl)))))⟩
  · rw [← e0]; exact hco 0 (by omega)
  · rw [← e1]; exact hco F (by omega)
  · rw [← e0]; exact a1
  · rw [← e1]; exact d1
end
end Go.Proofs.Ytnlmnejellipdaa
namespace Go.Proofs.Ytnlmnejellipdaa
open Go X
set_option maxRecDepth 100000
set_option linter.unusedVariables false
set_option linter.unusedSimpArgs false
structure Good (ls : List Nd) (fr J : List Nat) : Prop where
 nd : J.Nodup
 fn : fr.Nodup
 fl : ∀ j ∈ fr, j < ls.length
 dis : ∀ j ∈ J, j ∉ fr
structure Chg (ls : List Nd) (fr J : List Nat) (ls' : List Nd) (fr' J' : List Nat) (k : Nat) : Prop where
 good : Good ls' fr' J'
 fs : ∀ j ∈ fr', j ∈ fr ∨ j ∈ J ∨ ls.length ≤ j
 sub : ∀ j ∈ J', j ∈ J ∨ j ∈ fr ∨ ls.length ≤ j
 out : ∀ j, j < ls.length → j ∉ J → j ∉ fr → ls'[j]? = ls[j]?
 le : ls.length ≤ ls'.length
 len : ls'.length ≤ ls.length + k
section
variable {ls ls' ls'' : List Nd} {fr fr' fr'' J J' J'' JA JB : List Nat} {k k' : Nat} {N : Nd} {i j : Nat}
theorem nodup_le : ∀ {n : Nat} {l : List Nat}, l.Nodup → (∀ x ∈ l, x < n) → l.length ≤ n
 | 0, l, _, h => by
  cases l with
  | nil => simp
  | cons x l => exact absurd (h x (by simp)) (by omega)
 | n + 1, l, hn, h => by
  by_cases hm : n ∈ l
  ·have := nodup_le (n := n) (l := l.erase n) (hn.erase n) fun x hx => by
    have h1 := (List.Nodup.mem_erase_iff hn).1 hx
    have := h x h1.2
    have := h1.1
    omega
   rw [List.length_erase_of_mem hm] at this
   omega
  ·have := nodup_le (n := n) (l := l) hn fun x hx => by
    have := h x hx
    have : x ≠ n := fun e => hm (e ▸ hx)
    omega
   omega
theorem Good.frlen (h : Good ls fr J) : fr.length ≤ ls.length := nodup_le h.fn h.fl
theorem Chg.trans (h : Chg ls fr J ls' fr' J' k) (h' : Chg ls' fr' J' ls'' fr'' J'' k') : Chg ls fr J ls'' fr'' J'' (k + k') := by
 have h1 := h.le
 refine ⟨h'.good, fun j hj => ?_, fun j hj => ?_, fun j hj h2 h3 => ?_, Nat.le_trans h.le h'.le, by have := h.len; have := h'.len; omega⟩
 ·rcases h'.fs j hj with q | q | q
  ·exact h.fs j q
  ·rcases h.sub j q with q | q | q
   ·exact .inr (.inl q)
   ·exact .inl q
   ·exact .inr (.inr q)
  ·exact .inr (.inr (by omega))
 ·rcases h'.sub j hj with q | q | q
  ·exact h.sub j q
  ·rcases h.fs j q with q | q | q
   ·exact .inr (.inl q)
   ·exact .inl q
   ·exact .inr (.inr q)
  ·exact .inr (.inr (by omega))
 ·rw [h'.out j (by omega) (fun q => ?_) (fun q => ?_)]
  ·exact h.out j hj h2 h3
  ·rcases h.sub j q with q | q | q
   ·exact h2 q
   ·exact h3 q
   ·omega
  ·rcases h.fs j q with q | q | q
   ·exact h3 q
   ·exact h2 q
   ·omega
theorem Chg.more (h : Chg ls fr J ls' fr' J' k) (hk : k ≤ k') : Chg ls fr J ls' fr' J' k' := ⟨h.good, h.fs, h.sub, h.out, h.le, by have := h.len; omega⟩
theorem Chg.perm (h : Chg ls fr J ls' fr' J' k) (hp : J'.Perm J'') : Chg ls fr J ls' fr' J'' k :=
 ⟨⟨hp.nodup_iff.1 h.good.nd, h.good.fn, h.good.fl, fun j hj => h.good.dis j (hp.mem_iff.2 hj)⟩, h.fs, fun j hj => h.sub j (hp.mem_iff.2 hj), h.out, h.le, h.len⟩
theorem Chg.mid (h : Chg ls fr J ls' fr' J' k) (hg : Good ls fr (JA ++ (J ++ JB))) (hA : ∀ j ∈ JA, j < ls.length) (hB : ∀ j ∈ JB, j < ls.length) : Chg ls fr (JA ++ (J ++ JB)) ls' fr' (JA ++ (J' ++ JB)) k := by
 obtain ⟨n1, n2, n3⟩ := List.nodup_append.1 hg.nd
 obtain ⟨n4, n5, n6⟩ := List.nodup_append.1 n2
 have away : ∀ j, j < ls.length → j ∉ J → j ∉ fr → j ∉ J' ∧ j ∉ fr' := fun j hj h1 h2 => ⟨fun q => by
  rcases h.sub j q with q | q | q
  ·exact h1 q
  ·exact h2 q
  ·omega, fun q => by
  rcases h.fs j q with q | q | q
  ·exact h2 q
  ·exact h1 q
  ·omega⟩
 have aA : ∀ j ∈ JA, j ∉ J' ∧ j ∉ fr' := fun j hj => away j (hA j hj) (fun q => n3 j hj j (by simp [q]) rfl) (hg.dis j (by simp [hj]))
 have aB : ∀ j ∈ JB, j ∉ J' ∧ j ∉ fr' := fun j hj => away j (hB j hj) (fun q => n6 j q j hj rfl) (hg.dis j (by simp [hj]))
 refine ⟨⟨?_, h.good.fn, h.good.fl, fun j hj => ?_⟩, fun j hj => ?_, fun j hj => ?_, fun j hj h1 h2 => h.out j hj (fun q => h1 (by simp [q])) h2, h.le, h.len⟩
 ·refine List.nodup_append.2 ⟨n1, List.nodup_append.2 ⟨h.good.nd, n5, fun a ha b hb e => ?_⟩, fun a ha b hb e => ?_⟩
  ·subst e; exact (aB a hb).1 ha
  ·subst e
   rcases List.mem_append.1 hb with hb | hb
   ·exact (aA a ha).1 hb
   ·exact n3 a ha a (by simp [hb]) rfl
 ·rcases List.mem_append.1 hj with hj | hj
  ·exact (aA j hj).2
  ·rcases List.mem_append.1 hj with hj | hj
   ·exact h.good.dis j hj
   ·exact (aB j hj).2
 ·rcases h.fs j hj with q | q | q
  ·exact .inl q
  ·exact .inr (.inl (by simp [q]))
  ·exact .inr (.inr q)
 ·rcases List.mem_append.1 hj with hj | hj
  ·exact .inl (by simp [hj])
  ·rcases List.mem_append.1 hj with hj | hj
   ·rcases h.sub j hj with q | q | q
    ·exact .inl (by simp [q])
    ·exact .inr (.inl q)
    ·exact .inr (.inr q)
   ·exact .inl (by simp [hj])
theorem Chg.set (hg : Good ls fr J) (hi : i ∈ J) : Chg ls fr J (ls.set i N) fr J 0 :=
 ⟨⟨hg.nd, hg.fn, fun j hj => by rw [List.length_set]; exact hg.fl j hj, hg.dis⟩, fun j hj => .inl hj, fun j hj => .inl hj, fun j _ h1 _ => List.getElem?_set_ne fun (e : i = j) => h1 (e ▸ hi), by simp, by simp⟩
theorem Good.sub (h : Good ls fr J) (hs : J'.Sublist J) : Good ls fr J' := ⟨h.nd.sublist hs, h.fn, h.fl, fun j hj => h.dis j (hs.subset hj)⟩
theorem addI_in : addI ls fr ∈ fr ∨ addI ls fr = ls.length := by
 unfold addI
 cases hq : fr.getLast? with
 | none => exact .inr rfl
 | some k => exact .inl (List.mem_of_getLast? hq)
theorem addL_at (hfr : ∀ j ∈ fr, j < ls.length) : (addL ls fr N)[addI ls fr]? = some N := by
 unfold addI addL
 cases hq : fr.getLast? with
 | none => simp
 | some k => exact List.getElem?_set_self (hfr k (List.mem_of_getLast? hq))
theorem addL_ne (hj : j < ls.length) (hne : j ≠ addI ls fr) : (addL ls fr N)[j]? = ls[j]? := by
 unfold addI at hne
 unfold addL
 cases hq : fr.getLast? with
 | none => exact List.getElem?_append_left hj
 | some k => rw [hq] at hne; exact List.getElem?_set_ne (Ne.symm hne)
theorem addL_len : ls.length ≤ (addL ls fr N).length ∧ (addL ls fr N).length ≤ ls.length + 1 := by
 unfold addL
 split <;> simp
theorem addI_drop (hn : fr.Nodup) (hfr : ∀ j ∈ fr, j < ls.length) : addI ls fr ∉ fr.dropLast := by
 unfold addI
 cases hq : fr.getLast? with
 | none => intro q; have := hfr _ (List.dropLast_subset _ q); simp at this
 | some k =>
  intro q
  obtain ⟨l, rfl⟩ : ∃ l, fr = l ++ [k] := List.getLast?_eq_some_iff.1 hq
  rw [List.dropLast_concat] at q
  exact (List.nodup_append.1 hn).2.2 k q k (by simp) rfl
theorem Chg.add (hg : Good ls fr J) (hJ : ∀ j ∈ J, j < ls.length) : Chg ls fr J (addL ls fr N) fr.dropLast (addI ls fr :: J) 1 := by
 have hs : ∀ j ∈ fr.dropLast, j ∈ fr := fun j hj => List.dropLast_subset _ hj
 refine ⟨⟨List.nodup_cons.2 ⟨fun q => ?_, hg.nd⟩, hg.fn.sublist (List.dropLast_sublist _), fun j hj => Nat.lt_of_lt_of_le (hg.fl j (hs j hj)) addL_len.1, fun j hj q => ?_⟩, fun j hj => .inl (hs j hj), fun j hj => ?_, fun j h1 h2 h3 => ?_, addL_len.1, addL_len.2⟩
 ·rcases addI_in (ls := ls) (fr := fr) with h | h
  ·exact hg.dis _ q h
  ·have := hJ _ q; omega
 ·rcases List.mem_cons.1 hj with rfl | hj
  ·exact addI_drop hg.fn hg.fl q
  ·exact hg.dis j hj (hs j q)
 ·rcases List.mem_cons.1 hj with rfl | hj
  ·rcases addI_in (ls := ls) (fr := fr) with h | h
   ·exact .inr (.inl h)
   ·exact .inr (.inr (by omega))
  ·exact .inl hj
 ·refine addL_ne h1 fun e => ?_
  rcases addI_in (ls := ls) (fr := fr) with h | h
  ·exact h3 (e ▸ h)
  ·omega
end
section
variable {R : RepT} {lo hi : Option Key} {ks : List Key} {kids : List Nat} {es : List Ent} {J : List Nat} {ls ls' : List Nd} {h a b i : Nat}
theorem Row.part (hr : Row R lo hi ks kids es J) : ∀ {j : Nat}, 1 ≤ j → j < kids.length → ∃ k e1 e2 J1 J2, ks[j - 1]? = some k ∧ Row R lo (some k) (ks.take (j - 1)) (kids.take j) e1 J1 ∧ Row R (some k) hi (ks.drop j) (kids.drop j) e2 J2 ∧ es = e1 ++ e2 ∧ J = J1 ++ J2 := by
 induction hr with
 | one h => intro j h1 h2; simp at h2; omega
 | @cons lo hi k c ks kids e1 e2 J1 J2 h t ih =>
  intro j h1 h2
  obtain ⟨j, rfl⟩ : ∃ q, j = q + 1 := ⟨j - 1, by omega⟩
  cases j with
  | zero => exact ⟨k, e1, e2, J1, J2, rfl, .one h, t, rfl, rfl⟩
  | succ j =>
   obtain ⟨k', e3, e4, J3, J4, q1, q2, q3, rfl, rfl⟩ := ih (j := j + 1) (by omega) (by simpa using h2)
   exact ⟨k', e1 ++ e3, e4, J1 ++ J3, J4, q1, .cons h q2, q3, by simp, by simp⟩
theorem Row.frame (hr : Row (Rep ls 2 4 h) lo hi ks kids es J) (hf : ∀ j ∈ J, ls'[j]? = ls[j]?) : Row (Rep ls' 2 4 h) lo hi ks kids es J :=
 hr.mono fun _ _ _ _ _ hJ hc => hc.frame fun j hj => hf j (hJ j hj)
theorem Left.frame (hr : Left (Rep ls 2 4 h) lo hi ks kids es J) (hf : ∀ j ∈ J, ls'[j]? = ls[j]?) : Left (Rep ls' 2 4 h) lo hi ks kids es J :=
 hr.mono fun _ _ _ _ _ hJ hc => hc.frame fun j hj => hf j (hJ j hj)
theorem Right.frame (hr : Right (Rep ls 2 4 h) lo hi ks kids es J) (hf : ∀ j ∈ J, ls'[j]? = ls[j]?) : Right (Rep ls' 2 4 h) lo hi ks kids es J :=
 hr.mono fun _ _ _ _ _ hJ hc => hc.frame fun j hj => hf j (hJ j hj)
theorem Row.lt (hr : Row (Rep ls 2 4 h) lo hi ks kids es J) : ∀ j ∈ J, j < ls.length := hr.idx fun _ _ _ _ _ hc => Rep.lt hc
theorem Left.idx {P : Nat → Prop} (hR : ∀ c lo hi es J, R c lo hi es J → ∀ j ∈ J, P j) (h : Left R lo hi ks kids es J) : ∀ j ∈ J, P j := by
 induction h with
 | nil => simp
 | cons h t ih => intro j hj; rcases List.mem_append.1 hj with hj | hj; exact hR _ _ _ _ _ h j hj; exact ih j hj
theorem Left.lt (hr : Left (Rep ls 2 4 h) lo hi ks kids es J) : ∀ j ∈ J, j < ls.length := hr.idx fun _ _ _ _ _ hc => Rep.lt hc
theorem Right.lt (hr : Right (Rep ls 2 4 h) lo hi ks kids es J) : ∀ j ∈ J, j < ls.length := by
 cases hr with
 | nil => simp
 | cons t => exact t.lt
theorem Rep.sz (hr : Rep ls a b h i lo hi es J) : ∃ N, ls[i]? = some N ∧ a ≤ N.size ∧ N.size ≤ b ∧ ∀ a' b', a' ≤ N.size → N.size ≤ b' → Rep ls a' b' h i lo hi es J := by
 cases h with
 | zero =>
  obtain ⟨h1, h2, h3, h4, h5, h6⟩ := hr
  have e : (Nd.mk (es.map (·.1)) (es.map (·.2)) []).size = es.length := by simp [Nd.size]
  exact ⟨_, h1, by rw [e]; exact h5, by rw [e]; exact h6, fun a' b' p q => ⟨h1, h2, h3, h4, by rwa [e] at p, by rwa [e] at q⟩⟩
 | succ h =>
  obtain ⟨ks, kids, J', h1, h2, h3, h4, h5⟩ := hr
  have e : (Nd.mk ks [] kids).size = kids.length := by
   have := h3.len
   unfold Nd.size
   rw [if_neg]
   show ¬ kids.length = 0
   omega
  exact ⟨_, h1, by rw [e]; exact h4, by rw [e]; exact h5, fun a' b' p q => ⟨ks, kids, J', h1, h2, h3, by rwa [e] at p, by rwa [e] at q⟩⟩
end
section
variable {key : Key} {n : Int} {es : List Ent} {lo hi : Option Key}
theorem SortE.filt (p : Ent → Bool) (hs : SortE es) : SortE (es.filter p) := List.Pairwise.sublist List.filter_sublist hs
theorem putE_sort (hs : SortE es) : SortE (putE key n es) := by
 unfold putE
 refine List.pairwise_append.2 ⟨hs.filt _, List.pairwise_cons.2 ⟨fun x hx => by simpa using (List.mem_filter.1 hx).2, hs.filt _⟩, fun x hx y hy => ?_⟩
 have h1 : ltT x.1 key := by simpa using (List.mem_filter.1 hx).2
 rcases List.mem_cons.1 hy with rfl | hy
 ·exact h1
 ·exact ltT_trans h1 (by simpa using (List.mem_filter.1 hy).2)
theorem putE_mem {x : Ent} (h : x ∈ putE key n es) : x = (key, n) ∨ x ∈ es := by
 unfold putE at h
 rcases List.mem_append.1 h with h | h
 ·exact .inr (List.mem_filter.1 h).1
 ·rcases List.mem_cons.1 h with h | h
  ·exact .inl h
  ·exact .inr (List.mem_filter.1 h).1
theorem putE_inb (hk : Inb lo hi key) (h : ∀ e ∈ es, Inb lo hi e.1) : ∀ e ∈ putE key n es, Inb lo hi e.1 := fun e he => by
 rcases putE_mem he with rfl | he
 ·exact hk
 ·exact h e he
theorem hasK_no (h : ∀ e ∈ es, e.1 ≠ key) : hasK key (es.map (·.1)) = false := by
 unfold hasK
 rw [List.any_eq_false]
 intro x hx
 obtain ⟨e, he, rfl⟩ := List.mem_map.1 hx
 simpa using h e he
theorem putE_leaf (hs : SortE es) (h : ∀ e ∈ es, e.1 ≠ key) : putE key n es = es.take (posK key (es.map (·.1))) ++ (key, n) :: es.drop (posK key (es.map (·.1))) := by
 obtain ⟨c1, c2, _⟩ := cutE (k := key) hs
 rw [c1, c2 (hasK_no h)]
 rfl
theorem putE_len (hs : SortE es) (h : ∀ e ∈ es, e.1 ≠ key) : (putE key n es).length = es.length + 1 := by
 rw [putE_leaf hs h]
 simp
 omega
end
end Go.Proofs.Ytnlmnejellipdaa
namespace Go.Proofs.Ytnlmnejellipdaa
open Go X
set_option maxRecDepth 100000
attribute [local irreducible] X.Go' X.GoO X.GoR X.GoG X.GoC X.GoF X.GoFV X.GoFG X.Ex X.GoD X.GoDV X.GoDG
set_option linter.unusedVariables false
set_option linter.unusedSimpArgs false
section
variable {σ : Nat → Tag} {m : Mem} {p : Nat} {vl vf : Value} {ns : List (Nat → Value)} {ls : List Nd} {fr : List Nat} {root n : Int}
theorem split_spec {h a i : Nat} {lo hi : Option Key} {es : List Ent} {J : List Nat} {N : Nd} (ht : TMH [] σ m p vl vf ns ls fr root n) (hr : Rep ls a 5 h i lo hi es J) (hN : ls[i]? = some N) (h5 : N.size = 5) (hg : Good ls fr J) (hl : ls.length ≤ 1000000) :
  ∃ m' σ' vl' vf' ns' ls' fr' least k e1 e2 J1 J2, Ca 64 [Pt p, nv i] m (.tuple #[nv k, .string least]) m' ∧ TMH [] σ' m' p vl' vf' ns' ls' fr' root n ∧ Gr σ σ' m m' ∧ Rep ls' 2 4 h i lo (some least) e1 J1 ∧ Rep ls' 2 4 h k (some least) hi e2 J2 ∧ es = e1 ++ e2 ∧ Chg ls fr J ls' fr' (J1 ++ J2) 1 ∧ Inb lo hi least := by
 have hi' : i < ls.length := (List.getElem?_eq_some_iff.1 hN).1
 have hfl := hg.frlen
 have hif : i ∉ fr := hg.dis i hr.top
 have hJ := hr.lt
 have hne : i ≠ addI ls fr := fun e => by
  rcases addI_in (ls := ls) (fr := fr) with q | q
  ·exact hif (e ▸ q)
  ·omega
 cases h with
 | zero =>
  obtain ⟨h1, rfl, h3, h4, h6, h7⟩ := hr
  rw [h1] at hN
  cases hN
  have hlen : es.length = 5 := by simpa [Nd.size] using h5
  obtain ⟨x, hx⟩ : ∃ x, es[2]? = some x := ⟨_, List.getElem?_eq_getElem (by omega)⟩
  obtain ⟨m', σ', vl', vf', ns', c1, c2, c3⟩ := splitL ht h1 (by rw [List.length_map]; exact hlen) (by rw [List.length_map]; exact hlen) hl hg.fl (by omega) hif (least := x.1) (by rw [List.getElem?_map, hx]; rfl)
  have hd : es.drop 2 = x :: es.drop 3 := by
   obtain ⟨hl, hv⟩ := List.getElem?_eq_some_iff.1 hx
   rw [← hv]; exact List.drop_eq_getElem_cons hl
  obtain ⟨p1, p2, p3⟩ := List.pairwise_append.1 (by rw [List.take_append_drop 2 es]; exact h3 : SortE (es.take 2 ++ es.drop 2))
  have p4 := List.pairwise_cons.1 (hd ▸ p2)
  have hx2 : x ∈ es.drop 2 := by rw [hd]; simp
  have hlt1 : i < (addL ls fr ⟨(es.map (·.1)).drop 2, (es.map (·.2)).drop 2, []⟩).length := Nat.lt_of_lt_of_le hi' addL_len.1
  refine ⟨m', σ', vl', vf', ns', _, _, x.1, addI ls fr, es.take 2, es.drop 2, [i], [addI ls fr], c1, c2, c3, ⟨?_, rfl, p1, fun e he => ⟨(h4 e (List.mem_of_mem_take he)).1, fun q hq => ?_⟩, ?_, ?_⟩, ⟨?_, rfl, p2, fun e he => ⟨fun q hq => ?_, (h4 e (List.mem_of_mem_drop he)).2⟩, ?_, ?_⟩, (List.take_append_drop 2 es).symm, ?_, h4 x (List.mem_of_getElem? hx)⟩
  ·rw [List.getElem?_set_self hlt1]; simp
  ·cases hq; exact p3 e he x hx2
  ·rw [List.length_take]; omega
  ·rw [List.length_take]; omega
  ·rw [List.getElem?_set_ne hne, addL_at hg.fl]; simp
  ·cases hq
   rw [hd] at he
   rcases List.mem_cons.1 he with rfl | he
   ·exact ltT_irrefl _
   ·exact ltT_asymm (p4.1 e he)
  ·rw [List.length_drop]; omega
  ·rw [List.length_drop]; omega
  ·exact (((Chg.add hg hJ).trans (Chg.set (Chg.add hg hJ).good (by simp))).more (by omega)).perm (List.Perm.swap _ _ _)
 | succ h =>
  obtain ⟨ks, kids, J', h1, rfl, h3, h4, h6⟩ := hr
  rw [h1] at hN
  cases hN
  have hkl := h3.len
  have hlen : kids.length = 5 := by
   unfold Nd.size at h5
   rw [if_neg (by show ¬ kids.length = 0; omega)] at h5
   exact h5
  obtain ⟨k, e1, e2, J1, J2, hk, r1, r2, rfl, rfl⟩ := h3.part (j := 2) (by omega) (by omega)
  obtain ⟨m', σ', vl', vf', ns', c1, c2, c3⟩ := splitN ht h1 (by omega) hlen hl hg.fl (by omega) hif (least := k) hk
  have hlt1 : i < (addL ls fr ⟨ks.drop 2, [], kids.drop 2⟩).length := Nat.lt_of_lt_of_le hi' addL_len.1
  have hfrm : ∀ j ∈ J1 ++ J2, ((addL ls fr ⟨ks.drop 2, [], kids.drop 2⟩).set i ⟨ks.take 1, [], kids.take 2⟩)[j]? = ls[j]? := fun j hj => by
   have h8 : i ≠ j := fun e => (List.nodup_cons.1 hg.nd).1 (e ▸ hj)
   rw [List.getElem?_set_ne h8, addL_ne (hJ j (List.mem_cons.2 (.inr hj))) fun e => ?_]
   rcases addI_in (ls := ls) (fr := fr) with q | q
   ·exact hg.dis j (List.mem_cons.2 (.inr hj)) (e ▸ q)
   ·have := hJ j (List.mem_cons.2 (.inr hj)); omega
  refine ⟨m', σ', vl', vf', ns', _, _, k, addI ls fr, e1, e2, i :: J1, addI ls fr :: J2, c1, c2, c3, ⟨_, _, J1, List.getElem?_set_self hlt1, rfl, r1.frame fun j hj => hfrm j (by simp [hj]), ?_, ?_⟩, ⟨_, _, J2, ?_, rfl, r2.frame fun j hj => hfrm j (by simp [hj]), ?_, ?_⟩, rfl, ?_, ?_⟩
  ·rw [List.length_take]; omega
  ·rw [List.length_take]; omega
  ·rw [List.getElem?_set_ne hne, addL_at hg.fl]
  ·rw [List.length_drop]; omega
  ·rw [List.length_drop]; omega
  ·refine (((Chg.add hg hJ).trans (Chg.set (Chg.add hg hJ).good (by simp))).more (by omega)).perm ?_
   exact (List.perm_middle (l₁ := i :: J1) (a := addI ls fr) (l₂ := J2)).symm
  ·obtain ⟨y, hy⟩ := List.exists_mem_of_ne_nil _ (r2.good goodRep).2.2
   obtain ⟨z, hz⟩ := List.exists_mem_of_ne_nil _ (r1.good goodRep).2.2
   have hy1 := (r2.good goodRep).2.1 y hy
   have hz1 := (r1.good goodRep).2.1 z hz
   refine ⟨fun l hl q => hz1.1 l hl (ltT_trans (hz1.2 k rfl) q), fun h' hh => ?_⟩
   rcases ltT_total (hy1.1 k rfl) with e | e
   ·rw [← e]; exact hy1.2 h' hh
   ·exact ltT_trans e (hy1.2 h' hh)
theorem put_spec {key : Key} {x : Int} : ∀ {h a i : Nat} {σ : Nat → Tag} {m : Mem} {vl vf : Value} {ns : List (Nat → Value)} {ls : List Nd} {fr : List Nat} {lo hi : Option Key} {es : List Ent} {J : List Nat}, TMH [] σ m p vl vf ns ls fr root n → Rep ls a 4 h i lo hi es J → 1 ≤ a → Inb lo hi key → (∀ e ∈ es, e.1 ≠ key) → Good ls fr J → ls.length + h ≤ 900000 →
    ∃ m' σ' vl' vf' ns' ls' fr' J', Ca 62 [Pt p, nv i, .string key, I x] m (.tuple #[]) m' ∧ TMH [] σ' m' p vl' vf' ns' ls' fr' root n ∧ Gr σ σ' m m' ∧ Rep ls' a 5 h i lo hi (putE key x es) J' ∧ Chg ls fr J ls' fr' J' h
  | 0, a, i, σ, m, vl, vf, ns, ls, fr, lo, hi, es, J, ht, hr, ha, hk, hno, hg, hl => by
    obtain ⟨h1, rfl, h3, h4, h6, h7⟩ := hr
    have hsk : SortK (es.map (·.1)) := by
      unfold SortK
      rw [List.pairwise_map]
      exact h3
    have hpl := posK_le key (es.map (·.1))
    rw [List.length_map] at hpl
    obtain ⟨mA, hA⟩ : ∃ mA, m.push (box1 (.string key)) = mA := ⟨_, rfl⟩
    obtain ⟨mB, hB⟩ : ∃ mB, mA.push (box1 (I x)) = mB := ⟨_, rfl⟩
    have hlf := putE_leaf (n := x) h3 hno
    have l0 : (Nd.fld ⟨es.map (·.1), es.map (·.2), []⟩ 0).length = es.length := by show ((es.map (·.1)).map sv).length = _; simp
    have l1 : (Nd.fld ⟨es.map (·.1), es.map (·.2), []⟩ 1).length = es.length := by show ((es.map (·.2)).map iv).length = _; simp
    obtain ⟨id, cp, o, q0, c0, q1, c1, mC, mD, mE, mF, v0, v1, σ', ns', hv, gm, gA, gB, gC, f0, f1, a0, a1, s0, s1, hT, hG⟩ := ins2 (F := 1) (k0 := posK key (es.map (·.1))) (k1 := posK key (es.map (·.1))) (x0 := .string key) (x1 := I x) (N' := ⟨(putE key x es).map (·.1), (putE key x es).map (·.2), []⟩) ht h1 (.inl rfl) (by rw [l0]; exact hpl) (by rw [l1]; exact hpl) (by rw [l0]; omega) (by rw [l1]; omega) hA hB
      (by show ((putE key x es).map (·.1)).map sv = ((es.map (·.1)).map sv).take _ ++ _ :: ((es.map (·.1)).map sv).drop _
          rw [hlf]; simp [List.map_take, List.map_drop]) (by
          show ((putE key x es).map (·.2)).map iv = ((es.map (·.2)).map iv).take _ ++ _ :: ((es.map (·.2)).map iv).drop _
          rw [hlf]; simp [List.map_take, List.map_drop]) rfl
    rw [l0] at f0 a0
    rw [l1] at f1 a1
    have hil : i < ls.length := (List.getElem?_eq_some_iff.1 h1).1
    have hpe := putE_len (n := x) h3 hno
    refine ⟨mF, σ', vl, vf, ns', _, fr, [i], callX_of (call_go (F := _) rfl rfl fun Q hQ => ?_), hT, hG, ⟨List.getElem?_set_self hil, rfl, putE_sort h3, putE_inb hk h4, by omega, by omega⟩, (Chg.set hg (by simp)).more (by omega)⟩
    obtain ⟨id', cp', o', av, bv, cv, hv', nd⟩ := ht.node h1
    rw [hv] at hv'
    cases hv'
    have hl := nd.leaf
    have hl0 : decide ((([] : List Nat).length : Int) = 0) = true := rfl
    rw [hl0] at hl
    have hbs := bs_spec (k := key) nd.r0 hsk (by rw [List.length_map]; omega)
    have z1 := nd.get
    rw [gm] at z1
    cases z1
    have z2 := nd.c0
    rw [f0] at z2
    cases z2
    have b1 := bone72 (m := m) (x := key)
    have b2 := bone73 (m := mA) (x := x)
    rw [hA] at b1
    rw [hB] at b2
    have htg := ht.get
    subst hv
    simp only [↓tbS, Nat.reduceShiftRight, Nat.reduceAnd, Nat.reduceBneDiff, bne_self_eq_false, symA, go_opsd, symB, X.put, X.look, Arg.ev, keepOf, restrict, evs, initEnv, noTup, cls, quiet, Nat.reduceAdd, Nat.reduceEqDiff, ↓reduceIte, reduceCtorEq, eq_self, htg, hil, goR_call hl, gm, f0, goR_call hbs, b1, gA, f1, b2, goDV3c a0, gB, goDV3c a1, gC, s0, s1]
    exact hQ _ _ _ rfl ⟨rfl, rfl⟩
  | h + 1, a, i, σ, m, vl, vf, ns, ls, fr, lo, hi, es, J, ht, hr, ha, hk, hno, hg, hl => by
    obtain ⟨ks, kids, J', h1, rfl, h3, h4, h5⟩ := hr
    have hks := (h3.keys goodRep).1
    have hkl := h3.len
    obtain ⟨KA, A, eA, JA, c, lo', hi', e2, Jc, KB, B, eB, JB, z1, z2, z3, z4, rfl, rfl, rfl, rfl, z9, z10, z11⟩ := h3.way goodRep hk
    have hg' : Good ls fr ((i :: JA) ++ (Jc ++ JB)) := hg
    have hil : i < ls.length := (List.getElem?_eq_some_iff.1 h1).1
    have hJA : ∀ j ∈ i :: JA, j < ls.length := fun j hj => by
      rcases List.mem_cons.1 hj with rfl | hj
      · exact hil
      · exact z1.lt j hj
    have hJB := z3.lt
    have hgc : Good ls fr Jc := hg'.sub ((List.sublist_append_left _ _).trans (List.sublist_append_right _ _))
    obtain ⟨m1, σ1, vl1, vf1, ns1, ls1, fr1, Jc1, c1, t1, g1, r1, q1⟩ := put_spec (x := x) (h := h) ht z2 (by omega) z4 (fun e he => hno e (by simp [he])) hgc (by omega)
    have Q1 := q1.mid hg' hJA hJB
    obtain ⟨n1, n2, n3⟩ := List.nodup_append.1 hg'.nd
    obtain ⟨n4, n5, n6⟩ := List.nodup_append.1 n2
    have aw : ∀ j, j ∈ i :: JA ∨ j ∈ JB → ls1[j]? = ls[j]? := fun j hj => by
      rcases hj with hj | hj
      · exact q1.out j (hJA j hj) (fun q => n3 j hj j (by simp [q]) rfl) (hg'.dis j (List.mem_append.2 (.inl hj)))
      · exact q1.out j (hJB j hj) (fun q => n6 j q j hj rfl) (hg'.dis j (by simp [hj]))
    obtain ⟨N1, hN1, s1, s2, s3⟩ := r1.sz
    have hAl := z1.len
    
    obtain ⟨id, cp, o, av, bv, cv, hv, nd⟩ := ht.node h1
    have hleaf := nd.leaf
    have hk0 : ¬ (((A ++ c :: B).length : Nat) : Int) = 0 := by simp only [List.length_append, List.length_cons]; omega
    rw [decide_eq_false hk0] at hleaf
    have hway := nd.way (key := key) hks (by show (KA ++ KB).length ≤ 1000; omega)
    have hw9 : wayK key (Nd.mk (KA ++ KB) [] (A ++ c :: B)).keys = A.length := z9
    rw [hw9] at hway
    have hwc : (A ++ c :: B)[A.length]? = some c := by rw [List.getElem?_append_right (Nat.le_refl _), Nat.sub_self]; rfl
    obtain ⟨ac, cc, oc, d1, d2, d3⟩ := nd.kidAt hwc
    have hwl : A.length < (A ++ c :: B).length := (List.getElem?_eq_some_iff.1 hwc).1
    have hc2 := nd.c2
    have hcl : c < ls1.length := (List.getElem?_eq_some_iff.1 hN1).1
    obtain ⟨id1, cp1, o1, av1, bv1, cv1, hv1, nd1⟩ := t1.node hN1
    have hsize := nd1.size
    have htg := ht.get
    have htg1 := t1.get
    subst d1 hv hv1
    by_cases h5' : N1.size ≤ 4
    · have hgt : ¬ (4 : Int) < (N1.size : Int) := by omega
      refine ⟨m1, σ1, _, vf1, ns1, ls1, fr1, i :: (JA ++ (Jc1 ++ JB)), callX_of (call_go (F := _) rfl rfl fun Q hQ => ?_), t1, g1, ⟨KA ++ KB, A ++ c :: B, _, by rw [aw i (.inl (by simp))]; exact h1, rfl, ?_, h4, by omega⟩, Q1.more (by omega)⟩
      · simp only [symA, symB, X.put, X.look, Arg.ev, keepOf, restrict, evs, initEnv, Nat.reduceAdd, Nat.reduceEqDiff, ↓reduceIte, reduceCtorEq, eq_self, htg, hil, goR_call hleaf, nd.get, hc2, goR_call hway, hwl, d2, d3, goR_call c1, htg1, hcl, goR_call hsize, hgt]
        exact hQ _ _ _ rfl ⟨rfl, rfl⟩
      · rw [putE_mid z10 z11]
        exact (z1.frame fun j hj => aw j (.inl (by simp [hj]))).plug (Right.plug (s3 2 4 s1 h5') (z3.frame fun j hj => aw j (.inr hj)))
    · have hgt : (4 : Int) < (N1.size : Int) := by omega
      have hq1 := q1.len
      obtain ⟨m2, σ2, vl2, vf2, ns2, ls2, fr2, least, k, e3, e4, J3, J4, c2, t2, g2, r3, r4, heq, q2, hin⟩ := split_spec t1 r1 hN1 (by omega) q1.good (by omega)
      have Q2 := q2.mid Q1.good (fun j hj => Nat.lt_of_lt_of_le (hJA j hj) q1.le) (fun j hj => Nat.lt_of_lt_of_le (hJB j hj) q1.le)
      obtain ⟨y1, y2, y3⟩ := List.nodup_append.1 Q1.good.nd
      obtain ⟨y4, y5, y6⟩ := List.nodup_append.1 y2
      have aw2 : ∀ j, j ∈ i :: JA ∨ j ∈ JB → ls2[j]? = ls[j]? := fun j hj => by
        rw [← aw j hj]
        rcases hj with hj | hj
        · exact q2.out j (Nat.lt_of_lt_of_le (hJA j hj) q1.le) (fun q => y3 j hj j (by simp [q]) rfl) (Q1.good.dis j (List.mem_append.2 (.inl hj)))
        · exact q2.out j (Nat.lt_of_lt_of_le (hJB j hj) q1.le) (fun q => y6 j q j hj rfl) (Q1.good.dis j (by simp [hj]))
      have h1' : ls2[i]? = some ⟨KA ++ KB, [], A ++ c :: B⟩ := by rw [aw2 i (.inl (by simp))]; exact h1
      have hil2 : i < ls2.length := (List.getElem?_eq_some_iff.1 h1').1
      obtain ⟨mA, hA⟩ : ∃ mA, m2.push (box1 (.string least)) = mA := ⟨_, rfl⟩
      obtain ⟨mB, hB⟩ : ∃ mB, mA.push (box1 (nv k)) = mB := ⟨_, rfl⟩
      have hKAB : (KA ++ KB).length = KA.length + KB.length := List.length_append
      have hAB : (A ++ c :: B).length = A.length + B.length + 1 := by simp; omega
      have l0 : (Nd.fld ⟨KA ++ KB, [], A ++ c :: B⟩ 0).length = (KA ++ KB).length := List.length_map ..
      have l2 : (Nd.fld ⟨KA ++ KB, [], A ++ c :: B⟩ 2).length = (A ++ c :: B).length := List.length_map ..
      obtain ⟨id2, cp2, o2, q0, c0, q1', c1', mC, mD, mE, mF, v0, v1, σ', ns', hv2, gm, gA, gB, gC, f0, f1, a0, a1, st0, st1, hT, hG⟩ := ins2 (F := 2) (k0 := A.length) (k1 := A.length + 1) (x0 := .string least) (x1 := nv k) (N' := ⟨KA ++ least :: KB, [], A ++ c :: k :: B⟩) t2 h1' (.inr rfl) (by rw [l0]; omega) (by rw [l2]; omega) (by rw [l0]; omega) (by rw [l2]; omega) hA hB
        (by show (KA ++ least :: KB).map sv = ((KA ++ KB).map sv).take _ ++ _ :: ((KA ++ KB).map sv).drop _
            rw [hAl, ← List.map_take, ← List.map_drop, List.take_left' rfl, List.drop_left' rfl]; simp) (by
            show (A ++ c :: k :: B).map nv = ((A ++ c :: B).map nv).take _ ++ _ :: ((A ++ c :: B).map nv).drop _
            have e : A ++ c :: B = (A ++ [c]) ++ B := by simp
            rw [e, ← List.map_take, ← List.map_drop, List.take_left' (by simp), List.drop_left' (by simp)]; simp) rfl
      rw [l0] at f0 a0
      rw [l2] at f1 a1
      have Q3 := Chg.set (N := ⟨KA ++ least :: KB, [], A ++ c :: k :: B⟩) (i := i) Q2.good (by simp)
      have hii : ∀ j, j ∈ JA ++ ((J3 ++ J4) ++ JB) → (ls2.set i ⟨KA ++ least :: KB, [], A ++ c :: k :: B⟩)[j]? = ls2[j]? := fun j hj => List.getElem?_set_ne fun (e : i = j) => (List.nodup_cons.1 Q2.good.nd).1 (e ▸ hj)
      refine ⟨mF, σ', vl2, vf2, ns', _, fr2, i :: (JA ++ (J3 ++ (J4 ++ JB))), callX_of (call_go (F := _) rfl rfl fun Q hQ => ?_), hT, g1.trans (g2.trans hG), ⟨KA ++ least :: KB, A ++ c :: k :: B, _, List.getElem?_set_self hil2, rfl, ?_, ?_, ?_⟩, ?_⟩
      · have b1 := bone72 (m := m2) (x := least)
        have b2 := bone73 (m := mA) (x := (k : Int))
        rw [hA] at b1
        rw [hB] at b2
        have htg2 := t2.get
        have w1 : IntKind.i64.wrap ((A.length : Int) + 1) = ((A.length + 1 : Nat) : Int) := by rw [wrap_i64 (by omega) (by omega)]; omega
        subst hv2
        simp only [↓tbS, Nat.reduceShiftRight, Nat.reduceAnd, Nat.reduceBneDiff, bne_self_eq_false, symA, go_opsd, symB, X.put, X.look, Arg.ev, keepOf, restrict, evs, initEnv, noTup, cls, quiet, Nat.reduceAdd, Nat.reduceEqDiff, ↓reduceIte, reduceCtorEq, eq_self, htg, hil, goR_call hleaf, nd.get, hc2, goR_call hway, hwl, d2, d3, goR_call c1, htg1, hcl, goR_call hsize, hgt, goR_call c2, htg2, hil2, gm, f0, b1, gA, f1, w1, b2, goDV3c a0, gB, goDV3c a1, gC, st0, st1]
        exact hQ _ _ _ rfl ⟨rfl, rfl⟩
      · rw [putE_mid z10 z11, heq, List.append_assoc]
        refine (z1.frame fun j hj => ?_).plug (.cons (r3.frame fun j hj => hii j (by simp [hj])) (Right.plug (r4.frame fun j hj => hii j (by simp [hj])) (z3.frame fun j hj => ?_)))
        · rw [hii j (by simp [hj])]; exact aw2 j (.inl (by simp [hj]))
        · rw [hii j (by simp [hj])]; exact aw2 j (.inr hj)
      · simp only [List.length_append, List.length_cons] at h4 ⊢; omega
      · simp only [List.length_append, List.length_cons] at h5 ⊢; omega
      · have := (Q1.trans (Q2.trans Q3)).more (k' := h + 1) (by omega)
        simpa [List.append_assoc] using this
end
theorem Rep.big2 {ls : List Nd} : ∀ {h i lo hi es J}, Rep ls 2 4 h i lo hi es J → 2 ^ (h + 1) ≤ es.length
 | 0, i, lo, hi, es, J, hr => hr.2.2.2.2.1
 | h + 1, i, lo, hi, es, J, hr => by
  obtain ⟨ks, kids, J', h1, h2, h3, h4, h5⟩ := hr
  have := h3.leng (n := 2 ^ (h + 1)) fun c lo hi es J hc => Rep.big2 hc
  have h6 : 1 * 2 ^ (h + 1) ≤ (kids.length - 1) * 2 ^ (h + 1) := Nat.mul_le_mul_right _ (by omega)
  rw [Nat.pow_succ]
  omega
theorem pow_lt10 {h n : Nat} (h1 : 2 ^ (h + 1) ≤ n) (h2 : n ≤ 4000) : h ≤ 10 := by
 by_cases q : h ≤ 10
 ·exact q
 ·have : 2 ^ 12 ≤ 2 ^ (h + 1) := Nat.pow_le_pow_right (by omega) (by omega)
  omega
inductive Root (ls : List Nd) (fr : List Nat) : Int → List Ent → Prop where
 | nil (h : Good ls fr []) : Root ls fr (-1) []
 | node {h r : Nat} {es : List Ent} {J : List Nat} (h1 : Rep ls (if h = 0 then 1 else 2) 4 h r none none es J) (h2 : Good ls fr J) : Root ls fr (r : Int) es
theorem Root.low {ls : List Nd} {es : List Ent} {h r : Nat} {J : List Nat} (h1 : Rep ls (if h = 0 then 1 else 2) 4 h r none none es J) (hn : es.length ≤ 4000) : h ≤ 10 := by
 cases h with
 | zero => omega
 | succ h => exact pow_lt10 (Rep.big2 h1) hn
theorem inb_none {k : Key} : Inb none none k := ⟨by simp, by simp⟩
theorem ent_inj : ∀ {a b : List Ent}, a.map (·.1) = b.map (·.1) → a.map (·.2) = b.map (·.2) → a = b
 | [], [], _, _ => rfl
 | [], y :: b, h, _ => by simp at h
 | x :: a, [], h, _ => by simp at h
 | x :: a, y :: b, h, h' => by
  simp only [List.map_cons, List.cons.injEq] at h h'
  rw [ent_inj h.2 h'.2, Prod.ext h.1 h'.1]
theorem putE_at {key : Key} {x : Int} {es : List Ent} (hs : SortE es) (h : hasK key (es.map (·.1)) = true) : putE key x es = es.take (posK key (es.map (·.1))) ++ (key, x) :: es.drop (posK key (es.map (·.1)) + 1) ∧ (putE key x es).length = es.length ∧ (putE key x es).map (·.1) = es.map (·.1) ∧ (putE key x es).map (·.2) = (es.map (·.2)).set (posK key (es.map (·.1))) x := by
 obtain ⟨c1, _, c3⟩ := cutE (k := key) hs
 obtain ⟨v, q1, q2⟩ := c3 h
 have hl := (List.getElem?_eq_some_iff.1 q1).1
 have e : putE key x es = es.take (posK key (es.map (·.1))) ++ (key, x) :: es.drop (posK key (es.map (·.1)) + 1) := by rw [c1, q2]; rfl
 have ed : es = es.take (posK key (es.map (·.1))) ++ (key, v) :: es.drop (posK key (es.map (·.1)) + 1) := by
  conv => lhs; rw [← List.take_append_drop (posK key (es.map (·.1))) es]
  congr 1
  obtain ⟨hl, hv⟩ := List.getElem?_eq_some_iff.1 q1
  rw [← hv]; exact List.drop_eq_getElem_cons hl
 refine ⟨e, ?_, ?_, ?_⟩
 ·rw [e]; simp; omega
 ·rw [e]
  conv => rhs; rw [ed]
  simp
 ·rw [e, List.set_eq_take_append_cons_drop, if_pos (by rw [List.length_map]; exact hl)]
  simp [List.map_take, List.map_drop]
theorem Rep.setval {ls : List Nd} {key : Key} {x : Int} : ∀ {h i a b lo hi es J}, Rep ls a b h i lo hi es J → Inb lo hi key → J.Nodup → ∀ {eL : List Ent}, ls[leafOf ls key h i]? = some ⟨eL.map (·.1), eL.map (·.2), []⟩ → hasK key (eL.map (·.1)) = true →
  Rep (ls.set (leafOf ls key h i) ⟨(putE key x eL).map (·.1), (putE key x eL).map (·.2), []⟩) a b h i lo hi (putE key x es) J ∧ leafOf ls key h i ∈ J ∧ ∀ e ∈ eL, e ∈ es
 | 0, i, a, b, lo, hi, es, J, hr, hk, hn, eL, hL, hh => by
  obtain ⟨h1, rfl, h3, h4, h5, h6⟩ := hr
  have hL' : ls[i]? = some ⟨eL.map (·.1), eL.map (·.2), []⟩ := hL
  rw [h1] at hL'
  simp only [Option.some.injEq, Nd.mk.injEq] at hL'
  have e := ent_inj hL'.1 hL'.2.1
  subst e
  have hp := (putE_at (x := x) h3 hh).2.1
  refine ⟨⟨List.getElem?_set_self (List.getElem?_eq_some_iff.1 h1).1, rfl, putE_sort h3, putE_inb hk h4, by omega, by omega⟩, by show i ∈ [i]; simp, fun e he => he⟩
 | h + 1, i, a, b, lo, hi, es, J, hr, hk, hn, eL, hL, hh => by
  obtain ⟨ks, kids, J', h1, rfl, h3, h4, h5⟩ := hr
  obtain ⟨KA, A, eA, JA, c, lo', hi', e2, Jc, KB, B, eB, JB, z1, z2, z3, z4, rfl, rfl, rfl, rfl, z9, z10, z11⟩ := h3.way goodRep hk
  have hwc : (A ++ c :: B)[wayK key (KA ++ KB)]? = some c := by rw [z9, List.getElem?_append_right (Nat.le_refl _), Nat.sub_self]; rfl
  have e1 : leafOf ls key (h + 1) i = leafOf ls key h c := by
   simp only [leafOf, h1, hwc]
  rw [e1] at hL ⊢
  obtain ⟨m1, m2⟩ := List.nodup_cons.1 hn
  obtain ⟨n1, n2, n3⟩ := List.nodup_append.1 m2
  obtain ⟨n4, n5, n6⟩ := List.nodup_append.1 n2
  obtain ⟨r1, r2, r3⟩ := Rep.setval (x := x) z2 z4 n4 hL hh
  refine ⟨⟨KA ++ KB, A ++ c :: B, _, ?_, rfl, ?_, h4, h5⟩, by simp [r2], fun e he => by simp [r3 e he]⟩
  ·rw [List.getElem?_set_ne fun e => m1 (by rw [← e]; simp [r2])]; exact h1
  ·rw [putE_mid z10 z11]
   refine (z1.frame fun j hj => List.getElem?_set_ne fun e => n3 j hj j (by rw [← e]; simp [r2]) rfl).plug (Right.plug r1 (z3.frame fun j hj => List.getElem?_set_ne fun e => n6 j (by rw [← e]; exact r2) j hj rfl))
end Go.Proofs.Ytnlmnejellipdaa
namespace Go.Proofs.Ytnlmnejellipdaa
open Go X
set_option maxRecDepth 100000
attribute [local irreducible] X.Go' X.GoO X.GoR X.GoG X.GoC X.GoF X.GoFV X.GoFG X.Ex X.GoD X.GoDV X.GoDG
set_option linter.unusedVariables false
set_option linter.unusedSimpArgs false
def TreeM (σ : Nat → Tag) (m : Mem) (p : Nat) (es : List Ent) (k : Nat) : Prop := ∃ vl vf ns ls fr root, TMH [] σ m p vl vf ns ls fr root (es.length : Int) ∧ Root ls fr root es ∧ ls.length ≤ 12 * k ∧ es.length ≤ k
section
variable {σ : Nat → Tag} {m : Mem} {p : Nat} {vl vf : Value} {ns : List (Nat → Value)} {ls : List Nd} {fr : List Nat} {root n : Int} {key : Key} {x : Int} {es : List Ent} {k : Nat}
theorem new_spec (hσ : ∀ j, m.next ≤ j → σ j = .no) : ∃ m', Ca 29 [] m (Pt m.next) m' ∧ Nx m m' ∧ m'.next = m.next + 1 ∧ TreeM (fun j => if j = m.next then .top else σ j) m' m.next [] 0 := by
 obtain ⟨m', hm⟩ : ∃ m', m.push { cells := [.slice none 0 0, .slice none 0 0, I (-1), I 0], rw := true, spare := none, kin := [] } = m' := ⟨_, rfl⟩
 have hb : buildE m [.slice none 0 0, .slice none 0 0, I 0, I 0] [(0, 1), (1, 1), (2, 1), (3, 1)] [(2, I (-1))] = some (.val (.agg ⟨[.slice none 0 0, .slice none 0 0, I (-1), I 0]⟩) m) := by kernel_rfl
 have hn : m'.next = m.next + 1 := by rw [← hm]; simp
 refine ⟨m', callX_of (call_go (F := _) rfl rfl fun Q hQ => ?_), hm ▸ .push, hn, .slice none 0 0, .slice none 0 0, [], [], [], -1, ⟨hm ▸ push_self, if_pos rfl, by omega, ⟨[], .nil, by simp⟩, Tg.nil, rfl, fun j hj => ?_, fun i N _ hN => by simp at hN⟩, .nil ⟨.nil, .nil, by simp, by simp⟩, by simp, by simp⟩
 ·simp only [symA, symB, X.put, X.look, Arg.ev, keepOf, restrict, initEnv, noTup, ↓reduceIte, eq_self, Int.reduceNeg, hb, hm]
  exact hQ _ _ _ rfl ⟨rfl, rfl⟩
 ·show (if j = m.next then Tag.top else σ j) = .no
  rw [if_neg (by omega)]; exact hσ j (by omega)
theorem find_none (h : TMH [] σ m p vl vf ns ls fr (-1) n) : Ca 54 [Pt p, .string key] m (.tuple #[.pointer none, I 0, .bool false]) m := by
 refine callX_of (call_go (F := _) rfl rfl fun Q hQ => ?_)
 have h1 : (-1 : Int) < 0 := by omega
 simp only [symA, symB, wantedX, X.put, X.look, Arg.ev, keepOf, restrict, initEnv, Nat.reduceEqDiff, ↓reduceIte, reduceCtorEq, eq_self, Int.reduceNeg, isNil_ptr', h.get, h1]
 exact hQ _ _ _ rfl ⟨rfl, rfl⟩
theorem lit01 {m : Mem} {a b : Option Addr} {l c l' c' : Nat} : buildE m [.slice none 0 0, .slice none 0 0, .slice none 0 0] [(0, 1), (1, 1), (2, 1)] [(0, .slice a l c), (1, .slice b l' c')] = some (.val (.agg ⟨[.slice a l c, .slice b l' c', .slice none 0 0]⟩) m) := build01
theorem put_found (h : TreeM σ m p es k) (hk : (getE key es).isSome = true) : ∃ m' σ', Ca 44 [Pt p, .string key, I x] m (.tuple #[I ((getE key es).getD 0), .bool true, I 0]) m' ∧ TreeM σ' m' p (putE key x es) (k + 1) ∧ Gr σ σ' m m' := by
 obtain ⟨vl, vf, ns, ls, fr, root, ht, hr, b1, b2⟩ := h
 cases hr with
 | nil _ => simp [getE] at hk
 | @node h r es J hr hg =>
  have ha : 1 ≤ (if h = 0 then 1 else 2) := by split <;> omega
  obtain ⟨id, cp, eL, eA, eB, hv, hf, hN, hs, hl, hes, hA, hB⟩ := find_spec (key := key) ht hr ha (by omega) inb_none
  obtain ⟨k1, k2, _⟩ := leafE (key := key) (above := false) hs
  have hgm : getE key es = getE key eL := by rw [hes, getE_mid hA hB]
  have hh : hasK key (eL.map (·.1)) = true := by
   cases hq : hasK key (eL.map (·.1)) with
   | true => rfl
   | false => rw [hgm, k2 hq] at hk; cases hk
  rw [hh] at hf
  obtain ⟨v, q1, q2⟩ := k1 hh
  rw [hgm, q2]
  obtain ⟨g, t1, t2, t3⟩ := ht.take (i := leafOf ls key h r) (by simp) hN
  obtain ⟨id', o, cp', hv', hgo, hco, _, hlt, hsn⟩ := ht.at t1
  rw [hv] at hv'
  cases hv'
  obtain ⟨ac, cc, oc, d1, d2, d3⟩ := rd_at (t2 1 (by omega)).rd (i := posK key (eL.map (·.1))) (x := I v) (by show ((eL.map (·.2)).map iv)[_]? = _; rw [List.getElem?_map, List.getElem?_map, q1]; rfl)
  obtain ⟨F, o1, o2⟩ := t2 1 (by omega)
  have hlp := (List.getElem?_eq_some_iff.1 q1).1
  have hfl : (Nd.fld ⟨eL.map (·.1), eL.map (·.2), []⟩ 1).length = eL.length := by show ((eL.map (·.2)).map iv).length = _; simp
  obtain ⟨ac', cc', m', d1', s1, s2, s3⟩ := o1.set (i := posK key (eL.map (·.1))) (x := I x) (by rw [hfl]; exact hlp) rfl rfl
  rw [d1] at d1'
  cases d1'
  rw [hfl] at d1
  have hc : Ch (.fld 1 (leafOf ls key h r)) σ σ m m' := ⟨fun _ _ => rfl, s3.mono fun j _ hj => o2 j hj, fun _ _ => rfl⟩
  obtain ⟨p1, p2, p3, p4⟩ := putE_at (x := x) hs hh
  have hT := (t3.ch hc (by simp) (by simp) (by simp) (fun f i' _ hi q => by
   have : leafOf ls key h r = i' := by injection q
   exact hi (by simp [this]))).give1 (N := ⟨(putE key x eL).map (·.1), (putE key x eL).map (·.2), []⟩) (g := g) (List.getElem?_eq_some_iff.1 hN).1 t1 fun f hf => by
    match f, hf with
    | 0, _ =>
     have e : Nd.fld ⟨(putE key x eL).map (·.1), (putE key x eL).map (·.2), []⟩ 0 = Nd.fld ⟨eL.map (·.1), eL.map (·.2), []⟩ 0 := by show ((putE key x eL).map (·.1)).map sv = _; rw [p3]; rfl
     rw [e]; exact (t2 0 (by omega)).ch hc (by simp)
    | 1, _ =>
     have e : Nd.fld ⟨(putE key x eL).map (·.1), (putE key x eL).map (·.2), []⟩ 1 = (Nd.fld ⟨eL.map (·.1), eL.map (·.2), []⟩ 1).set (posK key (eL.map (·.1))) (I x) := by
      show ((putE key x eL).map (·.2)).map iv = ((eL.map (·.2)).map iv).set _ _
      rw [p4, List.map_set]
     rw [e]; exact ⟨F, s2, o2⟩
    | 2, _ => exact (t2 2 (by omega)).ch hc (by simp)
  have hlen : (putE key x es).length = es.length := by rw [hes, putE_mid hA hB]; simp only [List.length_append, p2]
  obtain ⟨r1, r2, _⟩ := Rep.setval (x := x) hr inb_none hg.nd hN hh
  refine ⟨m', σ, callX_of (call_go (F := _) rfl rfl fun Q hQ => ?_), ⟨vl, vf, ns, _, fr, _, by rw [hlen]; exact hT, .node r1 (Chg.set hg r2).good, by rw [List.length_set]; omega, by omega⟩, Gr.ch hc rfl⟩
  have hc1 := hco 1 (by omega)
  rw [d1] at hc1
  subst hv
  simp only [symA, symB, X.put, X.look, Arg.ev, keepOf, restrict, evs, initEnv, Nat.reduceAdd, Nat.reduceEqDiff, ↓reduceIte, reduceCtorEq, eq_self, isNil_ptr', goR_call hf, hgo, hc1, hlp, d2, d3, s1]
  exact hQ _ _ _ rfl ⟨rfl, rfl⟩
theorem own_two {x y : Value} : OwnX [m.next] (m.push { cells := [x, y], rw := true, spare := none, kin := [] }) (.slice (some ⟨m.next, 0, none⟩) 2 2) [x, y] :=
 .inr ⟨by simp, m.next, 2, _, rfl, ⟨Nat.le_refl _, by omega⟩, by simp, push_self, rfl, by simp, Nat.le_refl _, rfl⟩
theorem btwo73 {m : Mem} {x y : Int} : buildSliceE m [I 0] 1 2 [(0, I x), (1, I y)] = some (.val (.slice (some ⟨m.next, 0, none⟩) 2 2) (m.push { cells := [I x, I y], rw := true, spare := none, kin := [] })) := by kernel_rfl
theorem lit_add {mA mB : Mem} {F : Nat} {N : Nd} {x0 : Value} {ys : List Value} {c : Nat} (h : TMH [] σ m p vl vf ns ls fr root n) (hF : F = 1 ∨ F = 2) (hA : m.push (box1 x0) = mA) (hB : mA.push { cells := ys, rw := true, spare := none, kin := [] } = mB) (ho : OwnX [mA.next] mB (.slice (some ⟨mA.next, 0, none⟩) c c) ys)
  (h0 : N.fld 0 = [x0]) (h1 : N.fld F = ys) (h2 : N.fld (3 - F) = []) (hl : ls.length ≤ 1000000) (hfr : ∀ j ∈ fr, j < ls.length) (hfl : fr.length ≤ 1000000) :
  ∃ m' σ' vl' vf' ns', Ca 61 [Pt p, .agg ⟨row3 fun f => if f = 0 then .slice (some ⟨m.next, 0, none⟩) 1 1 else if f = F then .slice (some ⟨mA.next, 0, none⟩) c c else .slice none 0 0⟩] mB (nv (addI ls fr)) m' ∧ TMH [] σ' m' p vl' vf' ns' (addL ls fr N) fr.dropLast root n ∧ Gr σ σ' m m' := by
 have fA : Nx m mA := hA ▸ .push
 have fB : Nx mA mB := hB ▸ .push
 obtain ⟨σ1, s1, s2⟩ := tag_new (σ := σ) (m := m) (.other 0) (hA ▸ own_one : OwnX [m.next] mA (.slice (some ⟨m.next, 0, none⟩) 1 1) [x0]) fA (by simp)
 have h3 := h.new fA s2
 obtain ⟨σ2, u1, u2⟩ := tag_new (σ := σ1) (m := mA) (.other F) ho fB (by simp)
 have h4 := h3.new fB u2
 have ch : Ch .no σ1 σ2 mA mB := .nx' fB u2
 obtain ⟨m', σ', vl', vf', ns', a1, a2, a3, a4⟩ := add_spec (g := fun f => if f = 0 then .slice (some ⟨m.next, 0, none⟩) 1 1 else if f = F then .slice (some ⟨mA.next, 0, none⟩) c c else .slice none 0 0) (N := N) h4 hl hfr hfl fun f hf => by
  have hcs : f = 0 ∨ f = F ∨ f = 3 - F := by omega
  rcases hcs with rfl | rfl | rfl
  ·rw [h0, if_pos rfl]; exact s1.ch ch (by simp)
  ·rw [h1, if_neg (by omega), if_pos rfl]; exact u1
  ·rw [h2, if_neg (by omega), if_neg (by omega)]; exact Tg.nil
 exact ⟨m', σ', vl', vf', ns', a1, a2, (Gr.new fA s2).trans ((Gr.new fB u2).trans a3)⟩
theorem wrap1 {a : Nat} (h : a ≤ 100000) : IntKind.i64.wrap ((a : Int) + 1) = ((a + 1 : Nat) : Int) := by rw [wrap_i64 (by omega) (by omega)]; omega
theorem put_first (h : TreeM σ m p [] k) (hk : k ≤ 4000) : ∃ m' σ', Ca 44 [Pt p, .string key, I x] m (.tuple #[I 0, .bool false, I 0]) m' ∧ TreeM σ' m' p [(key, x)] (k + 1) ∧ Gr σ σ' m m' := by
 obtain ⟨vl, vf, ns, ls, fr, root, ht, hr, b1, b2⟩ := h
 generalize hes : ([] : List Ent) = es at hr
 cases hr with
 | @node h r es J hr hg =>
  have ha : 1 ≤ (if h = 0 then 1 else 2) := by split <;> omega
  exact absurd hes.symm (hr.good ha).2.2
 | nil hg =>
  have hfl := hg.frlen
  have ht0 : TMH [] σ m p vl vf ns ls fr (-1) 0 := ht
  obtain ⟨m1, s1, s2, s3⟩ := ht0.setn 1
  obtain ⟨mA, hA⟩ : ∃ mA, m1.push (box1 (.string key)) = mA := ⟨_, rfl⟩
  obtain ⟨mB, hB⟩ : ∃ mB, mA.push { cells := [I x], rw := true, spare := none, kin := [] } = mB := ⟨_, rfl⟩
  have g2 := Chg.add (N := ⟨[key], [x], []⟩) hg (by simp)
  obtain ⟨m2, σ2, vl2, vf2, ns2, a1, a2, a3⟩ := lit_add (F := 1) (N := ⟨[key], [x], []⟩) (c := 1) s2 (.inl rfl) hA hB (hB ▸ own_one) rfl rfl rfl (by omega) hg.fl (by omega)
  obtain ⟨m3, u1, u2, u3⟩ := a2.setroot (addI ls fr)
  have hll := addL_len (ls := ls) (fr := fr) (N := ⟨[key], [x], []⟩)
  refine ⟨m3, σ2, callX_of (call_go (F := _) rfl rfl fun Q hQ => ?_), ⟨vl2, vf2, ns2, _, _, _, u2, .node (h := 0) (J := [addI ls fr]) ⟨addL_at hg.fl, rfl, by simp, fun e _ => inb_none, by simp, by simp⟩ g2.good, by omega, by simp⟩, (Gr.ch s3 rfl).trans (a3.trans (Gr.ch u3 rfl))⟩
  have hf := find_none (key := key) ht0
  have h1 : (-1 : Int) < 0 := by omega
  have h2 : ¬ (100000 : Int) ≤ 0 := by omega
  have w1 : IntKind.i64.wrap (0 + 1) = 1 := wrap_i64 (by omega) (by omega)
  have w2 : IntKind.i64.wrap 1 = 1 := wrap_i64 (by omega) (by omega)
  have c1 := bone72 (m := m1) (x := key)
  have c2 := bone73 (m := mA) (x := x)
  rw [hA] at c1
  rw [hB] at c2
  have a1' : Ca 61 [Pt p, .agg ⟨[.slice (some ⟨m1.next, 0, none⟩) 1 1, .slice (some ⟨mA.next, 0, none⟩) 1 1, .slice none 0 0]⟩] mB (nv (addI ls fr)) m2 := a1
  have q0 := ht0.get
  have q1 := s2.get
  simp only [symA, symB, X.put, X.look, Arg.ev, keepOf, restrict, evs, initEnv, noTup, Nat.reduceAdd, Nat.reduceEqDiff, ↓reduceIte, reduceCtorEq, eq_self, Int.reduceNeg, Int.reduceAdd, isNil_ptr', goR_call hf, q0, h1, h2, w2, s1, q1, c1, c2, lit01, goR_call a1', u1]
  exact hQ _ _ _ rfl ⟨rfl, rfl⟩
theorem put_new (h : TreeM σ m p es k) (hno : getE key es = none) (hk : k ≤ 3999) : ∃ m' σ', Ca 44 [Pt p, .string key, I x] m (.tuple #[I 0, .bool false, I 0]) m' ∧ TreeM σ' m' p (putE key x es) (k + 1) ∧ Gr σ σ' m m' := by
 obtain ⟨vl, vf, ns, ls, fr, root, ht, hr, b1, b2⟩ := h
 cases hr with
 | nil hg => exact put_first ⟨vl, vf, ns, ls, fr, _, ht, .nil hg, b1, b2⟩ (by omega)
 | @node h r es J hr hg =>
  have ha : 1 ≤ (if h = 0 then 1 else 2) := by split <;> omega
  have ha' : (if h = 0 then 1 else 2) ≤ 2 := by split <;> omega
  have hlow := Root.low hr (by omega)
  have hno' : ∀ e ∈ es, e.1 ≠ key := fun e he q => by
   have : getE key es ≠ none := by
    unfold getE
    rw [ne_eq, Option.map_eq_none_iff, List.find?_eq_none]
    intro q'
    have := q' e he
    simp [q] at this
   exact this hno
  have hlen := putE_len (n := x) (hr.good ha).1 hno'
  obtain ⟨id, cp, eL, eA, eB, hv, hf, hN, hs, hl, hes, hA, hB⟩ := find_spec (key := key) ht hr ha (by omega) inb_none
  have hh : hasK key (eL.map (·.1)) = false := hasK_no fun e he => hno' e (by rw [hes]; simp [he])
  rw [hh] at hf
  obtain ⟨m1, s1, s2, s3⟩ := ht.setn ((es.length + 1 : Nat) : Int)
  obtain ⟨m2, σ2, vl2, vf2, ns2, ls2, fr2, J2, c2, t2, g2, r2, q2⟩ := put_spec (key := key) (x := x) s2 hr ha inb_none hno' hg (by omega)
  obtain ⟨N, hN2, n1, n2, n3⟩ := r2.sz
  have hql := q2.len
  have q0 := ht.get
  have q1 := s2.get
  have qq2 := t2.get
  have h1 : ¬ (r : Int) < 0 := by omega
  have h2 : ¬ (100000 : Int) ≤ (es.length : Int) := by omega
  have w1 := wrap1 (a := es.length) (by omega)
  have hrl : r < ls2.length := (List.getElem?_eq_some_iff.1 hN2).1
  obtain ⟨id2, cp2, o2, av2, bv2, cv2, hv2, nd2⟩ := t2.node hN2
  have hsize := nd2.size
  have hvl2 : veq vl2 vl2 = true := by rw [hv2]; exact veq_slice
  by_cases h5 : N.size ≤ 4
  ·have hgt : ¬ (4 : Int) < (N.size : Int) := by omega
   refine ⟨m2, σ2, callX_of (call_go (F := _) rfl rfl fun Q hQ => ?_), ⟨vl2, vf2, ns2, ls2, fr2, _, by rw [hlen]; exact t2, .node (n3 _ 4 n1 h5) q2.good, by omega, by omega⟩, (Gr.ch s3 rfl).trans g2⟩
   subst hv2
   simp only [symA, go_opsd, symB, X.put, X.look, Arg.ev, keepOf, restrict, evs, initEnv, cls, quiet, Nat.reduceAdd, Nat.reduceEqDiff, ↓reduceIte, reduceCtorEq, eq_self, Nat.reducePow, Nat.reduceDiv, Nat.reduceMod, isNil_ptr', goR_call hf, q0, h2, w1, s1, q1, h1, goR_call c2, qq2, hrl, goDV3c hsize, hgt]
   exact hQ _ _ _ rfl ⟨rfl, rfl⟩
  ·have hgt : (4 : Int) < (N.size : Int) := by omega
   obtain ⟨m3, σ3, vl3, vf3, ns3, ls3, fr3, least, k', e3, e4, J3, J4, c3, t3, g3, r3, r4, heq, q3, hin⟩ := split_spec t2 r2 hN2 (by omega) q2.good (by omega)
   have hql3 := q3.len
   obtain ⟨mA, hA⟩ : ∃ mA, m3.push (box1 (.string least)) = mA := ⟨_, rfl⟩
   obtain ⟨mB, hB⟩ : ∃ mB, mA.push { cells := [I (r : Int), I (k' : Int)], rw := true, spare := none, kin := [] } = mB := ⟨_, rfl⟩
   have hJ34 : ∀ j ∈ J3 ++ J4, j < ls3.length := fun j hj => by
    rcases List.mem_append.1 hj with hj | hj
    ·exact r3.lt j hj
    ·exact r4.lt j hj
   have hga := Chg.add (N := ⟨[least], [], [r, k']⟩) q3.good hJ34
   have hfl3 := q3.good.frlen
   obtain ⟨m4, σ4, vl4, vf4, ns4, a1, a2, a3⟩ := lit_add (F := 2) (N := ⟨[least], [], [r, k']⟩) (c := 2) t3 (.inr rfl) hA hB (hB ▸ own_two) rfl rfl rfl (by omega) q3.good.fl (by omega)
   obtain ⟨m5, u1, u2, u3⟩ := a2.setroot (addI ls3 fr3)
   have hll := addL_len (ls := ls3) (fr := fr3) (N := ⟨[least], [], [r, k']⟩)
   have hfrm : ∀ j ∈ J3 ++ J4, (addL ls3 fr3 ⟨[least], [], [r, k']⟩)[j]? = ls3[j]? := fun j hj => addL_ne (hJ34 j hj) fun e => (List.nodup_cons.1 hga.good.nd).1 (e ▸ hj)
   refine ⟨m5, σ4, callX_of (call_go (F := _) rfl rfl fun Q hQ => ?_), ⟨vl4, vf4, ns4, _, _, _, by rw [hlen]; exact u2, .node (h := h + 1) (J := addI ls3 fr3 :: (J3 ++ J4)) ⟨[least], [r, k'], _, addL_at q3.good.fl, rfl, ?_, by simp, by simp⟩ hga.good, by omega, by omega⟩, (Gr.ch s3 rfl).trans (g2.trans (g3.trans (a3.trans (Gr.ch u3 rfl))))⟩
   ·have d1 := bone72 (m := m3) (x := least)
    have d2 := btwo73 (m := mA) (x := (r : Int)) (y := (k' : Int))
    rw [hA] at d1
    rw [hB] at d2
    have a1' : Ca 61 [Pt p, .agg ⟨[.slice (some ⟨m3.next, 0, none⟩) 1 1, .slice none 0 0, .slice (some ⟨mA.next, 0, none⟩) 2 2]⟩] mB (nv (addI ls3 fr3)) m4 := a1
    have qq3 := t3.get
    subst hv2
    simp only [symA, go_opsd, symB, X.put, X.look, Arg.ev, keepOf, restrict, evs, initEnv, noTup, cls, quiet, Nat.reduceAdd, Nat.reduceEqDiff, ↓reduceIte, reduceCtorEq, eq_self, Nat.reducePow, Nat.reduceDiv, Nat.reduceMod, isNil_ptr', goR_call hf, q0, h2, w1, s1, q1, h1, goR_call c2, qq2, hrl, goDV3c hsize, hgt, goR_call c3, d1, d2, build02, goR_call a1', u1]
    exact hQ _ _ _ rfl ⟨rfl, rfl⟩
   ·rw [heq]
    exact .cons (r3.frame fun j hj => hfrm j (by simp [hj])) (.one (r4.frame fun j hj => hfrm j (by simp [hj])))
end
end Go.Proofs.Ytnlmnejellipdaa
namespace Go.Proofs.Ytnlmnejellipdaa
open Go X
set_option maxRecDepth 100000
attribute [local irreducible] X.Go' X.GoO X.GoR X.GoG X.GoC X.GoF X.GoFV X.GoFG X.Ex X.GoD X.GoDV X.GoDG
set_option linter.unusedVariables false
set_option linter.unusedSimpArgs false
section
variable {σ : Nat → Tag} {m : Mem} {p : Nat} {vl vf : Value} {ns : List (Nat → Value)} {ls : List Nd} {fr : List Nat} {root n : Int} {key : Key} {x : Int} {es : List Ent} {k : Nat} {above : Bool}
theorem Put_spec (h : TreeM σ m p es k) (hk : k ≤ 3999) : ∃ m' σ', Ca 44 [Pt p, .string key, I x] m (.tuple #[I ((getE key es).getD 0), .bool (getE key es).isSome, I 0]) m' ∧ TreeM σ' m' p (putE key x es) (k + 1) ∧ Gr σ σ' m m' := by
 cases hq : getE key es with
 | none => exact put_new h hq hk
 | some v =>
  have := put_found (x := x) h (by rw [hq]; rfl)
  rw [hq] at this
  exact this
theorem Get_spec (h : TreeM σ m p es k) : Ca 39 [Pt p, .string key] m (.tuple #[I ((getE key es).getD 0), .bool (getE key es).isSome]) m := by
 obtain ⟨vl, vf, ns, ls, fr, root, ht, hr, b1, b2⟩ := h
 cases hr with
 | nil hg =>
  have hf := find_none (key := key) ht
  refine callX_of (call_go (F := _) rfl rfl fun Q hQ => ?_)
  simp only [symA, symB, X.put, X.look, Arg.ev, keepOf, restrict, evs, initEnv, Nat.reduceEqDiff, ↓reduceIte, reduceCtorEq, eq_self, goR_call hf]
  exact hQ _ _ _ rfl ⟨rfl, rfl⟩
 | @node h r es J hr hg =>
  have ha : 1 ≤ (if h = 0 then 1 else 2) := by split <;> omega
  exact get_spec ht hr ha (by omega) inb_none
theorem Len_spec (h : TreeM σ m p es k) : Ca 38 [Pt p] m (I (es.length : Int)) m := by
 obtain ⟨vl, vf, ns, ls, fr, root, ht, hr, b1, b2⟩ := h
 exact len_spec ht
theorem Seek_spec (h : TreeM σ m p es k) : Ca 52 [Pt p, .string key] m (tupF (fstE false key es)) m := by
 obtain ⟨vl, vf, ns, ls, fr, root, ht, hr, b1, b2⟩ := h
 have hs := some_spec ht
 have htg := ht.get
 cases hr with
 | nil hg =>
  have e : decide ((0 : Int) ≤ -1) = false := rfl
  rw [e] at hs
  refine callX_of (call_go (F := _) rfl rfl fun Q hQ => ?_)
  simp only [symA, symB, X.put, X.look, Arg.ev, keepOf, restrict, evs, initEnv, Nat.reduceEqDiff, ↓reduceIte, reduceCtorEq, eq_self, goR_call hs]
  exact hQ _ _ _ rfl ⟨rfl, rfl⟩
 | @node h r es J hr hg =>
  have ha : 1 ≤ (if h = 0 then 1 else 2) := by split <;> omega
  have e : decide ((0 : Int) ≤ (r : Int)) = true := decide_eq_true (by omega)
  rw [e] at hs
  have hf := first_spec (key := key) (above := false) ht hr ha (by omega) inb_none
  refine callX_of (call_go (F := _) rfl rfl fun Q hQ => ?_)
  simp only [symA, symB, X.put, X.look, Arg.ev, keepOf, restrict, evs, initEnv, Nat.reduceEqDiff, ↓reduceIte, reduceCtorEq, eq_self, goR_call hs, htg, goR_call hf, tupF]
  exact hQ _ _ _ rfl ⟨rfl, rfl⟩
theorem After_spec (h : TreeM σ m p es k) : Ca 53 [Pt p, .string key] m (tupF (fstE true key es)) m := by
 obtain ⟨vl, vf, ns, ls, fr, root, ht, hr, b1, b2⟩ := h
 have hs := some_spec ht
 have htg := ht.get
 cases hr with
 | nil hg =>
  have e : decide ((0 : Int) ≤ -1) = false := rfl
  rw [e] at hs
  refine callX_of (call_go (F := _) rfl rfl fun Q hQ => ?_)
  simp only [symA, symB, X.put, X.look, Arg.ev, keepOf, restrict, evs, initEnv, Nat.reduceEqDiff, ↓reduceIte, reduceCtorEq, eq_self, goR_call hs]
  exact hQ _ _ _ rfl ⟨rfl, rfl⟩
 | @node h r es J hr hg =>
  have ha : 1 ≤ (if h = 0 then 1 else 2) := by split <;> omega
  have e : decide ((0 : Int) ≤ (r : Int)) = true := decide_eq_true (by omega)
  rw [e] at hs
  have hf := first_spec (key := key) (above := true) ht hr ha (by omega) inb_none
  refine callX_of (call_go (F := _) rfl rfl fun Q hQ => ?_)
  simp only [symA, symB, X.put, X.look, Arg.ev, keepOf, restrict, evs, initEnv, Nat.reduceEqDiff, ↓reduceIte, reduceCtorEq, eq_self, goR_call hs, htg, goR_call hf, tupF]
  exact hQ _ _ _ rfl ⟨rfl, rfl⟩
end
end Go.Proofs.Ytnlmnejellipdaa
namespace Go.Proofs.Ytnlmnejellipdaa
open Go X
set_option maxRecDepth 100000
attribute [local irreducible] X.Go' X.GoO X.GoR X.GoG X.GoC X.GoF X.GoFV X.GoFG X.Ex X.GoD X.GoDV X.GoDG
set_option linter.unusedVariables false
set_option linter.unusedSimpArgs false
def azE (m : Mem) (size bytes : Nat) (zero : List Value) (vs vx : Value) : Option XR := (asNat vx).bind fun n => if zero.length = size ∧ n ≤ 9223372036854775807 ∧ n * bytes ≤ 281474976710656 ∧ bytes ≠ 0 then (xappend m size bytes vs n (zerosOf zero n)).bind fun (v, m') => some (.val v m') else none
theorem xi_az {P : Program} {e : Env} {m : Mem} {size bytes : Nat} {zero : List Value} {x y : Arg} : xi P e m (.appendZeros size bytes zero x y) = (x.ev e).bind fun vs => (y.ev e).bind fun vx => azE m size bytes zero vs vx := (rfl)
def capE (m : Mem) (v : Value) : Option XR := match v with
  | .slice none _ c => some (.val (goInt c) m)
  | .slice (some a) _ c => match a.spot with
   | some 0 => none
   | _ => some (.val (goInt c) m)
  | _ => none
theorem xi_cap' {P : Program} {e : Env} {m : Mem} {x : Arg} : xi P e m (.cap x) = (x.ev e).bind fun v => capE m v := (rfl)
theorem cap_nil {m : Mem} : capE m (.slice none 0 0) = some (.val (I 0) m) := (rfl)
theorem zerosOf_one {z : Value} : ∀ {n : Nat}, zerosOf [z] n = List.replicate n z
 | 0 => rfl
 | n + 1 => by
  show [z] ++ zerosOf [z] n = _
  rw [zerosOf_one, List.replicate_succ]; rfl
theorem az_nil {m : Mem} {bytes n : Nat} {z : Value} (hn : 0 < n) (hl : n ≤ 10000) (h1 : 0 < bytes) (h2 : bytes ≤ 100) :
  ∃ v m', azE m 1 bytes [z] (.slice none 0 0) (nv n) = some (.val v m') ∧ OwnX [m.next] m' v (List.replicate n z) ∧ Nx m m' := by
 have hb : n * bytes ≤ 1000000 := Nat.mul_le_mul hl h2
 have ho := own2_of (F := [m.next]) (m := m.push { cells := List.replicate n z, rw := true, spare := some 1, kin := [] }) (xs := List.replicate n z) (id := m.next) (cap := n) (rest := []) (fun i hi => by
   rw [Mem.next_push]
   have : i = m.next := by simpa using hi
   omega) push_self (by simp) (by simp) rfl rfl (by simp) (by simp)
 rw [List.length_replicate] at ho
 refine ⟨.slice (some ⟨m.next, 0, some 0⟩) n n, _, ?_, ho, .push⟩
 unfold azE
 rw [show asNat (nv n) = some n from asNat_nat]
 simp only [Option.bind_some]
 rw [if_pos ⟨rfl, by omega, by omega, by omega⟩, zerosOf_one]
 simp only [xappend]
 rw [if_neg (by omega), if_pos ⟨by omega, by omega⟩]
 rfl
theorem cut_nil {m : Mem} : sliceE m 1 (.slice none 0 0) none (some (I 0)) none = some (.val (.slice none 0 0) m) := by kernel_rfl
theorem btwo {m : Mem} {p q : Option Addr} {a b c d : Nat} : buildSliceE m [.slice none 0 0] 1 2 [(0, .slice p a b), (1, .slice q c d)] = some (.val (.slice (some ⟨m.next, 0, none⟩) 2 2) (m.push { cells := [.slice p a b, .slice q c d], rw := true, spare := none, kin := [] })) := by kernel_rfl
section
variable {m : Mem} {xs ys : List Value}
theorem grow103 {n : Nat} (hl : n ≤ 10000) : ∃ v m' F, Ca 92 [.slice none 0 0, nv n] m v m' ∧ OwnX F m' v [] ∧ (∀ i ∈ F, m.next ≤ i) ∧ Nx m m' := by
 have h1 : ¬ (n : Int) < 0 := by omega
 have w1 : IntKind.i64.wrap (0 - 0) = 0 := wrap_i64 (by omega) (by omega)
 have w2 : IntKind.i64.wrap ((n : Int) - 0) = (n : Int) := by rw [wrap_i64 (by omega) (by omega)]; omega
 have w3 : IntKind.i64.wrap 0 = 0 := wrap_i64 (by omega) (by omega)
 have w4 : IntKind.i64.wrap (n : Int) = (n : Int) := wrap_i64 (by omega) (by omega)
 by_cases h0 : n = 0
 ·subst h0
  refine ⟨.slice none 0 0, m, [], callX_of (call_go (F := _) rfl rfl fun Q hQ => ?_), .nil, by simp, .refl⟩
  have h2 : ¬ (0 : Int) < 0 := by omega
  have h3 : ¬ ((0 : Nat) : Int) < 0 := by omega
  have e0 : ((0 : Nat) : Int) = 0 := rfl
  simp only [symA, symB, X.put, X.look, Arg.ev, keepOf, restrict, initEnv, Nat.reduceEqDiff, ↓reduceIte, reduceCtorEq, goInt, eq_self, Int.reduceSub, e0, h2, xi_cap', cap_nil, w3]
  exact hQ _ _ _ rfl ⟨rfl, rfl⟩
 ·have h2 : (0 : Int) < (n : Int) := by omega
  obtain ⟨v1, m1, a1, a2, a3⟩ := az_nil (m := m) (bytes := 16) (z := .string .empty) (by omega) hl (by omega) (by omega)
  obtain ⟨v2, c1, c2⟩ := a2.to (k := 0) (by omega)
  have e0 : ((0 : Nat) : Int) = 0 := rfl
  rw [e0] at c1
  refine ⟨v2, m1, [m.next], callX_of (call_go (F := _) rfl rfl fun Q hQ => ?_), by simpa using c2, by simp, a3⟩
  obtain ⟨p, n', d, rfl⟩ := sliceE_slice c1
  obtain ⟨p', c', rfl⟩ := a2.slice
  simp only [symA, symB, X.put, X.look, Arg.ev, keepOf, restrict, evO, initEnv, Nat.reduceEqDiff, ↓reduceIte, reduceCtorEq, goInt, eq_self, Int.reduceSub, e0, h1, w2, w3, h2, xi_cap', cap_nil, cut_nil, xi_az, a1, c1]
  exact hQ _ _ _ rfl ⟨rfl, rfl⟩
theorem concat93 {q bb : Nat} {a b : Value} (hq : m.get q = some { cells := [a, b], rw := true, spare := none, kin := [] }) (hql : q < m.next) (ha : RdS bb m 1 a (ones xs)) (hb : RdS bb m 1 b (ones ys)) (hbb : bb ≤ m.next) (hl : xs.length + ys.length ≤ 1000) :
  ∃ v m' F, Ca 85 [.slice (some ⟨q, 0, none⟩) 2 2] m v m' ∧ OwnX F m' v (xs ++ ys) ∧ (∀ i ∈ F, m.next ≤ i) ∧ Nx m m' := by
 obtain ⟨v1, m1, F1, g1, g2, g3, g4⟩ := grow103 (m := m) (n := xs.length + ys.length) (by omega)
 have ha1 := ha.fr g4 hbb (fun _ h => h.elim)
 have hb1 := hb.fr g4 hbb (fun _ h => h.elim)
 obtain ⟨v2, m2, F2, k1, k2, k3, k4, k5⟩ := g2.append (bytes := 16) (zero := .string .empty) (ys := xs) ha1 (by simp; omega) (by omega)
 have f2 : Fm (fun j => m.next ≤ j) m1 m2 := k3.mono fun j _ hj => g3 j hj
 have hb2 : RdS bb m2 1 b (ones ys) := hb1.fr f2 (by have := g4.next; omega) (fun j hj => by omega)
 rw [List.nil_append] at k2
 obtain ⟨v3, m3, F3, l1, l2, l3, l4, l5⟩ := k2.append (bytes := 16) (zero := .string .empty) hb2 (by omega) (by omega)
 have hn4 := g4.next
 have g3' : ∀ i ∈ F2, m.next ≤ i := fun i hi => by
  rcases k5 i hi with q | q
  ·exact g3 i q
  ·omega
 have hn2 := k3.next
 have f3 : Fm (fun j => m.next ≤ j) m2 m3 := l3.mono fun j _ hj => g3' j hj
 have hq1 := g4.get hql (fun h => h) hq
 have hq2 := f2.get (i := q) (by omega) (by omega) hq1
 have hw : Nx m m3 := g4.comp (f2.comp f3 fun j hj h => h) fun j hj h => by omega
 obtain ⟨pa, ca, rfl⟩ := ha.slice
 obtain ⟨pb, cb, rfl⟩ := hb.slice
 simp only [ones_len] at *
 have g3'' : ∀ i ∈ F3, m.next ≤ i := fun i hi => by
  rcases l5 i hi with q | q
  ·exact g3' i q
  ·omega
 refine ⟨v3, m3, F3, callX_of (call_go (F := _) rfl rfl fun Q hQ => ?_), l2, g3'', hw⟩
 have c01 : (0 : Int) < 2 := by omega
 have c12 : (1 : Int) < 2 := by omega
 have c22 : ¬ (2 : Int) < 2 := by omega
 have i0 : ∀ M : Mem, indexAddrE M 1 (.slice (some ⟨q, 0, none⟩) 2 2) (I 0) = some (.val (.pointer (some ⟨q, 0, none⟩)) M) := fun M => by
  have := indexAddr_at (m := M) (size := 1) (i := 0) (len := 2) (c := 2) (a := ⟨q, 0, none⟩) (kd := .i64) (by omega)
  simpa using this
 have i1 : ∀ M : Mem, indexAddrE M 1 (.slice (some ⟨q, 0, none⟩) 2 2) (I 1) = some (.val (.pointer (some ⟨q, 1, none⟩)) M) := fun M => by
  have := indexAddr_at (m := M) (size := 1) (i := 1) (len := 2) (c := 2) (a := ⟨q, 0, none⟩) (kd := .i64) (by omega)
  simpa using this
 have w1 : IntKind.i64.wrap (0 + (xs.length : Int)) = (xs.length : Int) := by rw [wrap_i64 (by omega) (by omega)]; omega
 have w2 : IntKind.i64.wrap ((xs.length : Int) + (ys.length : Int)) = ((xs.length + ys.length : Nat) : Int) := by rw [wrap_i64 (by omega) (by omega)]; omega
 have w3 : IntKind.i64.wrap (0 + 1) = 1 := wrap_i64 (by omega) (by omega)
 have w4 : IntKind.i64.wrap (1 + 1) = 2 := wrap_i64 (by omega) (by omega)
 have w5 : IntKind.i64.wrap 1 = 1 := wrap_i64 (by omega) (by omega)
 have w6 : IntKind.i64.wrap 2 = 2 := wrap_i64 (by omega) (by omega)
 have w7 : IntKind.i64.wrap (xs.length : Int) = (xs.length : Int) := by rw [wrap_i64 (by omega) (by omega)]
 have p1 : ¬ (xs.length : Int) < 0 := by omega
 have p2 : ¬ ((xs.length + ys.length : Nat) : Int) < 0 := by omega
 have e2 : ((2 : Nat) : Int) = 2 := rfl
 simp only [symA, symB, X.put, X.look, Arg.ev, keepOf, restrict, initEnv, Nat.reduceEqDiff, ↓reduceIte, reduceCtorEq, goInt, eq_self, e2]
 refine loop_go (fun q' e m' => m' = m ∧ ((q' = 2 ∧ e = [(0, .slice (some ⟨q, 0, none⟩) 2 2), (3, I 0), (9, .slice (some ⟨q, 0, none⟩) 2 2), (10, I 2), (11, I 0)]) ∨ (q' = 1 ∧ e = [(0, .slice (some ⟨q, 0, none⟩) 2 2), (3, I (xs.length : Int)), (9, .slice (some ⟨q, 0, none⟩) 2 2), (10, I 2), (11, I 1)]) ∨ (q' = 0 ∧ e = [(0, .slice (some ⟨q, 0, none⟩) 2 2), (3, I ((xs.length + ys.length : Nat) : Int)), (9, .slice (some ⟨q, 0, none⟩) 2 2), (10, I 2), (11, I 2)]))) 2 ⟨rfl, .inl ⟨rfl, rfl⟩⟩ ?_
 rintro q' e m' N' B' hN hB ⟨rfl, ⟨rfl, rfl⟩ | ⟨rfl, rfl⟩ | ⟨rfl, rfl⟩⟩
 ·simp only [symA, symB, X.put, X.look, Arg.ev, keepOf, restrict, Nat.reduceEqDiff, ↓reduceIte, reduceCtorEq, goInt, eq_self, Int.reduceAdd, c01, i0, hq, w1, w5, p1]
  exact hN _ _ 1 (by omega) ⟨rfl, .inr (.inl ⟨rfl, rfl⟩)⟩
 ·simp only [symA, symB, X.put, X.look, Arg.ev, keepOf, restrict, Nat.reduceEqDiff, ↓reduceIte, reduceCtorEq, goInt, eq_self, Int.reduceAdd, c12, i1, hq, w2, w6, p2]
  exact hN _ _ 0 (by omega) ⟨rfl, .inr (.inr ⟨rfl, rfl⟩)⟩
 ·simp only [symA, symB, X.put, X.look, Arg.ev, keepOf, restrict, Nat.reduceEqDiff, ↓reduceIte, reduceCtorEq, eq_self, c22]
  refine hB _ _ _ ?_
  simp only [symA, symB, X.put, X.look, Arg.ev, keepOf, restrict, evs, Nat.reduceEqDiff, ↓reduceIte, reduceCtorEq, goInt, eq_self, goR_call g1, e2]
  refine loop_go (fun q' e m' => ((q' = 2 ∧ m' = m1 ∧ e = [(6, v1), (25, .slice (some ⟨q, 0, none⟩) 2 2), (26, I 2), (27, I 0)]) ∨ (q' = 1 ∧ m' = m2 ∧ e = [(6, v2), (25, .slice (some ⟨q, 0, none⟩) 2 2), (26, I 2), (27, I 1)]) ∨ (q' = 0 ∧ m' = m3 ∧ e = [(6, v3), (25, .slice (some ⟨q, 0, none⟩) 2 2), (26, I 2), (27, I 2)]))) 2 (.inl ⟨rfl, rfl, rfl⟩) ?_
  rintro q' e m'' N' B' hN hB (⟨rfl, rfl, rfl⟩ | ⟨rfl, rfl, rfl⟩ | ⟨rfl, rfl, rfl⟩)
  ·simp only [symA, symB, X.put, X.look, Arg.ev, keepOf, restrict, Nat.reduceEqDiff, ↓reduceIte, eq_self, Int.reduceAdd, c01, i0, hq1, k1, w5]
   exact hN _ _ 1 (by omega) (.inr (.inl ⟨rfl, rfl, rfl⟩))
  ·simp only [symA, symB, X.put, X.look, Arg.ev, keepOf, restrict, Nat.reduceEqDiff, ↓reduceIte, eq_self, Int.reduceAdd, c12, i1, hq2, l1, w6]
   exact hN _ _ 0 (by omega) (.inr (.inr ⟨rfl, rfl, rfl⟩))
  ·simp only [symA, symB, X.put, X.look, Arg.ev, keepOf, restrict, Nat.reduceEqDiff, ↓reduceIte, eq_self, c22]
   refine hB _ _ _ ?_
   obtain ⟨p3, c3, rfl⟩ := l2.slice
   simp only [symA, symB, X.put, X.look, Arg.ev, keepOf, restrict, ↓reduceIte, eq_self]
   exact hQ _ _ _ rfl ⟨rfl, rfl⟩
theorem grow104 {n : Nat} (hl : n ≤ 10000) : ∃ v m' F, Ca 93 [.slice none 0 0, nv n] m v m' ∧ OwnX F m' v [] ∧ (∀ i ∈ F, m.next ≤ i) ∧ Nx m m' := by
 have h1 : ¬ (n : Int) < 0 := by omega
 have w1 : IntKind.i64.wrap (0 - 0) = 0 := wrap_i64 (by omega) (by omega)
 have w2 : IntKind.i64.wrap ((n : Int) - 0) = (n : Int) := by rw [wrap_i64 (by omega) (by omega)]; omega
 have w3 : IntKind.i64.wrap 0 = 0 := wrap_i64 (by omega) (by omega)
 have w4 : IntKind.i64.wrap (n : Int) = (n : Int) := wrap_i64 (by omega) (by omega)
 by_cases h0 : n = 0
 ·subst h0
  refine ⟨.slice none 0 0, m, [], callX_of (call_go (F := _) rfl rfl fun Q hQ => ?_), .nil, by simp, .refl⟩
  have h2 : ¬ (0 : Int) < 0 := by omega
  have h3 : ¬ ((0 : Nat) : Int) < 0 := by omega
  have e0 : ((0 : Nat) : Int) = 0 := rfl
  simp only [symA, symB, X.put, X.look, Arg.ev, keepOf, restrict, initEnv, Nat.reduceEqDiff, ↓reduceIte, reduceCtorEq, goInt, eq_self, Int.reduceSub, e0, h2, xi_cap', cap_nil, w3]
  exact hQ _ _ _ rfl ⟨rfl, rfl⟩
 ·have h2 : (0 : Int) < (n : Int) := by omega
  obtain ⟨v1, m1, a1, a2, a3⟩ := az_nil (m := m) (bytes := 8) (z := I 0) (by omega) hl (by omega) (by omega)
  obtain ⟨v2, c1, c2⟩ := a2.to (k := 0) (by omega)
  have e0 : ((0 : Nat) : Int) = 0 := rfl
  rw [e0] at c1
  refine ⟨v2, m1, [m.next], callX_of (call_go (F := _) rfl rfl fun Q hQ => ?_), by simpa using c2, by simp, a3⟩
  obtain ⟨p, n', d, rfl⟩ := sliceE_slice c1
  obtain ⟨p', c', rfl⟩ := a2.slice
  simp only [symA, symB, X.put, X.look, Arg.ev, keepOf, restrict, evO, initEnv, Nat.reduceEqDiff, ↓reduceIte, reduceCtorEq, goInt, eq_self, Int.reduceSub, e0, h1, w2, w3, h2, xi_cap', cap_nil, cut_nil, xi_az, a1, c1]
  exact hQ _ _ _ rfl ⟨rfl, rfl⟩
theorem concat94 {q bb : Nat} {a b : Value} (hq : m.get q = some { cells := [a, b], rw := true, spare := none, kin := [] }) (hql : q < m.next) (ha : RdS bb m 1 a (ones xs)) (hb : RdS bb m 1 b (ones ys)) (hbb : bb ≤ m.next) (hl : xs.length + ys.length ≤ 1000) :
  ∃ v m' F, Ca 86 [.slice (some ⟨q, 0, none⟩) 2 2] m v m' ∧ OwnX F m' v (xs ++ ys) ∧ (∀ i ∈ F, m.next ≤ i) ∧ Nx m m' := by
 obtain ⟨v1, m1, F1, g1, g2, g3, g4⟩ := grow104 (m := m) (n := xs.length + ys.length) (by omega)
 have ha1 := ha.fr g4 hbb (fun _ h => h.elim)
 have hb1 := hb.fr g4 hbb (fun _ h => h.elim)
 obtain ⟨v2, m2, F2, k1, k2, k3, k4, k5⟩ := g2.append (bytes := 8) (zero := I 0) (ys := xs) ha1 (by simp; omega) (by omega)
 have f2 : Fm (fun j => m.next ≤ j) m1 m2 := k3.mono fun j _ hj => g3 j hj
 have hb2 : RdS bb m2 1 b (ones ys) := hb1.fr f2 (by have := g4.next; omega) (fun j hj => by omega)
 rw [List.nil_append] at k2
 obtain ⟨v3, m3, F3, l1, l2, l3, l4, l5⟩ := k2.append (bytes := 8) (zero := I 0) hb2 (by omega) (by omega)
 have hn4 := g4.next
 have g3' : ∀ i ∈ F2, m.next ≤ i := fun i hi => by
  rcases k5 i hi with q | q
  ·exact g3 i q
  ·omega
 have hn2 := k3.next
 have f3 : Fm (fun j => m.next ≤ j) m2 m3 := l3.mono fun j _ hj => g3' j hj
 have hq1 := g4.get hql (fun h => h) hq
 have hq2 := f2.get (i := q) (by omega) (by omega) hq1
 have hw : Nx m m3 := g4.comp (f2.comp f3 fun j hj h => h) fun j hj h => by omega
 obtain ⟨pa, ca, rfl⟩ := ha.slice
 obtain ⟨pb, cb, rfl⟩ := hb.slice
 simp only [ones_len] at *
 have g3'' : ∀ i ∈ F3, m.next ≤ i := fun i hi => by
  rcases l5 i hi with q | q
  ·exact g3' i q
  ·omega
 refine ⟨v3, m3, F3, callX_of (call_go (F := _) rfl rfl fun Q hQ => ?_), l2, g3'', hw⟩
 have c01 : (0 : Int) < 2 := by omega
 have c12 : (1 : Int) < 2 := by omega
 have c22 : ¬ (2 : Int) < 2 := by omega
 have i0 : ∀ M : Mem, indexAddrE M 1 (.slice (some ⟨q, 0, none⟩) 2 2) (I 0) = some (.val (.pointer (some ⟨q, 0, none⟩)) M) := fun M => by
  have := indexAddr_at (m := M) (size := 1) (i := 0) (len := 2) (c := 2) (a := ⟨q, 0, none⟩) (kd := .i64) (by omega)
  simpa using this
 have i1 : ∀ M : Mem, indexAddrE M 1 (.slice (some ⟨q, 0, none⟩) 2 2) (I 1) = some (.val (.pointer (some ⟨q, 1, none⟩)) M) := fun M => by
  have := indexAddr_at (m := M) (size := 1) (i := 1) (len := 2) (c := 2) (a := ⟨q, 0, none⟩) (kd := .i64) (by omega)
  simpa using this
 have w1 : IntKind.i64.wrap (0 + (xs.length : Int)) = (xs.length : Int) := by rw [wrap_i64 (by omega) (by omega)]; omega
 have w2 : IntKind.i64.wrap ((xs.length : Int) + (ys.length : Int)) = ((xs.length + ys.length : Nat) : Int) := by rw [wrap_i64 (by omega) (by omega)]; omega
 have w3 : IntKind.i64.wrap (0 + 1) = 1 := wrap_i64 (by omega) (by omega)
 have w4 : IntKind.i64.wrap (1 + 1) = 2 := wrap_i64 (by omega) (by omega)
 have w5 : IntKind.i64.wrap 1 = 1 := wrap_i64 (by omega) (by omega)
 have w6 : IntKind.i64.wrap 2 = 2 := wrap_i64 (by omega) (by omega)
 have w7 : IntKind.i64.wrap (xs.length : Int) = (xs.length : Int) := by rw [wrap_i64 (by omega) (by omega)]
 have p1 : ¬ (xs.length : Int) < 0 := by omega
 have p2 : ¬ ((xs.length + ys.length : Nat) : Int) < 0 := by omega
 have e2 : ((2 : Nat) : Int) = 2 := rfl
 simp only [symA, symB, X.put, X.look, Arg.ev, keepOf, restrict, initEnv, Nat.reduceEqDiff, ↓reduceIte, reduceCtorEq, goInt, eq_self, e2]
 refine loop_go (fun q' e m' => m' = m ∧ ((q' = 2 ∧ e = [(0, .slice (some ⟨q, 0, none⟩) 2 2), (3, I 0), (9, .slice (some ⟨q, 0, none⟩) 2 2), (10, I 2), (11, I 0)]) ∨ (q' = 1 ∧ e = [(0, .slice (some ⟨q, 0, none⟩) 2 2), (3, I (xs.length : Int)), (9, .slice (some ⟨q, 0, none⟩) 2 2), (10, I 2), (11, I 1)]) ∨ (q' = 0 ∧ e = [(0, .slice (some ⟨q, 0, none⟩) 2 2), (3, I ((xs.length + ys.length : Nat) : Int)), (9, .slice (some ⟨q, 0, none⟩) 2 2), (10, I 2), (11, I 2)]))) 2 ⟨rfl, .inl ⟨rfl, rfl⟩⟩ ?_
 rintro q' e m' N' B' hN hB ⟨rfl, ⟨rfl, rfl⟩ | ⟨rfl, rfl⟩ | ⟨rfl, rfl⟩⟩
 ·simp only [symA, symB, X.put, X.look, Arg.ev, keepOf, restrict, Nat.reduceEqDiff, ↓reduceIte, reduceCtorEq, goInt, eq_self, Int.reduceAdd, c01, i0, hq, w1, w5, p1]
  exact hN _ _ 1 (by omega) ⟨rfl, .inr (.inl ⟨rfl, rfl⟩)⟩
 ·simp only [symA, symB, X.put, X.look, Arg.ev, keepOf, restrict, Nat.reduceEqDiff, ↓reduceIte, reduceCtorEq, goInt, eq_self, Int.reduceAdd, c12, i1, hq, w2, w6, p2]
  exact hN _ _ 0 (by omega) ⟨rfl, .inr (.inr ⟨rfl, rfl⟩)⟩
 ·simp only [symA, symB, X.put, X.look, Arg.ev, keepOf, restrict, Nat.reduceEqDiff, ↓reduceIte, reduceCtorEq, eq_self, c22]
  refine hB _ _ _ ?_
  simp only [symA, symB, X.put, X.look, Arg.ev, keepOf, restrict, evs, Nat.reduceEqDiff, ↓reduceIte, reduceCtorEq, goInt, eq_self, goR_call g1, e2]
  refine loop_go (fun q' e m' => ((q' = 2 ∧ m' = m1 ∧ e = [(6, v1), (25, .slice (some ⟨q, 0, none⟩) 2 2), (26, I 2), (27, I 0)]) ∨ (q' = 1 ∧ m' = m2 ∧ e = [(6, v2), (25, .slice (some ⟨q, 0, none⟩) 2 2), (26, I 2), (27, I 1)]) ∨ (q' = 0 ∧ m' = m3 ∧ e = [(6, v3), (25, .slice (some ⟨q, 0, none⟩) 2 2), (26, I 2), (27, I 2)]))) 2 (.inl ⟨rfl, rfl, rfl⟩) ?_
  rintro q' e m'' N' B' hN hB (⟨rfl, rfl, rfl⟩ | ⟨rfl, rfl, rfl⟩ | ⟨rfl, rfl, rfl⟩)
  ·simp only [symA, symB, X.put, X.look, Arg.ev, keepOf, restrict, Nat.reduceEqDiff, ↓reduceIte, eq_self, Int.reduceAdd, c01, i0, hq1, k1, w5]
   exact hN _ _ 1 (by omega) (.inr (.inl ⟨rfl, rfl, rfl⟩))
  ·simp only [symA, symB, X.put, X.look, Arg.ev, keepOf, restrict, Nat.reduceEqDiff, ↓reduceIte, eq_self, Int.reduceAdd, c12, i1, hq2, l1, w6]
   exact hN _ _ 0 (by omega) (.inr (.inr ⟨rfl, rfl, rfl⟩))
  ·simp only [symA, symB, X.put, X.look, Arg.ev, keepOf, restrict, Nat.reduceEqDiff, ↓reduceIte, eq_self, c22]
   refine hB _ _ _ ?_
   obtain ⟨p3, c3, rfl⟩ := l2.slice
   simp only [symA, symB, X.put, X.look, Arg.ev, keepOf, restrict, ↓reduceIte, eq_self]
   exact hQ _ _ _ rfl ⟨rfl, rfl⟩
end
end Go.Proofs.Ytnlmnejellipdaa
namespace Go.Proofs.Ytnlmnejellipdaa
open Go X
set_option maxRecDepth 100000
attribute [local irreducible] X.Go' X.GoO X.GoR X.GoG X.GoC X.GoF X.GoFV X.GoFG X.Ex X.GoD X.GoDV X.GoDG
set_option linter.unusedVariables false
set_option linter.unusedSimpArgs false
section
variable {H : List Nat} {σ σ' : Nat → Tag} {m m' : Mem} {p : Nat} {vl vf v vx : Value} {ns : List (Nat → Value)} {ls : List Nd} {fr : List Nat} {root n : Int} {xs ys : List Value} {i f bb : Nat}
theorem TMH.chf (h : TMH H σ m p vl vf ns ls fr root n) (hi : i ∈ H) (hc : Ch (.fld f i) σ σ' m m') : TMH H σ' m' p vl vf ns ls fr root n :=
 h.ch hc (by simp) (by simp) (by simp) fun f' i' _ hi' q => hi' (by
  have : i = i' := by injection q
  rwa [← this])
theorem hand_append {bytes : Nat} {zero : Value} (h : TMH H σ m p vl vf ns ls fr root n) (hi : i ∈ H) (hT : Tg σ (.fld f i) m v xs) (hx : RdS bb m 1 vx (ones ys)) (hl : xs.length + ys.length ≤ 100000) (hb : bytes ≤ 100) :
  ∃ v' m' σ', appendE m 1 bytes [zero] v vx = some (.val v' m') ∧ Tg σ' (.fld f i) m' v' (xs ++ ys) ∧ Ch (.fld f i) σ σ' m m' ∧ TMH H σ' m' p vl vf ns ls fr root n := by
 obtain ⟨F, o1, o2⟩ := hT
 obtain ⟨v', m', F', a1, a2, a3, a4, a5⟩ := o1.append (bytes := bytes) (zero := zero) hx hl hb
 obtain ⟨σ', s1, s2⟩ := tag_of (σ := σ) (t := .fld f i) o2 a2 a3 a5 o1.lt
 exact ⟨v', m', σ', a1, s1, s2, h.chf hi s2⟩
theorem row_keep {b : Nat} {o : XObj} (hc : Ch (.fld f i) σ σ' m m') (hb : b < m.next) (hn : ∀ f i, σ b ≠ .fld f i) (hg : m.get b = some o) : m'.get b = some o ∧ σ' b = σ b :=
 ⟨hc.fm.get hb (hn f i) hg, hc.sig b hb⟩
theorem sl_cells {xs : List Value} {m : Mem} {v : Value} {t : Tag} (h : Tg σ t m v xs) : v.cells = #[v] ∧ noTup v = true ∧ veq v v = true := by
 obtain ⟨q, c, rfl⟩ := h.slice
 exact ⟨rfl, rfl, veq_slice⟩
theorem app1 {mA : Mem} {N : Nd} {s : Key} (h : TMH [] σ m p vl vf ns ls fr root n) (hN : ls[i]? = some N) (hl : N.keys.length ≤ 1000) (hA : m.push (box1 (.string s)) = mA) :
  ∃ id cp o g v1 mB mC σ', vl = .slice (some ⟨id, 0, some 0⟩) ls.length cp ∧ m.get id = some o ∧ mA.get id = some o ∧ o.cells[i * 3]? = some (g 0) ∧ ns[i]? = some g ∧ veq (g 0) (g 0) = true ∧
   appendE mA 1 16 [.string .empty] (g 0) (.slice (some ⟨m.next, 0, none⟩) 1 1) = some (.val v1 mB) ∧ storeE mB 1 (.pointer (some ⟨id, i * 3, none⟩)) v1 = some (.skip mC) ∧
   TMH [] σ' mC p vl vf (ns.set i (upd g 0 v1)) (ls.set i ⟨N.keys ++ [s], N.nums, N.kids⟩) fr root n ∧ Gr σ σ' m mC := by
 have hil : i < ls.length := (List.getElem?_eq_some_iff.1 hN).1
 obtain ⟨g, k1, k2, h3⟩ := h.take (i := i) (by simp) hN
 obtain ⟨id, o, cp, hvl, hgo, hco, hld, hlt, hsn⟩ := h.at k1
 have fA : Nx m mA := hA ▸ .push
 have nA : mA.next = m.next + 1 := by rw [← hA]; simp
 have gA : mA.get id = some o := fA.get hlt (fun h => h) hgo
 have l0 : (N.fld 0).length = N.keys.length := List.length_map ..
 obtain ⟨v1, mB, σ1, a1, a2, a3, a4⟩ := hand_append (bytes := 16) (zero := .string .empty) (h3.nx fA) (i := i) (by simp) ((k2 0 (by omega)).nx fA) (hA ▸ own_one : OwnX [m.next] mA (.slice (some ⟨m.next, 0, none⟩) 1 1) [.string s]).rd (by simp; omega) (by omega)
 obtain ⟨c1, c2, c3⟩ := sl_cells a2
 obtain ⟨id', cp', mC, hv', st1, st2, st3⟩ := a4.store (i := i) (f := 0) (v := v1) (by simp) k1 (by omega) c1 c2
 rw [hvl] at hv'
 cases hv'
 have hni : i < ns.length := (List.getElem?_eq_some_iff.1 k1).1
 have hT := st2.give1 (N := ⟨N.keys ++ [s], N.nums, N.kids⟩) (g := upd g 0 v1) hil (List.getElem?_set_self hni) fun f hf => by
  match f, hf with
  | 0, _ =>
   have e : Nd.fld ⟨N.keys ++ [s], N.nums, N.kids⟩ 0 = N.fld 0 ++ [.string s] := by show (N.keys ++ [s]).map sv = N.keys.map sv ++ _; simp
   rw [e]; exact a2.ch st3 (by simp)
  | 1, _ => exact (((k2 1 (by omega)).nx fA).ch a3 (by simp)).ch st3 (by simp)
  | 2, _ => exact (((k2 2 (by omega)).nx fA).ch a3 (by simp)).ch st3 (by simp)
 exact ⟨id, cp, o, g, v1, mB, mC, σ1, hvl, hgo, gA, hco 0 (by omega), k1, (sl_cells (k2 0 (by omega))).2.2, a1, st1, hT, (Gr.nx fA).trans ((Gr.ch a3 rfl).trans (Gr.ch st3 rfl))⟩
theorem app3 {j : Nat} {A B : Nd} {ga gb : Nat → Value} (h : TMH [] σ m p vl vf ns ls fr root n) (hA : ls[i]? = some A) (hB : ls[j]? = some B) (hij : i ≠ j) (ha : ns[i]? = some ga) (hb : ns[j]? = some gb)
  (hl : ∀ f, f < 3 → (A.fld f).length + (B.fld f).length ≤ 1000) {id o cp} (hvl : vl = .slice (some ⟨id, 0, some 0⟩) ls.length cp) (hgo : m.get id = some o) :
  ∃ v5 m5 v6 m6 v7 m7 m8 m9 m10 σ', appendE m 1 16 [.string .empty] (ga 0) (gb 0) = some (.val v5 m5) ∧ appendE m5 1 8 [I 0] (ga 1) (gb 1) = some (.val v6 m6) ∧ appendE m6 1 8 [I 0] (ga 2) (gb 2) = some (.val v7 m7) ∧
   storeE m7 1 (.pointer (some ⟨id, i * 3, none⟩)) v5 = some (.skip m8) ∧ storeE m8 1 (.pointer (some ⟨id, i * 3 + 1, none⟩)) v6 = some (.skip m9) ∧ storeE m9 1 (.pointer (some ⟨id, i * 3 + 2, none⟩)) v7 = some (.skip m10) ∧
   (∀ f, f < 3 → o.cells[i * 3 + f]? = some (ga f)) ∧ (∀ f, f < 3 → veq (ga f) (ga f) = true ∧ veq (gb f) (gb f) = true) ∧ (veq v5 v5 = true ∧ veq v6 v6 = true ∧ veq v7 v7 = true) ∧
   (∀ b ob, b < m.next → (∀ f i, σ b ≠ .fld f i) → m.get b = some ob → m5.get b = some ob ∧ m6.get b = some ob ∧ m7.get b = some ob) ∧
   TMH [] σ' m10 p vl vf (ns.set i (fun f => if f = 0 then v5 else if f = 1 then v6 else v7)) (ls.set i ⟨A.keys ++ B.keys, A.nums ++ B.nums, A.kids ++ B.kids⟩) fr root n ∧ Gr σ σ' m m10 := by
 have hil : i < ls.length := (List.getElem?_eq_some_iff.1 hA).1
 obtain ⟨g, k1, k2, h3⟩ := h.take (i := i) (by simp) hA
 rw [ha] at k1; cases k1
 obtain ⟨g', k1', q2⟩ := h.nd j B (by simp) hB
 rw [hb] at k1'; cases k1'
 obtain ⟨id', o', cp', hvl', hgo', hco, hld, hlt, hsn⟩ := h.at ha
 rw [hvl] at hvl'
 cases hvl'
 rw [hgo] at hgo'
 cases hgo'
 have nij : ∀ f f', Tag.fld f j ≠ Tag.fld f' i := fun f f' q => hij (by injection q with q1 q2; exact q2.symm)
 obtain ⟨v5, m5, σ5, a1, a2, a3, a4⟩ := hand_append (bytes := 16) (zero := .string .empty) h3 (i := i) (by simp) (k2 0 (by omega)) (q2 0 (by omega)).rd (by have := hl 0 (by omega); omega) (by omega)
 obtain ⟨v6, m6, σ6, b1, b2, b3, b4⟩ := hand_append (bytes := 8) (zero := I 0) a4 (i := i) (by simp) ((k2 1 (by omega)).ch a3 (by simp)) ((q2 1 (by omega)).ch a3 (nij _ _)).rd (by have := hl 1 (by omega); omega) (by omega)
 obtain ⟨v7, m7, σ7, c1, c2, c3, c4⟩ := hand_append (bytes := 8) (zero := I 0) b4 (i := i) (by simp) (((k2 2 (by omega)).ch a3 (by simp)).ch b3 (by simp)) (((q2 2 (by omega)).ch a3 (nij _ _)).ch b3 (nij _ _)).rd (by have := hl 2 (by omega); omega) (by omega)
 obtain ⟨x5, y5, z5⟩ := sl_cells a2
 obtain ⟨x6, y6, z6⟩ := sl_cells b2
 obtain ⟨x7, y7, z7⟩ := sl_cells c2
 have hni : i < ns.length := (List.getElem?_eq_some_iff.1 ha).1
 obtain ⟨id', cp', m8, hv', st1, st2, st3⟩ := c4.store (i := i) (f := 0) (v := v5) (by simp) ha (by omega) x5 y5
 rw [hvl] at hv'; cases hv'
 obtain ⟨id', cp', m9, hv', su1, su2, su3⟩ := st2.store (i := i) (f := 1) (v := v6) (g := upd ga 0 v5) (by simp) (List.getElem?_set_self hni) (by omega) x6 y6
 rw [hvl] at hv'; cases hv'
 obtain ⟨id', cp', m10, hv', sw1, sw2, sw3⟩ := su2.store (i := i) (f := 2) (v := v7) (g := upd (upd ga 0 v5) 1 v6) (by simp) (List.getElem?_set_self (by rw [List.length_set]; exact hni)) (by omega) x7 y7
 rw [hvl] at hv'; cases hv'
 have ens : (((ns.set i (upd ga 0 v5)).set i (upd (upd ga 0 v5) 1 v6)).set i (upd (upd (upd ga 0 v5) 1 v6) 2 v7)) = ns.set i (upd (upd (upd ga 0 v5) 1 v6) 2 v7) := by simp
 rw [ens] at sw2
 have hT := sw2.give1 (N := ⟨A.keys ++ B.keys, A.nums ++ B.nums, A.kids ++ B.kids⟩) (g := upd (upd (upd ga 0 v5) 1 v6) 2 v7) hil (List.getElem?_set_self hni) fun f hf => by
  match f, hf with
  | 0, _ =>
   have e : Nd.fld ⟨A.keys ++ B.keys, A.nums ++ B.nums, A.kids ++ B.kids⟩ 0 = A.fld 0 ++ B.fld 0 := List.map_append
   rw [e]; exact ((((a2.ch b3 (by simp)).ch c3 (by simp)).ch st3 (by simp)).ch su3 (by simp)).ch sw3 (by simp)
  | 1, _ =>
   have e : Nd.fld ⟨A.keys ++ B.keys, A.nums ++ B.nums, A.kids ++ B.kids⟩ 1 = A.fld 1 ++ B.fld 1 := List.map_append
   rw [e]; exact (((b2.ch c3 (by simp)).ch st3 (by simp)).ch su3 (by simp)).ch sw3 (by simp)
  | 2, _ =>
   have e : Nd.fld ⟨A.keys ++ B.keys, A.nums ++ B.nums, A.kids ++ B.kids⟩ 2 = A.fld 2 ++ B.fld 2 := List.map_append
   rw [e]; exact ((c2.ch st3 (by simp)).ch su3 (by simp)).ch sw3 (by simp)
 have e3 : (upd (upd (upd ga 0 v5) 1 v6) 2 v7) = upd (upd (upd ga 0 v5) 1 v6) 2 v7 := rfl
 refine ⟨v5, m5, v6, m6, v7, m7, m8, m9, m10, σ7, a1, b1, c1, st1, su1, sw1, hco, fun f hf => ⟨(sl_cells (k2 f hf)).2.2, (sl_cells (q2 f hf)).2.2⟩, ⟨z5, z6, z7⟩, fun b ob hbl hbn hbg => ?_, ?_, (Gr.ch a3 rfl).trans ((Gr.ch b3 rfl).trans ((Gr.ch c3 rfl).trans ((Gr.ch st3 rfl).trans ((Gr.ch su3 rfl).trans (Gr.ch sw3 rfl)))))⟩
 ·obtain ⟨r1, r2⟩ := row_keep a3 hbl hbn hbg
  have n1 := a3.next
  obtain ⟨r3, r4⟩ := row_keep b3 (by omega) (fun f i => by rw [r2]; exact hbn f i) r1
  have n2 := b3.next
  obtain ⟨r5, r6⟩ := row_keep c3 (by omega) (fun f i => by rw [r4, r2]; exact hbn f i) r3
  exact ⟨r1, r3, r5⟩
 ·refine ⟨hT.get, hT.top, hT.pl, ?_, hT.free, by have := hT.len; simpa using this, hT.fresh, fun i' N hi' hN => ?_⟩
  ·obtain ⟨F, w1, w2⟩ := hT.ol
   refine ⟨F, ?_, w2⟩
   rw [List.map_set] at w1 ⊢
   exact w1
  ·obtain ⟨g2, w1, w2⟩ := hT.nd i' N hi' hN
   by_cases e : i' = i
   ·subst e
    rw [List.getElem?_set_self hni] at w1
    cases w1
    exact ⟨_, List.getElem?_set_self hni, fun f hf => by
     have := w2 f hf
     match f, hf with
     | 0, _ => exact this
     | 1, _ => exact this
     | 2, _ => exact this⟩
   ·rw [List.getElem?_set_ne (Ne.symm e)] at w1
    exact ⟨g2, by rw [List.getElem?_set_ne (Ne.symm e)]; exact w1, w2⟩
end
end Go.Proofs.Ytnlmnejellipdaa
