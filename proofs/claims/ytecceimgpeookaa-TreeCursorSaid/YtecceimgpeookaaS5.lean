/-
  Own work. The tree: elements out of two of a node's slices; two kids become one. Own work, printed by mkj.py. The tree: two kids become one. The tree: a key of a node is another; a node is made anew. Own work, printed by mkl.py. The tree: of two kids side by side one is too poor.
-/
import Derived.Test.YtecceimgpeookaaS4
namespace Go.Proofs.Ytecceimgpeookaa
open Go X
set_option maxRecDepth 100000
attribute [local irreducible] X.Go' X.GoO X.GoR X.GoG X.GoC X.GoF X.GoFV X.GoFG X.Ex X.GoD X.GoDV X.GoDG
set_option linter.unusedVariables false
set_option linter.unusedSimpArgs false

section
variable {H : List Nat} {σ σ' : Nat → Tag} {m m' : Mem} {p : Nat} {vl vf v vx : Value} {ns : List (Nat → Value)} {ls : List Nd} {fr : List Nat} {root n : Int} {xs ys : List Value} {i f bb : Nat}
theorem del2 {N N' : Nd} {F k0 k1 : Nat} (h : TMH [] σ m p vl vf ns ls fr root n) (hN : ls[i]? = some N) (hF : F = 1 ∨ F = 2) (hk0 : k0 < (N.fld 0).length) (hk1 : k1 < (N.fld F).length) (hl0 : (N.fld 0).length ≤ 1000) (hl1 : (N.fld F).length ≤ 1000)
    (h0 : N'.fld 0 = (N.fld 0).eraseIdx k0) (h1 : N'.fld F = (N.fld F).eraseIdx k1) (h2 : N'.fld (3 - F) = N.fld (3 - F)) :
    ∃ id cp o q0 c0 q1 c1 mC mD mE mF v0 v1 ns', vl = .slice (some ⟨id, 0, some 0⟩) ls.length cp ∧ m.get id = some o ∧ mC.get id = some o ∧
      o.cells[i * 3]? = some (.slice q0 (N.fld 0).length c0) ∧ o.cells[i * 3 + F]? = some (.slice q1 (N.fld F).length c1) ∧
      Ca 75 [.slice q0 (N.fld 0).length c0, nv k0, nv (k0 + 1)] m v0 mC ∧ Ca 76 [.slice q1 (N.fld F).length c1, nv k1, nv (k1 + 1)] mC v1 mD ∧
      storeE mD 1 (.pointer (some ⟨id, i * 3, none⟩)) v0 = some (.skip mE) ∧ storeE mE 1 (.pointer (some ⟨id, i * 3 + F, none⟩)) v1 = some (.skip mF) ∧
      TMH [] σ mF p vl vf ns' (ls.set i N') fr root n ∧ Gr σ σ m mF := by
  have hil : i < ls.length := (List.getElem?_eq_some_iff.1 hN).1
  obtain ⟨g, k1', k2, h3⟩ := h.take (i := i) (by simp) hN
  obtain ⟨id, o, cp, hvl, hgo, hco, hld, hlt, hsn⟩ := h.at k1'
  obtain ⟨q0, c0, e0⟩ := (k2 0 (by omega)).slice
  obtain ⟨q1, c1, e1⟩ := (k2 F (by omega)).slice
  obtain ⟨F0, o1, o2⟩ := k2 0 (by omega)
  obtain ⟨v0, mC, a1, a2, a3⟩ := del75 o1 hk0 hl0
  have s2 : Ch (.fld 0 i) σ σ m mC := ⟨fun _ _ => rfl, a3.mono fun j _ hj => o2 j hj, fun _ _ => rfl⟩
  have s1 : Tg σ (.fld 0 i) mC v0 ((N.fld 0).eraseIdx k0) := ⟨F0, a2, o2⟩
  have gC : mC.get id = some o := s2.fm.get hlt (by rw [hsn]; simp) hgo
  have hFt : Tag.fld F i ≠ Tag.fld 0 i := fun q => by
    have : F = 0 := by injection q
    omega
  obtain ⟨F1, u1, u2⟩ := (k2 F (by omega)).ch s2 hFt
  obtain ⟨v1, mD, d1, d2, d3⟩ := del76 u1 hk1 hl1
  have w2 : Ch (.fld F i) σ σ mC mD := ⟨fun _ _ => rfl, d3.mono fun j _ hj => u2 j hj, fun _ _ => rfl⟩
  have w1 : Tg σ (.fld F i) mD v1 ((N.fld F).eraseIdx k1) := ⟨F1, d2, u2⟩
  have h4 := h3.chf (by simp) s2
  have h5 := h4.chf (by simp) w2
  obtain ⟨y0, yc0, ye0⟩ := sl_cells s1
  obtain ⟨y1, yc1, ye1⟩ := sl_cells w1
  obtain ⟨id', cp', mE, hvl', st1, st2, st3⟩ := h5.store (i := i) (f := 0) (v := v0) (by simp) k1' (by omega) y0 yc0
  rw [hvl] at hvl'
  cases hvl'
  have hni : i < ns.length := (List.getElem?_eq_some_iff.1 k1').1
  obtain ⟨id', cp', mF, hvl', su1, su2, su3⟩ := st2.store (i := i) (f := F) (v := v1) (g := upd g 0 v0) (by simp) (List.getElem?_set_self hni) (by omega) y1 yc1
  rw [hvl] at hvl'
  cases hvl'
  have hT := su2.give1 (N := N') (g := upd (upd g 0 v0) F v1) hil (List.getElem?_set_self (by rw [List.length_set]; exact hni)) fun f hf => by
    have hcs : f = F ∨ f = 0 ∨ f = 3 - F := by omega
    rcases hcs with rfl | rfl | rfl
    · have e : upd (upd g 0 v0) f v1 f = v1 := if_pos rfl
      rw [e, h1]
      exact (w1.ch st3 (by simp)).ch su3 (by simp)
    · have e : upd (upd g 0 v0) F v1 0 = v0 := by
        unfold upd
        rw [if_neg (by omega), if_pos rfl]
      rw [e, h0]
      exact ((s1.ch w2 hFt.symm).ch st3 (by simp)).ch su3 (by simp)
    · have e : upd (upd g 0 v0) F v1 (3 - F) = g (3 - F) := by
        unfold upd
        rw [if_neg (by omega), if_neg (by omega)]
      rw [e, h2]
      exact ((((k2 (3 - F) (by omega)).ch s2 (fun q => by have : 3 - F = 0 := by injection q
                                                          omega)).ch w2 (fun q => by have : 3 - F = F := by injection q
                                                                                     omega)).ch st3 (by simp)).ch su3 (by simp)
  refine ⟨id, cp, o, q0, c0, q1, c1, mC, mD, mE, mF, v0, v1, _, hvl, hgo, gC, ?_, ?_, ?_, ?_, st1, su1, hT, (Gr.ch s2 rfl).trans ((Gr.ch w2 rfl).trans ((Gr.ch st3 rfl).trans (Gr.ch su3 rfl)))⟩
  · rw [← e0]; exact hco 0 (by omega)
  · rw [← e1]; exact hco F (by omega)
  · rw [← e0]; exact a1
  · rw [← e1]; exact d1
end
end Go.Proofs.Ytecceimgpeookaa

namespace Go.Proofs.Ytecceimgpeookaa
open Go X
set_option maxRecDepth 100000
attribute [local irreducible] X.Go' X.GoO X.GoR X.GoG X.GoC X.GoF X.GoFV X.GoFG X.Ex X.GoD X.GoDV X.GoDG
set_option linter.unusedVariables false
set_option linter.unusedSimpArgs false

theorem map_erase {α β : Type} {f : α → β} {l : List α} {i : Nat} : (l.eraseIdx i).map f = (l.map f).eraseIdx i := by
  rw [List.eraseIdx_eq_take_drop_succ, List.eraseIdx_eq_take_drop_succ, List.map_append, List.map_take, List.map_drop]
section
variable {H : List Nat} {σ σ' : Nat → Tag} {m m' : Mem} {p : Nat} {vl vf v vx : Value} {ns : List (Nat → Value)} {ls : List Nd} {fr : List Nat} {root n : Int} {xs ys : List Value} {i f bb : Nat}

/-- Of leaves. -/
theorem joinL {ia ib w id cp : Nat} {ks : List Key} {kids : List Nat} {A B : Nd} {s : Key} (h : TMH [] σ m p vl vf ns ls fr root n) (hvl : vl = .slice (some ⟨id, 0, some 0⟩) ls.length cp) (hN : ls[i]? = some ⟨ks, [], kids⟩) (hka : kids[w]? = some ia) (hkb : kids[w + 1]? = some ib) (hs : ks[w]? = some s) (hA : ls[ia]? = some A) (hB : ls[ib]? = some B)
    (h1 : i ≠ ia) (h2 : i ≠ ib) (h3 : ia ≠ ib) (hleaf : A.kids.length = 0) (hks : ks.length ≤ 900) (hkd : kids.length ≤ 900) (hl : ∀ f, f < 3 → (A.fld f).length + (B.fld f).length ≤ 900) (hfl : fr.length ≤ 99990) :
    ∃ m' σ' vf' ns', Ca 92 [Pt p, Pn id i, nv (w + 1)] m (.tuple #[]) m' ∧ TMH [] σ' m' p vl vf' ns' (((ls.set ia ⟨A.keys ++ B.keys, A.nums ++ B.nums, A.kids ++ B.kids⟩).set i ⟨ks.eraseIdx w, [], kids.eraseIdx (w + 1)⟩).set ib noNd) (fr ++ [ib]) root n ∧ Gr σ σ' m m' := by
  obtain ⟨id', cp', o, av, bv, cv, hvl', nd⟩ := h.node hN
  rw [hvl] at hvl'
  cases hvl'
  obtain ⟨ga, ka1, ka2⟩ := h.nd ia A (by simp) hA
  obtain ⟨gb, kb1, kb2⟩ := h.nd ib B (by simp) hB
  obtain ⟨id', o', cp', hvl', hgo', hcob, hldb, hlt, hsn⟩ := h.at kb1
  rw [hvl] at hvl'
  cases hvl'
  obtain ⟨id', o'', cp', hvl', hgo'', hcoa, hlda, _, _⟩ := h.at ka1
  rw [hvl] at hvl'
  cases hvl'
  have hgo := nd.get
  rw [hgo] at hgo' hgo''
  cases hgo'
  cases hgo''
  have hil := nd.lt
  have hial : ia < ls.length := (List.getElem?_eq_some_iff.1 hA).1
  have hibl : ib < ls.length := (List.getElem?_eq_some_iff.1 hB).1
  have hwl : w + 1 < kids.length := (List.getElem?_eq_some_iff.1 hkb).1
  have hwl' : w < kids.length := by omega
  have hwk : w < ks.length := (List.getElem?_eq_some_iff.1 hs).1
  obtain ⟨ac, cc, oc, d1, d2, d3⟩ := nd.kidAt (w := w + 1) hkb
  obtain ⟨ac', cc', oc', d1', d2', d3'⟩ := nd.kidAt (w := w) hka
  rw [d1] at d1'
  cases d1'
  rw [d2] at d2'
  cases d2'
  -- the copy
  obtain ⟨m1, t1, t2, t3, t4⟩ := new_store (m := m) (z := [.slice none 0 0, .slice none 0 0, .slice none 0 0]) (row := row3 gb) (n := 3) rfl rfl (by omega)
  have H1 := h.nx t3
  have go1 : m1.get id = some o := t3.get hlt (fun h => h) hgo
  obtain ⟨qa, ca, ea⟩ := (ka2 2 (by omega)).slice
  have hleaf1 := leaf_call (m := m1) (off := ia * 3) (k := (A.fld 2).length) go1 (by rw [hcoa 2 (by omega), ea])
  have hlfl : (A.fld 2).length = A.kids.length := List.length_map ..
  have hlf : decide (((A.fld 2).length : Int) = 0) = true := by rw [hlfl]; rw [hleaf]; rfl
  rw [hlf] at hleaf1
  have hq0 : σ m.next = .no := h.fresh _ (Nat.le_refl _)
  obtain ⟨ls2, hls2⟩ : ∃ l, ls = l := ⟨_, rfl⟩
  obtain ⟨ns2, hns2⟩ : ∃ l, ns = l := ⟨_, rfl⟩
  obtain ⟨σ2, hσ2⟩ : ∃ s, σ = s := ⟨_, rfl⟩
  obtain ⟨A2, hA2e⟩ : ∃ a, A = a := ⟨_, rfl⟩
  have H2 : TMH [] σ2 m1 p vl vf ns2 ls2 fr root n := by rw [← hls2, ← hns2, ← hσ2]; exact H1
  have G2 : Gr σ σ2 m1 m1 := by rw [← hσ2]; exact Gr.refl
  have hb2 : ns2[ia]? = some ga := by rw [← hns2]; exact ka1
  have hA2 : ls2[ia]? = some A2 := by rw [← hls2, ← hA2e]; exact hA
  have gq2 := G2.fm.get (i := m.next) (by omega) (by rw [hq0]; simp [tr]) t2
  have hq2 : σ2 m.next = .no := by rw [G2.out _ (by omega) (by rw [hq0]; rfl), hq0]
  have hbn2 : ns2[ib]? = some gb := by rw [← hns2]; exact kb1
  have hB2 : ls2[ib]? = some B := by rw [← hls2]; exact hB
  have hll2 : ls2.length = ls.length := by rw [hls2]
  obtain ⟨id', o2, cp', hvl', hgo2, hcoa2, _, hlt2, hsn2⟩ := H2.at hb2
  rw [hvl, hll2] at hvl'
  cases hvl'
  obtain ⟨v5, m5, v6, m6, v7, m7, m8, m9, m10, σ3, a1, a2, a3, a4, a5, a6, a7, a8, ⟨z5, z6, z7⟩, a9, H3, G3⟩ := app3 H2 hA2 hB2 h3 hb2 hbn2 (fun f hf => by have := hl f hf; rw [← hA2e]; omega) (by rw [hll2]; exact hvl) hgo2
  have hnx2 := G2.next
  obtain ⟨gq5, gq6, gq7⟩ := a9 m.next _ (by omega) (fun f i => by rw [hq2]; simp) gq2
  obtain ⟨go5, go6, go7⟩ := a9 id _ hlt2 (fun f i => by rw [hsn2]; simp) hgo2
  have hN3 : (ls2.set ia ⟨A2.keys ++ B.keys, A2.nums ++ B.nums, A2.kids ++ B.kids⟩)[i]? = some ⟨ks, [], kids⟩ := by
    rw [List.getElem?_set_ne (Ne.symm h1)]; exact by rw [← hls2]; exact hN
  obtain ⟨id', cp', o3, q0, c0, q1, c1, mC, mD, mE, mF, u0, u1, ns4, hv4, go3, goC, f0, f1, e0, e1, st0, st1, H4, G4⟩ := del2 (F := 2) (k0 := w) (k1 := w + 1) (N' := ⟨ks.eraseIdx w, [], kids.eraseIdx (w + 1)⟩) H3 hN3 (.inr rfl) (by show w < (ks.map sv).length; rw [List.length_map]; exact hwk) (by show w + 1 < (kids.map nv).length; rw [List.length_map]; exact hwl) (by show (ks.map sv).length ≤ 1000; rw [List.length_map]; omega) (by show (kids.map nv).length ≤ 1000; rw [List.length_map]; omega) (by show (ks.eraseIdx w).map sv = (ks.map sv).eraseIdx w; rw [map_erase]) (by show (kids.eraseIdx (w + 1)).map nv = (kids.map nv).eraseIdx (w + 1); rw [map_erase]) rfl
  rw [hvl, List.length_set, hll2] at hv4
  cases hv4
  have hll4 : ((ls2.set ia ⟨A2.keys ++ B.keys, A2.nums ++ B.nums, A2.kids ++ B.kids⟩).set i ⟨ks.eraseIdx w, [], kids.eraseIdx (w + 1)⟩).length = ls.length := by rw [List.length_set, List.length_set, hll2]
  obtain ⟨m', σ5, vf', ns5, dr, H5, G5⟩ := drop_spec H4 (i := ib) (by rw [hll4]; exact hibl) hfl
  refine ⟨m', σ5, vf', ns5, callX_of (call_go (F := _) rfl rfl fun Q hQ => ?_), by subst hls2 hA2e; exact H5, (Gr.nx t3).trans (G2.trans (G3.trans (G4.trans G5)))⟩
  have l0 : (Nd.fld ⟨ks, [], kids⟩ 0).length = ks.length := List.length_map ..
  have l2 : (Nd.fld ⟨ks, [], kids⟩ 2).length = kids.length := List.length_map ..
  rw [l0] at f0 e0
  rw [l2] at f1 e1
  have w1 : IntKind.i64.wrap (((w + 1 : Nat) : Int) - 1) = (w : Int) := by rw [wrap_i64 (by omega) (by omega)]; omega
  have w2 : IntKind.i64.wrap (((w + 1 : Nat) : Int) + 1) = ((w + 1 + 1 : Nat) : Int) := by rw [wrap_i64 (by omega) (by omega)]; omega
  have ht := h.get
  have ht1 := H1.get
  have c2' := nd.c2
  have va0 := (a8 0 (by omega)).1
  have va1 := (a8 1 (by omega)).1
  have va2 := (a8 2 (by omega)).1
  have vb0 := (a8 0 (by omega)).2
  have vb1 := (a8 1 (by omega)).2
  have vb2 := (a8 2 (by omega)).2
  have x0 := a7 0 (by omega)
  have x1 := a7 1 (by omega)
  have x2 := a7 2 (by omega)
  rw [Nat.add_zero] at x0
  have vgb : (veqC (gb 0) (gb 0) && (veqC (gb 1) (gb 1) && veqC (gb 2) (gb 2))) = true := by
    obtain ⟨p0, k0, e0⟩ := (kb2 0 (by omega)).slice
    obtain ⟨p1, k1, e1⟩ := (kb2 1 (by omega)).slice
    obtain ⟨p2, k2, e2⟩ := (kb2 2 (by omega)).slice
    rw [e0, e1, e2, veqC_slice, veqC_slice, veqC_slice]; rfl
  obtain ⟨mp, hmp⟩ : ∃ mp, m.push { cells := [.slice none 0 0, .slice none 0 0, .slice none 0 0], rw := true, spare := none, kin := [] } = mp := ⟨_, rfl⟩
  have fp : Nx m mp := hmp ▸ .push
  have Hp := h.nx fp
  have gop := fp.get hlt (fun h => h) hgo
  obtain ⟨idp, cpp, op, avp, bvp, cvp, hvlp, ndp⟩ := Hp.node hN
  rw [hvl] at hvlp
  cases hvlp
  have hz := ndp.get
  rw [gop] at hz
  cases hz
  have hz := ndp.c2
  rw [c2'] at hz
  cases hz
  obtain ⟨acp, ccp, ocp, y1, y2, y3⟩ := ndp.kidAt (w := w + 1) hkb
  rw [d1] at y1
  cases y1
  obtain ⟨acp, ccp, ocp', y1, y2', y3'⟩ := ndp.kidAt (w := w) hka
  rw [d1] at y1
  cases y1
  rw [y2] at y2'
  cases y2'
  obtain ⟨idp, opp, cpp, hvlp, gpp, _, hldp, _, _⟩ := Hp.at kb1
  rw [hvl] at hvlp
  cases hvlp
  have htp := Hp.get
  rw [hmp] at t1
  subst d1 hvl
  simp only [↓tbS, Nat.reduceShiftRight, Nat.reduceAnd, Nat.reduceBneDiff, bne_self_eq_false, symA, go_opsd, symB, wantedX, X.put, X.look, Arg.ev, keepOf, restrict, evs, evO, initEnv, xres, tup, noTup, cls, quiet, Nat.reduceAdd, Nat.reduceEqDiff, ↓reduceIte, reduceCtorEq, goInt, exists_eq_left', eq_self, Int.reduceLT, Int.reduceLE, Int.reduceEq, Int.reduceNeg, Int.reduceAdd, Int.reduceSub, forall_const, ne_eq, undef, Nat.reducePow, Nat.reduceDiv, Nat.reduceMod, hgo, c2', hwl, d2, d3, ht, w1, hwl', d3', hial, hibl, hldb, hmp, gop, htp, y2, y3, y3', hldp, t1, goR_call hleaf1, vgb, hgo2, x0, x1, x2, gq2, a1, a2, a3, go5, go6, gq5, gq6, va0, va1, va2, vb0, vb1, vb2, z5, z6, z7, a4, a5, a6, go3, f0, f1, w2, goDV3c e0, goC, goDV3c e1, st0, st1, goR_call dr]
  exact hQ _ _ _ rfl ⟨rfl, rfl⟩

/-- Of nodes with kids. -/
theorem joinN {ia ib w id cp : Nat} {ks : List Key} {kids : List Nat} {A B : Nd} {s : Key} (h : TMH [] σ m p vl vf ns ls fr root n) (hvl : vl = .slice (some ⟨id, 0, some 0⟩) ls.length cp) (hN : ls[i]? = some ⟨ks, [], kids⟩) (hka : kids[w]? = some ia) (hkb : kids[w + 1]? = some ib) (hs : ks[w]? = some s) (hA : ls[ia]? = some A) (hB : ls[ib]? = some B)
    (h1 : i ≠ ia) (h2 : i ≠ ib) (h3 : ia ≠ ib) (hleaf : A.kids.length ≠ 0) (hks : ks.length ≤ 900) (hkd : kids.length ≤ 900) (hl : ∀ f, f < 3 → (A.fld f).length + (B.fld f).length ≤ 900) (hfl : fr.length ≤ 99990) :
    ∃ m' σ' vf' ns', Ca 92 [Pt p, Pn id i, nv (w + 1)] m (.tuple #[]) m' ∧ TMH [] σ' m' p vl vf' ns' (((ls.set ia ⟨A.keys ++ [s] ++ B.keys, A.nums ++ B.nums, A.kids ++ B.kids⟩).set i ⟨ks.eraseIdx w, [], kids.eraseIdx (w + 1)⟩).set ib noNd) (fr ++ [ib]) root n ∧ Gr σ σ' m m' := by
  obtain ⟨id', cp', o, av, bv, cv, hvl', nd⟩ := h.node hN
  rw [hvl] at hvl'
  cases hvl'
  obtain ⟨ga, ka1, ka2⟩ := h.nd ia A (by simp) hA
  obtain ⟨gb, kb1, kb2⟩ := h.nd ib B (by simp) hB
  obtain ⟨id', o', cp', hvl', hgo', hcob, hldb, hlt, hsn⟩ := h.at kb1
  rw [hvl] at hvl'
  cases hvl'
  obtain ⟨id', o'', cp', hvl', hgo'', hcoa, hlda, _, _⟩ := h.at ka1
  rw [hvl] at hvl'
  cases hvl'
  have hgo := nd.get
  rw [hgo] at hgo' hgo''
  cases hgo'
  cases hgo''
  have hil := nd.lt
  have hial : ia < ls.length := (List.getElem?_eq_some_iff.1 hA).1
  have hibl : ib < ls.length := (List.getElem?_eq_some_iff.1 hB).1
  have hwl : w + 1 < kids.length := (List.getElem?_eq_some_iff.1 hkb).1
  have hwl' : w < kids.length := by omega
  have hwk : w < ks.length := (List.getElem?_eq_some_iff.1 hs).1
  obtain ⟨ac, cc, oc, d1, d2, d3⟩ := nd.kidAt (w := w + 1) hkb
  obtain ⟨ac', cc', oc', d1', d2', d3'⟩ := nd.kidAt (w := w) hka
  rw [d1] at d1'
  cases d1'
  rw [d2] at d2'
  cases d2'
  -- the copy
  obtain ⟨m1, t1, t2, t3, t4⟩ := new_store (m := m) (z := [.slice none 0 0, .slice none 0 0, .slice none 0 0]) (row := row3 gb) (n := 3) rfl rfl (by omega)
  have H1 := h.nx t3
  have go1 : m1.get id = some o := t3.get hlt (fun h => h) hgo
  obtain ⟨qa, ca, ea⟩ := (ka2 2 (by omega)).slice
  have hleaf1 := leaf_call (m := m1) (off := ia * 3) (k := (A.fld 2).length) go1 (by rw [hcoa 2 (by omega), ea])
  have hlfl : (A.fld 2).length = A.kids.length := List.length_map ..
  have hlf : decide (((A.fld 2).length : Int) = 0) = false := by rw [hlfl]; exact decide_eq_false (by omega)
  rw [hlf] at hleaf1
  have hq0 : σ m.next = .no := h.fresh _ (Nat.le_refl _)
  have hAk : A.keys.length ≤ 1000 := by
    have h8 : (A.fld 0).length = A.keys.length := List.length_map ..
    have := hl 0 (by omega)
    omega
  obtain ⟨mA, hmA⟩ : ∃ mA, m1.push (box1 (.string s)) = mA := ⟨_, rfl⟩
  obtain ⟨id', cp', o', ga', v1, mB, mC', σ2, hv', p1, p2, p3, p4, p5, p6, p7, H2, G2⟩ := app1 H1 hA hAk hmA
  rw [hvl] at hv'
  cases hv'
  rw [go1] at p1
  cases p1
  rw [ka1] at p4
  cases p4
  obtain ⟨A2, hA2e⟩ : ∃ a, Nd.mk (A.keys ++ [s]) A.nums A.kids = a := ⟨_, rfl⟩
  obtain ⟨ls2, hls2⟩ : ∃ l, ls.set ia ⟨A.keys ++ [s], A.nums, A.kids⟩ = l := ⟨_, rfl⟩
  obtain ⟨ns2, hns2⟩ : ∃ l, ns.set ia (upd ga 0 v1) = l := ⟨_, rfl⟩
  rw [hls2, hns2] at H2
  have hb2 : ns2[ia]? = some (upd ga 0 v1) := by rw [← hns2]; exact List.getElem?_set_self (List.getElem?_eq_some_iff.1 ka1).1
  have hA2 : ls2[ia]? = some A2 := by rw [← hls2, ← hA2e]; exact List.getElem?_set_self hial
  have hlen2 : ∀ f, f < 3 → (A.fld f).length + (B.fld f).length ≤ 900 → (A2.fld f).length + (B.fld f).length ≤ 1000 := fun f hf hle => by
    rw [← hA2e]
    match f, hf, hle with
    | 0, _, hle =>
      have e : (Nd.fld ⟨A.keys ++ [s], A.nums, A.kids⟩ 0).length = (A.fld 0).length + 1 := by show ((A.keys ++ [s]).map sv).length = (A.keys.map sv).length + 1; simp
      omega
    | 1, _, hle => exact Nat.le_trans hle (by omega)
    | 2, _, hle => exact Nat.le_trans hle (by omega)
  have gq2 := G2.fm.get (i := m.next) (by omega) (by rw [hq0]; simp [tr]) t2
  have hq2 : σ2 m.next = .no := by rw [G2.out _ (by omega) (by rw [hq0]; rfl), hq0]
  have hbn2 : ns2[ib]? = some gb := by rw [← hns2, List.getElem?_set_ne h3]; exact kb1
  have hB2 : ls2[ib]? = some B := by rw [← hls2, List.getElem?_set_ne h3]; exact hB
  have hll2 : ls2.length = ls.length := by rw [← hls2, List.length_set]
  obtain ⟨id', o2, cp', hvl', hgo2, hcoa2, _, hlt2, hsn2⟩ := H2.at hb2
  rw [hvl, hll2] at hvl'
  cases hvl'
  obtain ⟨v5, m5, v6, m6, v7, m7, m8, m9, m10, σ3, a1, a2, a3, a4, a5, a6, a7, a8, ⟨z5, z6, z7⟩, a9, H3, G3⟩ := app3 H2 hA2 hB2 h3 hb2 hbn2 (fun f hf => by have := hl f hf; exact hlen2 f hf this) (by rw [hll2]; exact hvl) hgo2
  have hnx2 := G2.next
  obtain ⟨gq5, gq6, gq7⟩ := a9 m.next _ (by omega) (fun f i => by rw [hq2]; simp) gq2
  obtain ⟨go5, go6, go7⟩ := a9 id _ hlt2 (fun f i => by rw [hsn2]; simp) hgo2
  have hN3 : (ls2.set ia ⟨A2.keys ++ B.keys, A2.nums ++ B.nums, A2.kids ++ B.kids⟩)[i]? = some ⟨ks, [], kids⟩ := by
    rw [List.getElem?_set_ne (Ne.symm h1)]; exact by rw [← hls2, List.getElem?_set_ne (Ne.symm h1)]; exact hN
  obtain ⟨id', cp', o3, q0, c0, q1, c1, mC, mD, mE, mF, u0, u1, ns4, hv4, go3, goC, f0, f1, e0, e1, st0, st1, H4, G4⟩ := del2 (F := 2) (k0 := w) (k1 := w + 1) (N' := ⟨ks.eraseIdx w, [], kids.eraseIdx (w + 1)⟩) H3 hN3 (.inr rfl) (by show w < (ks.map sv).length; rw [List.length_map]; exact hwk) (by show w + 1 < (kids.map nv).length; rw [List.length_map]; exact hwl) (by show (ks.map sv).length ≤ 1000; rw [List.length_map]; omega) (by show (kids.map nv).length ≤ 1000; rw [List.length_map]; omega) (by show (ks.eraseIdx w).map sv = (ks.map sv).eraseIdx w; rw [map_erase]) (by show (kids.eraseIdx (w + 1)).map nv = (kids.map nv).eraseIdx (w + 1); rw [map_erase]) rfl
  rw [hvl, List.length_set, hll2] at hv4
  cases hv4
  have hll4 : ((ls2.set ia ⟨A2.keys ++ B.keys, A2.nums ++ B.nums, A2.kids ++ B.kids⟩).set i ⟨ks.eraseIdx w, [], kids.eraseIdx (w + 1)⟩).length = ls.length := by rw [List.length_set, List.length_set, hll2]
  obtain ⟨m', σ5, vf', ns5, dr, H5, G5⟩ := drop_spec H4 (i := ib) (by rw [hll4]; exact hibl) hfl
  refine ⟨m', σ5, vf', ns5, callX_of (call_go (F := _) rfl rfl fun Q hQ => ?_), by subst hls2 hA2e; simpa using H5, (Gr.nx t3).trans (G2.trans (G3.trans (G4.trans G5)))⟩
  have l0 : (Nd.fld ⟨ks, [], kids⟩ 0).length = ks.length := List.length_map ..
  have l2 : (Nd.fld ⟨ks, [], kids⟩ 2).length = kids.length := List.length_map ..
  rw [l0] at f0 e0
  rw [l2] at f1 e1
  have w1 : IntKind.i64.wrap (((w + 1 : Nat) : Int) - 1) = (w : Int) := by rw [wrap_i64 (by omega) (by omega)]; omega
  have w2 : IntKind.i64.wrap (((w + 1 : Nat) : Int) + 1) = ((w + 1 + 1 : Nat) : Int) := by rw [wrap_i64 (by omega) (by omega)]; omega
  have ht := h.get
  have ht1 := H1.get
  have c2' := nd.c2
  have va0 := (a8 0 (by omega)).1
  have va1 := (a8 1 (by omega)).1
  have va2 := (a8 2 (by omega)).1
  have vb0 := (a8 0 (by omega)).2
  have vb1 := (a8 1 (by omega)).2
  have vb2 := (a8 2 (by omega)).2
  have x0 := a7 0 (by omega)
  have x1 := a7 1 (by omega)
  have x2 := a7 2 (by omega)
  rw [Nat.add_zero] at x0
  have vgb : (veqC (gb 0) (gb 0) && (veqC (gb 1) (gb 1) && veqC (gb 2) (gb 2))) = true := by
    obtain ⟨p0, k0, e0⟩ := (kb2 0 (by omega)).slice
    obtain ⟨p1, k1, e1⟩ := (kb2 1 (by omega)).slice
    obtain ⟨p2, k2, e2⟩ := (kb2 2 (by omega)).slice
    rw [e0, e1, e2, veqC_slice, veqC_slice, veqC_slice]; rfl
  obtain ⟨mp, hmp⟩ : ∃ mp, m.push { cells := [.slice none 0 0, .slice none 0 0, .slice none 0 0], rw := true, spare := none, kin := [] } = mp := ⟨_, rfl⟩
  have fp : Nx m mp := hmp ▸ .push
  have Hp := h.nx fp
  have gop := fp.get hlt (fun h => h) hgo
  obtain ⟨idp, cpp, op, avp, bvp, cvp, hvlp, ndp⟩ := Hp.node hN
  rw [hvl] at hvlp
  cases hvlp
  have hz := ndp.get
  rw [gop] at hz
  cases hz
  have hz := ndp.c2
  rw [c2'] at hz
  cases hz
  obtain ⟨acp, ccp, ocp, y1, y2, y3⟩ := ndp.kidAt (w := w + 1) hkb
  rw [d1] at y1
  cases y1
  obtain ⟨acp, ccp, ocp', y1, y2', y3'⟩ := ndp.kidAt (w := w) hka
  rw [d1] at y1
  cases y1
  rw [y2] at y2'
  cases y2'
  obtain ⟨idp, opp, cpp, hvlp, gpp, _, hldp, _, _⟩ := Hp.at kb1
  rw [hvl] at hvlp
  cases hvlp
  have htp := Hp.get
  rw [hmp] at t1
  obtain ⟨idp, cpp, op, avp, bvp, cvp, hvlp, ndq⟩ := H1.node hN
  rw [hvl] at hvlp
  cases hvlp
  have hz := ndq.get
  rw [go1] at hz
  cases hz
  have c0k := ndq.c0
  obtain ⟨ak, ck, ok, ek1, ek2, ek3⟩ := ndq.keyAt (w := w) hs
  have c72 := bone72 (m := m1) (x := s)
  rw [hmA] at c72
  have fA : Nx m1 mA := hmA ▸ .push
  obtain ⟨idp, cpp, op, avp, bvp, cvp, hvlp, ndr⟩ := (H1.nx fA).node hN
  rw [hvl] at hvlp
  cases hvlp
  have hz := ndr.get
  rw [p2] at hz
  cases hz
  have hz := ndr.c0
  rw [c0k] at hz
  cases hz
  obtain ⟨ak', ck', ok', ek1', ek2', ek3'⟩ := ndr.keyAt (w := w) hs
  rw [ek1] at ek1'
  cases ek1'
  subst ek1
  subst d1 hvl
  simp only [↓tbS, Nat.reduceShiftRight, Nat.reduceAnd, Nat.reduceBneDiff, bne_self_eq_false, symA, go_opsd, symB, wantedX, X.put, X.look, Arg.ev, keepOf, restrict, evs, evO, initEnv, xres, tup, noTup, cls, quiet, Nat.reduceAdd, Nat.reduceEqDiff, ↓reduceIte, reduceCtorEq, goInt, exists_eq_left', eq_self, Int.reduceLT, Int.reduceLE, Int.reduceEq, Int.reduceNeg, Int.reduceAdd, Int.reduceSub, forall_const, ne_eq, undef, Nat.reducePow, Nat.reduceDiv, Nat.reduceMod, hgo, c2', hwl, d2, d3, ht, w1, hwl', d3', hial, hibl, hldb, hmp, gop, htp, y2, y3, y3', hldp, t1, goR_call hleaf1, vgb, go1, p3, c0k, hwk, ek2, ek3, ek2', ek3', c72, p2, p5, p6, p7, hgo2, x0, x1, x2, gq2, a1, a2, a3, go5, go6, gq5, gq6, va0, va1, va2, vb0, vb1, vb2, z5, z6, z7, a4, a5, a6, go3, f0, f1, w2, goDV3c e0, goC, goDV3c e1, st0, st1, goR_call dr]
  exact hQ _ _ _ rfl ⟨rfl, rfl⟩

end
end Go.Proofs.Ytecceimgpeookaa

namespace Go.Proofs.Ytecceimgpeookaa
open Go X
set_option maxRecDepth 100000
attribute [local irreducible] X.Go' X.GoO X.GoR X.GoG X.GoC X.GoF X.GoFV X.GoFG X.Ex X.GoD X.GoDV X.GoDG
set_option linter.unusedVariables false
set_option linter.unusedSimpArgs false

section
variable {H : List Nat} {σ σ' : Nat → Tag} {m m' : Mem} {p : Nat} {vl vf v vx : Value} {ns : List (Nat → Value)} {ls : List Nd} {fr : List Nat} {root n : Int} {xs ys : List Value} {i f bb : Nat}
theorem set_key {N : Nd} {w : Nat} {s : Key} (h : TMH [] σ m p vl vf ns ls fr root n) (hN : ls[i]? = some N) (hw : w < N.keys.length) :
    ∃ id cp o a c m', vl = .slice (some ⟨id, 0, some 0⟩) ls.length cp ∧ m.get id = some o ∧ o.cells[i * 3]? = some (.slice (some a) N.keys.length c) ∧ storeE m 1 (.pointer (some ⟨a.block, a.off + w, none⟩)) (.string s) = some (.skip m') ∧
      TMH [] σ m' p vl vf ns (ls.set i ⟨N.keys.set w s, N.nums, N.kids⟩) fr root n ∧ Gr σ σ m m' := by
  have hil : i < ls.length := (List.getElem?_eq_some_iff.1 hN).1
  obtain ⟨g, k1, k2, h3⟩ := h.take (i := i) (by simp) hN
  obtain ⟨id, o, cp, hvl, hgo, hco, hld, hlt, hsn⟩ := h.at k1
  have l0 : (N.fld 0).length = N.keys.length := List.length_map ..
  obtain ⟨F, o1, o2⟩ := k2 0 (by omega)
  obtain ⟨a, c, m', d1, s1, s2, s3⟩ := o1.set (i := w) (x := .string s) (by rw [l0]; exact hw) rfl rfl
  have hc : Ch (.fld 0 i) σ σ m m' := ⟨fun _ _ => rfl, s3.mono fun j _ hj => o2 j hj, fun _ _ => rfl⟩
  have hT := (h3.chf (by simp) hc).give1 (N := ⟨N.keys.set w s, N.nums, N.kids⟩) (g := g) hil k1 fun f hf => by
    match f, hf with
    | 0, _ =>
      have e : Nd.fld ⟨N.keys.set w s, N.nums, N.kids⟩ 0 = (N.fld 0).set w (.string s) := List.map_set
      rw [e]; exact ⟨F, s2, o2⟩
    | 1, _ => exact (k2 1 (by omega)).ch hc (by simp)
    | 2, _ => exact (k2 2 (by omega)).ch hc (by simp)
  have hc0 := hco 0 (by omega)
  rw [d1, l0] at hc0
  exact ⟨id, cp, o, a, c, m', hvl, hgo, hc0, s1, hT, Gr.ch hc rfl⟩
theorem renew {w0 w1 : Value} {N' : Nd} {F id cp : Nat} (h : TMH [] σ m p vl vf ns ls fr root n) (hvl : vl = .slice (some ⟨id, 0, some 0⟩) ls.length cp) (hil : i < ls.length) (hF : F = 1 ∨ F = 2) (r0 : RdS m.next m 1 w0 (ones xs)) (r1 : RdS m.next m 1 w1 (ones ys)) (hx : xs.length ≤ 1000) (hy : ys.length ≤ 1000) (h0 : N'.fld 0 = xs) (h1 : N'.fld F = ys) (h2 : N'.fld (3 - F) = []) :
    ∃ p0 a0 c0 m1 p1 a1 c1 m2 m3 σ' ns', Ca 72 [w0] m (.slice p0 a0 c0) m1 ∧ Nx m m1 ∧ Ca 73 [w1] m1 (.slice p1 a1 c1) m2 ∧ storeE m2 3 (Pn id i) (.agg ⟨row3 fun f => if f = 0 then .slice p0 a0 c0 else if f = F then .slice p1 a1 c1 else .slice none 0 0⟩) = some (.skip m3) ∧
      TMH [] σ' m3 p vl vf ns' (ls.set i N') fr root n ∧ Gr σ σ' m m3 := by
  obtain ⟨N, hN⟩ : ∃ N, ls[i]? = some N := ⟨_, List.getElem?_eq_getElem hil⟩
  obtain ⟨g, k1, _, _⟩ := h.take (i := i) (by simp) hN
  obtain ⟨u0, m1, F0, b1, b2, b3, b4⟩ := clone72 r0 (Nat.le_refl _) hx
  obtain ⟨σ1, s1, s2⟩ := tag_new (σ := σ) (.fld 0 i) b2 b4 b3
  have c1 : Ch .no σ σ1 m m1 := .nx' b4 s2
  obtain ⟨u1, m2, F1, d1, d2, d3, d4⟩ := clone73 (r1.fr b4 (Nat.le_refl _) (fun _ h => h.elim)) c1.next hy
  obtain ⟨σ2, t1, t2⟩ := tag_new (σ := σ1) (.fld F i) d2 d4 d3
  have c2 : Ch .no σ1 σ2 m1 m2 := .nx' d4 t2
  have H2 := (h.new b4 s2).new d4 t2
  obtain ⟨g', k1', _, H3⟩ := H2.take (i := i) (by simp) hN
  rw [k1] at k1'; cases k1'
  obtain ⟨q0, l0, e0⟩ := s1.slice
  obtain ⟨q1, l1, e1⟩ := t1.slice
  subst e0 e1
  obtain ⟨id', cp', m3, hv', st1, st2, st3⟩ := H3.store3 (i := i) (g' := fun f => if f = 0 then .slice q0 xs.length l0 else if f = F then .slice q1 ys.length l1 else .slice none 0 0) (by simp) k1 (by rcases hF with rfl | rfl <;> rfl)
  rw [hvl] at hv'; cases hv'
  have hni : i < ns.length := (List.getElem?_eq_some_iff.1 k1).1
  have hT := st2.give1 (N := N') (g := fun f => if f = 0 then .slice q0 xs.length l0 else if f = F then .slice q1 ys.length l1 else .slice none 0 0) hil (List.getElem?_set_self hni) fun f hf => by
    have hcs : f = 0 ∨ f = F ∨ f = 3 - F := by omega
    rcases hcs with rfl | rfl | rfl
    · rw [h0, if_pos rfl]; exact (s1.ch c2 (by simp)).ch st3 (by simp)
    · rw [h1, if_neg (by omega), if_pos rfl]; exact t1.ch st3 (by simp)
    · rw [h2, if_neg (by omega), if_neg (by omega)]; exact Tg.nil
  exact ⟨q0, _, l0, m1, q1, _, l1, m2, m3, σ2, _, b1, b4, d1, st1, hT, (Gr.new b4 s2).trans ((Gr.new d4 t2).trans (Gr.ch st3 rfl))⟩
end
end Go.Proofs.Ytecceimgpeookaa

namespace Go.Proofs.Ytecceimgpeookaa
open Go X
set_option maxRecDepth 100000
attribute [local irreducible] X.Go' X.GoO X.GoR X.GoG X.GoC X.GoF X.GoFV X.GoFG X.Ex X.GoD X.GoDV X.GoDG
set_option linter.unusedVariables false
set_option linter.unusedSimpArgs false

section
variable {H : List Nat} {σ σ' : Nat → Tag} {m m' : Mem} {p : Nat} {vl vf v vx : Value} {ns : List (Nat → Value)} {ls : List Nd} {fr : List Nat} {root n : Int} {xs ys : List Value} {i f bb : Nat}
theorem mend_join {ia ib w id cp : Nat} {N A B : Nd} (h : TMH [] σ m p vl vf ns ls fr root n) (hvl : vl = .slice (some ⟨id, 0, some 0⟩) ls.length cp) (hN : ls[i]? = some N) (hka : N.kids[w]? = some ia) (hkb : N.kids[w + 1]? = some ib) (hA : ls[ia]? = some A) (hB : ls[ib]? = some B)
    (hsz : A.size + B.size ≤ 4) (hw : w ≤ 1000) (hj : Ca 92 [Pt p, Pn id i, nv (w + 1)] m (.tuple #[]) m') : Ca 77 [Pt p, Pn id i, nv (w + 1)] m (.tuple #[]) m' := by
  obtain ⟨id', cp', o, av, bv, cv, hvl', nd⟩ := h.node hN
  rw [hvl] at hvl'
  cases hvl'
  obtain ⟨id', cp', oa, aa, ba, ca, hvl', nda⟩ := h.node hA
  rw [hvl] at hvl'
  cases hvl'
  obtain ⟨id', cp', ob, ab, bb, cb, hvl', ndb⟩ := h.node hB
  rw [hvl] at hvl'
  cases hvl'
  obtain ⟨ac, cc, oc, d1, d2, d3⟩ := nd.kidAt hkb
  obtain ⟨ac', cc', oc', d1', d2', d3'⟩ := nd.kidAt hka
  rw [d1] at d1'
  cases d1'
  rw [d2] at d2'
  cases d2'
  have hwl : w + 1 < N.kids.length := (List.getElem?_eq_some_iff.1 hkb).1
  have hwl' : w < N.kids.length := by omega
  have sa := nda.size
  have sb := ndb.size
  have hial := nda.lt
  have hibl := ndb.lt
  have w1 : IntKind.i64.wrap (((w + 1 : Nat) : Int) - 1) = (w : Int) := by rw [wrap_i64 (by omega) (by omega)]; omega
  have w2 : IntKind.i64.wrap ((A.size : Int) + (B.size : Int)) = ((A.size + B.size : Nat) : Int) := by rw [wrap_i64 (by omega) (by omega)]; omega
  have hle : ((A.size + B.size : Nat) : Int) ≤ 4 := by omega
  have ht := h.get
  have hgo := nd.get
  have hc2 := nd.c2
  refine callX_of (call_go (F := _) rfl rfl fun Q hQ => ?_)
  subst d1 hvl
  simp only [symA, go_opsd, symB, wantedX, X.put, X.look, Arg.ev, keepOf, restrict, evs, evO, initEnv, xres, tup, noTup, cls, quiet, Nat.reduceAdd, Nat.reduceEqDiff, ↓reduceIte, reduceCtorEq, goInt, exists_eq_left', eq_self, Int.reduceLT, Int.reduceLE, Int.reduceEq, Int.reduceNeg, Int.reduceAdd, Int.reduceSub, forall_const, ne_eq, undef, Nat.reducePow, Nat.reduceDiv, Nat.reduceMod, ht, hgo, hc2, hwl, hwl', d2, d3, d3', w1, hial, hibl, goR_call sa, goR_call sb, w2, hle, goR_call hj]
  exact hQ _ _ _ rfl ⟨rfl, rfl⟩

/-- Of leaves: they share anew. -/
theorem rotL {ia ib w id cp : Nat} {ks : List Key} {kids : List Nat} {A B : Nd} {s least : Key} (h : TMH [] σ m p vl vf ns ls fr root n) (hvl : vl = .slice (some ⟨id, 0, some 0⟩) ls.length cp) (hN : ls[i]? = some ⟨ks, [], kids⟩) (hka : kids[w]? = some ia) (hkb : kids[w + 1]? = some ib) (hs : ks[w]? = some s) (hA : ls[ia]? = some A) (hB : ls[ib]? = some B)
    (h1 : i ≠ ia) (h2 : i ≠ ib) (h3 : ia ≠ ib) (hleaf : A.kids.length = 0) (hsz : A.size + B.size = 5) (hw : w ≤ 1000) (hkl : (A.keys ++ B.keys).length = 5) (hvl5 : (A.nums ++ B.nums).length = 5) (hol : (A.kids ++ B.kids).length ≤ 900) (hle : (A.keys ++ B.keys)[2]? = some least) :
    ∃ m' σ' ns', Ca 77 [Pt p, Pn id i, nv (w + 1)] m (.tuple #[]) m' ∧ TMH [] σ' m' p vl vf ns' (((ls.set ia ⟨(A.keys ++ B.keys).take 2, (A.nums ++ B.nums).take 2, []⟩).set ib ⟨(A.keys ++ B.keys).drop 2, (A.nums ++ B.nums).drop 2, []⟩).set i ⟨ks.set w least, [], kids⟩) fr root n ∧ Gr σ σ' m m' := by
  obtain ⟨id', cp', o, av, bv, cv, hvl', nd⟩ := h.node hN
  rw [hvl] at hvl'
  cases hvl'
  obtain ⟨id', cp', oa, aa, ba, ca, hvl', nda⟩ := h.node hA
  rw [hvl] at hvl'
  cases hvl'
  obtain ⟨id', cp', ob, ab, bb', cb, hvl', ndb⟩ := h.node hB
  rw [hvl] at hvl'
  cases hvl'
  obtain ⟨ac, cc, oc, d1, d2, d3⟩ := nd.kidAt (w := w + 1) hkb
  obtain ⟨ac', cc', oc', d1', d2', d3'⟩ := nd.kidAt (w := w) hka
  rw [d1] at d1'
  cases d1'
  rw [d2] at d2'
  cases d2'
  have hwl : w + 1 < kids.length := (List.getElem?_eq_some_iff.1 hkb).1
  have hwl' : w < kids.length := by omega
  have hwk : w < ks.length := (List.getElem?_eq_some_iff.1 hs).1
  have sa := nda.size
  have sb := ndb.size
  have hial := nda.lt
  have hibl := ndb.lt
  have hil := nd.lt
  have w1 : IntKind.i64.wrap (((w + 1 : Nat) : Int) - 1) = (w : Int) := by rw [wrap_i64 (by omega) (by omega)]; omega
  have w2 : IntKind.i64.wrap ((A.size : Int) + (B.size : Int)) = 5 := by rw [wrap_i64 (by omega) (by omega)]; omega
  have nle : ¬ (5 : Int) ≤ 4 := by omega
  have ht := h.get
  have hgo := nd.get
  have hc2 := nd.c2
  have hlf0 := nda.leaf
  have hlf : decide ((A.kids.length : Int) = 0) = true := by rw [hleaf]; rfl
  rw [hlf] at hlf0
  obtain ⟨M1, hM1⟩ : ∃ s, m = s := ⟨_, rfl⟩
  obtain ⟨ls1, hls1⟩ : ∃ l, ls = l := ⟨_, rfl⟩
  obtain ⟨ns1, hns1⟩ : ∃ l, ns = l := ⟨_, rfl⟩
  obtain ⟨σ1, hσ1⟩ : ∃ s, σ = s := ⟨_, rfl⟩
  obtain ⟨A1, hA1e⟩ : ∃ a, A = a := ⟨_, rfl⟩
  have H1 : TMH [] σ1 M1 p vl vf ns1 ls1 fr root n := by rw [← hls1, ← hns1, ← hσ1, ← hM1]; exact h
  have G1 : Gr σ σ1 m M1 := by rw [← hσ1, ← hM1]; exact Gr.refl
  have hA1 : ls1[ia]? = some A1 := by rw [← hls1, ← hA1e]; exact hA
  have hB1 : ls1[ib]? = some B := by rw [← hls1]; exact hB
  have hN1 : ls1[i]? = some ⟨ks, [], kids⟩ := by rw [← hls1]; exact hN
  have hll1 : ls1.length = ls.length := by rw [hls1]
  have hk1 : (A1.keys ++ B.keys).length = 5 := by rw [← hA1e]; exact hkl
  have hnumE : A1.nums = A.nums := by rw [← hA1e]
  have hkidE : A1.kids = A.kids := by rw [← hA1e]
  have hle1 : (A1.keys ++ B.keys)[2]? = some least := by rw [← hA1e]; exact hle
  have hszE : A1.size = A.size := by
    rw [← hA1e]
  obtain ⟨ga, ka1, ka2⟩ := H1.nd ia A1 (by simp) hA1
  obtain ⟨gb, kb1, kb2⟩ := H1.nd ib B (by simp) hB1
  obtain ⟨id', o1, cp', hvl', go1, ca1, _, hlt1, hsn1⟩ := H1.at ka1
  rw [hvl, hll1] at hvl'
  cases hvl'
  obtain ⟨id', o1', cp', hvl', go1', cb1, _, _, _⟩ := H1.at kb1
  rw [hvl, hll1] at hvl'
  cases hvl'
  rw [go1] at go1'
  cases go1'
  have lka : (A1.fld 0).length = A1.keys.length := List.length_map ..
  have lkb : (B.fld 0).length = B.keys.length := List.length_map ..
  have lna : (A1.fld 1).length = A.nums.length := by rw [← hnumE]; exact List.length_map ..
  have lnb : (B.fld 1).length = B.nums.length := List.length_map ..
  have lia : (A1.fld 2).length = A.kids.length := by rw [← hkidE]; exact List.length_map ..
  have lib : (B.fld 2).length = B.kids.length := List.length_map ..
  have hk1' := hk1
  have hv5' := hvl5
  have hol' := hol
  rw [List.length_append] at hk1' hv5' hol'
  -- the keys of both
  obtain ⟨pa0, xa0, ea0⟩ := (ka2 0 (by omega)).slice
  obtain ⟨pb0, xb0, eb0⟩ := (kb2 0 (by omega)).slice
  obtain ⟨pa1, xa1, ea1⟩ := (ka2 1 (by omega)).slice
  obtain ⟨pb1, xb1, eb1⟩ := (kb2 1 (by omega)).slice
  obtain ⟨pa2, xa2, ea2⟩ := (ka2 2 (by omega)).slice
  obtain ⟨pb2, xb2, eb2⟩ := (kb2 2 (by omega)).slice
  have cl0 := ca1 0 (by omega)
  have cl1 := ca1 1 (by omega)
  have cl2 := ca1 2 (by omega)
  have cm0 := cb1 0 (by omega)
  have cm1 := cb1 1 (by omega)
  have cm2 := cb1 2 (by omega)
  rw [Nat.add_zero, ea0] at cl0
  rw [Nat.add_zero, eb0] at cm0
  rw [ea1] at cl1
  rw [eb1] at cm1
  rw [ea2] at cl2
  rw [eb2] at cm2
  obtain ⟨MP, hMP⟩ : ∃ M, M1.push { cells := [.slice pa0 (A1.fld 0).length xa0, .slice pb0 (B.fld 0).length xb0], rw := true, spare := none, kin := [] } = M := ⟨_, rfl⟩
  have fP : Nx M1 MP := hMP ▸ .push
  have nP : MP.next = M1.next + 1 := by rw [← hMP]; simp
  obtain ⟨v1, M2, F1, cc1, cc2, cc3, cc4⟩ := concat93 (m := MP) (hMP ▸ push_self) (by omega) (ea0 ▸ ((ka2 0 (by omega)).nx fP).rd) (eb0 ▸ ((kb2 0 (by omega)).nx fP).rd) (Nat.le_refl _) (by omega)
  obtain ⟨σ2, s1, s2⟩ := tag_new (σ := σ1) (.other 5) cc2 cc4 cc3
  have ch2 : Ch .no σ1 σ2 MP M2 := .nx' cc4 s2
  have H2 := (H1.nx fP).new cc4 s2
  have ka22 : ∀ f, f < 3 → Tg σ2 (.fld f ia) M2 (ga f) (A1.fld f) := fun f hf => ((ka2 f hf).nx fP).ch ch2 (by simp)
  have kb22 : ∀ f, f < 3 → Tg σ2 (.fld f ib) M2 (gb f) (B.fld f) := fun f hf => ((kb2 f hf).nx fP).ch ch2 (by simp)
  have go2 : M2.get id = some o1 := cc4.get (by have := fP.next; omega) (fun h => h) (fP.get hlt1 (fun h => h) go1)
  -- the others
  obtain ⟨P1, hP1⟩ : ∃ M, M2.push { cells := [.slice pa1 (A1.fld 1).length xa1, .slice pb1 (B.fld 1).length xb1], rw := true, spare := none, kin := [] } = M := ⟨_, rfl⟩
  obtain ⟨P2, hP2⟩ : ∃ M, P1.push { cells := [.slice pa2 (A1.fld 2).length xa2, .slice pb2 (B.fld 2).length xb2], rw := true, spare := none, kin := [] } = M := ⟨_, rfl⟩
  have f1 : Nx M2 P1 := hP1 ▸ .push
  have f2 : Nx P1 P2 := hP2 ▸ .push
  have f12 : Nx M2 P2 := f1.trans f2
  have n1 : P1.next = M2.next + 1 := by rw [← hP1]; simp
  have n2 : P2.next = P1.next + 1 := by rw [← hP2]; simp
  have hl2 : id < M2.next := by have := fP.next; have := cc4.next; omega
  have goP1 : P1.get id = some o1 := f1.get hl2 (fun h => h) go2
  have goP2 : P2.get id = some o1 := f12.get hl2 (fun h => h) go2
  obtain ⟨v2, M3, F2, ce1, ce2, ce3, ce4⟩ := concat94 (m := P2) (f2.get (i := M2.next) (by omega) (fun h => h) (hP1 ▸ push_self)) (by omega) (ea1 ▸ ((ka22 1 (by omega)).nx f12).rd) (eb1 ▸ ((kb22 1 (by omega)).nx f12).rd) (Nat.le_refl _) (by rw [lna, lnb]; omega)
  obtain ⟨σ3, t1, t2⟩ := tag_new (σ := σ2) (.other 6) ce2 ce4 ce3
  have ch3 : Ch .no σ2 σ3 P2 M3 := .nx' ce4 t2
  have H3 := (H2.nx f12).new ce4 t2
  have goMP : MP.get id = some o1 := fP.get hlt1 (fun h => h) go1
  have goM3 : M3.get id = some o1 := ce4.get (by have := f12.next; omega) (fun h => h) goP2
  obtain ⟨v3, M4, F3, cg1, cg2, cg3, cg4⟩ := concat94 (m := M3) (ce4.get (i := P1.next) (by omega) (fun h => h) (hP2 ▸ push_self)) (by have := ce4.next; omega) (ea2 ▸ (((ka22 2 (by omega)).nx f12).ch ch3 (by simp)).rd) (eb2 ▸ (((kb22 2 (by omega)).nx f12).ch ch3 (by simp)).rd) (Nat.le_refl _) (by rw [lia, lib]; omega)
  obtain ⟨σ4, u1, u2⟩ := tag_new (σ := σ3) (.other 7) cg2 cg4 cg3
  have ch4 : Ch .no σ3 σ4 M3 M4 := .nx' cg4 u2
  have H4 := H3.new cg4 u2
  have hA4 := hA1
  obtain ⟨id', cp', oa4, aa4, ba4, ca4, hvl', nda4⟩ := H4.node hA1
  rw [hvl, hll1] at hvl'
  cases hvl'
  obtain ⟨id', cp', ob4, ab4, bb4, cb4, hvl', ndb4⟩ := H4.node hB1
  rw [hvl, hll1] at hvl'
  cases hvl'
  have sa4 := nda4.size
  have sb4 := ndb4.size
  have lf4 := nda4.leaf
  rw [hszE] at sa4
  rw [hkidE, hlf] at lf4
  -- all keys, and the others
  have tK : Tg σ4 (.other 5) M4 v1 ((A1.keys ++ B.keys).map sv) := by
    rw [List.map_append]
    exact ((s1.nx f12).ch ch3 (by simp)).ch ch4 (by simp)
  have tV : Tg σ4 (.other 6) M4 v2 ((A.nums ++ B.nums).map iv) := by
    rw [List.map_append]
    have e : A1.nums = A.nums := hnumE
    rw [← e]; exact t1.ch ch4 (by simp)
  have lK : ((A1.keys ++ B.keys).map sv).length = 5 := by rw [List.length_map]; exact hk1
  have lV : ((A.nums ++ B.nums).map iv).length = 5 := by rw [List.length_map]; exact hvl5
  -- the first one anew
  obtain ⟨y0, y1, y2⟩ := tK.to (k := 2) (by omega)
  obtain ⟨y3, y4, y5⟩ := tV.to (k := 2) (by omega)
  obtain ⟨p0, a0, c0, R1, p1, a1, c1, R2, R3, σ5, ns5, re1, re2, re3, re4, H5, G5⟩ := renew (F := 1) (N' := ⟨(A.keys ++ B.keys).take 2, (A.nums ++ B.nums).take 2, []⟩) H4 (by rw [hll1]; exact hvl) (by rw [hll1]; exact hial) (.inl rfl) y2.rd y5.rd (by rw [List.length_take]; omega) (by rw [List.length_take]; omega) (by rw [← hA1e]; exact List.map_take) (by exact List.map_take) rfl
  obtain ⟨y3', y4', _⟩ := (tV.nx re2).to (k := 2) (by omega)
  rw [← slice_det y4 y4'] at y4'
  have tK5 := G5.tg (by rfl) tK
  have tV5 := G5.tg (by rfl) tV
  have hll5 : (ls1.set ia ⟨(A.keys ++ B.keys).take 2, (A.nums ++ B.nums).take 2, []⟩).length = ls.length := by rw [List.length_set, hll1]
  -- the second one
  obtain ⟨z0, z1, z2⟩ := tK5.from (k := 2) (by omega)
  obtain ⟨z3, z4, z5⟩ := tV5.from (k := 2) (by omega)
  obtain ⟨p2, a2, c2, S1, p3, a3, c3, S2, S3, σ6, ns6, rf1, rf2, rf3, rf4, H6, G6⟩ := renew (F := 1) (i := ib) (N' := ⟨(A.keys ++ B.keys).drop 2, (A.nums ++ B.nums).drop 2, []⟩) H5 (by rw [hll5]; exact hvl) (by rw [hll5]; exact hibl) (.inl rfl) z2 z5 (by rw [List.length_drop]; omega) (by rw [List.length_drop]; omega) (by rw [← hA1e]; exact List.map_drop) (by exact List.map_drop) rfl
  obtain ⟨z3', z4', _⟩ := (tV5.nx rf2).from (k := 2) (by omega)
  rw [← slice_det z4 z4'] at z4'
  have tK6 := G6.tg (by rfl) tK5
  have hN6 : ((ls1.set ia ⟨(A.keys ++ B.keys).take 2, (A.nums ++ B.nums).take 2, []⟩).set ib ⟨(A.keys ++ B.keys).drop 2, (A.nums ++ B.nums).drop 2, []⟩)[i]? = some ⟨ks, [], kids⟩ := by rw [List.getElem?_set_ne (Ne.symm h2), List.getElem?_set_ne (Ne.symm h1)]; exact hN1
  obtain ⟨id', cp', o7, a7, c7, m', hv7, go7, cx7, st7, H7, G7⟩ := set_key (s := least) H6 hN6 hwk
  rw [hvl, List.length_set, hll5] at hv7
  cases hv7
  obtain ⟨ak, ck, ok, k1, k2, k3⟩ := rd_at tK6.rd (i := 2) (x := sv least) (by rw [List.getElem?_map, hle1]; rfl)
  rw [lK] at k1
  have hix : ∀ M : Mem, indexAddrE M 1 (.slice (some ak) 5 ck) (I 2) = some (.val (.pointer (some ⟨ak.block, ak.off + 2, none⟩)) M) := fun M => by
    have := indexAddr_at (m := M) (size := 1) (i := 2) (len := 5) (c := ck) (a := ak) (kd := .i64) (by omega)
    simpa using this
  refine ⟨m', σ6, ns6, callX_of (call_go (F := _) rfl rfl fun Q hQ => ?_), by subst hls1; exact H7, G1.trans ((Gr.nx fP).trans ((Gr.new cc4 s2).trans ((Gr.nx f12).trans ((Gr.new ce4 t2).trans ((Gr.new cg4 u2).trans (G5.trans (G6.trans G7)))))))⟩
  have hq5 : binE Try.prog .quo 3 (I 5) (I 2) M4 = some (.val (I 2) M4) := by kernel_rfl
  have n2' : ((2 : Nat) : Int) = 2 := rfl
  have n1' : ((1 : Nat) : Int) = 1 := rfl
  have wr1 : IntKind.i64.wrap (2 - 1) = 1 := wrap_i64 (by omega) (by omega)
  have wr2 : IntKind.i64.wrap 1 = 1 := wrap_i64 (by omega) (by omega)
  have re4' : storeE R2 3 (Pn id ia) (.agg ⟨[.slice p0 a0 c0, .slice p1 a1 c1, .slice none 0 0]⟩) = some (.skip R3) := re4
  have rf4' : storeE S2 3 (Pn id ib) (.agg ⟨[.slice p2 a2 c2, .slice p3 a3 c3, .slice none 0 0]⟩) = some (.skip S3) := rf4
  have bt1 := btwo (m := M1) (p := pa0) (q := pb0) (a := (A1.fld 0).length) (b := xa0) (c := (B.fld 0).length) (d := xb0)
  have bt2 := btwo (m := M2) (p := pa1) (q := pb1) (a := (A1.fld 1).length) (b := xa1) (c := (B.fld 1).length) (d := xb1)
  have bt3 := btwo (m := P1) (p := pa2) (q := pb2) (a := (A1.fld 2).length) (b := xa2) (c := (B.fld 2).length) (d := xb2)
  rw [hMP] at bt1
  rw [hP1] at bt2
  rw [hP2] at bt3
  obtain ⟨q3, x3, rfl⟩ := u1.slice
  obtain ⟨q2, x2, rfl⟩ := t1.slice
  obtain ⟨g0, g1, g2, rfl⟩ := sliceE_slice y1
  obtain ⟨g3, g4, g5, rfl⟩ := sliceE_slice y4
  obtain ⟨g6, g7, g8, rfl⟩ := sliceE_slice z1
  obtain ⟨g9, g10, g11, rfl⟩ := sliceE_slice z4
  simp only [n1', n2'] at y1 y4 y4' z1 z4 z4'
  subst hM1
  have hoo : o = o1 := by rw [hgo] at go1; exact Option.some.inj go1
  subst hoo
  subst k1 d1 hvl
  simp only [↓tbS, Nat.reduceShiftRight, Nat.reduceAnd, Nat.reduceBneDiff, bne_self_eq_false, symA, go_opsd, symB, wantedX, X.put, X.look, Arg.ev, keepOf, restrict, evs, evO, initEnv, xres, tup, noTup, cls, quiet, Nat.reduceAdd, Nat.reduceEqDiff, ↓reduceIte, reduceCtorEq, goInt, exists_eq_left', eq_self, Int.reduceLT, Int.reduceLE, Int.reduceEq, Int.reduceNeg, Int.reduceAdd, Int.reduceSub, forall_const, ne_eq, undef, Nat.reducePow, Nat.reduceDiv, Nat.reduceMod, ht, hgo, hc2, hwl, hwl', d2, d3, d3', w1, hial, hibl, goR_call sa, goR_call sb, w2, nle, goR_call hlf0, go1, cl0, cm0, bt1, goDV3c cc1, go2, cl1, cm1, cl2, cm2, bt2, bt3, goP1, goP2, goMP, goM3, goDV3c ce1, goDV3c cg1, goR_call sa4, goR_call sb4, hq5, goR_call lf4, wr1, wr2, y1, y4, y4', goDV3c re1, goDV3c re3, build01, build02, re4', z1, z4, z4', goDV3c rf1, goDV3c rf3, rf4', go7, cx7, hwk, k2, k3]
  rw [hix]
  simp only [symA, go_opsd, symB, wantedX, X.put, X.look, Arg.ev, keepOf, restrict, evs, evO, initEnv, xres, tup, noTup, cls, quiet, Nat.reduceAdd, Nat.reduceEqDiff, ↓reduceIte, reduceCtorEq, goInt, exists_eq_left', eq_self, Int.reduceLT, Int.reduceLE, Int.reduceEq, Int.reduceNeg, Int.reduceAdd, Int.reduceSub, forall_const, ne_eq, undef, Nat.reducePow, Nat.reduceDiv, Nat.reduceMod, go7, cx7, k2, k3, hwk, w1, st7]
  exact hQ _ _ _ rfl ⟨rfl, rfl⟩

/-- Of nodes with kids: they share anew. -/
theorem rotN {ia ib w id cp : Nat} {ks : List Key} {kids : List Nat} {A B : Nd} {s least : Key} (h : TMH [] σ m p vl vf ns ls fr root n) (hvl : vl = .slice (some ⟨id, 0, some 0⟩) ls.length cp) (hN : ls[i]? = some ⟨ks, [], kids⟩) (hka : kids[w]? = some ia) (hkb : kids[w + 1]? = some ib) (hs : ks[w]? = some s) (hA : ls[ia]? = some A) (hB : ls[ib]? = some B)
    (h1 : i ≠ ia) (h2 : i ≠ ib) (h3 : ia ≠ ib) (hleaf : A.kids.length ≠ 0) (hsz : A.size + B.size = 5) (hw : w ≤ 1000) (hkl : (A.keys ++ [s] ++ B.keys).length = 4) (hvl5 : (A.kids ++ B.kids).length = 5) (hol : (A.nums ++ B.nums).length ≤ 900) (hle : (A.keys ++ [s] ++ B.keys)[1]? = some least) :
    ∃ m' σ' ns', Ca 77 [Pt p, Pn id i, nv (w + 1)] m (.tuple #[]) m' ∧ TMH [] σ' m' p vl vf ns' (((ls.set ia ⟨(A.keys ++ [s] ++ B.keys).take 1, [], (A.kids ++ B.kids).take 2⟩).set ib ⟨(A.keys ++ [s] ++ B.keys).drop 2, [], (A.kids ++ B.kids).drop 2⟩).set i ⟨ks.set w least, [], kids⟩) fr root n ∧ Gr σ σ' m m' := by
  obtain ⟨id', cp', o, av, bv, cv, hvl', nd⟩ := h.node hN
  rw [hvl] at hvl'
  cases hvl'
  obtain ⟨id', cp', oa, aa, ba, ca, hvl', nda⟩ := h.node hA
  rw [hvl] at hvl'
  cases hvl'
  obtain ⟨id', cp', ob, ab, bb', cb, hvl', ndb⟩ := h.node hB
  rw [hvl] at hvl'
  cases hvl'
  obtain ⟨ac, cc, oc, d1, d2, d3⟩ := nd.kidAt (w := w + 1) hkb
  obtain ⟨ac', cc', oc', d1', d2', d3'⟩ := nd.kidAt (w := w) hka
  rw [d1] at d1'
  cases d1'
  rw [d2] at d2'
  cases d2'
  have hwl : w + 1 < kids.length := (List.getElem?_eq_some_iff.1 hkb).1
  have hwl' : w < kids.length := by omega
  have hwk : w < ks.length := (List.getElem?_eq_some_iff.1 hs).1
  have sa := nda.size
  have sb := ndb.size
  have hial := nda.lt
  have hibl := ndb.lt
  have hil := nd.lt
  have w1 : IntKind.i64.wrap (((w + 1 : Nat) : Int) - 1) = (w : Int) := by rw [wrap_i64 (by omega) (by omega)]; omega
  have w2 : IntKind.i64.wrap ((A.size : Int) + (B.size : Int)) = 5 := by rw [wrap_i64 (by omega) (by omega)]; omega
  have nle : ¬ (5 : Int) ≤ 4 := by omega
  have ht := h.get
  have hgo := nd.get
  have hc2 := nd.c2
  have hlf0 := nda.leaf
  have hlf : decide ((A.kids.length : Int) = 0) = false := by exact decide_eq_false (by omega)
  rw [hlf] at hlf0
  have hAk : A.keys.length ≤ 1000 := by
    rw [List.length_append, List.length_append] at hkl
    omega
  obtain ⟨mA, hmA⟩ : ∃ mA, m.push (box1 (.string s)) = mA := ⟨_, rfl⟩
  obtain ⟨id', cp', o', ga', x1', mB, M1, σ1, hv', p1', p2', p3', p4', p5', p6', p7', H1, G1⟩ := app1 h hA hAk hmA
  rw [hvl] at hv'
  cases hv'
  rw [hgo] at p1'
  cases p1'
  obtain ⟨A1, hA1e⟩ : ∃ a, Nd.mk (A.keys ++ [s]) A.nums A.kids = a := ⟨_, rfl⟩
  obtain ⟨ls1, hls1⟩ : ∃ l, ls.set ia ⟨A.keys ++ [s], A.nums, A.kids⟩ = l := ⟨_, rfl⟩
  obtain ⟨ns1, hns1⟩ : ∃ l, ns.set ia (upd ga' 0 x1') = l := ⟨_, rfl⟩
  rw [hls1, hns1] at H1
  have hA1 : ls1[ia]? = some A1 := by rw [← hls1, ← hA1e]; exact List.getElem?_set_self hial
  have hB1 : ls1[ib]? = some B := by rw [← hls1, List.getElem?_set_ne h3]; exact hB
  have hN1 : ls1[i]? = some ⟨ks, [], kids⟩ := by rw [← hls1, List.getElem?_set_ne (Ne.symm h1)]; exact hN
  have hll1 : ls1.length = ls.length := by rw [← hls1, List.length_set]
  have hk1 : (A1.keys ++ B.keys).length = 4 := by rw [← hA1e]; exact hkl
  have hnumE : A1.nums = A.nums := by rw [← hA1e]
  have hkidE : A1.kids = A.kids := by rw [← hA1e]
  have hle1 : (A1.keys ++ B.keys)[1]? = some least := by rw [← hA1e]; exact hle
  have hszE : A1.size = A.size := by
    rw [← hA1e]
    show (if A.kids.length = 0 then _ else A.kids.length) = _
    unfold Nd.size
    rw [if_neg hleaf, if_neg hleaf]
  obtain ⟨ga, ka1, ka2⟩ := H1.nd ia A1 (by simp) hA1
  obtain ⟨gb, kb1, kb2⟩ := H1.nd ib B (by simp) hB1
  obtain ⟨id', o1, cp', hvl', go1, ca1, _, hlt1, hsn1⟩ := H1.at ka1
  rw [hvl, hll1] at hvl'
  cases hvl'
  obtain ⟨id', o1', cp', hvl', go1', cb1, _, _, _⟩ := H1.at kb1
  rw [hvl, hll1] at hvl'
  cases hvl'
  rw [go1] at go1'
  cases go1'
  have lka : (A1.fld 0).length = A1.keys.length := List.length_map ..
  have lkb : (B.fld 0).length = B.keys.length := List.length_map ..
  have lna : (A1.fld 1).length = A.nums.length := by rw [← hnumE]; exact List.length_map ..
  have lnb : (B.fld 1).length = B.nums.length := List.length_map ..
  have lia : (A1.fld 2).length = A.kids.length := by rw [← hkidE]; exact List.length_map ..
  have lib : (B.fld 2).length = B.kids.length := List.length_map ..
  have hk1' := hk1
  have hv5' := hvl5
  have hol' := hol
  rw [List.length_append] at hk1' hv5' hol'
  -- the keys of both
  obtain ⟨pa0, xa0, ea0⟩ := (ka2 0 (by omega)).slice
  obtain ⟨pb0, xb0, eb0⟩ := (kb2 0 (by omega)).slice
  obtain ⟨pa1, xa1, ea1⟩ := (ka2 1 (by omega)).slice
  obtain ⟨pb1, xb1, eb1⟩ := (kb2 1 (by omega)).slice
  obtain ⟨pa2, xa2, ea2⟩ := (ka2 2 (by omega)).slice
  obtain ⟨pb2, xb2, eb2⟩ := (kb2 2 (by omega)).slice
  have cl0 := ca1 0 (by omega)
  have cl1 := ca1 1 (by omega)
  have cl2 := ca1 2 (by omega)
  have cm0 := cb1 0 (by omega)
  have cm1 := cb1 1 (by omega)
  have cm2 := cb1 2 (by omega)
  rw [Nat.add_zero, ea0] at cl0
  rw [Nat.add_zero, eb0] at cm0
  rw [ea1] at cl1
  rw [eb1] at cm1
  rw [ea2] at cl2
  rw [eb2] at cm2
  obtain ⟨MP, hMP⟩ : ∃ M, M1.push { cells := [.slice pa0 (A1.fld 0).length xa0, .slice pb0 (B.fld 0).length xb0], rw := true, spare := none, kin := [] } = M := ⟨_, rfl⟩
  have fP : Nx M1 MP := hMP ▸ .push
  have nP : MP.next = M1.next + 1 := by rw [← hMP]; simp
  obtain ⟨v1, M2, F1, cc1, cc2, cc3, cc4⟩ := concat93 (m := MP) (hMP ▸ push_self) (by omega) (ea0 ▸ ((ka2 0 (by omega)).nx fP).rd) (eb0 ▸ ((kb2 0 (by omega)).nx fP).rd) (Nat.le_refl _) (by omega)
  obtain ⟨σ2, s1, s2⟩ := tag_new (σ := σ1) (.other 5) cc2 cc4 cc3
  have ch2 : Ch .no σ1 σ2 MP M2 := .nx' cc4 s2
  have H2 := (H1.nx fP).new cc4 s2
  have ka22 : ∀ f, f < 3 → Tg σ2 (.fld f ia) M2 (ga f) (A1.fld f) := fun f hf => ((ka2 f hf).nx fP).ch ch2 (by simp)
  have kb22 : ∀ f, f < 3 → Tg σ2 (.fld f ib) M2 (gb f) (B.fld f) := fun f hf => ((kb2 f hf).nx fP).ch ch2 (by simp)
  have go2 : M2.get id = some o1 := cc4.get (by have := fP.next; omega) (fun h => h) (fP.get hlt1 (fun h => h) go1)
  -- the others
  obtain ⟨P1, hP1⟩ : ∃ M, M2.push { cells := [.slice pa1 (A1.fld 1).length xa1, .slice pb1 (B.fld 1).length xb1], rw := true, spare := none, kin := [] } = M := ⟨_, rfl⟩
  obtain ⟨P2, hP2⟩ : ∃ M, P1.push { cells := [.slice pa2 (A1.fld 2).length xa2, .slice pb2 (B.fld 2).length xb2], rw := true, spare := none, kin := [] } = M := ⟨_, rfl⟩
  have f1 : Nx M2 P1 := hP1 ▸ .push
  have f2 : Nx P1 P2 := hP2 ▸ .push
  have f12 : Nx M2 P2 := f1.trans f2
  have n1 : P1.next = M2.next + 1 := by rw [← hP1]; simp
  have n2 : P2.next = P1.next + 1 := by rw [← hP2]; simp
  have hl2 : id < M2.next := by have := fP.next; have := cc4.next; omega
  have goP1 : P1.get id = some o1 := f1.get hl2 (fun h => h) go2
  have goP2 : P2.get id = some o1 := f12.get hl2 (fun h => h) go2
  obtain ⟨v2, M3, F2, ce1, ce2, ce3, ce4⟩ := concat94 (m := P2) (f2.get (i := M2.next) (by omega) (fun h => h) (hP1 ▸ push_self)) (by omega) (ea1 ▸ ((ka22 1 (by omega)).nx f12).rd) (eb1 ▸ ((kb22 1 (by omega)).nx f12).rd) (Nat.le_refl _) (by rw [lna, lnb]; omega)
  obtain ⟨σ3, t1, t2⟩ := tag_new (σ := σ2) (.other 6) ce2 ce4 ce3
  have ch3 : Ch .no σ2 σ3 P2 M3 := .nx' ce4 t2
  have H3 := (H2.nx f12).new ce4 t2
  have goMP : MP.get id = some o1 := fP.get hlt1 (fun h => h) go1
  have goM3 : M3.get id = some o1 := ce4.get (by have := f12.next; omega) (fun h => h) goP2
  obtain ⟨v3, M4, F3, cg1, cg2, cg3, cg4⟩ := concat94 (m := M3) (ce4.get (i := P1.next) (by omega) (fun h => h) (hP2 ▸ push_self)) (by have := ce4.next; omega) (ea2 ▸ (((ka22 2 (by omega)).nx f12).ch ch3 (by simp)).rd) (eb2 ▸ (((kb22 2 (by omega)).nx f12).ch ch3 (by simp)).rd) (Nat.le_refl _) (by rw [lia, lib]; omega)
  obtain ⟨σ4, u1, u2⟩ := tag_new (σ := σ3) (.other 7) cg2 cg4 cg3
  have ch4 : Ch .no σ3 σ4 M3 M4 := .nx' cg4 u2
  have H4 := H3.new cg4 u2
  have hA4 := hA1
  obtain ⟨id', cp', oa4, aa4, ba4, ca4, hvl', nda4⟩ := H4.node hA1
  rw [hvl, hll1] at hvl'
  cases hvl'
  obtain ⟨id', cp', ob4, ab4, bb4, cb4, hvl', ndb4⟩ := H4.node hB1
  rw [hvl, hll1] at hvl'
  cases hvl'
  have sa4 := nda4.size
  have sb4 := ndb4.size
  have lf4 := nda4.leaf
  rw [hszE] at sa4
  rw [hkidE, hlf] at lf4
  -- all keys, and the others
  have tK : Tg σ4 (.other 5) M4 v1 ((A1.keys ++ B.keys).map sv) := by
    rw [List.map_append]
    exact ((s1.nx f12).ch ch3 (by simp)).ch ch4 (by simp)
  have tV : Tg σ4 (.other 7) M4 v3 ((A.kids ++ B.kids).map nv) := by
    rw [List.map_append]
    have e : A1.kids = A.kids := hkidE
    rw [← e]; exact u1
  have lK : ((A1.keys ++ B.keys).map sv).length = 4 := by rw [List.length_map]; exact hk1
  have lV : ((A.kids ++ B.kids).map nv).length = 5 := by rw [List.length_map]; exact hvl5
  -- the first one anew
  obtain ⟨y0, y1, y2⟩ := tK.to (k := 1) (by omega)
  obtain ⟨y3, y4, y5⟩ := tV.to (k := 2) (by omega)
  obtain ⟨p0, a0, c0, R1, p1, a1, c1, R2, R3, σ5, ns5, re1, re2, re3, re4, H5, G5⟩ := renew (F := 2) (N' := ⟨(A.keys ++ [s] ++ B.keys).take 1, [], (A.kids ++ B.kids).take 2⟩) H4 (by rw [hll1]; exact hvl) (by rw [hll1]; exact hial) (.inr rfl) y2.rd y5.rd (by rw [List.length_take]; omega) (by rw [List.length_take]; omega) (by rw [← hA1e]; exact List.map_take) (by exact List.map_take) rfl
  obtain ⟨y3', y4', _⟩ := (tV.nx re2).to (k := 2) (by omega)
  rw [← slice_det y4 y4'] at y4'
  have tK5 := G5.tg (by rfl) tK
  have tV5 := G5.tg (by rfl) tV
  have hll5 : (ls1.set ia ⟨(A.keys ++ [s] ++ B.keys).take 1, [], (A.kids ++ B.kids).take 2⟩).length = ls.length := by rw [List.length_set, hll1]
  -- the second one
  obtain ⟨z0, z1, z2⟩ := tK5.from (k := 2) (by omega)
  obtain ⟨z3, z4, z5⟩ := tV5.from (k := 2) (by omega)
  obtain ⟨p2, a2, c2, S1, p3, a3, c3, S2, S3, σ6, ns6, rf1, rf2, rf3, rf4, H6, G6⟩ := renew (F := 2) (i := ib) (N' := ⟨(A.keys ++ [s] ++ B.keys).drop 2, [], (A.kids ++ B.kids).drop 2⟩) H5 (by rw [hll5]; exact hvl) (by rw [hll5]; exact hibl) (.inr rfl) z2 z5 (by rw [List.length_drop]; omega) (by rw [List.length_drop]; omega) (by rw [← hA1e]; exact List.map_drop) (by exact List.map_drop) rfl
  obtain ⟨z3', z4', _⟩ := (tV5.nx rf2).from (k := 2) (by omega)
  rw [← slice_det z4 z4'] at z4'
  have tK6 := G6.tg (by rfl) tK5
  have hN6 : ((ls1.set ia ⟨(A.keys ++ [s] ++ B.keys).take 1, [], (A.kids ++ B.kids).take 2⟩).set ib ⟨(A.keys ++ [s] ++ B.keys).drop 2, [], (A.kids ++ B.kids).drop 2⟩)[i]? = some ⟨ks, [], kids⟩ := by rw [List.getElem?_set_ne (Ne.symm h2), List.getElem?_set_ne (Ne.symm h1)]; exact hN1
  obtain ⟨id', cp', o7, a7, c7, m', hv7, go7, cx7, st7, H7, G7⟩ := set_key (s := least) H6 hN6 hwk
  rw [hvl, List.length_set, hll5] at hv7
  cases hv7
  obtain ⟨ak, ck, ok, k1, k2, k3⟩ := rd_at tK6.rd (i := 1) (x := sv least) (by rw [List.getElem?_map, hle1]; rfl)
  rw [lK] at k1
  have hix : ∀ M : Mem, indexAddrE M 1 (.slice (some ak) 4 ck) (I 1) = some (.val (.pointer (some ⟨ak.block, ak.off + 1, none⟩)) M) := fun M => by
    have := indexAddr_at (m := M) (size := 1) (i := 1) (len := 4) (c := ck) (a := ak) (kd := .i64) (by omega)
    simpa using this
  refine ⟨m', σ6, ns6, callX_of (call_go (F := _) rfl rfl fun Q hQ => ?_), by subst hls1; rw [List.set_set] at H7; exact H7, G1.trans ((Gr.nx fP).trans ((Gr.new cc4 s2).trans ((Gr.nx f12).trans ((Gr.new ce4 t2).trans ((Gr.new cg4 u2).trans (G5.trans (G6.trans G7)))))))⟩
  have hq5 : binE Try.prog .quo 3 (I 5) (I 2) M4 = some (.val (I 2) M4) := by kernel_rfl
  have n2' : ((2 : Nat) : Int) = 2 := rfl
  have n1' : ((1 : Nat) : Int) = 1 := rfl
  have wr1 : IntKind.i64.wrap (2 - 1) = 1 := wrap_i64 (by omega) (by omega)
  have wr2 : IntKind.i64.wrap 1 = 1 := wrap_i64 (by omega) (by omega)
  have re4' : storeE R2 3 (Pn id ia) (.agg ⟨[.slice p0 a0 c0, .slice none 0 0, .slice p1 a1 c1]⟩) = some (.skip R3) := re4
  have rf4' : storeE S2 3 (Pn id ib) (.agg ⟨[.slice p2 a2 c2, .slice none 0 0, .slice p3 a3 c3]⟩) = some (.skip S3) := rf4
  have bt1 := btwo (m := M1) (p := pa0) (q := pb0) (a := (A1.fld 0).length) (b := xa0) (c := (B.fld 0).length) (d := xb0)
  have bt2 := btwo (m := M2) (p := pa1) (q := pb1) (a := (A1.fld 1).length) (b := xa1) (c := (B.fld 1).length) (d := xb1)
  have bt3 := btwo (m := P1) (p := pa2) (q := pb2) (a := (A1.fld 2).length) (b := xa2) (c := (B.fld 2).length) (d := xb2)
  rw [hMP] at bt1
  rw [hP1] at bt2
  rw [hP2] at bt3
  obtain ⟨q3, x3, rfl⟩ := u1.slice
  obtain ⟨q2, x2, rfl⟩ := t1.slice
  obtain ⟨g0, g1, g2, rfl⟩ := sliceE_slice y1
  obtain ⟨g3, g4, g5, rfl⟩ := sliceE_slice y4
  obtain ⟨g6, g7, g8, rfl⟩ := sliceE_slice z1
  obtain ⟨g9, g10, g11, rfl⟩ := sliceE_slice z4
  simp only [n1', n2'] at y1 y4 y4' z1 z4 z4'
  have c0k := nd.c0
  obtain ⟨ek, eck, eok, ek1, ek2, ek3⟩ := nd.keyAt (w := w) hs
  have c72 := bone72 (m := m) (x := s)
  rw [hmA] at c72
  have fA : Nx m mA := hmA ▸ .push
  obtain ⟨idp, cpp, op, avp, bvp, cvp, hvlp, ndr⟩ := (h.nx fA).node hN
  rw [hvl] at hvlp
  cases hvlp
  have hz := ndr.get
  rw [p2'] at hz
  cases hz
  have hz := ndr.c0
  rw [c0k] at hz
  cases hz
  obtain ⟨ak', ck', ok', ek1', ek2', ek3'⟩ := ndr.keyAt (w := w) hs
  rw [ek1] at ek1'
  cases ek1'
  subst ek1
  subst k1 d1 hvl
  simp only [↓tbS, Nat.reduceShiftRight, Nat.reduceAnd, Nat.reduceBneDiff, bne_self_eq_false, symA, go_opsd, symB, wantedX, X.put, X.look, Arg.ev, keepOf, restrict, evs, evO, initEnv, xres, tup, noTup, cls, quiet, Nat.reduceAdd, Nat.reduceEqDiff, ↓reduceIte, reduceCtorEq, goInt, exists_eq_left', eq_self, Int.reduceLT, Int.reduceLE, Int.reduceEq, Int.reduceNeg, Int.reduceAdd, Int.reduceSub, forall_const, ne_eq, undef, Nat.reducePow, Nat.reduceDiv, Nat.reduceMod, ht, hgo, hc2, hwl, hwl', d2, d3, d3', w1, hial, hibl, goR_call sa, goR_call sb, w2, nle, goR_call hlf0, p3', c0k, hwk, ek2, ek3, ek2', ek3', c72, p2', p5', p6', p7', go1, cl0, cm0, bt1, goDV3c cc1, go2, cl1, cm1, cl2, cm2, bt2, bt3, goP1, goP2, goMP, goM3, goDV3c ce1, goDV3c cg1, goR_call sa4, goR_call sb4, hq5, goR_call lf4, wr1, wr2, y1, y4, y4', goDV3c re1, goDV3c re3, build01, build02, re4', z1, z4, z4', goDV3c rf1, goDV3c rf3, rf4', go7, cx7, hwk, k2, k3]
  rw [hix]
  simp only [symA, go_opsd, symB, wantedX, X.put, X.look, Arg.ev, keepOf, restrict, evs, evO, initEnv, xres, tup, noTup, cls, quiet, Nat.reduceAdd, Nat.reduceEqDiff, ↓reduceIte, reduceCtorEq, goInt, exists_eq_left', eq_self, Int.reduceLT, Int.reduceLE, Int.reduceEq, Int.reduceNeg, Int.reduceAdd, Int.reduceSub, forall_const, ne_eq, undef, Nat.reducePow, Nat.reduceDiv, Nat.reduceMod, go7, cx7, k2, k3, hwk, w1, st7]
  exact hQ _ _ _ rfl ⟨rfl, rfl⟩

end
end Go.Proofs.Ytecceimgpeookaa
