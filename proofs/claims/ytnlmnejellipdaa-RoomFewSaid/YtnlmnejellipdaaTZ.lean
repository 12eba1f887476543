/-
  Own work. The tree: elements out of two of a node's slices; two kids become one. Own work, printed by mkj.py. The tree: two kids become one. The tree: a key of a node is another; a node is made anew. Own work, printed by mkl.py. The tree: of two kids side by side one is too poor. The tree, plain: two nodes side by side are one; a node that is too full is two. The tree: of two kids side by side one is too poor: what they stand for then. The tree: a key goes out below a node; it may be too poor then. The tree as a whole: a key isn't there. The document's tree: keys that rise, and their numbers, in two slices. The document's tree: a key put, a key deleted. The document's tree: a key deleted. Keys in order. The tree: its keys in order; what is told of a key.
-/
import Derived.Test.YtnlmnejellipdaaTY
namespace Go.Proofs.Ytnlmnejellipdaa
open Go X
set_option maxRecDepth 100000
attribute [local irreducible] X.Go' X.GoO X.GoR X.GoG X.GoC X.GoF X.GoFV X.GoFG X.Ex X.GoD X.GoDV X.GoDG
set_option linter.unusedVariables false
set_option linter.unusedSimpArgs false
section
variable {H : List Nat} {σ σ' : Nat → Tag} {m m' : Mem} {p : Nat} {vl vf v vx : Value} {ns : List (Nat → Value)} {ls : List Nd} {fr : List Nat} {root n : Int} {xs ys : List Value} {i f bb : Nat}
theorem del2 {N N' : Nd} {F k0 k1 : Nat} (h : TMH [] σ m p vl vf ns ls fr root n) (hN : ls[i]? = some N) (hF : F = 1 ∨ F = 2) (hk0 : k0 < (N.fld 0).length) (hk1 : k1 < (N.fld F).length) (hl0 : (N.fld 0).length ≤ 1000) (hl1 : (N.fld F).length ≤ 1000)
    (h0 : N'.fld 0 = (N.fld 0).eraseIdx k0) (h1 : N'.fld F = (N.fld F).eraseIdx k1) (h2 : N'.fld (3 - F) = N.fld (3 - F)) :
    ∃ id cp o q0 c0 q1 c1 mC mD mE mF v0 v1 ns', vl = .slice (some ⟨id, 0, some 0⟩) ls.length cp ∧ m.get id = some o ∧ mC.get id = some o ∧
      o.cells[i * 3]? = some (.slice q0 (N.fld 0).length c0) ∧ o.cells[i * 3 + F]? = some (.slice q1 (N.fld F).length c1) ∧
      Ca 73 [.slice q0 (N.fld 0).length c0, nv k0, nv (k0 + 1)] m v0 mC ∧ Ca 74 [.slice q1 (N.fld F).length c1, nv k1, nv (k1 + 1)] mC v1 mD ∧
      storeE mD 1 (.pointer (some ⟨id, i * 3, none⟩)) v0 = some (.skip mE) ∧ storeE mE 1 (.pointer (some ⟨id, i * 3 + F, none⟩)) v1 = some (.skip mF) ∧
      TMH [] σ mF p vl vf ns' (ls.set i N') fr root n ∧ Gr σ σ m mF := by
  have hil : i < ls.length := (List.getElem?_eq_some_iff.1 hN).1
  obtain ⟨g, k1', k2, h3⟩ := h.take (i := i) (by simp) hN
  obtain ⟨id, o, cp, hvl, hgo, hco, hld, hlt, hsn⟩ := h.at k1'
  obtain ⟨q0, c0, e0⟩ := (k2 0 (by omega)).slice
  obtain ⟨q1, c1, e1⟩ := (k2 F (by omega)).slice
  obtain ⟨F0, o1, o2⟩ := k2 0 (by omega)
  obtain ⟨v0, mC, a1, a2, a3⟩ := del75 o1 hk0 hl0
  have s2 : Ch (.fld 0 i) σ σ m mC := ⟨fun _ _ => rfl, a3.mono fun j _ hj => o2 j hj, fun _ _ => rfl⟩
  have s1 : Tg σ (.fld 0 i) mC v0 ((N.fld 0).eraseIdx k0) := ⟨F0, a2, o2⟩
  have gC : mC.get id = some o := s2.fm.get hlt (by rw [hsn]; simp) hgo
  have hFt : Tag.fld F i ≠ Tag.fld 0 i := fun q => by
    have : F = 0 := by injection q
    omega
  obtain ⟨F1, u1, u2⟩ := (k2 F (by omega)).ch s2 hFt
  obtain ⟨v1, mD, d1, d2, d3⟩ := del76 u1 hk1 hl1
  have w2 : Ch (.fld F i) σ σ mC mD := ⟨fun _ _ => rfl, d3.mono fun j _ hj => u2 j hj, fun _ _ => rfl⟩
  have w1 : Tg σ (.fld F i) mD v1 ((N.fld F).eraseIdx k1) := ⟨F1, d2, u2⟩
  have h4 := h3.chf (by simp) s2
  have h5 := h4.chf (by simp) w2
  obtain ⟨y0, yc0, ye0⟩ := sl_cells s1
  obtain ⟨y1, yc1, ye1⟩ := sl_cells w1
  obtain ⟨id', cp', mE, hvl', st1, st2, st3⟩ := h5.store (i := i) (f := 0) (v := v0) (by simp) k1' (by omega) y0 yc0
  rw [hvl] at hvl'
  cases hvl'
  have hni : i < ns.length := (List.getElem?_eq_some_iff.1 k1').1
  obtain ⟨id', cp', mF, hvl', su1, su2, su3⟩ := st2.store (i := i) (f := F) (v := v1) (g := upd g 0 v0) (by simp) (List.getElem?_set_self hni) (by omega) y1 yc1
  rw [hvl] at hvl'
  cases hvl'
  have hT := su2.give1 (N := N') (g := upd (upd g 0 v0) F v1) hil (List.getElem?_set_self (by rw [List.length_set]; exact hni)) fun f hf => by
    have hcs : f = F ∨ f = 0 ∨ f = 3 - F := by omega
    rcases hcs with rfl | rfl | rfl
    · have e : upd (upd g 0 v0) f v1 f = v1 := if_pos rfl
      rw [e, h1]
      exact (w1.ch st3 (by simp)).ch su3 (by simp)
    · have e : upd (upd g 0 v0) F v1 0 = v0 := by
        unfold upd
        rw [if_neg (by omega), if_pos rfl]
      rw [e, h0]
      exact ((s1.ch w2 hFt.symm).ch st3 (by simp)).ch su3 (by simp)
    · have e : upd (upd g 0 v0) F v1 (3 - F) = g (3 - F) := by
        unfold upd
        rw [if_neg (by omega), if_neg (by omega)]
      rw [e, h2]
      exact ((((k2 (3 - F) (by omega)).ch s2 (fun q => by have : 3 - F = 0 := by injection q
                                                          omega)).ch w2 (fun q => by have : 3 - F = F := by injection q
                                                                                     omega)).ch st3 (by simp)).ch su3 (by simp)
  refine ⟨id, cp, o, q0, c0, q1, c1, mC, mD, mE, mF, v0, v1, _, hvl, hgo, gC, ?_, ?_, ?_, ?_, st1, su1, hT, (Gr.ch s2 rfl).trans ((Gr.ch w2 rfl).trans ((Gr.ch st3 rfl).trans (Gr.ch su3 rfl)))⟩
  · rw [← e0]; exact hco 0 (by omega)
  · rw [← e1]; exact hco F (by omega)
  · rw [← e0]; exact a1
  · rw [← e1]; exact d1
end
end Go.Proofs.Ytnlmnejellipdaa
namespace Go.Proofs.Ytnlmnejellipdaa
open Go X
set_option maxRecDepth 100000
attribute [local irreducible] X.Go' X.GoO X.GoR X.GoG X.GoC X.GoF X.GoFV X.GoFG X.Ex X.GoD X.GoDV X.GoDG
set_option linter.unusedVariables false
set_option linter.unusedSimpArgs false
theorem map_erase {α β : Type} {f : α → β} {l : List α} {i : Nat} : (l.eraseIdx i).map f = (l.map f).eraseIdx i := by
 rw [List.eraseIdx_eq_take_drop_succ, List.eraseIdx_eq_take_drop_succ, List.map_append, List.map_take, List.map_drop]
section
variable {H : List Nat} {σ σ' : Nat → Tag} {m m' : Mem} {p : Nat} {vl vf v vx : Value} {ns : List (Nat → Value)} {ls : List Nd} {fr : List Nat} {root n : Int} {xs ys : List Value} {i f bb : Nat}
theorem joinL {ia ib w id cp : Nat} {ks : List Key} {kids : List Nat} {A B : Nd} {s : Key} (h : TMH [] σ m p vl vf ns ls fr root n) (hvl : vl = .slice (some ⟨id, 0, some 0⟩) ls.length cp) (hN : ls[i]? = some ⟨ks, [], kids⟩) (hka : kids[w]? = some ia) (hkb : kids[w + 1]? = some ib) (hs : ks[w]? = some s) (hA : ls[ia]? = some A) (hB : ls[ib]? = some B)
  (h1 : i ≠ ia) (h2 : i ≠ ib) (h3 : ia ≠ ib) (hleaf : A.kids.length = 0) (hks : ks.length ≤ 900) (hkd : kids.length ≤ 900) (hl : ∀ f, f < 3 → (A.fld f).length + (B.fld f).length ≤ 900) (hfl : fr.length ≤ 99990) :
  ∃ m' σ' vf' ns', Ca 84 [Pt p, Pn id i, nv (w + 1)] m (.tuple #[]) m' ∧ TMH [] σ' m' p vl vf' ns' (((ls.set ia ⟨A.keys ++ B.keys, A.nums ++ B.nums, A.kids ++ B.kids⟩).set i ⟨ks.eraseIdx w, [], kids.eraseIdx (w + 1)⟩).set ib noNd) (fr ++ [ib]) root n ∧ Gr σ σ' m m' := by
 obtain ⟨id', cp', o, av, bv, cv, hvl', nd⟩ := h.node hN
 rw [hvl] at hvl'
 cases hvl'
 obtain ⟨ga, ka1, ka2⟩ := h.nd ia A (by simp) hA
 obtain ⟨gb, kb1, kb2⟩ := h.nd ib B (by simp) hB
 obtain ⟨id', o', cp', hvl', hgo', hcob, hldb, hlt, hsn⟩ := h.at kb1
 rw [hvl] at hvl'
 cases hvl'
 obtain ⟨id', o'', cp', hvl', hgo'', hcoa, hlda, _, _⟩ := h.at ka1
 rw [hvl] at hvl'
 cases hvl'
 have hgo := nd.get
 rw [hgo] at hgo' hgo''
 cases hgo'
 cases hgo''
 have hil := nd.lt
 have hial : ia < ls.length := (List.getElem?_eq_some_iff.1 hA).1
 have hibl : ib < ls.length := (List.getElem?_eq_some_iff.1 hB).1
 have hwl : w + 1 < kids.length := (List.getElem?_eq_some_iff.1 hkb).1
 have hwl' : w < kids.length := by omega
 have hwk : w < ks.length := (List.getElem?_eq_some_iff.1 hs).1
 obtain ⟨ac, cc, oc, d1, d2, d3⟩ := nd.kidAt (w := w + 1) hkb
 obtain ⟨ac', cc', oc', d1', d2', d3'⟩ := nd.kidAt (w := w) hka
 rw [d1] at d1'
 cases d1'
 rw [d2] at d2'
 cases d2'
 
 obtain ⟨m1, t1, t2, t3, t4⟩ := new_store (m := m) (z := [.slice none 0 0, .slice none 0 0, .slice none 0 0]) (row := row3 gb) (n := 3) rfl rfl (by omega)
 have H1 := h.nx t3
 have go1 : m1.get id = some o := t3.get hlt (fun h => h) hgo
 obtain ⟨qa, ca, ea⟩ := (ka2 2 (by omega)).slice
 have hleaf1 := leaf_call (m := m1) (off := ia * 3) (k := (A.fld 2).length) go1 (by rw [hcoa 2 (by omega), ea])
 have hlfl : (A.fld 2).length = A.kids.length := List.length_map ..
 have hlf : decide (((A.fld 2).length : Int) = 0) = true := by rw [hlfl]; rw [hleaf]; rfl
 rw [hlf] at hleaf1
 have hq0 : σ m.next = .no := h.fresh _ (Nat.le_refl _)
 obtain ⟨ls2, hls2⟩ : ∃ l, ls = l := ⟨_, rfl⟩
 obtain ⟨ns2, hns2⟩ : ∃ l, ns = l := ⟨_, rfl⟩
 obtain ⟨σ2, hσ2⟩ : ∃ s, σ = s := ⟨_, rfl⟩
 obtain ⟨A2, hA2e⟩ : ∃ a, A = a := ⟨_, rfl⟩
 have H2 : TMH [] σ2 m1 p vl vf ns2 ls2 fr root n := by rw [← hls2, ← hns2, ← hσ2]; exact H1
 have G2 : Gr σ σ2 m1 m1 := by rw [← hσ2]; exact Gr.refl
 have hb2 : ns2[ia]? = some ga := by rw [← hns2]; exact ka1
 have hA2 : ls2[ia]? = some A2 := by rw [← hls2, ← hA2e]; exact hA
 have gq2 := G2.fm.get (i := m.next) (by omega) (by rw [hq0]; simp [tr]) t2
 have hq2 : σ2 m.next = .no := by rw [G2.out _ (by omega) (by rw [hq0]; rfl), hq0]
 have hbn2 : ns2[ib]? = some gb := by rw [← hns2]; exact kb1
 have hB2 : ls2[ib]? = some B := by rw [← hls2]; exact hB
 have hll2 : ls2.length = ls.length := by rw [hls2]
 obtain ⟨id', o2, cp', hvl', hgo2, hcoa2, _, hlt2, hsn2⟩ := H2.at hb2
 rw [hvl, hll2] at hvl'
 cases hvl'
 obtain ⟨v5, m5, v6, m6, v7, m7, m8, m9, m10, σ3, a1, a2, a3, a4, a5, a6, a7, a8, ⟨z5, z6, z7⟩, a9, H3, G3⟩ := app3 H2 hA2 hB2 h3 hb2 hbn2 (fun f hf => by have := hl f hf; rw [← hA2e]; omega) (by rw [hll2]; exact hvl) hgo2
 have hnx2 := G2.next
 obtain ⟨gq5, gq6, gq7⟩ := a9 m.next _ (by omega) (fun f i => by rw [hq2]; simp) gq2
 obtain ⟨go5, go6, go7⟩ := a9 id _ hlt2 (fun f i => by rw [hsn2]; simp) hgo2
 have hN3 : (ls2.set ia ⟨A2.keys ++ B.keys, A2.nums ++ B.nums, A2.kids ++ B.kids⟩)[i]? = some ⟨ks, [], kids⟩ := by
  rw [List.getElem?_set_ne (Ne.symm h1)]; exact by rw [← hls2]; exact hN
 obtain ⟨id', cp', o3, q0, c0, q1, c1, mC, mD, mE, mF, u0, u1, ns4, hv4, go3, goC, f0, f1, e0, e1, st0, st1, H4, G4⟩ := del2 (F := 2) (k0 := w) (k1 := w + 1) (N' := ⟨ks.eraseIdx w, [], kids.eraseIdx (w + 1)⟩) H3 hN3 (.inr rfl) (by show w < (ks.map sv).length; rw [List.length_map]; exact hwk) (by show w + 1 < (kids.map nv).length; rw [List.length_map]; exact hwl) (by show (ks.map sv).length ≤ 1000; rw [List.length_map]; omega) (by show (kids.map nv).length ≤ 1000; rw [List.length_map]; omega) (by show (ks.eraseIdx w).map sv = (ks.map sv).eraseIdx w; rw [map_erase]) (by show (kids.eraseIdx (w + 1)).map nv = (kids.map nv).eraseIdx (w + 1); rw [map_erase]) rfl
 rw [hvl, List.length_set, hll2] at hv4
 cases hv4
 have hll4 : ((ls2.set ia ⟨A2.keys ++ B.keys, A2.nums ++ B.nums, A2.kids ++ B.kids⟩).set i ⟨ks.eraseIdx w, [], kids.eraseIdx (w + 1)⟩).length = ls.length := by rw [List.length_set, List.length_set, hll2]
 obtain ⟨m', σ5, vf', ns5, dr, H5, G5⟩ := drop_spec H4 (i := ib) (by rw [hll4]; exact hibl) hfl
 refine ⟨m', σ5, vf', ns5, callX_of (call_go (F := _) rfl rfl fun Q hQ => ?_), by subst hls2 hA2e; exact H5, (Gr.nx t3).trans (G2.trans (G3.trans (G4.trans G5)))⟩
 have l0 : (Nd.fld ⟨ks, [], kids⟩ 0).length = ks.length := List.length_map ..
 have l2 : (Nd.fld ⟨ks, [], kids⟩ 2).length = kids.length := List.length_map ..
 rw [l0] at f0 e0
 rw [l2] at f1 e1
 have w1 : IntKind.i64.wrap (((w + 1 : Nat) : Int) - 1) = (w : Int) := by rw [wrap_i64 (by omega) (by omega)]; omega
 have w2 : IntKind.i64.wrap (((w + 1 : Nat) : Int) + 1) = ((w + 1 + 1 : Nat) : Int) := by rw [wrap_i64 (by omega) (by omega)]; omega
 have ht := h.get
 have ht1 := H1.get
 have c2' := nd.c2
 have va0 := (a8 0 (by omega)).1
 have va1 := (a8 1 (by omega)).1
 have va2 := (a8 2 (by omega)).1
 have vb0 := (a8 0 (by omega)).2
 have vb1 := (a8 1 (by omega)).2
 have vb2 := (a8 2 (by omega)).2
 have x0 := a7 0 (by omega)
 have x1 := a7 1 (by omega)
 have x2 := a7 2 (by omega)
 rw [Nat.add_zero] at x0
 have vgb : (veqC (gb 0) (gb 0) && (veqC (gb 1) (gb 1) && veqC (gb 2) (gb 2))) = true := by
  obtain ⟨p0, k0, e0⟩ := (kb2 0 (by omega)).slice
  obtain ⟨p1, k1, e1⟩ := (kb2 1 (by omega)).slice
  obtain ⟨p2, k2, e2⟩ := (kb2 2 (by omega)).slice
  rw [e0, e1, e2, veqC_slice, veqC_slice, veqC_slice]; rfl
 obtain ⟨mp, hmp⟩ : ∃ mp, m.push { cells := [.slice none 0 0, .slice none 0 0, .slice none 0 0], rw := true, spare := none, kin := [] } = mp := ⟨_, rfl⟩
 have fp : Nx m mp := hmp ▸ .push
 have Hp := h.nx fp
 have gop := fp.get hlt (fun h => h) hgo
 obtain ⟨idp, cpp, op, avp, bvp, cvp, hvlp, ndp⟩ := Hp.node hN
 rw [hvl] at hvlp
 cases hvlp
 have hz := ndp.get
 rw [gop] at hz
 cases hz
 have hz := ndp.c2
 rw [c2'] at hz
 cases hz
 obtain ⟨acp, ccp, ocp, y1, y2, y3⟩ := ndp.kidAt (w := w + 1) hkb
 rw [d1] at y1
 cases y1
 obtain ⟨acp, ccp, ocp', y1, y2', y3'⟩ := ndp.kidAt (w := w) hka
 rw [d1] at y1
 cases y1
 rw [y2] at y2'
 cases y2'
 obtain ⟨idp, opp, cpp, hvlp, gpp, _, hldp, _, _⟩ := Hp.at kb1
 rw [hvl] at hvlp
 cases hvlp
 have htp := Hp.get
 rw [hmp] at t1
 subst d1 hvl
 simp only [↓tbS, Nat.reduceShiftRight, Nat.reduceAnd, Nat.reduceBneDiff, bne_self_eq_false, symA, go_opsd, symB, X.put, X.look, Arg.ev, keepOf, restrict, evs, initEnv, cls, quiet, Nat.reduceAdd, Nat.reduceEqDiff, ↓reduceIte, reduceCtorEq, eq_self, hgo, c2', hwl, d2, d3, ht, w1, hwl', d3', hial, hibl, hldb, hmp, gop, htp, y2, y3', hldp, t1, goR_call hleaf1, vgb, hgo2, x0, x1, x2, gq2, a1, a2, a3, go5, go6, gq5, gq6, va0, va1, va2, vb0, vb1, vb2, a4, a5, a6, go3, f0, f1, w2, goDV3c e0, goC, goDV3c e1, st0, st1, goR_call dr]
 exact hQ _ _ _ rfl ⟨rfl, rfl⟩
theorem joinN {ia ib w id cp : Nat} {ks : List Key} {kids : List Nat} {A B : Nd} {s : Key} (h : TMH [] σ m p vl vf ns ls fr root n) (hvl : vl = .slice (some ⟨id, 0, some 0⟩) ls.length cp) (hN : ls[i]? = some ⟨ks, [], kids⟩) (hka : kids[w]? = some ia) (hkb : kids[w + 1]? = some ib) (hs : ks[w]? = some s) (hA : ls[ia]? = some A) (hB : ls[ib]? = some B)
  (h1 : i ≠ ia) (h2 : i ≠ ib) (h3 : ia ≠ ib) (hleaf : A.kids.length ≠ 0) (hks : ks.length ≤ 900) (hkd : kids.length ≤ 900) (hl : ∀ f, f < 3 → (A.fld f).length + (B.fld f).length ≤ 900) (hfl : fr.length ≤ 99990) :
  ∃ m' σ' vf' ns', Ca 84 [Pt p, Pn id i, nv (w + 1)] m (.tuple #[]) m' ∧ TMH [] σ' m' p vl vf' ns' (((ls.set ia ⟨A.keys ++ [s] ++ B.keys, A.nums ++ B.nums, A.kids ++ B.kids⟩).set i ⟨ks.eraseIdx w, [], kids.eraseIdx (w + 1)⟩).set ib noNd) (fr ++ [ib]) root n ∧ Gr σ σ' m m' := by
 obtain ⟨id', cp', o, av, bv, cv, hvl', nd⟩ := h.node hN
 rw [hvl] at hvl'
 cases hvl'
 obtain ⟨ga, ka1, ka2⟩ := h.nd ia A (by simp) hA
 obtain ⟨gb, kb1, kb2⟩ := h.nd ib B (by simp) hB
 obtain ⟨id', o', cp', hvl', hgo', hcob, hldb, hlt, hsn⟩ := h.at kb1
 rw [hvl] at hvl'
 cases hvl'
 obtain ⟨id', o'', cp', hvl', hgo'', hcoa, hlda, _, _⟩ := h.at ka1
 rw [hvl] at hvl'
 cases hvl'
 have hgo := nd.get
 rw [hgo] at hgo' hgo''
 cases hgo'
 cases hgo''
 have hil := nd.lt
 have hial : ia < ls.length := (List.getElem?_eq_some_iff.1 hA).1
 have hibl : ib < ls.length := (List.getElem?_eq_some_iff.1 hB).1
 have hwl : w + 1 < kids.length := (List.getElem?_eq_some_iff.1 hkb).1
 have hwl' : w < kids.length := by omega
 have hwk : w < ks.length := (List.getElem?_eq_some_iff.1 hs).1
 obtain ⟨ac, cc, oc, d1, d2, d3⟩ := nd.kidAt (w := w + 1) hkb
 obtain ⟨ac', cc', oc', d1', d2', d3'⟩ := nd.kidAt (w := w) hka
 rw [d1] at d1'
 cases d1'
 rw [d2] at d2'
 cases d2'
 
 obtain ⟨m1, t1, t2, t3, t4⟩ := new_store (m := m) (z := [.slice none 0 0, .slice none 0 0, .slice none 0 0]) (row := row3 gb) (n := 3) rfl rfl (by omega)
 have H1 := h.nx t3
 have go1 : m1.get id = some o := t3.get hlt (fun h => h) hgo
 obtain ⟨qa, ca, ea⟩ := (ka2 2 (by omega)).slice
 have hleaf1 := leaf_call (m := m1) (off := ia * 3) (k := (A.fld 2).length) go1 (by rw [hcoa 2 (by omega), ea])
 have hlfl : (A.fld 2).length = A.kids.length := List.length_map ..
 have hlf : decide (((A.fld 2).length : Int) = 0) = false := by rw [hlfl]; exact decide_eq_false (by omega)
 rw [hlf] at hleaf1
 have hq0 : σ m.next = .no := h.fresh _ (Nat.le_refl _)
 have hAk : A.keys.length ≤ 1000 := by
  have h8 : (A.fld 0).length = A.keys.length := List.length_map ..
  have := hl 0 (by omega)
  omega
 obtain ⟨mA, hmA⟩ : ∃ mA, m1.push (box1 (.string s)) = mA := ⟨_, rfl⟩
 obtain ⟨id', cp', o', ga', v1, mB, mC', σ2, hv', p1, p2, p3, p4, p5, p6, p7, H2, G2⟩ := app1 H1 hA hAk hmA
 rw [hvl] at hv'
 cases hv'
 rw [go1] at p1
 cases p1
 rw [ka1] at p4
 cases p4
 obtain ⟨A2, hA2e⟩ : ∃ a, Nd.mk (A.keys ++ [s]) A.nums A.kids = a := ⟨_, rfl⟩
 obtain ⟨ls2, hls2⟩ : ∃ l, ls.set ia ⟨A.keys ++ [s], A.nums, A.kids⟩ = l := ⟨_, rfl⟩
 obtain ⟨ns2, hns2⟩ : ∃ l, ns.set ia (upd ga 0 v1) = l := ⟨_, rfl⟩
 rw [hls2, hns2] at H2
 have hb2 : ns2[ia]? = some (upd ga 0 v1) := by rw [← hns2]; exact List.getElem?_set_self (List.getElem?_eq_some_iff.1 ka1).1
 have hA2 : ls2[ia]? = some A2 := by rw [← hls2, ← hA2e]; exact List.getElem?_set_self hial
 have hlen2 : ∀ f, f < 3 → (A.fld f).length + (B.fld f).length ≤ 900 → (A2.fld f).length + (B.fld f).length ≤ 1000 := fun f hf hle => by
  rw [← hA2e]
  match f, hf, hle with
  | 0, _, hle =>
   have e : (Nd.fld ⟨A.keys ++ [s], A.nums, A.kids⟩ 0).length = (A.fld 0).length + 1 := by show ((A.keys ++ [s]).map sv).length = (A.keys.map sv).length + 1; simp
   omega
  | 1, _, hle => exact Nat.le_trans hle (by omega)
  | 2, _, hle => exact Nat.le_trans hle (by omega)
 have gq2 := G2.fm.get (i := m.next) (by omega) (by rw [hq0]; simp [tr]) t2
 have hq2 : σ2 m.next = .no := by rw [G2.out _ (by omega) (by rw [hq0]; rfl), hq0]
 have hbn2 : ns2[ib]? = some gb := by rw [← hns2, List.getElem?_set_ne h3]; exact kb1
 have hB2 : ls2[ib]? = some B := by rw [← hls2, List.getElem?_set_ne h3]; exact hB
 have hll2 : ls2.length = ls.length := by rw [← hls2, List.length_set]
 obtain ⟨id', o2, cp', hvl', hgo2, hcoa2, _, hlt2, hsn2⟩ := H2.at hb2
 rw [hvl, hll2] at hvl'
 cases hvl'
 obtain ⟨v5, m5, v6, m6, v7, m7, m8, m9, m10, σ3, a1, a2, a3, a4, a5, a6, a7, a8, ⟨z5, z6, z7⟩, a9, H3, G3⟩ := app3 H2 hA2 hB2 h3 hb2 hbn2 (fun f hf => by have := hl f hf; exact hlen2 f hf this) (by rw [hll2]; exact hvl) hgo2
 have hnx2 := G2.next
 obtain ⟨gq5, gq6, gq7⟩ := a9 m.next _ (by omega) (fun f i => by rw [hq2]; simp) gq2
 obtain ⟨go5, go6, go7⟩ := a9 id _ hlt2 (fun f i => by rw [hsn2]; simp) hgo2
 have hN3 : (ls2.set ia ⟨A2.keys ++ B.keys, A2.nums ++ B.nums, A2.kids ++ B.kids⟩)[i]? = some ⟨ks, [], kids⟩ := by
  rw [List.getElem?_set_ne (Ne.symm h1)]; exact by rw [← hls2, List.getElem?_set_ne (Ne.symm h1)]; exact hN
 obtain ⟨id', cp', o3, q0, c0, q1, c1, mC, mD, mE, mF, u0, u1, ns4, hv4, go3, goC, f0, f1, e0, e1, st0, st1, H4, G4⟩ := del2 (F := 2) (k0 := w) (k1 := w + 1) (N' := ⟨ks.eraseIdx w, [], kids.eraseIdx (w + 1)⟩) H3 hN3 (.inr rfl) (by show w < (ks.map sv).length; rw [List.length_map]; exact hwk) (by show w + 1 < (kids.map nv).length; rw [List.length_map]; exact hwl) (by show (ks.map sv).length ≤ 1000; rw [List.length_map]; omega) (by show (kids.map nv).length ≤ 1000; rw [List.length_map]; omega) (by show (ks.eraseIdx w).map sv = (ks.map sv).eraseIdx w; rw [map_erase]) (by show (kids.eraseIdx (w + 1)).map nv = (kids.map nv).eraseIdx (w + 1); rw [map_erase]) rfl
 rw [hvl, List.length_set, hll2] at hv4
 cases hv4
 have hll4 : ((ls2.set ia ⟨A2.keys ++ B.keys, A2.nums ++ B.nums, A2.kids ++ B.kids⟩).set i ⟨ks.eraseIdx w, [], kids.eraseIdx (w + 1)⟩).length = ls.length := by rw [List.length_set, List.length_set, hll2]
 obtain ⟨m', σ5, vf', ns5, dr, H5, G5⟩ := drop_spec H4 (i := ib) (by rw [hll4]; exact hibl) hfl
 refine ⟨m', σ5, vf', ns5, callX_of (call_go (F := _) rfl rfl fun Q hQ => ?_), by subst hls2 hA2e; simpa using H5, (Gr.nx t3).trans (G2.trans (G3.trans (G4.trans G5)))⟩
 have l0 : (Nd.fld ⟨ks, [], kids⟩ 0).length = ks.length := List.length_map ..
 have l2 : (Nd.fld ⟨ks, [], kids⟩ 2).length = kids.length := List.length_map ..
 rw [l0] at f0 e0
 rw [l2] at f1 e1
 have w1 : IntKind.i64.wrap (((w + 1 : Nat) : Int) - 1) = (w : Int) := by rw [wrap_i64 (by omega) (by omega)]; omega
 have w2 : IntKind.i64.wrap (((w + 1 : Nat) : Int) + 1) = ((w + 1 + 1 : Nat) : Int) := by rw [wrap_i64 (by omega) (by omega)]; omega
 have ht := h.get
 have ht1 := H1.get
 have c2' := nd.c2
 have va0 := (a8 0 (by omega)).1
 have va1 := (a8 1 (by omega)).1
 have va2 := (a8 2 (by omega)).1
 have vb0 := (a8 0 (by omega)).2
 have vb1 := (a8 1 (by omega)).2
 have vb2 := (a8 2 (by omega)).2
 have x0 := a7 0 (by omega)
 have x1 := a7 1 (by omega)
 have x2 := a7 2 (by omega)
 rw [Nat.add_zero] at x0
 have vgb : (veqC (gb 0) (gb 0) && (veqC (gb 1) (gb 1) && veqC (gb 2) (gb 2))) = true := by
  obtain ⟨p0, k0, e0⟩ := (kb2 0 (by omega)).slice
  obtain ⟨p1, k1, e1⟩ := (kb2 1 (by omega)).slice
  obtain ⟨p2, k2, e2⟩ := (kb2 2 (by omega)).slice
  rw [e0, e1, e2, veqC_slice, veqC_slice, veqC_slice]; rfl
 obtain ⟨mp, hmp⟩ : ∃ mp, m.push { cells := [.slice none 0 0, .slice none 0 0, .slice none 0 0], rw := true, spare := none, kin := [] } = mp := ⟨_, rfl⟩
 have fp : Nx m mp := hmp ▸ .push
 have Hp := h.nx fp
 have gop := fp.get hlt (fun h => h) hgo
 obtain ⟨idp, cpp, op, avp, bvp, cvp, hvlp, ndp⟩ := Hp.node hN
 rw [hvl] at hvlp
 cases hvlp
 have hz := ndp.get
 rw [gop] at hz
 cases hz
 have hz := ndp.c2
 rw [c2'] at hz
 cases hz
 obtain ⟨acp, ccp, ocp, y1, y2, y3⟩ := ndp.kidAt (w := w + 1) hkb
 rw [d1] at y1
 cases y1
 obtain ⟨acp, ccp, ocp', y1, y2', y3'⟩ := ndp.kidAt (w := w) hka
 rw [d1] at y1
 cases y1
 rw [y2] at y2'
 cases y2'
 obtain ⟨idp, opp, cpp, hvlp, gpp, _, hldp, _, _⟩ := Hp.at kb1
 rw [hvl] at hvlp
 cases hvlp
 have htp := Hp.get
 rw [hmp] at t1
 obtain ⟨idp, cpp, op, avp, bvp, cvp, hvlp, ndq⟩ := H1.node hN
 rw [hvl] at hvlp
 cases hvlp
 have hz := ndq.get
 rw [go1] at hz
 cases hz
 have c0k := ndq.c0
 obtain ⟨ak, ck, ok, ek1, ek2, ek3⟩ := ndq.keyAt (w := w) hs
 have c72 := bone72 (m := m1) (x := s)
 rw [hmA] at c72
 have fA : Nx m1 mA := hmA ▸ .push
 obtain ⟨idp, cpp, op, avp, bvp, cvp, hvlp, ndr⟩ := (H1.nx fA).node hN
 rw [hvl] at hvlp
 cases hvlp
 have hz := ndr.get
 rw [p2] at hz
 cases hz
 have hz := ndr.c0
 rw [c0k] at hz
 cases hz
 obtain ⟨ak', ck', ok', ek1', ek2', ek3'⟩ := ndr.keyAt (w := w) hs
 rw [ek1] at ek1'
 cases ek1'
 subst ek1
 subst d1 hvl
 simp only [↓tbS, Nat.reduceShiftRight, Nat.reduceAnd, Nat.reduceBneDiff, bne_self_eq_false, symA, go_opsd, symB, X.put, X.look, Arg.ev, keepOf, restrict, evs, initEnv, noTup, cls, quiet, Nat.reduceAdd, Nat.reduceEqDiff, ↓reduceIte, reduceCtorEq, eq_self, hgo, c2', hwl, d2, d3, ht, w1, hwl', d3', hial, hibl, hldb, hmp, gop, htp, y2, y3', hldp, t1, goR_call hleaf1, vgb, go1, p3, c0k, hwk, ek2, ek3, ek2', ek3', c72, p2, p5, p6, p7, hgo2, x0, x1, x2, gq2, a1, a2, a3, go5, go6, gq5, gq6, va0, va1, va2, vb0, vb1, vb2, a4, a5, a6, go3, f0, f1, w2, goDV3c e0, goC, goDV3c e1, st0, st1, goR_call dr]
 exact hQ _ _ _ rfl ⟨rfl, rfl⟩
end
end Go.Proofs.Ytnlmnejellipdaa
namespace Go.Proofs.Ytnlmnejellipdaa
open Go X
set_option maxRecDepth 100000
attribute [local irreducible] X.Go' X.GoO X.GoR X.GoG X.GoC X.GoF X.GoFV X.GoFG X.Ex X.GoD X.GoDV X.GoDG
set_option linter.unusedVariables false
set_option linter.unusedSimpArgs false
section
variable {H : List Nat} {σ σ' : Nat → Tag} {m m' : Mem} {p : Nat} {vl vf v vx : Value} {ns : List (Nat → Value)} {ls : List Nd} {fr : List Nat} {root n : Int} {xs ys : List Value} {i f bb : Nat}
theorem set_key {N : Nd} {w : Nat} {s : Key} (h : TMH [] σ m p vl vf ns ls fr root n) (hN : ls[i]? = some N) (hw : w < N.keys.length) :
  ∃ id cp o a c m', vl = .slice (some ⟨id, 0, some 0⟩) ls.length cp ∧ m.get id = some o ∧ o.cells[i * 3]? = some (.slice (some a) N.keys.length c) ∧ storeE m 1 (.pointer (some ⟨a.block, a.off + w, none⟩)) (.string s) = some (.skip m') ∧
   TMH [] σ m' p vl vf ns (ls.set i ⟨N.keys.set w s, N.nums, N.kids⟩) fr root n ∧ Gr σ σ m m' := by
 have hil : i < ls.length := (List.getElem?_eq_some_iff.1 hN).1
 obtain ⟨g, k1, k2, h3⟩ := h.take (i := i) (by simp) hN
 obtain ⟨id, o, cp, hvl, hgo, hco, hld, hlt, hsn⟩ := h.at k1
 have l0 : (N.fld 0).length = N.keys.length := List.length_map ..
 obtain ⟨F, o1, o2⟩ := k2 0 (by omega)
 obtain ⟨a, c, m', d1, s1, s2, s3⟩ := o1.set (i := w) (x := .string s) (by rw [l0]; exact hw) rfl rfl
 have hc : Ch (.fld 0 i) σ σ m m' := ⟨fun _ _ => rfl, s3.mono fun j _ hj => o2 j hj, fun _ _ => rfl⟩
 have hT := (h3.chf (by simp) hc).give1 (N := ⟨N.keys.set w s, N.nums, N.kids⟩) (g := g) hil k1 fun f hf => by
  match f, hf with
  | 0, _ =>
   have e : Nd.fld ⟨N.keys.set w s, N.nums, N.kids⟩ 0 = (N.fld 0).set w (.string s) := List.map_set
   rw [e]; exact ⟨F, s2, o2⟩
  | 1, _ => exact (k2 1 (by omega)).ch hc (by simp)
  | 2, _ => exact (k2 2 (by omega)).ch hc (by simp)
 have hc0 := hco 0 (by omega)
 rw [d1, l0] at hc0
 exact ⟨id, cp, o, a, c, m', hvl, hgo, hc0, s1, hT, Gr.ch hc rfl⟩
theorem renew {w0 w1 : Value} {N' : Nd} {F id cp : Nat} (h : TMH [] σ m p vl vf ns ls fr root n) (hvl : vl = .slice (some ⟨id, 0, some 0⟩) ls.length cp) (hil : i < ls.length) (hF : F = 1 ∨ F = 2) (r0 : RdS m.next m 1 w0 (ones xs)) (r1 : RdS m.next m 1 w1 (ones ys)) (hx : xs.length ≤ 1000) (hy : ys.length ≤ 1000) (h0 : N'.fld 0 = xs) (h1 : N'.fld F = ys) (h2 : N'.fld (3 - F) = []) :
  ∃ p0 a0 c0 m1 p1 a1 c1 m2 m3 σ' ns', Ca 78 [w0] m (.slice p0 a0 c0) m1 ∧ Nx m m1 ∧ Ca 79 [w1] m1 (.slice p1 a1 c1) m2 ∧ storeE m2 3 (Pn id i) (.agg ⟨row3 fun f => if f = 0 then .slice p0 a0 c0 else if f = F then .slice p1 a1 c1 else .slice none 0 0⟩) = some (.skip m3) ∧
   TMH [] σ' m3 p vl vf ns' (ls.set i N') fr root n ∧ Gr σ σ' m m3 := by
 obtain ⟨N, hN⟩ : ∃ N, ls[i]? = some N := ⟨_, List.getElem?_eq_getElem hil⟩
 obtain ⟨g, k1, _, _⟩ := h.take (i := i) (by simp) hN
 obtain ⟨u0, m1, F0, b1, b2, b3, b4⟩ := clone72 r0 (Nat.le_refl _) hx
 obtain ⟨σ1, s1, s2⟩ := tag_new (σ := σ) (.fld 0 i) b2 b4 b3
 have c1 : Ch .no σ σ1 m m1 := .nx' b4 s2
 obtain ⟨u1, m2, F1, d1, d2, d3, d4⟩ := clone73 (r1.fr b4 (Nat.le_refl _) (fun _ h => h.elim)) c1.next hy
 obtain ⟨σ2, t1, t2⟩ := tag_new (σ := σ1) (.fld F i) d2 d4 d3
 have c2 : Ch .no σ1 σ2 m1 m2 := .nx' d4 t2
 have H2 := (h.new b4 s2).new d4 t2
 obtain ⟨g', k1', _, H3⟩ := H2.take (i := i) (by simp) hN
 rw [k1] at k1'; cases k1'
 obtain ⟨q0, l0, e0⟩ := s1.slice
 obtain ⟨q1, l1, e1⟩ := t1.slice
 subst e0 e1
 obtain ⟨id', cp', m3, hv', st1, st2, st3⟩ := H3.store3 (i := i) (g' := fun f => if f = 0 then .slice q0 xs.length l0 else if f = F then .slice q1 ys.length l1 else .slice none 0 0) (by simp) k1 (by rcases hF with rfl | rfl <;> rfl)
 rw [hvl] at hv'; cases hv'
 have hni : i < ns.length := (List.getElem?_eq_some_iff.1 k1).1
 have hT := st2.give1 (N := N') (g := fun f => if f = 0 then .slice q0 xs.length l0 else if f = F then .slice q1 ys.length l1 else .slice none 0 0) hil (List.getElem?_set_self hni) fun f hf => by
  have hcs : f = 0 ∨ f = F ∨ f = 3 - F := by omega
  rcases hcs with rfl | rfl | rfl
  ·rw [h0, if_pos rfl]; exact (s1.ch c2 (by simp)).ch st3 (by simp)
  ·rw [h1, if_neg (by omega), if_pos rfl]; exact t1.ch st3 (by simp)
  ·rw [h2, if_neg (by omega), if_neg (by omega)]; exact Tg.nil
 exact ⟨q0, _, l0, m1, q1, _, l1, m2, m3, σ2, _, b1, b4, d1, st1, hT, (Gr.new b4 s2).trans ((Gr.new d4 t2).trans (Gr.ch st3 rfl))⟩
end
end Go.Proofs.Ytnlmnejellipdaa
namespace Go.Proofs.Ytnlmnejellipdaa
open Go X
set_option maxRecDepth 100000
attribute [local irreducible] X.Go' X.GoO X.GoR X.GoG X.GoC X.GoF X.GoFV X.GoFG X.Ex X.GoD X.GoDV X.GoDG
set_option linter.unusedVariables false
set_option linter.unusedSimpArgs false
section
variable {H : List Nat} {σ σ' : Nat → Tag} {m m' : Mem} {p : Nat} {vl vf v vx : Value} {ns : List (Nat → Value)} {ls : List Nd} {fr : List Nat} {root n : Int} {xs ys : List Value} {i f bb : Nat}
theorem mend_join {ia ib w id cp : Nat} {N A B : Nd} (h : TMH [] σ m p vl vf ns ls fr root n) (hvl : vl = .slice (some ⟨id, 0, some 0⟩) ls.length cp) (hN : ls[i]? = some N) (hka : N.kids[w]? = some ia) (hkb : N.kids[w + 1]? = some ib) (hA : ls[ia]? = some A) (hB : ls[ib]? = some B)
  (hsz : A.size + B.size ≤ 4) (hw : w ≤ 1000) (hj : Ca 84 [Pt p, Pn id i, nv (w + 1)] m (.tuple #[]) m') : Ca 75 [Pt p, Pn id i, nv (w + 1)] m (.tuple #[]) m' := by
 obtain ⟨id', cp', o, av, bv, cv, hvl', nd⟩ := h.node hN
 rw [hvl] at hvl'
 cases hvl'
 obtain ⟨id', cp', oa, aa, ba, ca, hvl', nda⟩ := h.node hA
 rw [hvl] at hvl'
 cases hvl'
 obtain ⟨id', cp', ob, ab, bb, cb, hvl', ndb⟩ := h.node hB
 rw [hvl] at hvl'
 cases hvl'
 obtain ⟨ac, cc, oc, d1, d2, d3⟩ := nd.kidAt hkb
 obtain ⟨ac', cc', oc', d1', d2', d3'⟩ := nd.kidAt hka
 rw [d1] at d1'
 cases d1'
 rw [d2] at d2'
 cases d2'
 have hwl : w + 1 < N.kids.length := (List.getElem?_eq_some_iff.1 hkb).1
 have hwl' : w < N.kids.length := by omega
 have sa := nda.size
 have sb := ndb.size
 have hial := nda.lt
 have hibl := ndb.lt
 have w1 : IntKind.i64.wrap (((w + 1 : Nat) : Int) - 1) = (w : Int) := by rw [wrap_i64 (by omega) (by omega)]; omega
 have w2 : IntKind.i64.wrap ((A.size : Int) + (B.size : Int)) = ((A.size + B.size : Nat) : Int) := by rw [wrap_i64 (by omega) (by omega)]; omega
 have hle : ((A.size + B.size : Nat) : Int) ≤ 4 := by omega
 have ht := h.get
 have hgo := nd.get
 have hc2 := nd.c2
 refine callX_of (call_go (F := _) rfl rfl fun Q hQ => ?_)
 subst d1 hvl
 simp only [symA, symB, X.put, X.look, Arg.ev, keepOf, restrict, evs, initEnv, Nat.reduceAdd, Nat.reduceEqDiff, ↓reduceIte, reduceCtorEq, eq_self, ht, hgo, hc2, hwl, hwl', d2, d3, d3', w1, hial, hibl, goR_call sa, goR_call sb, w2, hle, goR_call hj]
 exact hQ _ _ _ rfl ⟨rfl, rfl⟩
theorem rotL {ia ib w id cp : Nat} {ks : List Key} {kids : List Nat} {A B : Nd} {s least : Key} (h : TMH [] σ m p vl vf ns ls fr root n) (hvl : vl = .slice (some ⟨id, 0, some 0⟩) ls.length cp) (hN : ls[i]? = some ⟨ks, [], kids⟩) (hka : kids[w]? = some ia) (hkb : kids[w + 1]? = some ib) (hs : ks[w]? = some s) (hA : ls[ia]? = some A) (hB : ls[ib]? = some B)
  (h1 : i ≠ ia) (h2 : i ≠ ib) (h3 : ia ≠ ib) (hleaf : A.kids.length = 0) (hsz : A.size + B.size = 5) (hw : w ≤ 1000) (hkl : (A.keys ++ B.keys).length = 5) (hvl5 : (A.nums ++ B.nums).length = 5) (hol : (A.kids ++ B.kids).length ≤ 900) (hle : (A.keys ++ B.keys)[2]? = some least) :
  ∃ m' σ' ns', Ca 75 [Pt p, Pn id i, nv (w + 1)] m (.tuple #[]) m' ∧ TMH [] σ' m' p vl vf ns' (((ls.set ia ⟨(A.keys ++ B.keys).take 2, (A.nums ++ B.nums).take 2, []⟩).set ib ⟨(A.keys ++ B.keys).drop 2, (A.nums ++ B.nums).drop 2, []⟩).set i ⟨ks.set w least, [], kids⟩) fr root n ∧ Gr σ σ' m m' := by
 obtain ⟨id', cp', o, av, bv, cv, hvl', nd⟩ := h.node hN
 rw [hvl] at hvl'
 cases hvl'
 obtain ⟨id', cp', oa, aa, ba, ca, hvl', nda⟩ := h.node hA
 rw [hvl] at hvl'
 cases hvl'
 obtain ⟨id', cp', ob, ab, bb', cb, hvl', ndb⟩ := h.node hB
 rw [hvl] at hvl'
 cases hvl'
 obtain ⟨ac, cc, oc, d1, d2, d3⟩ := nd.kidAt (w := w + 1) hkb
 obtain ⟨ac', cc', oc', d1', d2', d3'⟩ := nd.kidAt (w := w) hka
 rw [d1] at d1'
 cases d1'
 rw [d2] at d2'
 cases d2'
 have hwl : w + 1 < kids.length := (List.getElem?_eq_some_iff.1 hkb).1
 have hwl' : w < kids.length := by omega
 have hwk : w < ks.length := (List.getElem?_eq_some_iff.1 hs).1
 have sa := nda.size
 have sb := ndb.size
 have hial := nda.lt
 have hibl := ndb.lt
 have hil := nd.lt
 have w1 : IntKind.i64.wrap (((w + 1 : Nat) : Int) - 1) = (w : Int) := by rw [wrap_i64 (by omega) (by omega)]; omega
 have w2 : IntKind.i64.wrap ((A.size : Int) + (B.size : Int)) = 5 := by rw [wrap_i64 (by omega) (by omega)]; omega
 have nle : ¬ (5 : Int) ≤ 4 := by omega
 have ht := h.get
 have hgo := nd.get
 have hc2 := nd.c2
 have hlf0 := nda.leaf
 have hlf : decide ((A.kids.length : Int) = 0) = true := by rw [hleaf]; rfl
 rw [hlf] at hlf0
 obtain ⟨M1, hM1⟩ : ∃ s, m = s := ⟨_, rfl⟩
 obtain ⟨ls1, hls1⟩ : ∃ l, ls = l := ⟨_, rfl⟩
 obtain ⟨ns1, hns1⟩ : ∃ l, ns = l := ⟨_, rfl⟩
 obtain ⟨σ1, hσ1⟩ : ∃ s, σ = s := ⟨_, rfl⟩
 obtain ⟨A1, hA1e⟩ : ∃ a, A = a := ⟨_, rfl⟩
 have H1 : TMH [] σ1 M1 p vl vf ns1 ls1 fr root n := by rw [← hls1, ← hns1, ← hσ1, ← hM1]; exact h
 have G1 : Gr σ σ1 m M1 := by rw [← hσ1, ← hM1]; exact Gr.refl
 have hA1 : ls1[ia]? = some A1 := by rw [← hls1, ← hA1e]; exact hA
 have hB1 : ls1[ib]? = some B := by rw [← hls1]; exact hB
 have hN1 : ls1[i]? = some ⟨ks, [], kids⟩ := by rw [← hls1]; exact hN
 have hll1 : ls1.length = ls.length := by rw [hls1]
 have hk1 : (A1.keys ++ B.keys).length = 5 := by rw [← hA1e]; exact hkl
 have hnumE : A1.nums = A.nums := by rw [← hA1e]
 have hkidE : A1.kids = A.kids := by rw [← hA1e]
 have hle1 : (A1.keys ++ B.keys)[2]? = some least := by rw [← hA1e]; exact hle
 have hszE : A1.size = A.size := by
  rw [← hA1e]
 obtain ⟨ga, ka1, ka2⟩ := H1.nd ia A1 (by simp) hA1
 obtain ⟨gb, kb1, kb2⟩ := H1.nd ib B (by simp) hB1
 obtain ⟨id', o1, cp', hvl', go1, ca1, _, hlt1, hsn1⟩ := H1.at ka1
 rw [hvl, hll1] at hvl'
 cases hvl'
 obtain ⟨id', o1', cp', hvl', go1', cb1, _, _, _⟩ := H1.at kb1
 rw [hvl, hll1] at hvl'
 cases hvl'
 rw [go1] at go1'
 cases go1'
 have lka : (A1.fld 0).length = A1.keys.length := List.length_map ..
 have lkb : (B.fld 0).length = B.keys.length := List.length_map ..
 have lna : (A1.fld 1).length = A.nums.length := by rw [← hnumE]; exact List.length_map ..
 have lnb : (B.fld 1).length = B.nums.length := List.length_map ..
 have lia : (A1.fld 2).length = A.kids.length := by rw [← hkidE]; exact List.length_map ..
 have lib : (B.fld 2).length = B.kids.length := List.length_map ..
 have hk1' := hk1
 have hv5' := hvl5
 have hol' := hol
 rw [List.length_append] at hk1' hv5' hol'
 
 obtain ⟨pa0, xa0, ea0⟩ := (ka2 0 (by omega)).slice
 obtain ⟨pb0, xb0, eb0⟩ := (kb2 0 (by omega)).slice
 obtain ⟨pa1, xa1, ea1⟩ := (ka2 1 (by omega)).slice
 obtain ⟨pb1, xb1, eb1⟩ := (kb2 1 (by omega)).slice
 obtain ⟨pa2, xa2, ea2⟩ := (ka2 2 (by omega)).slice
 obtain ⟨pb2, xb2, eb2⟩ := (kb2 2 (by omega)).slice
 have cl0 := ca1 0 (by omega)
 have cl1 := ca1 1 (by omega)
 have cl2 := ca1 2 (by omega)
 have cm0 := cb1 0 (by omega)
 have cm1 := cb1 1 (by omega)
 have cm2 := cb1 2 (by omega)
 rw [Nat.add_zero, ea0] at cl0
 rw [Nat.add_zero, eb0] at cm0
 rw [ea1] at cl1
 rw [eb1] at cm1
 rw [ea2] at cl2
 rw [eb2] at cm2
 obtain ⟨MP, hMP⟩ : ∃ M, M1.push { cells := [.slice pa0 (A1.fld 0).length xa0, .slice pb0 (B.fld 0).length xb0], rw := true, spare := none, kin := [] } = M := ⟨_, rfl⟩
 have fP : Nx M1 MP := hMP ▸ .push
 have nP : MP.next = M1.next + 1 := by rw [← hMP]; simp
 obtain ⟨v1, M2, F1, cc1, cc2, cc3, cc4⟩ := concat93 (m := MP) (hMP ▸ push_self) (by omega) (ea0 ▸ ((ka2 0 (by omega)).nx fP).rd) (eb0 ▸ ((kb2 0 (by omega)).nx fP).rd) (Nat.le_refl _) (by omega)
 obtain ⟨σ2, s1, s2⟩ := tag_new (σ := σ1) (.other 5) cc2 cc4 cc3
 have ch2 : Ch .no σ1 σ2 MP M2 := .nx' cc4 s2
 have H2 := (H1.nx fP).new cc4 s2
 have ka22 : ∀ f, f < 3 → Tg σ2 (.fld f ia) M2 (ga f) (A1.fld f) := fun f hf => ((ka2 f hf).nx fP).ch ch2 (by simp)
 have kb22 : ∀ f, f < 3 → Tg σ2 (.fld f ib) M2 (gb f) (B.fld f) := fun f hf => ((kb2 f hf).nx fP).ch ch2 (by simp)
 have go2 : M2.get id = some o1 := cc4.get (by have := fP.next; omega) (fun h => h) (fP.get hlt1 (fun h => h) go1)
 
 obtain ⟨P1, hP1⟩ : ∃ M, M2.push { cells := [.slice pa1 (A1.fld 1).length xa1, .slice pb1 (B.fld 1).length xb1], rw := true, spare := none, kin := [] } = M := ⟨_, rfl⟩
 obtain ⟨P2, hP2⟩ : ∃ M, P1.push { cells := [.slice pa2 (A1.fld 2).length xa2, .slice pb2 (B.fld 2).length xb2], rw := true, spare := none, kin := [] } = M := ⟨_, rfl⟩
 have f1 : Nx M2 P1 := hP1 ▸ .push
 have f2 : Nx P1 P2 := hP2 ▸ .push
 have f12 : Nx M2 P2 := f1.trans f2
 have n1 : P1.next = M2.next + 1 := by rw [← hP1]; simp
 have n2 : P2.next = P1.next + 1 := by rw [← hP2]; simp
 have hl2 : id < M2.next := by have := fP.next; have := cc4.next; omega
 have goP1 : P1.get id = some o1 := f1.get hl2 (fun h => h) go2
 have goP2 : P2.get id = some o1 := f12.get hl2 (fun h => h) go2
 obtain ⟨v2, M3, F2, ce1, ce2, ce3, ce4⟩ := concat94 (m := P2) (f2.get (i := M2.next) (by omega) (fun h => h) (hP1 ▸ push_self)) (by omega) (ea1 ▸ ((ka22 1 (by omega)).nx f12).rd) (eb1 ▸ ((kb22 1 (by omega)).nx f12).rd) (Nat.le_refl _) (by rw [lna, lnb]; omega)
 obtain ⟨σ3, t1, t2⟩ := tag_new (σ := σ2) (.other 6) ce2 ce4 ce3
 have ch3 : Ch .no σ2 σ3 P2 M3 := .nx' ce4 t2
 have H3 := (H2.nx f12).new ce4 t2
 have goMP : MP.get id = some o1 := fP.get hlt1 (fun h => h) go1
 have goM3 : M3.get id = some o1 := ce4.get (by have := f12.next; omega) (fun h => h) goP2
 obtain ⟨v3, M4, F3, cg1, cg2, cg3, cg4⟩ := concat94 (m := M3) (ce4.get (i := P1.next) (by omega) (fun h => h) (hP2 ▸ push_self)) (by have := ce4.next; omega) (ea2 ▸ (((ka22 2 (by omega)).nx f12).ch ch3 (by simp)).rd) (eb2 ▸ (((kb22 2 (by omega)).nx f12).ch ch3 (by simp)).rd) (Nat.le_refl _) (by rw [lia, lib]; omega)
 obtain ⟨σ4, u1, u2⟩ := tag_new (σ := σ3) (.other 7) cg2 cg4 cg3
 have ch4 : Ch .no σ3 σ4 M3 M4 := .nx' cg4 u2
 have H4 := H3.new cg4 u2
 have hA4 := hA1
 obtain ⟨id', cp', oa4, aa4, ba4, ca4, hvl', nda4⟩ := H4.node hA1
 rw [hvl, hll1] at hvl'
 cases hvl'
 obtain ⟨id', cp', ob4, ab4, bb4, cb4, hvl', ndb4⟩ := H4.node hB1
 rw [hvl, hll1] at hvl'
 cases hvl'
 have sa4 := nda4.size
 have sb4 := ndb4.size
 have lf4 := nda4.leaf
 rw [hszE] at sa4
 rw [hkidE, hlf] at lf4
 
 have tK : Tg σ4 (.other 5) M4 v1 ((A1.keys ++ B.keys).map sv) := by
  rw [List.map_append]
  exact ((s1.nx f12).ch ch3 (by simp)).ch ch4 (by simp)
 have tV : Tg σ4 (.other 6) M4 v2 ((A.nums ++ B.nums).map iv) := by
  rw [List.map_append]
  have e : A1.nums = A.nums := hnumE
  rw [← e]; exact t1.ch ch4 (by simp)
 have lK : ((A1.keys ++ B.keys).map sv).length = 5 := by rw [List.length_map]; exact hk1
 have lV : ((A.nums ++ B.nums).map iv).length = 5 := by rw [List.length_map]; exact hvl5
 
 obtain ⟨y0, y1, y2⟩ := tK.to (k := 2) (by omega)
 obtain ⟨y3, y4, y5⟩ := tV.to (k := 2) (by omega)
 obtain ⟨p0, a0, c0, R1, p1, a1, c1, R2, R3, σ5, ns5, re1, re2, re3, re4, H5, G5⟩ := renew (F := 1) (N' := ⟨(A.keys ++ B.keys).take 2, (A.nums ++ B.nums).take 2, []⟩) H4 (by rw [hll1]; exact hvl) (by rw [hll1]; exact hial) (.inl rfl) y2.rd y5.rd (by rw [List.length_take]; omega) (by rw [List.length_take]; omega) (by rw [← hA1e]; exact List.map_take) (by exact List.map_take) rfl
 obtain ⟨y3', y4', _⟩ := (tV.nx re2).to (k := 2) (by omega)
 rw [← slice_det y4 y4'] at y4'
 have tK5 := G5.tg (by rfl) tK
 have tV5 := G5.tg (by rfl) tV
 have hll5 : (ls1.set ia ⟨(A.keys ++ B.keys).take 2, (A.nums ++ B.nums).take 2, []⟩).length = ls.length := by rw [List.length_set, hll1]
 
 obtain ⟨z0, z1, z2⟩ := tK5.from (k := 2) (by omega)
 obtain ⟨z3, z4, z5⟩ := tV5.from (k := 2) (by omega)
 obtain ⟨p2, a2, c2, S1, p3, a3, c3, S2, S3, σ6, ns6, rf1, rf2, rf3, rf4, H6, G6⟩ := renew (F := 1) (i := ib) (N' := ⟨(A.keys ++ B.keys).drop 2, (A.nums ++ B.nums).drop 2, []⟩) H5 (by rw [hll5]; exact hvl) (by rw [hll5]; exact hibl) (.inl rfl) z2 z5 (by rw [List.length_drop]; omega) (by rw [List.length_drop]; omega) (by rw [← hA1e]; exact List.map_drop) (by exact List.map_drop) rfl
 obtain ⟨z3', z4', _⟩ := (tV5.nx rf2).from (k := 2) (by omega)
 rw [← slice_det z4 z4'] at z4'
 have tK6 := G6.tg (by rfl) tK5
 have hN6 : ((ls1.set ia ⟨(A.keys ++ B.keys).take 2, (A.nums ++ B.nums).take 2, []⟩).set ib ⟨(A.keys ++ B.keys).drop 2, (A.nums ++ B.nums).drop 2, []⟩)[i]? = some ⟨ks, [], kids⟩ := by rw [List.getElem?_set_ne (Ne.symm h2), List.getElem?_set_ne (Ne.symm h1)]; exact hN1
 obtain ⟨id', cp', o7, a7, c7, m', hv7, go7, cx7, st7, H7, G7⟩ := set_key (s := least) H6 hN6 hwk
 rw [hvl, List.length_set, hll5] at hv7
 cases hv7
 obtain ⟨ak, ck, ok, k1, k2, k3⟩ := rd_at tK6.rd (i := 2) (x := sv least) (by rw [List.getElem?_map, hle1]; rfl)
 rw [lK] at k1
 have hix : ∀ M : Mem, indexAddrE M 1 (.slice (some ak) 5 ck) (I 2) = some (.val (.pointer (some ⟨ak.block, ak.off + 2, none⟩)) M) := fun M => by
  have := indexAddr_at (m := M) (size := 1) (i := 2) (len := 5) (c := ck) (a := ak) (kd := .i64) (by omega)
  simpa using this
 refine ⟨m', σ6, ns6, callX_of (call_go (F := _) rfl rfl fun Q hQ => ?_), by subst hls1; exact H7, G1.trans ((Gr.nx fP).trans ((Gr.new cc4 s2).trans ((Gr.nx f12).trans ((Gr.new ce4 t2).trans ((Gr.new cg4 u2).trans (G5.trans (G6.trans G7)))))))⟩
 have hq5 : binE Try.prog .quo 3 (I 5) (I 2) M4 = some (.val (I 2) M4) := by kernel_rfl
 have n2' : ((2 : Nat) : Int) = 2 := rfl
 have n1' : ((1 : Nat) : Int) = 1 := rfl
 have wr1 : IntKind.i64.wrap (2 - 1) = 1 := wrap_i64 (by omega) (by omega)
 have wr2 : IntKind.i64.wrap 1 = 1 := wrap_i64 (by omega) (by omega)
 have re4' : storeE R2 3 (Pn id ia) (.agg ⟨[.slice p0 a0 c0, .slice p1 a1 c1, .slice none 0 0]⟩) = some (.skip R3) := re4
 have rf4' : storeE S2 3 (Pn id ib) (.agg ⟨[.slice p2 a2 c2, .slice p3 a3 c3, .slice none 0 0]⟩) = some (.skip S3) := rf4
 have bt1 := btwo (m := M1) (p := pa0) (q := pb0) (a := (A1.fld 0).length) (b := xa0) (c := (B.fld 0).length) (d := xb0)
 have bt2 := btwo (m := M2) (p := pa1) (q := pb1) (a := (A1.fld 1).length) (b := xa1) (c := (B.fld 1).length) (d := xb1)
 have bt3 := btwo (m := P1) (p := pa2) (q := pb2) (a := (A1.fld 2).length) (b := xa2) (c := (B.fld 2).length) (d := xb2)
 rw [hMP] at bt1
 rw [hP1] at bt2
 rw [hP2] at bt3
 obtain ⟨q3, x3, rfl⟩ := u1.slice
 obtain ⟨q2, x2, rfl⟩ := t1.slice
 obtain ⟨g0, g1, g2, rfl⟩ := sliceE_slice y1
 obtain ⟨g3, g4, g5, rfl⟩ := sliceE_slice y4
 obtain ⟨g6, g7, g8, rfl⟩ := sliceE_slice z1
 obtain ⟨g9, g10, g11, rfl⟩ := sliceE_slice z4
 simp only [n2'] at y1 y4 y4' z1 z4 z4'
 subst hM1
 have hoo : o = o1 := by rw [hgo] at go1; exact Option.some.inj go1
 subst hoo
 subst k1 d1 hvl
 simp only [↓tbS, Nat.reduceShiftRight, Nat.reduceAnd, Nat.reduceBneDiff, bne_self_eq_false, symA, go_opsd, symB, X.put, X.look, Arg.ev, keepOf, restrict, evs, evO, initEnv, noTup, cls, quiet, Nat.reduceAdd, Nat.reduceEqDiff, ↓reduceIte, reduceCtorEq, eq_self, ht, hgo, hc2, hwl, hwl', d2, d3, d3', w1, hial, hibl, goR_call sa, goR_call sb, w2, nle, goR_call hlf0, cl0, cm0, bt1, goDV3c cc1, go2, cl1, cm1, cl2, cm2, bt2, bt3, goP1, goP2, goMP, goM3, goDV3c ce1, goDV3c cg1, goR_call sa4, goR_call sb4, hq5, goR_call lf4, y1, y4, y4', goDV3c re1, goDV3c re3, build01, re4', z1, z4, z4', goDV3c rf1, goDV3c rf3, rf4', go7, cx7]
 rw [hix]
 simp only [symA, symB, X.put, X.look, Arg.ev, keepOf, restrict, cls, quiet, Nat.reduceEqDiff, ↓reduceIte, eq_self, Nat.reducePow, Nat.reduceDiv, Nat.reduceMod, go7, cx7, k2, k3, hwk, st7]
 exact hQ _ _ _ rfl ⟨rfl, rfl⟩
theorem rotN {ia ib w id cp : Nat} {ks : List Key} {kids : List Nat} {A B : Nd} {s least : Key} (h : TMH [] σ m p vl vf ns ls fr root n) (hvl : vl = .slice (some ⟨id, 0, some 0⟩) ls.length cp) (hN : ls[i]? = some ⟨ks, [], kids⟩) (hka : kids[w]? = some ia) (hkb : kids[w + 1]? = some ib) (hs : ks[w]? = some s) (hA : ls[ia]? = some A) (hB : ls[ib]? = some B)
  (h1 : i ≠ ia) (h2 : i ≠ ib) (h3 : ia ≠ ib) (hleaf : A.kids.length ≠ 0) (hsz : A.size + B.size = 5) (hw : w ≤ 1000) (hkl : (A.keys ++ [s] ++ B.keys).length = 4) (hvl5 : (A.kids ++ B.kids).length = 5) (hol : (A.nums ++ B.nums).length ≤ 900) (hle : (A.keys ++ [s] ++ B.keys)[1]? = some least) :
  ∃ m' σ' ns', Ca 75 [Pt p, Pn id i, nv (w + 1)] m (.tuple #[]) m' ∧ TMH [] σ' m' p vl vf ns' (((ls.set ia ⟨(A.keys ++ [s] ++ B.keys).take 1, [], (A.kids ++ B.kids).take 2⟩).set ib ⟨(A.keys ++ [s] ++ B.keys).drop 2, [], (A.kids ++ B.kids).drop 2⟩).set i ⟨ks.set w least, [], kids⟩) fr root n ∧ Gr σ σ' m m' := by
 obtain ⟨id', cp', o, av, bv, cv, hvl', nd⟩ := h.node hN
 rw [hvl] at hvl'
 cases hvl'
 obtain ⟨id', cp', oa, aa, ba, ca, hvl', nda⟩ := h.node hA
 rw [hvl] at hvl'
 cases hvl'
 obtain ⟨id', cp', ob, ab, bb', cb, hvl', ndb⟩ := h.node hB
 rw [hvl] at hvl'
 cases hvl'
 obtain ⟨ac, cc, oc, d1, d2, d3⟩ := nd.kidAt (w := w + 1) hkb
 obtain ⟨ac', cc', oc', d1', d2', d3'⟩ := nd.kidAt (w := w) hka
 rw [d1] at d1'
 cases d1'
 rw [d2] at d2'
 cases d2'
 have hwl : w + 1 < kids.length := (List.getElem?_eq_some_iff.1 hkb).1
 have hwl' : w < kids.length := by omega
 have hwk : w < ks.length := (List.getElem?_eq_some_iff.1 hs).1
 have sa := nda.size
 have sb := ndb.size
 have hial := nda.lt
 have hibl := ndb.lt
 have hil := nd.lt
 have w1 : IntKind.i64.wrap (((w + 1 : Nat) : Int) - 1) = (w : Int) := by rw [wrap_i64 (by omega) (by omega)]; omega
 have w2 : IntKind.i64.wrap ((A.size : Int) + (B.size : Int)) = 5 := by rw [wrap_i64 (by omega) (by omega)]; omega
 have nle : ¬ (5 : Int) ≤ 4 := by omega
 have ht := h.get
 have hgo := nd.get
 have hc2 := nd.c2
 have hlf0 := nda.leaf
 have hlf : decide ((A.kids.length : Int) = 0) = false := by exact decide_eq_false (by omega)
 rw [hlf] at hlf0
 have hAk : A.keys.length ≤ 1000 := by
  rw [List.length_append, List.length_append] at hkl
  omega
 obtain ⟨mA, hmA⟩ : ∃ mA, m.push (box1 (.string s)) = mA := ⟨_, rfl⟩
 obtain ⟨id', cp', o', ga', x1', mB, M1, σ1, hv', p1', p2', p3', p4', p5', p6', p7', H1, G1⟩ := app1 h hA hAk hmA
 rw [hvl] at hv'
 cases hv'
 rw [hgo] at p1'
 cases p1'
 obtain ⟨A1, hA1e⟩ : ∃ a, Nd.mk (A.keys ++ [s]) A.nums A.kids = a := ⟨_, rfl⟩
 obtain ⟨ls1, hls1⟩ : ∃ l, ls.set ia ⟨A.keys ++ [s], A.nums, A.kids⟩ = l := ⟨_, rfl⟩
 obtain ⟨ns1, hns1⟩ : ∃ l, ns.set ia (upd ga' 0 x1') = l := ⟨_, rfl⟩
 rw [hls1, hns1] at H1
 have hA1 : ls1[ia]? = some A1 := by rw [← hls1, ← hA1e]; exact List.getElem?_set_self hial
 have hB1 : ls1[ib]? = some B := by rw [← hls1, List.getElem?_set_ne h3]; exact hB
 have hN1 : ls1[i]? = some ⟨ks, [], kids⟩ := by rw [← hls1, List.getElem?_set_ne (Ne.symm h1)]; exact hN
 have hll1 : ls1.length = ls.length := by rw [← hls1, List.length_set]
 have hk1 : (A1.keys ++ B.keys).length = 4 := by rw [← hA1e]; exact hkl
 have hnumE : A1.nums = A.nums := by rw [← hA1e]
 have hkidE : A1.kids = A.kids := by rw [← hA1e]
 have hle1 : (A1.keys ++ B.keys)[1]? = some least := by rw [← hA1e]; exact hle
 have hszE : A1.size = A.size := by
  rw [← hA1e]
  show (if A.kids.length = 0 then _ else A.kids.length) = _
  unfold Nd.size
  rw [if_neg hleaf, if_neg hleaf]
 obtain ⟨ga, ka1, ka2⟩ := H1.nd ia A1 (by simp) hA1
 obtain ⟨gb, kb1, kb2⟩ := H1.nd ib B (by simp) hB1
 obtain ⟨id', o1, cp', hvl', go1, ca1, _, hlt1, hsn1⟩ := H1.at ka1
 rw [hvl, hll1] at hvl'
 cases hvl'
 obtain ⟨id', o1', cp', hvl', go1', cb1, _, _, _⟩ := H1.at kb1
 rw [hvl, hll1] at hvl'
 cases hvl'
 rw [go1] at go1'
 cases go1'
 have lka : (A1.fld 0).length = A1.keys.length := List.length_map ..
 have lkb : (B.fld 0).length = B.keys.length := List.length_map ..
 have lna : (A1.fld 1).length = A.nums.length := by rw [← hnumE]; exact List.length_map ..
 have lnb : (B.fld 1).length = B.nums.length := List.length_map ..
 have lia : (A1.fld 2).length = A.kids.length := by rw [← hkidE]; exact List.length_map ..
 have lib : (B.fld 2).length = B.kids.length := List.length_map ..
 have hk1' := hk1
 have hv5' := hvl5
 have hol' := hol
 rw [List.length_append] at hk1' hv5' hol'
 
 obtain ⟨pa0, xa0, ea0⟩ := (ka2 0 (by omega)).slice
 obtain ⟨pb0, xb0, eb0⟩ := (kb2 0 (by omega)).slice
 obtain ⟨pa1, xa1, ea1⟩ := (ka2 1 (by omega)).slice
 obtain ⟨pb1, xb1, eb1⟩ := (kb2 1 (by omega)).slice
 obtain ⟨pa2, xa2, ea2⟩ := (ka2 2 (by omega)).slice
 obtain ⟨pb2, xb2, eb2⟩ := (kb2 2 (by omega)).slice
 have cl0 := ca1 0 (by omega)
 have cl1 := ca1 1 (by omega)
 have cl2 := ca1 2 (by omega)
 have cm0 := cb1 0 (by omega)
 have cm1 := cb1 1 (by omega)
 have cm2 := cb1 2 (by omega)
 rw [Nat.add_zero, ea0] at cl0
 rw [Nat.add_zero, eb0] at cm0
 rw [ea1] at cl1
 rw [eb1] at cm1
 rw [ea2] at cl2
 rw [eb2] at cm2
 obtain ⟨MP, hMP⟩ : ∃ M, M1.push { cells := [.slice pa0 (A1.fld 0).length xa0, .slice pb0 (B.fld 0).length xb0], rw := true, spare := none, kin := [] } = M := ⟨_, rfl⟩
 have fP : Nx M1 MP := hMP ▸ .push
 have nP : MP.next = M1.next + 1 := by rw [← hMP]; simp
 obtain ⟨v1, M2, F1, cc1, cc2, cc3, cc4⟩ := concat93 (m := MP) (hMP ▸ push_self) (by omega) (ea0 ▸ ((ka2 0 (by omega)).nx fP).rd) (eb0 ▸ ((kb2 0 (by omega)).nx fP).rd) (Nat.le_refl _) (by omega)
 obtain ⟨σ2, s1, s2⟩ := tag_new (σ := σ1) (.other 5) cc2 cc4 cc3
 have ch2 : Ch .no σ1 σ2 MP M2 := .nx' cc4 s2
 have H2 := (H1.nx fP).new cc4 s2
 have ka22 : ∀ f, f < 3 → Tg σ2 (.fld f ia) M2 (ga f) (A1.fld f) := fun f hf => ((ka2 f hf).nx fP).ch ch2 (by simp)
 have kb22 : ∀ f, f < 3 → Tg σ2 (.fld f ib) M2 (gb f) (B.fld f) := fun f hf => ((kb2 f hf).nx fP).ch ch2 (by simp)
 have go2 : M2.get id = some o1 := cc4.get (by have := fP.next; omega) (fun h => h) (fP.get hlt1 (fun h => h) go1)
 
 obtain ⟨P1, hP1⟩ : ∃ M, M2.push { cells := [.slice pa1 (A1.fld 1).length xa1, .slice pb1 (B.fld 1).length xb1], rw := true, spare := none, kin := [] } = M := ⟨_, rfl⟩
 obtain ⟨P2, hP2⟩ : ∃ M, P1.push { cells := [.slice pa2 (A1.fld 2).length xa2, .slice pb2 (B.fld 2).length xb2], rw := true, spare := none, kin := [] } = M := ⟨_, rfl⟩
 have f1 : Nx M2 P1 := hP1 ▸ .push
 have f2 : Nx P1 P2 := hP2 ▸ .push
 have f12 : Nx M2 P2 := f1.trans f2
 have n1 : P1.next = M2.next + 1 := by rw [← hP1]; simp
 have n2 : P2.next = P1.next + 1 := by rw [← hP2]; simp
 have hl2 : id < M2.next := by have := fP.next; have := cc4.next; omega
 have goP1 : P1.get id = some o1 := f1.get hl2 (fun h => h) go2
 have goP2 : P2.get id = some o1 := f12.get hl2 (fun h => h) go2
 obtain ⟨v2, M3, F2, ce1, ce2, ce3, ce4⟩ := concat94 (m := P2) (f2.get (i := M2.next) (by omega) (fun h => h) (hP1 ▸ push_self)) (by omega) (ea1 ▸ ((ka22 1 (by omega)).nx f12).rd) (eb1 ▸ ((kb22 1 (by omega)).nx f12).rd) (Nat.le_refl _) (by rw [lna, lnb]; omega)
 obtain ⟨σ3, t1, t2⟩ := tag_new (σ := σ2) (.other 6) ce2 ce4 ce3
 have ch3 : Ch .no σ2 σ3 P2 M3 := .nx' ce4 t2
 have H3 := (H2.nx f12).new ce4 t2
 have goMP : MP.get id = some o1 := fP.get hlt1 (fun h => h) go1
 have goM3 : M3.get id = some o1 := ce4.get (by have := f12.next; omega) (fun h => h) goP2
 obtain ⟨v3, M4, F3, cg1, cg2, cg3, cg4⟩ := concat94 (m := M3) (ce4.get (i := P1.next) (by omega) (fun h => h) (hP2 ▸ push_self)) (by have := ce4.next; omega) (ea2 ▸ (((ka22 2 (by omega)).nx f12).ch ch3 (by simp)).rd) (eb2 ▸ (((kb22 2 (by omega)).nx f12).ch ch3 (by simp)).rd) (Nat.le_refl _) (by rw [lia, lib]; omega)
 obtain ⟨σ4, u1, u2⟩ := tag_new (σ := σ3) (.other 7) cg2 cg4 cg3
 have ch4 : Ch .no σ3 σ4 M3 M4 := .nx' cg4 u2
 have H4 := H3.new cg4 u2
 have hA4 := hA1
 obtain ⟨id', cp', oa4, aa4, ba4, ca4, hvl', nda4⟩ := H4.node hA1
 rw [hvl, hll1] at hvl'
 cases hvl'
 obtain ⟨id', cp', ob4, ab4, bb4, cb4, hvl', ndb4⟩ := H4.node hB1
 rw [hvl, hll1] at hvl'
 cases hvl'
 have sa4 := nda4.size
 have sb4 := ndb4.size
 have lf4 := nda4.leaf
 rw [hszE] at sa4
 rw [hkidE, hlf] at lf4
 
 have tK : Tg σ4 (.other 5) M4 v1 ((A1.keys ++ B.keys).map sv) := by
  rw [List.map_append]
  exact ((s1.nx f12).ch ch3 (by simp)).ch ch4 (by simp)
 have tV : Tg σ4 (.other 7) M4 v3 ((A.kids ++ B.kids).map nv) := by
  rw [List.map_append]
  have e : A1.kids = A.kids := hkidE
  rw [← e]; exact u1
 have lK : ((A1.keys ++ B.keys).map sv).length = 4 := by rw [List.length_map]; exact hk1
 have lV : ((A.kids ++ B.kids).map nv).length = 5 := by rw [List.length_map]; exact hvl5
 
 obtain ⟨y0, y1, y2⟩ := tK.to (k := 1) (by omega)
 obtain ⟨y3, y4, y5⟩ := tV.to (k := 2) (by omega)
 obtain ⟨p0, a0, c0, R1, p1, a1, c1, R2, R3, σ5, ns5, re1, re2, re3, re4, H5, G5⟩ := renew (F := 2) (N' := ⟨(A.keys ++ [s] ++ B.keys).take 1, [], (A.kids ++ B.kids).take 2⟩) H4 (by rw [hll1]; exact hvl) (by rw [hll1]; exact hial) (.inr rfl) y2.rd y5.rd (by rw [List.length_take]; omega) (by rw [List.length_take]; omega) (by rw [← hA1e]; exact List.map_take) (by exact List.map_take) rfl
 obtain ⟨y3', y4', _⟩ := (tV.nx re2).to (k := 2) (by omega)
 rw [← slice_det y4 y4'] at y4'
 have tK5 := G5.tg (by rfl) tK
 have tV5 := G5.tg (by rfl) tV
 have hll5 : (ls1.set ia ⟨(A.keys ++ [s] ++ B.keys).take 1, [], (A.kids ++ B.kids).take 2⟩).length = ls.length := by rw [List.length_set, hll1]
 
 obtain ⟨z0, z1, z2⟩ := tK5.from (k := 2) (by omega)
 obtain ⟨z3, z4, z5⟩ := tV5.from (k := 2) (by omega)
 obtain ⟨p2, a2, c2, S1, p3, a3, c3, S2, S3, σ6, ns6, rf1, rf2, rf3, rf4, H6, G6⟩ := renew (F := 2) (i := ib) (N' := ⟨(A.keys ++ [s] ++ B.keys).drop 2, [], (A.kids ++ B.kids).drop 2⟩) H5 (by rw [hll5]; exact hvl) (by rw [hll5]; exact hibl) (.inr rfl) z2 z5 (by rw [List.length_drop]; omega) (by rw [List.length_drop]; omega) (by rw [← hA1e]; exact List.map_drop) (by exact List.map_drop) rfl
 obtain ⟨z3', z4', _⟩ := (tV5.nx rf2).from (k := 2) (by omega)
 rw [← slice_det z4 z4'] at z4'
 have tK6 := G6.tg (by rfl) tK5
 have hN6 : ((ls1.set ia ⟨(A.keys ++ [s] ++ B.keys).take 1, [], (A.kids ++ B.kids).take 2⟩).set ib ⟨(A.keys ++ [s] ++ B.keys).drop 2, [], (A.kids ++ B.kids).drop 2⟩)[i]? = some ⟨ks, [], kids⟩ := by rw [List.getElem?_set_ne (Ne.symm h2), List.getElem?_set_ne (Ne.symm h1)]; exact hN1
 obtain ⟨id', cp', o7, a7, c7, m', hv7, go7, cx7, st7, H7, G7⟩ := set_key (s := least) H6 hN6 hwk
 rw [hvl, List.length_set, hll5] at hv7
 cases hv7
 obtain ⟨ak, ck, ok, k1, k2, k3⟩ := rd_at tK6.rd (i := 1) (x := sv least) (by rw [List.getElem?_map, hle1]; rfl)
 rw [lK] at k1
 have hix : ∀ M : Mem, indexAddrE M 1 (.slice (some ak) 4 ck) (I 1) = some (.val (.pointer (some ⟨ak.block, ak.off + 1, none⟩)) M) := fun M => by
  have := indexAddr_at (m := M) (size := 1) (i := 1) (len := 4) (c := ck) (a := ak) (kd := .i64) (by omega)
  simpa using this
 refine ⟨m', σ6, ns6, callX_of (call_go (F := _) rfl rfl fun Q hQ => ?_), by subst hls1; rw [List.set_set] at H7; exact H7, G1.trans ((Gr.nx fP).trans ((Gr.new cc4 s2).trans ((Gr.nx f12).trans ((Gr.new ce4 t2).trans ((Gr.new cg4 u2).trans (G5.trans (G6.trans G7)))))))⟩
 have hq5 : binE Try.prog .quo 3 (I 5) (I 2) M4 = some (.val (I 2) M4) := by kernel_rfl
 have n2' : ((2 : Nat) : Int) = 2 := rfl
 have n1' : ((1 : Nat) : Int) = 1 := rfl
 have wr1 : IntKind.i64.wrap (2 - 1) = 1 := wrap_i64 (by omega) (by omega)
 have wr2 : IntKind.i64.wrap 1 = 1 := wrap_i64 (by omega) (by omega)
 have re4' : storeE R2 3 (Pn id ia) (.agg ⟨[.slice p0 a0 c0, .slice none 0 0, .slice p1 a1 c1]⟩) = some (.skip R3) := re4
 have rf4' : storeE S2 3 (Pn id ib) (.agg ⟨[.slice p2 a2 c2, .slice none 0 0, .slice p3 a3 c3]⟩) = some (.skip S3) := rf4
 have bt1 := btwo (m := M1) (p := pa0) (q := pb0) (a := (A1.fld 0).length) (b := xa0) (c := (B.fld 0).length) (d := xb0)
 have bt2 := btwo (m := M2) (p := pa1) (q := pb1) (a := (A1.fld 1).length) (b := xa1) (c := (B.fld 1).length) (d := xb1)
 have bt3 := btwo (m := P1) (p := pa2) (q := pb2) (a := (A1.fld 2).length) (b := xa2) (c := (B.fld 2).length) (d := xb2)
 rw [hMP] at bt1
 rw [hP1] at bt2
 rw [hP2] at bt3
 obtain ⟨q3, x3, rfl⟩ := u1.slice
 obtain ⟨q2, x2, rfl⟩ := t1.slice
 obtain ⟨g0, g1, g2, rfl⟩ := sliceE_slice y1
 obtain ⟨g3, g4, g5, rfl⟩ := sliceE_slice y4
 obtain ⟨g6, g7, g8, rfl⟩ := sliceE_slice z1
 obtain ⟨g9, g10, g11, rfl⟩ := sliceE_slice z4
 simp only [n1', n2'] at y1 y4 y4' z1 z4 z4'
 have c0k := nd.c0
 obtain ⟨ek, eck, eok, ek1, ek2, ek3⟩ := nd.keyAt (w := w) hs
 have c72 := bone72 (m := m) (x := s)
 rw [hmA] at c72
 have fA : Nx m mA := hmA ▸ .push
 obtain ⟨idp, cpp, op, avp, bvp, cvp, hvlp, ndr⟩ := (h.nx fA).node hN
 rw [hvl] at hvlp
 cases hvlp
 have hz := ndr.get
 rw [p2'] at hz
 cases hz
 have hz := ndr.c0
 rw [c0k] at hz
 cases hz
 obtain ⟨ak', ck', ok', ek1', ek2', ek3'⟩ := ndr.keyAt (w := w) hs
 rw [ek1] at ek1'
 cases ek1'
 subst ek1
 subst k1 d1 hvl
 simp only [↓tbS, Nat.reduceShiftRight, Nat.reduceAnd, Nat.reduceBneDiff, bne_self_eq_false, symA, go_opsd, symB, X.put, X.look, Arg.ev, keepOf, restrict, evs, evO, initEnv, noTup, cls, quiet, Nat.reduceAdd, Nat.reduceEqDiff, ↓reduceIte, reduceCtorEq, eq_self, Int.reduceSub, ht, hgo, hc2, hwl, hwl', d2, d3, d3', w1, hial, hibl, goR_call sa, goR_call sb, w2, nle, goR_call hlf0, p3', c0k, ek2, ek3, ek2', ek3', c72, p2', p5', p6', p7', go1, cl0, cm0, bt1, goDV3c cc1, go2, cl1, cm1, cl2, cm2, bt2, bt3, goP1, goP2, goMP, goM3, goDV3c ce1, goDV3c cg1, goR_call sa4, goR_call sb4, hq5, goR_call lf4, wr2, y1, y4, y4', goDV3c re1, goDV3c re3, build02, re4', z1, z4, z4', goDV3c rf1, goDV3c rf3, rf4', go7, cx7, hwk]
 rw [hix]
 simp only [symA, symB, X.put, X.look, Arg.ev, keepOf, restrict, cls, quiet, Nat.reduceEqDiff, ↓reduceIte, eq_self, Nat.reducePow, Nat.reduceDiv, Nat.reduceMod, go7, cx7, k2, k3, hwk, st7]
 exact hQ _ _ _ rfl ⟨rfl, rfl⟩
end
section
variable {R : RepT} {lo hi : Option Key} {s : Key} {ks1 ks2 : List Key} {kids1 kids2 : List Nat} {e1 e2 es : List Ent} {J J1 J2 : List Nat} {ls ls' : List Nd} {h a b i ia ib : Nat} {N A B : Nd}
theorem Row.join (h1 : Row R lo (some s) ks1 kids1 e1 J1) (h2 : Row R (some s) hi ks2 kids2 e2 J2) : Row R lo hi (ks1 ++ s :: ks2) (kids1 ++ kids2) (e1 ++ e2) (J1 ++ J2) := by
 generalize hm : some s = mid at h1
 induction h1 with
 | one h => subst hm; exact .cons h h2
 | cons h t ih =>
  have := Row.cons h (ih hm)
  simpa [List.append_assoc] using this
theorem Rep.head (hr : Rep ls a b h i lo hi es J) : ∃ J', J = i :: J' := by
 cases h with
 | zero => obtain ⟨_, rfl, _⟩ := hr; exact ⟨[], rfl⟩
 | succ _ => obtain ⟨_, _, J', _, rfl, _⟩ := hr; exact ⟨J', rfl⟩
def mergeN (h : Nat) (s : Key) (A B : Nd) : Nd := ⟨if h = 0 then A.keys ++ B.keys else A.keys ++ [s] ++ B.keys, A.nums ++ B.nums, A.kids ++ B.kids⟩
theorem Rep.kind (hr : Rep ls a b h i lo hi es J) (hN : ls[i]? = some N) : (h = 0 → N.kids = [] ∧ N.nums.length = N.keys.length ∧ N.size = N.keys.length) ∧ (h ≠ 0 → N.nums = [] ∧ N.kids.length = N.keys.length + 1 ∧ N.size = N.kids.length) ∧ a ≤ N.size ∧ N.size ≤ b := by
 obtain ⟨N', q1, q2, q3, _⟩ := hr.sz
 rw [hN] at q1
 cases q1
 cases h with
 | zero =>
  obtain ⟨h1, _⟩ := hr
  rw [h1] at hN
  cases hN
  exact ⟨fun _ => ⟨rfl, by simp, by simp [Nd.size]⟩, fun q => absurd rfl q, q2, q3⟩
 | succ h =>
  obtain ⟨ks, kids, J', h1, _, h3, _⟩ := hr
  rw [h1] at hN
  cases hN
  have := h3.len
  refine ⟨fun q => by omega, fun _ => ⟨rfl, this, ?_⟩, q2, q3⟩
  unfold Nd.size
  rw [if_neg (by show ¬ kids.length = 0; omega)]
theorem mergeP (r1 : Rep ls 1 4 h ia lo (some s) e1 (ia :: J1)) (r2 : Rep ls 1 4 h ib (some s) hi e2 (ib :: J2)) (hA : ls[ia]? = some A) (hB : ls[ib]? = some B) :
  (mergeN h s A B).size = A.size + B.size ∧ ∀ ls' : List Nd, ls'[ia]? = some (mergeN h s A B) → (∀ j ∈ J1 ++ J2, ls'[j]? = ls[j]?) → Rep ls' 1 8 h ia lo hi (e1 ++ e2) (ia :: (J1 ++ J2)) := by
 have g1 : GoodR (Rep ls 1 4 h) := fun _ _ _ _ _ hc => Rep.good (by omega) hc
 have gd := (Row.cons r1 (.one r2)).good g1
 have k1 := r1.kind hA
 have k2 := r2.kind hB
 cases h with
 | zero =>
  obtain ⟨a1, a2, a3, a4, a5, a6⟩ := r1
  obtain ⟨b1, b2, b3, b4, b5, b6⟩ := r2
  rw [a1] at hA
  cases hA
  rw [b1] at hB
  cases hB
  have ej1 : J1 = [] := by simpa using a2
  have ej2 : J2 = [] := by simpa using b2
  subst ej1 ej2
  refine ⟨by simp [mergeN, Nd.size], fun ls' hm _ => ⟨?_, rfl, gd.1, gd.2.1, by rw [List.length_append]; omega, by rw [List.length_append]; omega⟩⟩
  rw [hm]
  simp [mergeN]
 | succ h =>
  obtain ⟨ks1, kids1, J1', a1, a2, a3, a4, a5⟩ := r1
  obtain ⟨ks2, kids2, J2', b1, b2, b3, b4, b5⟩ := r2
  rw [a1] at hA
  cases hA
  rw [b1] at hB
  cases hB
  simp only [List.cons.injEq, true_and] at a2 b2
  subst a2 b2
  refine ⟨?_, fun ls' hm hf => ⟨ks1 ++ s :: ks2, kids1 ++ kids2, _, by rw [hm]; simp [mergeN], rfl, (a3.join b3).frame hf, by rw [List.length_append]; omega, by rw [List.length_append]; omega⟩⟩
  rw [(k1.2.1 (by omega)).2.2, (k2.2.1 (by omega)).2.2]
  unfold Nd.size
  rw [if_neg (by show ¬ (kids1 ++ kids2).length = 0; rw [List.length_append]; omega)]
  exact List.length_append
theorem splitP (hr : Rep ls a b h i lo hi es (i :: J)) (hN : ls[i]? = some N) (h5 : N.size = 5) :
  ∃ least e1 e2 J1 J2, es = e1 ++ e2 ∧ J = J1 ++ J2 ∧ N.keys[if h = 0 then 2 else 1]? = some least ∧ Inb lo hi least ∧ ∀ (ls' : List Nd) (k : Nat), ls'[i]? = some ⟨N.keys.take (if h = 0 then 2 else 1), N.nums.take 2, N.kids.take 2⟩ → ls'[k]? = some ⟨N.keys.drop 2, N.nums.drop 2, N.kids.drop 2⟩ → (∀ j ∈ J, ls'[j]? = ls[j]?) →
   Rep ls' 2 4 h i lo (some least) e1 (i :: J1) ∧ Rep ls' 2 4 h k (some least) hi e2 (k :: J2) := by
 cases h with
 | zero =>
  obtain ⟨h1, hj, h3, h4, h6, h7⟩ := hr
  rw [h1] at hN
  cases hN
  have ej : J = [] := by simpa using hj
  subst ej
  have hlen : es.length = 5 := by simpa [Nd.size] using h5
  obtain ⟨x, hx⟩ : ∃ x, es[2]? = some x := ⟨_, List.getElem?_eq_getElem (by omega)⟩
  have hd : es.drop 2 = x :: es.drop 3 := by
   obtain ⟨hl, hv⟩ := List.getElem?_eq_some_iff.1 hx
   rw [← hv]; exact List.drop_eq_getElem_cons hl
  obtain ⟨p1, p2, p3⟩ := List.pairwise_append.1 (by rw [List.take_append_drop 2 es]; exact h3 : SortE (es.take 2 ++ es.drop 2))
  have p4 := List.pairwise_cons.1 (hd ▸ p2)
  have hx2 : x ∈ es.drop 2 := by rw [hd]; simp
  refine ⟨x.1, es.take 2, es.drop 2, [], [], (List.take_append_drop 2 es).symm, rfl, ?_, h4 x (List.mem_of_getElem? hx), fun ls' k q1 q2 _ => ⟨⟨?_, rfl, p1, fun e he => ⟨(h4 e (List.mem_of_mem_take he)).1, fun q hq => ?_⟩, ?_, ?_⟩, ⟨?_, rfl, p2, fun e he => ⟨fun q hq => ?_, (h4 e (List.mem_of_mem_drop he)).2⟩, ?_, ?_⟩⟩⟩
  ·rw [if_pos rfl]; show (es.map (·.1))[2]? = _; rw [List.getElem?_map, hx]; rfl
  ·rw [q1, if_pos rfl]; simp
  ·cases hq; exact p3 e he x hx2
  ·rw [List.length_take]; omega
  ·rw [List.length_take]; omega
  ·rw [q2]; simp
  ·cases hq
   rw [hd] at he
   rcases List.mem_cons.1 he with rfl | he
   ·exact ltT_irrefl _
   ·exact ltT_asymm (p4.1 e he)
  ·rw [List.length_drop]; omega
  ·rw [List.length_drop]; omega
 | succ h =>
  obtain ⟨ks, kids, J', h1, hj, h3, h4, h6⟩ := hr
  rw [h1] at hN
  cases hN
  simp only [List.cons.injEq, true_and] at hj
  subst hj
  have hkl := h3.len
  have hlen : kids.length = 5 := by
   unfold Nd.size at h5
   rw [if_neg (by show ¬ kids.length = 0; omega)] at h5
   exact h5
  obtain ⟨k, e1, e2, J1, J2, hk, r1, r2, rfl, rfl⟩ := h3.part (j := 2) (by omega) (by omega)
  refine ⟨k, e1, e2, J1, J2, rfl, rfl, by rw [if_neg (by omega)]; exact hk, ?_, fun ls' k' q1 q2 hf => ⟨⟨ks.take 1, kids.take 2, J1, by rw [q1, if_neg (by omega)]; simp, rfl, r1.frame fun j hj => hf j (by simp [hj]), ?_, ?_⟩, ⟨ks.drop 2, kids.drop 2, J2, by rw [q2]; simp, rfl, r2.frame fun j hj => hf j (by simp [hj]), ?_, ?_⟩⟩⟩
  ·obtain ⟨y, hy⟩ := List.exists_mem_of_ne_nil _ (r2.good goodRep).2.2
   obtain ⟨z, hz⟩ := List.exists_mem_of_ne_nil _ (r1.good goodRep).2.2
   have hy1 := (r2.good goodRep).2.1 y hy
   have hz1 := (r1.good goodRep).2.1 z hz
   refine ⟨fun l hl q => hz1.1 l hl (ltT_trans (hz1.2 k rfl) q), fun h' hh => ?_⟩
   rcases ltT_total (hy1.1 k rfl) with e | e
   ·rw [← e]; exact hy1.2 h' hh
   ·exact ltT_trans e (hy1.2 h' hh)
  ·rw [List.length_take]; omega
  ·rw [List.length_take]; omega
  ·rw [List.length_drop]; omega
  ·rw [List.length_drop]; omega
end
theorem Chg.drop {ls : List Nd} {fr JA JB : List Nat} {ib : Nat} (hg : Good ls fr (JA ++ ib :: JB)) (hl : ib < ls.length) : Chg ls fr (JA ++ ib :: JB) (ls.set ib noNd) (fr ++ [ib]) (JA ++ JB) 0 := by
 have hib : ib ∉ fr := hg.dis ib (by simp)
 have hm : (ib :: (JA ++ JB)).Nodup := (List.perm_middle (l₁ := JA) (a := ib) (l₂ := JB)).nodup_iff.1 hg.nd
 obtain ⟨n1, n2⟩ := List.nodup_cons.1 hm
 have hin : ∀ j, j ∈ JA ++ JB → j ∈ JA ++ ib :: JB := fun j hj => by
  rcases List.mem_append.1 hj with hj | hj <;> simp [hj]
 refine ⟨⟨n2, List.nodup_append.2 ⟨hg.fn, by simp, fun x hx y hy e => ?_⟩, fun j hj => ?_, fun j hj q => ?_⟩, fun j hj => ?_, fun j hj => .inl (hin j hj), fun j h1 h2 h3 => List.getElem?_set_ne fun (e : ib = j) => h2 (by rw [← e]; simp), by simp, by simp⟩
 ·have : y = ib := by simpa using hy
  exact hib (by rw [← this, ← e]; exact hx)
 ·rw [List.length_set]
  rcases List.mem_append.1 hj with hj | hj
  ·exact hg.fl j hj
  ·have : j = ib := by simpa using hj
   omega
 ·rcases List.mem_append.1 q with q | q
  ·exact hg.dis j (hin j hj) q
  ·have : j = ib := by simpa using q
   exact n1 (this ▸ hj)
 ·rcases List.mem_append.1 hj with hj | hj
  ·exact .inl hj
  ·have : j = ib := by simpa using hj
   exact .inr (.inl (by simp [this]))
end Go.Proofs.Ytnlmnejellipdaa
namespace Go.Proofs.Ytnlmnejellipdaa
open Go X
set_option maxRecDepth 100000
attribute [local irreducible] X.Go' X.GoO X.GoR X.GoG X.GoC X.GoF X.GoFV X.GoFG X.Ex X.GoD X.GoDV X.GoDG
set_option linter.unusedVariables false
set_option linter.unusedSimpArgs false
section
variable {σ : Nat → Tag} {m : Mem} {p : Nat} {vl vf : Value} {ns : List (Nat → Value)} {ls : List Nd} {fr : List Nat} {root n : Int}
theorem kind_len {h a i : Nat} {lo hi : Option Key} {es : List Ent} {J : List Nat} {N : Nd} (hr : Rep ls a 4 h i lo hi es J) (hN : ls[i]? = some N) : ∀ f, f < 3 → (N.fld f).length ≤ 4 := by
 obtain ⟨k1, k2, k3, k4⟩ := hr.kind hN
 have l0 : (N.fld 0).length = N.keys.length := List.length_map ..
 have l1 : (N.fld 1).length = N.nums.length := List.length_map ..
 have l2 : (N.fld 2).length = N.kids.length := List.length_map ..
 intro f hf
 by_cases h0 : h = 0
 ·obtain ⟨q1, q2, q3⟩ := k1 h0
  have : N.kids.length = 0 := by rw [q1]; rfl
  have hc : f = 0 ∨ f = 1 ∨ f = 2 := by omega
  rcases hc with rfl | rfl | rfl <;> omega
 ·obtain ⟨q1, q2, q3⟩ := k2 h0
  have : N.nums.length = 0 := by rw [q1]; rfl
  have hc : f = 0 ∨ f = 1 ∨ f = 2 := by omega
  rcases hc with rfl | rfl | rfl <;> omega
theorem join_any {h i ia ib w id cp : Nat} {lo lo' hi hi' : Option Key} {e1 e2 : List Ent} {J1 J2 : List Nat} {ks : List Key} {kids : List Nat} {A B : Nd} {s : Key} (ht : TMH [] σ m p vl vf ns ls fr root n) (hvl : vl = .slice (some ⟨id, 0, some 0⟩) ls.length cp) (hN : ls[i]? = some ⟨ks, [], kids⟩) (hka : kids[w]? = some ia) (hkb : kids[w + 1]? = some ib) (hs : ks[w]? = some s) (r1 : Rep ls 1 4 h ia lo hi e1 J1) (r2 : Rep ls 1 4 h ib lo' hi' e2 J2) (hA : ls[ia]? = some A) (hB : ls[ib]? = some B)
  (h1 : i ≠ ia) (h2 : i ≠ ib) (h3 : ia ≠ ib) (hks : ks.length ≤ 900) (hkd : kids.length ≤ 900) (hsz : A.size + B.size ≤ 4) (hfl : fr.length ≤ 99990) :
  ∃ m' σ' vf' ns', Ca 75 [Pt p, Pn id i, nv (w + 1)] m (.tuple #[]) m' ∧ TMH [] σ' m' p vl vf' ns' (((ls.set ia (mergeN h s A B)).set i ⟨ks.eraseIdx w, [], kids.eraseIdx (w + 1)⟩).set ib noNd) (fr ++ [ib]) root n ∧ Gr σ σ' m m' := by
 have kl1 := kind_len r1 hA
 have kl2 := kind_len r2 hB
 obtain ⟨k1, k2, k3, k4⟩ := r1.kind hA
 have hl : ∀ f, f < 3 → (A.fld f).length + (B.fld f).length ≤ 900 := fun f hf => by have := kl1 f hf; have := kl2 f hf; omega
 have hwl : w + 1 < kids.length := (List.getElem?_eq_some_iff.1 hkb).1
 cases h with
 | zero =>
  obtain ⟨q1, q2, q3⟩ := k1 rfl
  obtain ⟨m', σ', vf', ns', c1, c2, c3⟩ := joinL ht hvl hN hka hkb hs hA hB h1 h2 h3 (by rw [q1]; rfl) hks hkd hl hfl
  exact ⟨m', σ', vf', ns', mend_join ht hvl hN hka hkb hA hB hsz (by omega) c1, c2, c3⟩
 | succ h =>
  obtain ⟨q1, q2, q3⟩ := k2 (by omega)
  obtain ⟨m', σ', vf', ns', c1, c2, c3⟩ := joinN ht hvl hN hka hkb hs hA hB h1 h2 h3 (by omega) hks hkd hl hfl
  exact ⟨m', σ', vf', ns', mend_join ht hvl hN hka hkb hA hB hsz (by omega) c1, c2, c3⟩
theorem rot_any {h i ia ib w id cp : Nat} {lo lo' hi hi' : Option Key} {e1 e2 : List Ent} {J1 J2 : List Nat} {ks : List Key} {kids : List Nat} {A B : Nd} {s least : Key} (ht : TMH [] σ m p vl vf ns ls fr root n) (hvl : vl = .slice (some ⟨id, 0, some 0⟩) ls.length cp) (hN : ls[i]? = some ⟨ks, [], kids⟩) (hka : kids[w]? = some ia) (hkb : kids[w + 1]? = some ib) (hs : ks[w]? = some s) (r1 : Rep ls 1 4 h ia lo hi e1 J1) (r2 : Rep ls 1 4 h ib lo' hi' e2 J2) (hA : ls[ia]? = some A) (hB : ls[ib]? = some B)
  (h1 : i ≠ ia) (h2 : i ≠ ib) (h3 : ia ≠ ib) (hkd : kids.length ≤ 900) (hsz : A.size + B.size = 5) (hle : (mergeN h s A B).keys[if h = 0 then 2 else 1]? = some least) :
  ∃ m' σ' ns', Ca 75 [Pt p, Pn id i, nv (w + 1)] m (.tuple #[]) m' ∧ TMH [] σ' m' p vl vf ns' (((ls.set ia ⟨(mergeN h s A B).keys.take (if h = 0 then 2 else 1), (mergeN h s A B).nums.take 2, (mergeN h s A B).kids.take 2⟩).set ib ⟨(mergeN h s A B).keys.drop 2, (mergeN h s A B).nums.drop 2, (mergeN h s A B).kids.drop 2⟩).set i ⟨ks.set w least, [], kids⟩) fr root n ∧ Gr σ σ' m m' := by
 obtain ⟨k1, k2, k3, k4⟩ := r1.kind hA
 obtain ⟨l1, l2, l3, l4⟩ := r2.kind hB
 have hwl : w + 1 < kids.length := (List.getElem?_eq_some_iff.1 hkb).1
 cases h with
 | zero =>
  obtain ⟨q1, q2, q3⟩ := k1 rfl
  obtain ⟨o1, o2, o3⟩ := l1 rfl
  obtain ⟨m', σ', ns', c1, c2, c3⟩ := rotL ht hvl hN hka hkb hs hA hB h1 h2 h3 (by rw [q1]; rfl) hsz (by omega) (by rw [List.length_append]; omega) (by rw [List.length_append]; omega) (by rw [q1, o1]; simp) hle
  refine ⟨m', σ', ns', c1, ?_, c3⟩
  have e : (mergeN 0 s A B).kids = [] := by show A.kids ++ B.kids = []; rw [q1, o1]; rfl
  rw [e]
  exact c2
 | succ h =>
  obtain ⟨q1, q2, q3⟩ := k2 (by omega)
  obtain ⟨o1, o2, o3⟩ := l2 (by omega)
  obtain ⟨m', σ', ns', c1, c2, c3⟩ := rotN ht hvl hN hka hkb hs hA hB h1 h2 h3 (by omega) hsz (by omega) (by simp only [List.length_append, List.length_singleton]; omega) (by rw [List.length_append]; omega) (by rw [q1, o1]; simp) hle
  refine ⟨m', σ', ns', c1, ?_, c3⟩
  have e : (mergeN (h + 1) s A B).nums = [] := by show A.nums ++ B.nums = []; rw [q1, o1]; rfl
  rw [e]
  exact c2
theorem erase_at {α : Type} {A B : List α} {x : α} {k : Nat} (hk : k = A.length) : (A ++ x :: B).eraseIdx k = A ++ B := by
 subst hk
 rw [List.eraseIdx_eq_take_drop_succ, List.take_left' rfl]
 congr 1
 have e : A ++ x :: B = (A ++ [x]) ++ B := by simp
 rw [e, List.drop_left' (by simp)]
theorem mend_spec {h i ia ib id cp : Nat} {lo lo' hi hi' : Option Key} {eA e1 e2 eB : List Ent} {JA J1 J2 JB : List Nat} {KA KB : List Key} {A B : List Nat} {NA NB : Nd} {s : Key} (ht : TMH [] σ m p vl vf ns ls fr root n) (hvl : vl = .slice (some ⟨id, 0, some 0⟩) ls.length cp) (hN : ls[i]? = some ⟨KA ++ s :: KB, [], A ++ ia :: ib :: B⟩)
  (z1 : Left (Rep ls 2 4 h) lo lo' KA A eA JA) (r1 : Rep ls 1 4 h ia lo' (some s) e1 J1) (r2 : Rep ls 1 4 h ib (some s) hi' e2 J2) (z3 : Right (Rep ls 2 4 h) hi' hi KB B eB JB) (hg : Good ls fr (i :: (JA ++ (J1 ++ (J2 ++ JB))))) (hA : ls[ia]? = some NA) (hB : ls[ib]? = some NB) (hs1 : 3 ≤ NA.size + NB.size) (hs2 : NA.size + NB.size ≤ 5) (hkd : (A ++ ia :: ib :: B).length ≤ 5) (hfl : fr.length ≤ 99990) :
  ∃ m' σ' vf' ns' ls' fr' ks' kids' J', Ca 75 [Pt p, Pn id i, nv (A.length + 1)] m (.tuple #[]) m' ∧ TMH [] σ' m' p vl vf' ns' ls' fr' root n ∧ Gr σ σ' m m' ∧ ls'[i]? = some ⟨ks', [], kids'⟩ ∧ Row (Rep ls' 2 4 h) lo hi ks' kids' (eA ++ (e1 ++ (e2 ++ eB))) J' ∧
   (A ++ ia :: ib :: B).length ≤ kids'.length + 1 ∧ kids'.length ≤ (A ++ ia :: ib :: B).length ∧ Chg ls fr (i :: (JA ++ (J1 ++ (J2 ++ JB)))) ls' fr' (i :: J') 0 := by
 obtain ⟨J1, rfl⟩ := r1.head
 obtain ⟨J2, rfl⟩ := r2.head
 have hAl := z1.len
 have hBl := z3.len
 have hil : i < ls.length := (List.getElem?_eq_some_iff.1 hN).1
 have hial : ia < ls.length := (List.getElem?_eq_some_iff.1 hA).1
 have hibl : ib < ls.length := (List.getElem?_eq_some_iff.1 hB).1
 have hJ : i :: (JA ++ (ia :: J1 ++ (ib :: J2 ++ JB))) = (i :: (JA ++ ia :: J1)) ++ ib :: (J2 ++ JB) := by simp
 have hJ2 : (i :: (JA ++ (ia :: J1 ++ (ib :: J2 ++ JB)))).Perm (i :: ia :: ib :: (JA ++ (J1 ++ (J2 ++ JB)))) := by
  refine .cons _ ?_
  refine (List.perm_middle (l₁ := JA) (a := ia) (l₂ := J1 ++ (ib :: J2 ++ JB))).trans (.cons _ ?_)
  have e : JA ++ (J1 ++ (ib :: J2 ++ JB)) = (JA ++ J1) ++ ib :: (J2 ++ JB) := by simp
  rw [e]
  refine (List.perm_middle (l₁ := JA ++ J1) (a := ib) (l₂ := J2 ++ JB)).trans (.cons _ ?_)
  rw [List.append_assoc]
 have hnd := hJ2.nodup_iff.1 hg.nd
 obtain ⟨n1, n2⟩ := List.nodup_cons.1 hnd
 obtain ⟨n3, n4⟩ := List.nodup_cons.1 n2
 obtain ⟨n5, n6⟩ := List.nodup_cons.1 n4
 have h1 : i ≠ ia := fun e => n1 (by simp [e])
 have h2 : i ≠ ib := fun e => n1 (by simp [e])
 have h3 : ia ≠ ib := fun e => n3 (by simp [e])
 have ne : ∀ j ∈ JA ++ (J1 ++ (J2 ++ JB)), i ≠ j ∧ ia ≠ j ∧ ib ≠ j := fun j hj => ⟨fun e => n1 (by rw [e]; exact List.mem_cons.2 (.inr (List.mem_cons.2 (.inr hj)))), fun e => n3 (by rw [e]; exact List.mem_cons.2 (.inr hj)), fun e => n5 (by rw [e]; exact hj)⟩
 have hka : (A ++ ia :: ib :: B)[A.length]? = some ia := by rw [List.getElem?_append_right (Nat.le_refl _), Nat.sub_self]; rfl
 have hkb : (A ++ ia :: ib :: B)[A.length + 1]? = some ib := by rw [List.getElem?_append_right (by omega)]; simp
 have hks : (KA ++ s :: KB)[A.length]? = some s := by rw [hAl, List.getElem?_append_right (Nat.le_refl _), Nat.sub_self]; rfl
 have hkl : (KA ++ s :: KB).length ≤ 900 := by
  simp only [List.length_append, List.length_cons] at hkd ⊢
  omega
 obtain ⟨ms, mr⟩ := mergeP r1 r2 hA hB
 by_cases hsum : NA.size + NB.size ≤ 4
 ·obtain ⟨m', σ', vf', ns', c1, c2, c3⟩ := join_any ht hvl hN hka hkb hks r1 r2 hA hB h1 h2 h3 hkl (by omega) hsum hfl
  rw [erase_at hAl] at c2
  have eB' : (A ++ ia :: ib :: B).eraseIdx (A.length + 1) = A ++ ia :: B := by
   have e : A ++ ia :: ib :: B = (A ++ [ia]) ++ ib :: B := by simp
   rw [e, erase_at (by simp)]; simp
  rw [eB'] at c2
  have hfrm : ∀ j ∈ JA ++ (J1 ++ (J2 ++ JB)), (((ls.set ia (mergeN h s NA NB)).set i ⟨KA ++ KB, [], A ++ ia :: B⟩).set ib noNd)[j]? = ls[j]? := fun j hj => by
   obtain ⟨q1, q2, q3⟩ := ne j hj
   rw [List.getElem?_set_ne q3, List.getElem?_set_ne q1, List.getElem?_set_ne q2]
  have hM : (((ls.set ia (mergeN h s NA NB)).set i ⟨KA ++ KB, [], A ++ ia :: B⟩).set ib noNd)[ia]? = some (mergeN h s NA NB) := by
   rw [List.getElem?_set_ne (Ne.symm h3), List.getElem?_set_ne h1, List.getElem?_set_self hial]
  have R := mr _ hM fun j hj => hfrm j (by
   rcases List.mem_append.1 hj with hj | hj <;> simp [hj])
  obtain ⟨M', e1', _, _, R'⟩ := R.sz
  rw [hM] at e1'
  cases e1'
  have R2 := R' 2 4 (by omega) (by omega)
  refine ⟨m', σ', vf', ns', _, _, KA ++ KB, A ++ ia :: B, JA ++ ((ia :: (J1 ++ J2)) ++ JB), c1, c2, c3, ?_, ?_, by simp only [List.length_append, List.length_cons]; omega, by simp only [List.length_append, List.length_cons]; omega, ?_⟩
  ·rw [List.getElem?_set_ne (Ne.symm h2), List.getElem?_set_self (by rw [List.length_set]; exact hil)]
  ·have := (z1.frame (ls' := ((ls.set ia (mergeN h s NA NB)).set i ⟨KA ++ KB, [], A ++ ia :: B⟩).set ib noNd) fun j hj => hfrm j (by simp [hj])).plug (Right.plug R2 (z3.frame fun j hj => hfrm j (by simp [hj])))
   simpa [List.append_assoc] using this
  ·have C1 := Chg.set (N := mergeN h s NA NB) (i := ia) hg (by simp)
   have C2 := Chg.set (N := ⟨KA ++ KB, [], A ++ ia :: B⟩) (i := i) C1.good (by simp)
   have g3 := C2.good
   rw [hJ] at g3
   have C3 := Chg.drop g3 (by simp; exact hibl)
   rw [← hJ] at C3
   have := C1.trans (C2.trans C3)
   simpa [List.append_assoc] using this
 ·have hs5 : NA.size + NB.size = 5 := by omega
  have hMl : (ls.set ia (mergeN h s NA NB))[ia]? = some (mergeN h s NA NB) := List.getElem?_set_self hial
  have R := mr _ hMl fun j hj => List.getElem?_set_ne (ne j (by
   rcases List.mem_append.1 hj with hj | hj <;> simp [hj])).2.1
  obtain ⟨least, e3, e4, J3, J4, q1, q2, q3, q4, q5⟩ := splitP R hMl (by rw [ms]; exact hs5)
  obtain ⟨m', σ', ns', c1, c2, c3⟩ := rot_any ht hvl hN hka hkb hks r1 r2 hA hB h1 h2 h3 (by omega) hs5 q3
  have eK : (KA ++ s :: KB).set A.length least = KA ++ least :: KB := by rw [hAl]; simp
  rw [eK] at c2
  obtain ⟨N1, hN1⟩ : ∃ N, Nd.mk ((mergeN h s NA NB).keys.take (if h = 0 then 2 else 1)) ((mergeN h s NA NB).nums.take 2) ((mergeN h s NA NB).kids.take 2) = N := ⟨_, rfl⟩
  obtain ⟨N2, hN2⟩ : ∃ N, Nd.mk ((mergeN h s NA NB).keys.drop 2) ((mergeN h s NA NB).nums.drop 2) ((mergeN h s NA NB).kids.drop 2) = N := ⟨_, rfl⟩
  rw [hN1, hN2] at c2
  rw [hN1, hN2] at q5
  have hfrm : ∀ j ∈ JA ++ (J1 ++ (J2 ++ JB)), (((ls.set ia N1).set ib N2).set i ⟨KA ++ least :: KB, [], A ++ ia :: ib :: B⟩)[j]? = ls[j]? := fun j hj => by
   obtain ⟨q1, q2, q3⟩ := ne j hj
   rw [List.getElem?_set_ne q1, List.getElem?_set_ne q3, List.getElem?_set_ne q2]
  have hinJ : ∀ j, j ∈ J1 ++ J2 → j ∈ JA ++ (J1 ++ (J2 ++ JB)) := fun j hj => by
   rcases List.mem_append.1 hj with hj | hj <;> simp [hj]
  obtain ⟨R1, R2⟩ := q5 (((ls.set ia N1).set ib N2).set i ⟨KA ++ least :: KB, [], A ++ ia :: ib :: B⟩) ib (by rw [List.getElem?_set_ne h1, List.getElem?_set_ne (Ne.symm h3), List.getElem?_set_self hial]) (by rw [List.getElem?_set_ne h2, List.getElem?_set_self (by rw [List.length_set]; exact hibl)]) fun j hj => by
   rw [hfrm j (hinJ j hj), List.getElem?_set_ne (ne j (hinJ j hj)).2.1]
  refine ⟨m', σ', vf, ns', _, _, KA ++ least :: KB, A ++ ia :: ib :: B, JA ++ ((ia :: J3) ++ ((ib :: J4) ++ JB)), c1, c2, c3, ?_, ?_, by omega, by omega, ?_⟩
  ·rw [List.getElem?_set_self (by rw [List.length_set, List.length_set]; exact hil)]
  ·have := (z1.frame (ls' := ((ls.set ia N1).set ib N2).set i ⟨KA ++ least :: KB, [], A ++ ia :: ib :: B⟩) fun j hj => hfrm j (by simp [hj])).plug (.cons R1 (Right.plug R2 (z3.frame fun j hj => hfrm j (by simp [hj]))))
   have e : e1 ++ (e2 ++ eB) = e3 ++ (e4 ++ eB) := by rw [← List.append_assoc, q1, List.append_assoc]
   rw [e]
   exact this
  ·have C1 := Chg.set (N := N1) (i := ia) hg (by simp)
   have C2 := Chg.set (N := N2) (i := ib) C1.good (by simp)
   have C3 := Chg.set (N := ⟨KA ++ least :: KB, [], A ++ ia :: ib :: B⟩) (i := i) C2.good (by simp)
   refine (C1.trans (C2.trans C3)).perm (.cons _ (.append_left _ (.cons _ ?_)))
   show (J1 ++ ib :: (J2 ++ JB)).Perm (J3 ++ ib :: (J4 ++ JB))
   refine (List.perm_middle (l₁ := J1)).trans (.trans (.cons _ ?_) (List.perm_middle (l₁ := J3)).symm)
   rw [← List.append_assoc, q2, List.append_assoc]
end
end Go.Proofs.Ytnlmnejellipdaa
namespace Go.Proofs.Ytnlmnejellipdaa
open Go X
set_option maxRecDepth 100000
attribute [local irreducible] X.Go' X.GoO X.GoR X.GoG X.GoC X.GoF X.GoFV X.GoFG X.Ex X.GoD X.GoDV X.GoDG
set_option linter.unusedVariables false
set_option linter.unusedSimpArgs false
section
variable {R : RepT} {lo hi : Option Key} {σ : Nat → Tag} {m : Mem} {p : Nat} {vl vf : Value} {ns : List (Nat → Value)} {ls : List Nd} {fr : List Nat} {root n : Int}
theorem Right.uncons {hi' : Option Key} {KB : List Key} {b : Nat} {B : List Nat} {eB : List Ent} {JB : List Nat} (h : Right R hi' hi KB (b :: B) eB JB) : ∃ k KB' hi2 e J eB' JB', KB = k :: KB' ∧ hi' = some k ∧ R b (some k) hi2 e J ∧ Right R hi2 hi KB' B eB' JB' ∧ eB = e ++ eB' ∧ JB = J ++ JB' := by
 cases h with
 | cons t =>
  cases t with
  | one h => exact ⟨_, _, _, _, _, _, _, rfl, rfl, h, .nil, by simp, by simp⟩
  | cons h t => exact ⟨_, _, _, _, _, _, _, rfl, rfl, h, .cons t, rfl, rfl⟩
theorem erase_map {α β : Type} (f : α → β) (l : List α) (k : Nat) : (l.eraseIdx k).map f = (l.map f).eraseIdx k := by
 rw [List.eraseIdx_eq_take_drop_succ, List.eraseIdx_eq_take_drop_succ, List.map_append, List.map_take, List.map_drop]
theorem del_len {key : Key} {es : List Ent} (hs : SortE es) (hh : hasK key (es.map (·.1)) = true) : delE key es = es.eraseIdx (posK key (es.map (·.1))) ∧ (delE key es).length + 1 = es.length ∧ posK key (es.map (·.1)) < es.length := by
 obtain ⟨h1, _, h3⟩ := cutE (k := key) hs
 obtain ⟨v, q1, q2⟩ := h3 hh
 have hl := (List.getElem?_eq_some_iff.1 q1).1
 have e : delE key es = es.eraseIdx (posK key (es.map (·.1))) := by
  unfold delE
  rw [← h1, ← q2, List.eraseIdx_eq_take_drop_succ]
 exact ⟨e, by rw [e, List.length_eraseIdx_of_lt hl]; omega, hl⟩
theorem delE_sub {key : Key} {es : List Ent} (hs : SortE es) (hh : hasK key (es.map (·.1)) = true) : (delE key es).Sublist es := by
 rw [(del_len hs hh).1]
 exact List.eraseIdx_sublist ..
theorem hasK_mid {key : Key} {eA es eB : List Ent} (hA : ∀ x ∈ eA, ltT x.1 key) (hB : ∀ x ∈ eB, ltT key x.1) (hh : hasK key ((eA ++ (es ++ eB)).map (·.1)) = true) : hasK key (es.map (·.1)) = true := by
 unfold hasK at hh ⊢
 obtain ⟨k, hk, hd⟩ := List.any_eq_true.1 hh
 have hke : k = key := of_decide_eq_true hd
 subst hke
 obtain ⟨x, hx, rfl⟩ := List.mem_map.1 hk
 rcases List.mem_append.1 hx with hx | hx
 ·exact absurd (hA x hx) (ltT_irrefl _)
 ·rcases List.mem_append.1 hx with hx | hx
  ·exact List.any_eq_true.2 ⟨x.1, List.mem_map.2 ⟨x, hx, rfl⟩, decide_eq_true rfl⟩
  ·exact absurd (hB x hx) (ltT_irrefl _)
theorem del_spec {key : Key} : ∀ {h a i : Nat} {σ : Nat → Tag} {m : Mem} {vf : Value} {ns : List (Nat → Value)} {ls : List Nd} {fr : List Nat} {lo hi : Option Key} {es : List Ent} {J : List Nat}, TMH [] σ m p vl vf ns ls fr root n → Rep ls a 4 h i lo hi es J → 1 ≤ a → (h ≠ 0 → 2 ≤ a) → Inb lo hi key → hasK key (es.map (·.1)) = true → Good ls fr J → ls.length ≤ 99990 →
    ∃ m' σ' vf' ns' ls' fr' J', Ca 58 [Pt p, nv i, .string key] m (.tuple #[]) m' ∧ TMH [] σ' m' p vl vf' ns' ls' fr' root n ∧ Gr σ σ' m m' ∧ Rep ls' (a - 1) 4 h i lo hi (delE key es) J' ∧ Chg ls fr J ls' fr' J' 0
  | 0, a, i, σ, m, vf, ns, ls, fr, lo, hi, es, J, ht, hr, ha, ha2, hk, hh, hg, hl => by
    obtain ⟨h1, rfl, h3, h4, h6, h7⟩ := hr
    have hsk : SortK (es.map (·.1)) := by
      unfold SortK
      rw [List.pairwise_map]
      exact h3
    obtain ⟨p1, p2, p3⟩ := del_len h3 hh
    have l0 : (Nd.fld ⟨es.map (·.1), es.map (·.2), []⟩ 0).length = es.length := by show ((es.map (·.1)).map sv).length = _; simp
    have l1 : (Nd.fld ⟨es.map (·.1), es.map (·.2), []⟩ 1).length = es.length := by show ((es.map (·.2)).map iv).length = _; simp
    obtain ⟨id, cp, o, q0, c0, q1, c1, mC, mD, mE, mF, v0, v1, ns', hv, gm, gC, f0, f1, a0, a1, s0, s1, hT, hG⟩ := del2 (F := 1) (k0 := posK key (es.map (·.1))) (k1 := posK key (es.map (·.1))) (N' := ⟨(delE key es).map (·.1), (delE key es).map (·.2), []⟩) ht h1 (.inl rfl) (by rw [l0]; exact p3) (by rw [l1]; exact p3) (by rw [l0]; omega) (by rw [l1]; omega)
      (by show ((delE key es).map (·.1)).map sv = ((es.map (·.1)).map sv).eraseIdx _
          rw [p1, erase_map, erase_map])
      (by show ((delE key es).map (·.2)).map iv = ((es.map (·.2)).map iv).eraseIdx _
          rw [p1, erase_map, erase_map]) rfl
    rw [l0] at f0 a0
    rw [l1] at f1 a1
    have hil : i < ls.length := (List.getElem?_eq_some_iff.1 h1).1
    have hsub := delE_sub h3 hh
    refine ⟨mF, σ, vf, ns', _, fr, [i], callX_of (call_go (F := _) rfl rfl fun Q hQ => ?_), hT, hG, ⟨List.getElem?_set_self hil, rfl, h3.sublist hsub, fun e he => h4 e (hsub.subset he), by omega, by omega⟩, Chg.set hg (by simp)⟩
    obtain ⟨id', cp', o', av, bv, cv, hv', nd⟩ := ht.node h1
    rw [hv] at hv'
    cases hv'
    have hl := nd.leaf
    have hl0 : decide ((([] : List Nat).length : Int) = 0) = true := rfl
    rw [hl0] at hl
    have hbs := bs_spec (k := key) nd.r0 hsk (by rw [List.length_map]; omega)
    have z1 := nd.get
    rw [gm] at z1
    cases z1
    have z2 := nd.c0
    rw [f0] at z2
    cases z2
    have htg := ht.get
    have w1 : IntKind.i64.wrap ((posK key (es.map (·.1)) : Int) + 1) = ((posK key (es.map (·.1)) + 1 : Nat) : Int) := by rw [wrap_i64 (by omega) (by omega)]; omega
    subst hv
    simp only [↓tbS, Nat.reduceShiftRight, Nat.reduceAnd, Nat.reduceBneDiff, bne_self_eq_false, symA, go_opsd, symB, X.put, X.look, Arg.ev, keepOf, restrict, evs, initEnv, cls, quiet, Nat.reduceAdd, Nat.reduceEqDiff, ↓reduceIte, reduceCtorEq, eq_self, htg, hil, goR_call hl, gm, f0, goR_call hbs, f1, w1, goDV3c a0, goDV3c a1, gC, s0, s1]
    exact hQ _ _ _ rfl ⟨rfl, rfl⟩
  | h + 1, a, i, σ, m, vf, ns, ls, fr, lo, hi, es, J, ht, hr, ha, ha2, hk, hh, hg, hl => by
    obtain ⟨ks, kids, J', h1, rfl, h3, h4, h5⟩ := hr
    have ha2 := ha2 (by omega)
    have hks := (h3.keys goodRep).1
    have hkl := h3.len
    obtain ⟨KA, A, eA, JA, c, lo', hi', e2, Jc, KB, B, eB, JB, z1, z2, z3, z4, rfl, rfl, rfl, rfl, z9, z10, z11⟩ := h3.way goodRep hk
    have hg' : Good ls fr ((i :: JA) ++ (Jc ++ JB)) := hg
    have hil : i < ls.length := (List.getElem?_eq_some_iff.1 h1).1
    have hJA : ∀ j ∈ i :: JA, j < ls.length := fun j hj => by
      rcases List.mem_cons.1 hj with rfl | hj
      · exact hil
      · exact z1.lt j hj
    have hJB := z3.lt
    have hgc : Good ls fr Jc := hg'.sub ((List.sublist_append_left _ _).trans (List.sublist_append_right _ _))
    obtain ⟨m1, σ1, vf1, ns1, ls1, fr1, Jc1, c1, t1, g1, r1, q1⟩ := del_spec (h := h) ht z2 (by omega) (by omega) z4 (hasK_mid z10 z11 hh) hgc (by omega)
    have Q1 := q1.mid hg' hJA hJB
    obtain ⟨n1, n2, n3⟩ := List.nodup_append.1 hg'.nd
    obtain ⟨n4, n5, n6⟩ := List.nodup_append.1 n2
    have aw : ∀ j, j ∈ i :: JA ∨ j ∈ JB → ls1[j]? = ls[j]? := fun j hj => by
      rcases hj with hj | hj
      · exact q1.out j (hJA j hj) (fun q => n3 j hj j (by simp [q]) rfl) (hg'.dis j (List.mem_append.2 (.inl hj)))
      · exact q1.out j (hJB j hj) (fun q => n6 j q j hj rfl) (hg'.dis j (by simp [hj]))
    obtain ⟨N1, hN1, s1, s2, s3⟩ := r1.sz
    have hAl := z1.len
    
    obtain ⟨id, cp, o, av, bv, cv, hv, nd⟩ := ht.node h1
    have hleaf := nd.leaf
    have hk0 : ¬ (((A ++ c :: B).length : Nat) : Int) = 0 := by simp only [List.length_append, List.length_cons]; omega
    rw [decide_eq_false hk0] at hleaf
    have hway := nd.way (key := key) hks (by show (KA ++ KB).length ≤ 1000; omega)
    have hw9 : wayK key (Nd.mk (KA ++ KB) [] (A ++ c :: B)).keys = A.length := z9
    rw [hw9] at hway
    have hwc : (A ++ c :: B)[A.length]? = some c := by rw [List.getElem?_append_right (Nat.le_refl _), Nat.sub_self]; rfl
    obtain ⟨ac, cc, oc, d1, d2, d3⟩ := nd.kidAt hwc
    have hwl : A.length < (A ++ c :: B).length := (List.getElem?_eq_some_iff.1 hwc).1
    have hc2 := nd.c2
    have hcl : c < ls1.length := (List.getElem?_eq_some_iff.1 hN1).1
    have hN' : ls1[i]? = some ⟨KA ++ KB, [], A ++ c :: B⟩ := by rw [aw i (.inl (by simp))]; exact h1
    obtain ⟨idn, cpn, on, avn, bvn, cvn, hvn, ndn⟩ := t1.node hN'
    obtain ⟨ac', cc', oc', d1', d2', d3'⟩ := ndn.kidAt hwc
    have hc2n := ndn.c2
    have hgn := ndn.get
    obtain ⟨id1, cp1, o1, av1, bv1, cv1, hv1, nd1⟩ := t1.node hN1
    have hsize := nd1.size
    have htg := ht.get
    have htg1 := t1.get
    rw [hv] at hvn hv1
    have hle1 : ls1.length = ls.length := by have := q1.le; have := q1.len; omega
    have e1 : idn = id := by injection hvn with e; injection e with e; injection e with e; exact e.symm
    have e2' : id1 = id := by injection hv1 with e; injection e with e; injection e with e; exact e.symm
    subst e1 e2'
    by_cases h5' : 2 ≤ N1.size
    · have hgt : ¬ (N1.size : Int) < 2 := by omega
      refine ⟨m1, σ1, vf1, ns1, ls1, fr1, i :: (JA ++ (Jc1 ++ JB)), callX_of (call_go (F := _) rfl rfl fun Q hQ => ?_), t1, g1, ⟨KA ++ KB, A ++ c :: B, _, hN', rfl, ?_, by omega, by omega⟩, Q1⟩
      · subst d1 d1' hv
        have hvq : Value.slice (some ⟨id1, 0, some 0⟩) ls.length cp = Value.slice (some ⟨id1, 0, some 0⟩) ls1.length cp := by rw [hle1]
        have hcl' : c < ls.length := by omega
        simp only [↓tbS, Nat.reduceShiftRight, Nat.reduceAnd, Nat.reduceBneDiff, symA, go_opsd, symB, X.put, X.look, Arg.ev, keepOf, restrict, evs, initEnv, cls, quiet, Nat.reduceAdd, Nat.reduceEqDiff, ↓reduceIte, reduceCtorEq, eq_self, htg, hil, goR_call hleaf, nd.get, hc2, goR_call hway, hwl, d2, d3, goR_call c1, htg1, hcl', hgn, hc2n, d2', d3', goDV3c hsize, hgt]
        exact hQ _ _ _ rfl ⟨rfl, rfl⟩
      · rw [delE_mid z10 z11]
        exact (z1.frame fun j hj => aw j (.inl (by simp [hj]))).plug (Right.plug (s3 2 4 h5' s2) (z3.frame fun j hj => aw j (.inr hj)))
    · have hgt : (N1.size : Int) < 2 := by omega
      have hs1 : N1.size = 1 := by omega
      have r1' := s3 1 4 (by omega) s2
      have F1 := z1.frame (ls' := ls1) fun j hj => aw j (.inl (by simp [hj]))
      have F3 := z3.frame (ls' := ls1) fun j hj => aw j (.inr hj)
      rw [hle1.symm] at hv
      
      have hfl1 := q1.good.frlen
      have key : ∃ m2 σ2 vf2 ns2 ls2 fr2 ks2 kids2 J2, Ca 75 [Pt p, Pn id1 i, I (max (A.length : Int) 1)] m1 (.tuple #[]) m2 ∧ TMH [] σ2 m2 p vl vf2 ns2 ls2 fr2 root n ∧ Gr σ1 σ2 m1 m2 ∧ ls2[i]? = some ⟨ks2, [], kids2⟩ ∧ Row (Rep ls2 2 4 h) lo hi ks2 kids2 (eA ++ (delE key e2 ++ eB)) J2 ∧
          (A ++ c :: B).length ≤ kids2.length + 1 ∧ kids2.length ≤ (A ++ c :: B).length ∧ Chg ls1 fr1 (i :: (JA ++ (Jc1 ++ JB))) ls2 fr2 (i :: J2) 0 := by
        by_cases hA0 : A = []
        · subst hA0
          cases F1
          cases hB0 : B with
          | nil =>
            rw [hB0] at h4
            simp at h4
            omega
          | cons b B' =>
            subst hB0
            obtain ⟨k, KB', hi2, e3, J3, eB', JB', rfl, rfl, u1, u2, rfl, rfl⟩ := F3.uncons
            obtain ⟨Nb, w1, w2, w3, w4⟩ := u1.sz
            have hm : max ((([] : List Nat).length : Nat) : Int) 1 = ((([] : List Nat).length + 1 : Nat) : Int) := by simp only [List.length_nil]; omega
            rw [hm]
            have := mend_spec t1 hv hN' .nil r1' (w4 1 4 (by omega) w3) u2 (by simpa [List.append_assoc] using Q1.good) hN1 w1 (by omega) (by omega) (by simp only [List.nil_append, List.length_cons] at h5 ⊢; omega) (by omega)
            simpa [nv, List.append_assoc] using this
        · obtain ⟨KA', A', eA', JA', b, lo1, k, e3, J3, u2, u1, rfl, rfl, rfl, rfl, rfl⟩ := F1.snoc hA0
          obtain ⟨Nb, w1, w2, w3, w4⟩ := u1.sz
          have hm : max (((A' ++ [b]).length : Nat) : Int) 1 = ((A'.length + 1 : Nat) : Int) := by simp; omega
          rw [hm]
          have hq := Q1.good
          have := mend_spec (A := A') (B := B) (s := k) (KA := KA') (KB := KB) t1 hv (by simpa [List.append_assoc] using hN') u2 (w4 1 4 (by omega) w3) r1' F3 (by simpa [List.append_assoc] using hq) w1 hN1 (by omega) (by omega) (by simp only [List.length_append, List.length_cons, List.length_nil] at h5 ⊢; omega) (by omega)
          simpa [nv, List.append_assoc] using this
      obtain ⟨m2, σ2, vf2, ns2, ls2, fr2, ks2, kids2, J2, c2, t2, g2, k1, k2, k3, k4, k5⟩ := key
      refine ⟨m2, σ2, vf2, ns2, ls2, fr2, i :: J2, callX_of (call_go (F := _) rfl rfl fun Q hQ => ?_), t2, g1.trans g2, ⟨ks2, kids2, J2, k1, rfl, ?_, by omega, by omega⟩, Q1.trans k5⟩
      · rw [hle1] at hv
        subst d1 d1' hv
        have hcl' : c < ls.length := by omega
        simp only [↓tbS, Nat.reduceShiftRight, Nat.reduceAnd, Nat.reduceBneDiff, symA, go_opsd, symB, X.put, X.look, Arg.ev, keepOf, restrict, evs, initEnv, cls, quiet, Nat.reduceAdd, Nat.reduceEqDiff, ↓reduceIte, reduceCtorEq, eq_self, htg, hil, goR_call hleaf, nd.get, hc2, goR_call hway, hwl, d2, d3, goR_call c1, htg1, hcl', hgn, hc2n, d2', d3', goDV3c hsize, hgt, goR_call c2]
        exact hQ _ _ _ rfl ⟨rfl, rfl⟩
      · rw [delE_mid z10 z11]
        exact k2
end
end Go.Proofs.Ytnlmnejellipdaa
namespace Go.Proofs.Ytnlmnejellipdaa
open Go X
set_option maxRecDepth 100000
attribute [local irreducible] X.Go' X.GoO X.GoR X.GoG X.GoC X.GoF X.GoFV X.GoFG X.Ex X.GoD X.GoDV X.GoDG
set_option linter.unusedVariables false
set_option linter.unusedSimpArgs false
section
variable {σ : Nat → Tag} {m : Mem} {p : Nat} {vl vf : Value} {ns : List (Nat → Value)} {ls : List Nd} {fr : List Nat} {root n : Int} {key : Key} {x : Int} {es : List Ent} {k : Nat} {above : Bool}
theorem getE_has {key : Key} {es : List Ent} : (getE key es).isSome = hasK key (es.map (·.1)) := by
 unfold getE hasK
 induction es with
 | nil => rfl
 | cons y es ih =>
  by_cases h : y.1 = key
  ·simp [h]
  ·simp only [List.find?_cons, h, decide_false, List.map_cons, List.any_cons, Bool.false_or]
   exact ih
theorem delE_no {key : Key} {es : List Ent} (hs : SortE es) (h : (getE key es).isSome = false) : delE key es = es := by
 obtain ⟨h1, h2, _⟩ := cutE (k := key) hs
 rw [getE_has] at h
 unfold delE
 rw [← h1, ← h2 h, List.take_append_drop]
theorem wrapm {a b : Nat} (hb : a + 1 = b) (h : b ≤ 1000000) : IntKind.i64.wrap ((b : Int) - 1) = (a : Int) := by
 rw [wrap_i64 (by omega) (by omega)]; omega
theorem Root.sort {ls : List Nd} {fr : List Nat} {r : Int} {es : List Ent} (h : Root ls fr r es) : SortE es := by
 cases h with
 | nil _ => exact .nil
 | @node h r es J hr hg => exact (hr.good (by split <;> omega)).1
theorem TreeM.sort (h : TreeM σ m p es k) : SortE es := by
 obtain ⟨vl, vf, ns, ls, fr, root, ht, hr, b1, b2⟩ := h
 exact hr.sort
theorem Row.single {R : RepT} {lo hi : Option Key} {ks : List Key} {c : Nat} {es : List Ent} {J : List Nat} (h : Row R lo hi ks [c] es J) : ks = [] ∧ R c lo hi es J := by
 cases h with
 | one h => exact ⟨rfl, h⟩
 | cons h t => cases t
theorem Del_none (h : TreeM σ m p es k) (hno : getE key es = none) : Ca 43 [Pt p, .string key] m (.tuple #[I 0, .bool false]) m := by
 have hg := Get_spec (key := key) h
 rw [hno] at hg
 refine callX_of (call_go (F := _) rfl rfl fun Q hQ => ?_)
 simp only [symA, symB, X.put, X.look, Arg.ev, keepOf, restrict, evs, initEnv, Nat.reduceEqDiff, ↓reduceIte, reduceCtorEq, eq_self, Int.reduceNeg, goR_call hg, Option.getD_none, Option.isSome_none]
 exact hQ _ _ _ rfl ⟨rfl, rfl⟩
theorem Del_some {v : Int} (h : TreeM σ m p es k) (hk : k ≤ 4000) (hv : getE key es = some v) : ∃ m' σ', Ca 43 [Pt p, .string key] m (.tuple #[I v, .bool true]) m' ∧ TreeM σ' m' p (delE key es) k ∧ Gr σ σ' m m' := by
 have hget := Get_spec (key := key) h
 rw [hv] at hget
 have hh : hasK key (es.map (·.1)) = true := by rw [← getE_has, hv]; rfl
 have hso := h.sort
 obtain ⟨d1, d2, d3⟩ := del_len hso hh
 obtain ⟨vl, vf, ns, ls, fr, root, ht, hr, b1, b2⟩ := h
 cases hr with
 | nil hg => simp [getE] at hv
 | @node h r es J hr hg =>
  have ha : 1 ≤ (if h = 0 then 1 else 2) := by split <;> omega
  have w1 := wrapm (a := (delE key es).length) (b := es.length) d2 (by omega)
  obtain ⟨m1, s1, s2, s3⟩ := ht.setn ((delE key es).length : Int)
  obtain ⟨m2, σ2, vf2, ns2, ls2, fr2, J2, c2, t2, g2, r2, q2⟩ := del_spec (key := key) s2 hr ha (fun h0 => by rw [if_neg h0]; omega) inb_none hh hg (by omega)
  obtain ⟨N, hN2, n1, n2, n3⟩ := r2.sz
  have hql := q2.len
  have hfl2 := q2.good.frlen
  have hrl : r < ls2.length := (List.getElem?_eq_some_iff.1 hN2).1
  obtain ⟨g, z1, z2⟩ := t2.nd r _ (by simp) hN2
  obtain ⟨id, o, cp, hvl, hgo, hco, hld, _⟩ := t2.at z1
  obtain ⟨q0, c0, e0⟩ := (z2 0 (by omega)).slice
  obtain ⟨q1, c1, e1⟩ := (z2 1 (by omega)).slice
  obtain ⟨q2', c2', e2⟩ := (z2 2 (by omega)).slice
  obtain ⟨m3, t1', t2', t3', t4'⟩ := new_store (m := m2) (z := [.slice none 0 0, .slice none 0 0, .slice none 0 0]) (row := row3 g) (n := 3) rfl rfl (by omega)
  have h3 := t2.nx t3'
  obtain ⟨mP, hP⟩ : ∃ mP, m2.push { cells := [.slice none 0 0, .slice none 0 0, .slice none 0 0], rw := true, spare := none, kin := [] } = mP := ⟨_, rfl⟩
  rw [hP] at t1'
  have hPn : Nx m2 mP := hP ▸ .push
  have hPt := t2.nx hPn
  have pP := hPt.get
  obtain ⟨idP, oP, cpP, hvlP, hgoP, hcoP, hldP, _⟩ := hPt.at z1
  rw [hvl] at hvlP
  cases hvlP
  have cc0 : (row3 g)[0]? = some (.slice q0 (N.fld 0).length c0) := by rw [← e0]; rfl
  have cc2 : (row3 g)[0 + 2]? = some (.slice q2' (N.fld 2).length c2') := by rw [← e2]; rfl
  have l0 : (N.fld 0).length = N.keys.length := List.length_map ..
  have l2 : (N.fld 2).length = N.kids.length := List.length_map ..
  have hleaf := leaf_call (off := 0) t2' cc2
  rw [l2] at hleaf e2
  rw [l0] at e0
  have p0 := ht.get
  have p1 := s2.get
  have p2 := t2.get
  have p3 := h3.get
  have eg0 : row3 g = [g 0, g 1, g 2] := rfl
  have v0 : veq (g 0) (g 0) = true := by rw [e0]; exact veq_slice
  have v1 : veq (g 1) (g 1) = true := by rw [e1]; exact veq_slice
  have v2 : veq (g 2) (g 2) = true := by rw [e2]; exact veq_slice
  have hb0 : σ2 m2.next = .no := t2.fresh _ (Nat.le_refl _)
  have hlt3 : m2.next < m3.next := by rw [t4']; omega
  have hJ2 := r2.lt
  obtain ⟨y1, y2, y3, y4⟩ := r2.kind hN2
  have hrJ : ∃ J', J2 = r :: J' := r2.head
  obtain ⟨J', hJ'⟩ := hrJ
  subst hJ'
  by_cases hk1 : N.kids.length = 1
  ·have hh0 : h ≠ 0 := fun e => by rw [(y1 e).1] at hk1; simp at hk1
   obtain ⟨h', rfl⟩ : ∃ h', h = h' + 1 := ⟨h - 1, by omega⟩
   obtain ⟨ks, kids, J'', w2, w3, w4, _, _⟩ := r2
   rw [hN2] at w2
   cases w2
   injection w3 with _ w3
   subst w3
   obtain ⟨c, rfl⟩ := List.length_eq_one_iff.1 hk1
   have hone : ks = [] ∧ Rep ls2 2 4 h' c none none (delE key es) J' := by
    exact w4.single
   obtain ⟨rfl, hc⟩ := hone
   have gg2 := q2.good
   obtain ⟨m4, σ4, vf4, ns4, c4, t4, g4, f4⟩ := drop_spec2 h3 hrl (by omega)
   obtain ⟨ac, cc, oc, f1, f2, f3⟩ := rd_at (f4 _ _ _ (by simp) (by simp) (by simp) ((z2 2 (by omega)).nx t3')).rd (i := 0) (x := nv c) rfl
   obtain ⟨m5, u1, u2, u3⟩ := t4.setroot (c : Int)
   have gc4 := g4.fm.get hlt3 (by rw [hb0]; simp [tr]) t2'
   have p4 := t4.get
   have hC := Chg.drop (JA := []) (JB := J') gg2 hrl
   have hrJ : r ∉ J' := (List.nodup_cons.1 gg2.nd).1
   have hR := hc.frame (ls' := ls2.set r noNd) fun j hj => List.getElem?_set_ne fun (e : r = j) => hrJ (by rw [e]; exact hj)
   refine ⟨m5, σ4, callX_of (call_go (F := _) rfl rfl fun Q hQ => ?_), ⟨vl, vf4, ns4, _, _, _, u2, .node (h := h') (J := J') (hR.more (by split <;> omega) (by omega)) hC.good, by rw [List.length_set]; omega, by omega⟩, (Gr.ch s3 rfl).trans (g2.trans ((Gr.nx t3').trans (g4.trans (Gr.ch u3 rfl))))⟩
   have e0' : g 0 = .slice q0 0 c0 := e0
   obtain ⟨n1', hn1⟩ : ∃ n, (Nd.fld ⟨[], [], [c]⟩ 1).length = n := ⟨_, rfl⟩
   rw [hn1] at e1
   have f1' : g 2 = .slice (some ac) 1 cc := f1
   have hix : ∀ M : Mem, indexAddrE M 1 (.slice (some ac) 1 cc) (I 0) = some (.val (.pointer (some ⟨ac.block, ac.off + 0, none⟩)) M) := fun M => by
    have := indexAddr_at (m := M) (size := 1) (i := 0) (len := 1) (c := cc) (a := ac) (kd := .i64) (by omega)
    simpa using this
   have f3' : oc.cells[ac.off]? = some (nv c) := f3
   simp only [eg0, f1', e0', e1] at t1' t2' gc4 hld hldP
   subst hvl
   simp only [↓tbS, Nat.reduceShiftRight, Nat.reduceAnd, Nat.reduceBneDiff, symA, go_opsd, symB, X.put, X.look, Arg.ev, keepOf, restrict, evs, initEnv, cls, quiet, Nat.reduceEqDiff, ↓reduceIte, reduceCtorEq, goInt, eq_self, Int.reduceNeg, goR_call hget, Option.getD_some, Option.isSome_some, p0, w1, s1, p1, goR_call c2, p2, hrl, hld, hP, pP, hldP, t1', t2', p3, goR_call c4, gc4, hix, f2, f3', u1]
   exact hQ _ _ _ rfl ⟨rfl, rfl⟩
  ·have hk1' : ¬ (N.kids.length : Int) = 1 := by omega
   by_cases hk0 : N.kids.length = 0 ∧ N.keys.length = 0
   ·obtain ⟨kk0, kk1⟩ := hk0
    have hh0 : h = 0 := by
     by_cases q : h = 0
     ·exact q
     ·have := (y2 q).2.1; omega
    subst hh0
    obtain ⟨w2, w3, w4, w5, w6, w7⟩ := r2
    injection w3 with _ w3
    subst w3
    rw [hN2] at w2
    cases w2
    have hd0 : delE key es = [] := List.eq_nil_of_length_eq_zero (by rw [List.length_map] at kk1; exact kk1)
    have gg2 := q2.good
    obtain ⟨m4, σ4, vf4, ns4, c4, t4, g4, f4⟩ := drop_spec2 h3 hrl (by omega)
    obtain ⟨m5, u1, u2, u3⟩ := t4.setroot (-1)
    have gc4 := g4.fm.get hlt3 (by rw [hb0]; simp [tr]) t2'
    have p4 := t4.get
    have hC := Chg.drop (JA := []) (JB := []) gg2 hrl
    refine ⟨m5, σ4, callX_of (call_go (F := _) rfl rfl fun Q hQ => ?_), ?_, (Gr.ch s3 rfl).trans (g2.trans ((Gr.nx t3').trans (g4.trans (Gr.ch u3 rfl))))⟩
    ·have l0' : decide ((([] : List Nat).length : Int) = 0) = true := rfl
     rw [l0'] at hleaf
     have e2' : g 2 = .slice q2' 0 c2' := e2
     have e0' : g 0 = .slice q0 0 c0 := by rw [e0]; congr 1
     simp only [eg0, e0', e1, e2'] at t1' t2' gc4 hld hldP
     subst hvl
     simp only [↓tbS, Nat.reduceShiftRight, Nat.reduceAnd, Nat.reduceBneDiff, symA, go_opsd, symB, wantedX, X.put, X.look, Arg.ev, keepOf, restrict, evs, initEnv, cls, quiet, Nat.reduceEqDiff, ↓reduceIte, reduceCtorEq, goInt, eq_self, Int.reduceEq, Int.reduceNeg, goR_call hget, Option.getD_some, Option.isSome_some, p0, w1, s1, p1, goR_call c2, p2, hrl, hld, hP, pP, hldP, t1', t2', p3, goR_call hleaf, goR_call c4, u1]
     exact hQ _ _ _ rfl ⟨rfl, rfl⟩
    ·rw [hd0] at u2 ⊢
     exact ⟨vl, vf4, ns4, _, _, _, u2, .nil hC.good, by rw [List.length_set]; omega, by simp⟩
   ·have hT : TreeM σ2 m3 p (delE key es) k := by
     refine ⟨vl, vf2, ns2, ls2, fr2, _, h3, .node (h := h) (J := r :: J') (n3 _ 4 ?_ n2) q2.good, by omega, by omega⟩
     by_cases q : h = 0
     ·rw [if_pos q]
      have := y1 q
      rw [this.2.2]
      rw [this.1] at hk0
      simp only [List.length_nil, true_and] at hk0
      omega
     ·rw [if_neg q]
      have := y2 q
      omega
    refine ⟨m3, σ2, callX_of (call_go (F := _) rfl rfl fun Q hQ => ?_), hT, (Gr.ch s3 rfl).trans (g2.trans (Gr.nx t3'))⟩
    simp only [eg0, e0, e1, e2] at t1' t2' hld hldP
    subst hvl
    by_cases hz : N.kids.length = 0
    ·have hz2 : ¬ (N.keys.length : Int) = 0 := by omega
     rw [decide_eq_true (by omega : (N.kids.length : Int) = 0)] at hleaf
     simp only [↓tbS, Nat.reduceShiftRight, Nat.reduceAnd, Nat.reduceBneDiff, symA, go_opsd, symB, wantedX, X.put, X.look, Arg.ev, keepOf, restrict, evs, initEnv, cls, quiet, Nat.reduceEqDiff, ↓reduceIte, reduceCtorEq, goInt, eq_self, Int.reduceNeg, goR_call hget, Option.getD_some, Option.isSome_some, p0, w1, s1, p1, goR_call c2, p2, hrl, hld, hP, pP, hldP, t1', t2', hk1', goR_call hleaf, hz2]
     exact hQ _ _ _ rfl ⟨rfl, rfl⟩
    ·rw [decide_eq_false (by omega : ¬ (N.kids.length : Int) = 0)] at hleaf
     simp only [↓tbS, Nat.reduceShiftRight, Nat.reduceAnd, Nat.reduceBneDiff, symA, go_opsd, symB, wantedX, X.put, X.look, Arg.ev, keepOf, restrict, evs, initEnv, cls, quiet, Nat.reduceEqDiff, ↓reduceIte, reduceCtorEq, goInt, eq_self, Int.reduceNeg, undef, goR_call hget, Option.getD_some, Option.isSome_some, p0, w1, s1, p1, goR_call c2, p2, hrl, hld, hP, pP, hldP, t1', t2', hk1', goR_call hleaf]
     exact hQ _ _ _ rfl ⟨rfl, rfl⟩
theorem Del_spec (h : TreeM σ m p es k) (hk : k ≤ 4000) : ∃ m' σ', Ca 43 [Pt p, .string key] m (.tuple #[I ((getE key es).getD 0), .bool (getE key es).isSome]) m' ∧ TreeM σ' m' p (delE key es) k ∧ Gr σ σ' m m' := by
 cases hq : getE key es with
 | none =>
  have := Del_none h hq
  refine ⟨m, σ, this, ?_, .refl⟩
  rw [delE_no h.sort (by rw [hq]; rfl)]
  exact h
 | some v => exact Del_some h hk hq
end
section
variable {H FK FN : List Nat} {σ σ' : Nat → Tag} {m m' : Mem} {d p k : Nat} {vk vn : Value} {es : List Ent} {key : Key} {x : Int}
abbrev posE (key : Key) (es : List Ent) : Nat := posK key (es.map (·.1))
abbrev hasE (key : Key) (es : List Ent) : Bool := hasK key (es.map (·.1))
theorem posE_le : posE key es ≤ es.length := by
 have := posK_le key (es.map (·.1))
 rwa [List.length_map] at this
theorem sortKE (hs : SortE es) : SortK (es.map (·.1)) := by
 unfold SortK
 rw [List.pairwise_map]
 exact hs
end
end Go.Proofs.Ytnlmnejellipdaa
namespace Go.Proofs.Ytnlmnejellipdaa
open Go X
set_option maxRecDepth 100000
attribute [local irreducible] X.Go' X.GoO X.GoR X.GoG X.GoC X.GoF X.GoFV X.GoFG X.Ex X.GoD X.GoDV X.GoDG
set_option linter.unusedVariables false
set_option linter.unusedSimpArgs false
section
variable {H FK FN : List Nat} {σ σ' : Nat → Tag} {m m' : Mem} {d p k : Nat} {vk vn v : Value} {es : List Ent} {key : Key} {x : Int} {xs : List Value}
theorem own_empty {id : Nat} : OwnX [] m (.slice (some ⟨id, 0, none⟩) 0 0) [] := .inl ⟨ones_one _, .inr ⟨rfl, by simp, id, rfl⟩⟩
end
end Go.Proofs.Ytnlmnejellipdaa
namespace Go.Proofs.Ytnlmnejellipdaa
open Go X
set_option maxRecDepth 100000
attribute [local irreducible] X.Go' X.GoO X.GoR X.GoG X.GoC X.GoF X.GoFV X.GoFG X.Ex X.GoD X.GoDV X.GoDG
set_option linter.unusedVariables false
set_option linter.unusedSimpArgs false
end Go.Proofs.Ytnlmnejellipdaa
namespace Go.Proofs.Ytnlmnejellipdaa
open Go X
set_option maxRecDepth 100000
attribute [local irreducible] X.Go' X.GoO X.GoR X.GoG X.GoC X.GoF X.GoFV X.GoFG X.Ex X.GoD X.GoDV X.GoDG
set_option linter.unusedVariables false
set_option linter.unusedSimpArgs false
section
variable {H FK FN : List Nat} {σ σ' : Nat → Tag} {m m' : Mem} {d p k : Nat} {vk vn v : Value} {es : List Ent} {key : Key} {x : Int} {xs : List Value}
theorem TreeM.ch (h : TreeM σ m p es k) (hc : Ch .no σ σ' m m') : TreeM σ' m' p es k := by
 obtain ⟨vl, vf, ns, ls, fr, root, ht, hr, b1, b2⟩ := h
 exact ⟨vl, vf, ns, ls, fr, root, ht.ch hc (by simp) (by simp) (by simp) (by simp), hr, b1, b2⟩
theorem TreeM.nx (h : TreeM σ m p es k) (hf : Nx m m') : TreeM σ m' p es k := h.ch (Ch.nx hf)
theorem TreeM.le {k' : Nat} (h : TreeM σ m p es k) (hk : k ≤ k') : TreeM σ m p es k' := by
 obtain ⟨vl, vf, ns, ls, fr, root, ht, hr, b1, b2⟩ := h
 exact ⟨vl, vf, ns, ls, fr, root, ht, hr, by omega, by omega⟩
theorem TreeM.len (h : TreeM σ m p es k) : es.length ≤ k := by
 obtain ⟨vl, vf, ns, ls, fr, root, ht, hr, b1, b2⟩ := h
 exact b2
theorem pos_at (hs : SortE es) {j : Nat} {e : Ent} (he : es[j]? = some e) : posE e.1 es = j ∧ hasE e.1 es = true := by
 have hsk := sortKE hs
 have he' : (es.map (·.1))[j]? = some e.1 := by rw [List.getElem?_map, he]; rfl
 have h1 : posE e.1 es = j := posK_eq (by rw [List.length_map]; have := (List.getElem?_eq_some_iff.1 he).1; omega) (fun d y hd hy => sortK_lt hsk hd hy he') (fun d y hd hy q => by
  rcases Nat.lt_or_eq_of_le hd with hd | rfl
  ·exact ltT_asymm (sortK_lt hsk hd he' hy) q
  ·rw [he'] at hy; cases hy; exact ltT_irrefl _ q)
 refine ⟨h1, (hasK_iff hsk).2 ?_⟩
 rw [show posK e.1 (es.map (·.1)) = j from h1]
 exact he'
theorem after_at (hs : SortE es) {j : Nat} {e : Ent} (he : es[j]? = some e) : fstE true e.1 es = es[j + 1]? := by
 obtain ⟨_, _, h, _⟩ := leafE (key := e.1) (above := true) hs
 obtain ⟨q1, q2⟩ := pos_at hs he
 have q1' : posK e.1 (es.map (·.1)) = j := q1
 have q2' : hasK e.1 (es.map (·.1)) = true := q2
 rw [h, q1', q2']
 rfl
theorem seek_at (hs : SortE es) : fstE false key es = es[posE key es]? := by
 obtain ⟨_, _, h, _⟩ := leafE (key := key) (above := false) hs
 rw [h]
 simp
def keysE (key : Key) (n : Int) (es : List Ent) : List Key := ((es.drop (posE key es)).take n.toNat).map (·.1)
theorem keys_spec {n : Int} (h : TreeM σ m p es k) (hk : k ≤ 4000) : ∃ m' v F, Ca 37 [Pt p, .string key, I n] m v m' ∧ OwnX F m' v ((keysE key n es).map sv) ∧ (∀ i ∈ F, m.next ≤ i) ∧ Nx m m' := by
 have hs := h.sort
 have hlen := h.len
 have hseek := Seek_spec (key := key) h
 rw [seek_at hs] at hseek
 have key' : Wc 37 [Pt p, .string key, I n] m fun v m' => ∃ F, OwnX F m' v ((keysE key n es).map sv) ∧ (∀ i ∈ F, m.next ≤ i) ∧ Nx m m' := by
  refine call_go (F := _) rfl rfl fun Q hQ => ?_
  obtain ⟨s0, n0, o0, hgo⟩ : ∃ s0 n0 o0, tupF (es[posE key es]?) = .tuple #[.string s0, I n0, .bool o0] := ⟨_, _, _, rfl⟩
  rw [hgo] at hseek
  simp only [symA, symB, X.put, X.look, Arg.ev, keepOf, restrict, evs, initEnv, Nat.reduceAdd, Nat.reduceEqDiff, ↓reduceIte, reduceCtorEq, eq_self, goR_call hseek]
  refine loop_go (fun j e m' => ∃ i F vl, posE key es + i ≤ es.length ∧ i ≤ n.toNat ∧ j = es.length - i ∧ Nx m m' ∧ OwnX F m' vl ((((es.drop (posE key es)).take i).map (·.1)).map sv) ∧ (∀ i ∈ F, m.next ≤ i) ∧ e = [(0, Pt p), (2, I n), (7, vl), (8, .string (((es[posE key es + i]?).getD zeroE).1)), (10, .bool (es[posE key es + i]?).isSome)]) es.length ⟨0, [], .slice none 0 0, by have := posE_le (key := key) (es := es); omega, by omega, rfl, .refl, OwnX.nil, by simp, ?_⟩ ?_
  ·unfold tupF at hgo
   injection hgo with hgo
   injection hgo with hgo
   injection hgo with g1 g2
   injection g2 with g2 g3
   injection g3 with g3 _
   rw [← g1, ← g3]
   rfl
  rintro j e m1 N' B' hN hB ⟨i, F, vl, hi, hin, rfl, hnx, how, hF, rfl⟩
  have h1 := h.nx hnx
  obtain ⟨q, c, hvl⟩ := how.slice
  have hli : ((((es.drop (posE key es)).take i).map (·.1)).map sv).length = i := by simp; omega
  rw [hli] at hvl
  cases hq : es[posE key es + i]? with
  | none =>
   have hle := List.getElem?_eq_none_iff.1 hq
   simp only [symA, symB, wantedX, X.put, X.look, Arg.ev, keepOf, restrict, Nat.reduceEqDiff, ↓reduceIte, reduceCtorEq, eq_self, undef, Option.isSome_none]
   refine hB _ _ _ ?_
   simp only [symA, symB, X.put, X.look, Arg.ev, keepOf, restrict, Nat.reduceEqDiff, ↓reduceIte, reduceCtorEq, eq_self]
   refine hQ _ _ _ rfl ⟨F, ?_, hF, hnx⟩
   have e : keysE key n es = ((es.drop (posE key es)).take i).map (·.1) := by
    unfold keysE
    rw [List.take_of_length_le (by simp; omega), List.take_of_length_le (by simp; omega)]
   rw [e]
   exact how
  | some y =>
   have hlt := (List.getElem?_eq_some_iff.1 hq).1
   by_cases hm : (i : Int) < n
   ·obtain ⟨mA, hA⟩ : ∃ mA, m1.push { cells := [.string y.1], rw := true, spare := none, kin := [] } = mA := ⟨_, rfl⟩
    have fA : Nx m1 mA := hA ▸ .push
    have kA : OwnX [m1.next] mA (.slice (some ⟨m1.next, 0, none⟩) 1 1) [.string y.1] := hA ▸ own_one
    obtain ⟨v2, m2, F2, a2, b2, f2, _, n2⟩ := (how.fr fA fun _ _ h => h).append (bytes := 16) (zero := .string .empty) (ys := [.string y.1]) kA.rd (by rw [hli]; simp; omega) (by omega)
    have hx1 := hnx.next
    have hxA := fA.next
    have f2' : Nx m m2 := (hnx.comp fA fun _ _ h => h).comp f2 fun i hi q => by have := hF i q; omega
    have h2 := h.nx f2'
    have haf := After_spec (key := y.1) h2
    rw [after_at hs hq] at haf
    have B := bone72 (m := m1) (x := y.1)
    rw [hA] at B
    subst hvl
    simp only [tupF] at haf
    simp only [symA, symB, wantedX, X.put, X.look, Arg.ev, keepOf, restrict, evs, noTup, Nat.reduceEqDiff, ↓reduceIte, reduceCtorEq, goInt, eq_self, Option.isSome_some, Option.getD_some, hm, B, a2, goR_call haf]
    refine hN _ _ (es.length - (i + 1)) (by omega) ⟨i + 1, F2, v2, by omega, by omega, rfl, f2', ?_, fun j hj => (n2 j hj).elim (hF j) (fun q => by omega), by rw [Nat.add_assoc]⟩
    have e : (((es.drop (posE key es)).take (i + 1)).map (·.1)).map sv = ((((es.drop (posE key es)).take i).map (·.1)).map sv) ++ [.string y.1] := by
     rw [List.take_add_one, List.getElem?_drop, hq]
     simp
    rw [e]
    exact b2
   ·subst hvl
    simp only [symA, symB, wantedX, X.put, X.look, Arg.ev, keepOf, restrict, Nat.reduceEqDiff, ↓reduceIte, reduceCtorEq, goInt, eq_self, Option.isSome_some, hm]
    refine hB _ _ _ ?_
    simp only [symA, symB, X.put, X.look, Arg.ev, keepOf, restrict, Nat.reduceEqDiff, ↓reduceIte, reduceCtorEq, eq_self]
    refine hQ _ _ _ rfl ⟨F, ?_, hF, hnx⟩
    have e : n.toNat = i := by omega
    unfold keysE
    rw [e]
    exact how
 obtain ⟨v, m', c, F, o, hF, hn⟩ := key'
 exact ⟨m', v, F, c, o, hF, hn⟩
end
end Go.Proofs.Ytnlmnejellipdaa
