/-
  Own work. The keys of several entries: gathered, sorted, each once. The keys of several entries: the walk.
-/
import Derived.Test.YtlldfkapaeidoaaS5
import Derived.Test.YtlldfkapaeidoaaE1
import Derived.Test.YtlldfkapaeidoaaXOwn4
namespace Go.Proofs.Ytlldfkapaeidoaa
open Go X
set_option maxRecDepth 100000
attribute [local irreducible] X.Go' X.GoO X.GoR X.GoG X.GoC X.GoF X.GoFV X.GoFG X.Ex X.GoD X.GoDV X.GoDG
set_option linter.unusedVariables false
set_option linter.unusedSimpArgs false

/-! ## Each once -/
def ded (p : ByteArray) : List ByteArray → List ByteArray
  | [] => []
  | x :: l => if x = p then ded p l else x :: ded x l
def cpt : List ByteArray → List ByteArray
  | [] => []
  | x :: l => x :: ded x l
theorem ded_snoc (y : ByteArray) : ∀ (l : List ByteArray) (p : ByteArray), ded p (l ++ [y]) = if y = l.getLast?.getD p then ded p l else ded p l ++ [y]
  | [], p => by by_cases h : y = p <;> simp [ded, h]
  | x :: l, p => by
    have e : (x :: l).getLast?.getD p = l.getLast?.getD x := by
      cases l with
      | nil => rfl
      | cons z l => rw [List.getLast?_cons_cons, List.getLast?_cons]; rfl
    rw [e, List.cons_append, ded, ded]
    by_cases h : x = p
    · subst h
      rw [if_pos rfl, if_pos rfl, ded_snoc]
    · rw [if_neg h, if_neg h, ded_snoc]
      split <;> rfl
theorem cpt_snoc {l : List ByteArray} {x y : ByteArray} (h : l.getLast? = some x) : cpt (l ++ [y]) = if y = x then cpt l else cpt l ++ [y] := by
  cases l with
  | nil => cases h
  | cons z l =>
    have e : l.getLast?.getD z = x := by
      cases l with
      | nil => simpa using h
      | cons w l => rw [List.getLast?_cons_cons] at h; rw [h]; rfl
    rw [List.cons_append, cpt, cpt, ded_snoc, e]
    split <;> rfl
theorem cpt_take {ks : List ByteArray} {k : Nat} {x y : ByteArray} (hk : 1 ≤ k) (hx : ks[k]? = some x) (hy : ks[k - 1]? = some y) : cpt (ks.take (k + 1)) = if x = y then cpt (ks.take k) else cpt (ks.take k) ++ [x] := by
  have hkl := (List.getElem?_eq_some_iff.1 hx).1
  rw [List.take_add_one, hx]
  refine cpt_snoc ?_
  rw [List.getLast?_eq_getElem?, List.length_take, Nat.min_eq_left (by omega), List.getElem?_take, if_pos (by omega), hy]
theorem cpt_short {l : List ByteArray} (h : l.length ≤ 1) : cpt l = l := by
  match l, h with
  | [], _ => rfl
  | [x], _ => rfl

section
variable {F : List Nat} {m m' : Mem} {id cap n : Nat} {ks : List ByteArray}
theorem OwnK.set (h : OwnK F m id cap n ks) {i : Nat} (hi : i < n) {x : ByteArray} : ∃ m1, storeE m 1 (.pointer (some ⟨id, i, none⟩)) (.string x) = some (.skip m1) ∧ OwnK F m1 id cap n (ks.set i x) ∧ Fm (· ∈ F) m m1 := by
  obtain ⟨id1, cap1, m1, hv, s1, o1, f1⟩ := h.own.set1 (i := i) hi (x := .string x) rfl rfl
  cases hv
  exact ⟨m1, s1, ⟨by rw [List.length_set]; exact h.len, by rw [List.map_set]; exact o1⟩, f1⟩
theorem OwnK.sp (h : OwnK F m id cap n ks) : ∃ o, m.get id = some o ∧ o.spare = some 1 ∧ n ≤ cap := by
  obtain ⟨hl, h1, h2, ⟨hv, hn⟩ | ⟨id', o, cap', rest, hv, h5, h6, h7, h8, h9, h10, h11⟩⟩ := h
  · cases hv
  · cases hv
    refine ⟨o, h5, h9, ?_⟩
    have := h11
    rw [h10, List.length_append, List.length_map] at this
    omega

theorem compact_spec (h : OwnK F m id cap n ks) (h1 : 1 ≤ n) (hn : n ≤ 1000000) : Wc 39 [SV id n cap] m fun r m' => ∃ n', r = SV id n' cap ∧ OwnK F m' id cap n' (cpt ks) ∧ Fm (· ∈ F) m m' := by
  have hlen := h.len
  refine call_go (F := _) rfl rfl fun Q hQ => ?_
  by_cases h2 : n < 2
  · have h2' : (n : Int) < 2 := by omega
    have e : cpt ks = ks := cpt_short (by omega)
    simp only [symA, go_opsd, symB, wantedX, X.put, X.look, Arg.ev, keepOf, restrict, evs, evO, initEnv, xres, tup, noTup, cls, quiet, Nat.reduceAdd, Nat.reduceEqDiff, ↓reduceIte, reduceCtorEq, goInt, exists_eq_left', eq_self, Int.reduceLT, Int.reduceLE, Int.reduceEq, Int.reduceNeg, Int.reduceAdd, Int.reduceSub, forall_const, ne_eq, undef, Nat.reducePow, Nat.reduceDiv, Nat.reduceMod, h2']
    exact hQ _ _ _ rfl ⟨n, rfl, by rw [e]; exact h, .refl⟩
  · have h2' : ¬ (n : Int) < 2 := by omega
    simp only [symA, go_opsd, symB, wantedX, X.put, X.look, Arg.ev, keepOf, restrict, evs, evO, initEnv, xres, tup, noTup, cls, quiet, Nat.reduceAdd, Nat.reduceEqDiff, ↓reduceIte, reduceCtorEq, goInt, exists_eq_left', eq_self, Int.reduceLT, Int.reduceLE, Int.reduceEq, Int.reduceNeg, Int.reduceAdd, Int.reduceSub, forall_const, ne_eq, undef, Nat.reducePow, Nat.reduceDiv, Nat.reduceMod, h2']
    refine loop_go (fun q e m' => m' = m ∧ ∃ k : Nat, 1 ≤ k ∧ k ≤ n ∧ q = n - k ∧ cpt (ks.take k) = ks.take k ∧ e = [(0, SV id n cap), (3, I k)]) (n - 1) ⟨rfl, 1, by omega, by omega, rfl, cpt_short (by rw [List.length_take]; omega), rfl⟩ ?_
    rintro q e m1 N1 B1 hN1 hB1 ⟨hm1, k, hk1, hkn, rfl, hd, rfl⟩
    subst hm1
    obtain ⟨o, hg, hc⟩ := h.obj
    by_cases hlt : k < n
    · have hlt' : (k : Int) < (n : Int) := by omega
      obtain ⟨x, hx⟩ : ∃ x, ks[k]? = some x := ⟨_, List.getElem?_eq_getElem (by omega)⟩
      obtain ⟨y, hy⟩ : ∃ y, ks[k - 1]? = some y := ⟨_, List.getElem?_eq_getElem (by omega)⟩
      have w1 : IntKind.i64.wrap ((k : Int) - 1) = ((k - 1 : Nat) : Int) := by rw [wrap_i64 (by omega) (by omega)]; omega
      have w2 : IntKind.i64.wrap ((k : Int) + 1) = ((k + 1 : Nat) : Int) := by rw [wrap_i64 (by omega) (by omega)]; omega
      have hkm : k - 1 < n := by omega
      have hcx := hc _ _ hx
      have hcy := hc _ _ hy
      have hstep := cpt_take hk1 hx hy
      by_cases hxy : x = y
      · subst hxy
        rw [if_pos rfl, hd] at hstep
        obtain ⟨o', hg', hsp, hcap⟩ := h.sp
        have hs1 : sliceE m1 1 (SV id n cap) (some (I k)) none none = some (.val (.slice (some ⟨id, k, some 0⟩) (n - k) (cap - k)) m1) := by
          have := slice_lo (size := 1) (off := 0) (n := n) (cap := cap) (k := k) (kd := .i64) hg' hsp hkn
          simpa using this
        simp only [symA, go_opsd, symB, wantedX, X.put, X.look, Arg.ev, keepOf, restrict, evs, evO, initEnv, xres, tup, noTup, cls, quiet, Nat.reduceAdd, Nat.reduceEqDiff, ↓reduceIte, reduceCtorEq, goInt, exists_eq_left', eq_self, Int.reduceLT, Int.reduceLE, Int.reduceEq, Int.reduceNeg, Int.reduceAdd, Int.reduceSub, forall_const, ne_eq, undef, Nat.reducePow, Nat.reduceDiv, Nat.reduceMod, hlt', hlt, w1, hkm, hg, hcx, hcy, bin_seql, hs1]
        refine loop_go (fun q e m' => ∃ (d w : Nat) (l : List ByteArray), 1 ≤ d ∧ k + d ≤ n ∧ q = n - (k + d) ∧ w + 1 ≤ k + d ∧ OwnK F m' id cap n l ∧ Fm (· ∈ F) m1 m' ∧ l.take w = cpt (ks.take (k + d)) ∧ (∀ p, k + d - 1 ≤ p → l[p]? = ks[p]?) ∧
          e = [(0, SV id n cap), (3, I w), (4, .slice (some ⟨id, k, some 0⟩) (n - k) (cap - k)), (5, I d)]) (n - (k + 1)) ⟨1, k, ks, by omega, by omega, by omega, by omega, h, .refl, hstep.symm, fun _ _ => rfl, rfl⟩ ?_
        rintro q e m2 N2 B2 hN2 hB2 ⟨d, w, l, hd1, hdn, rfl, hwd, o2, f2, htk, hsame, rfl⟩
        obtain ⟨oo, hgo, hco⟩ := o2.obj
        have hl2 := o2.len
        by_cases hdl : d < n - k
        · have hdl' : (d : Int) < ((n - k : Nat) : Int) := by omega
          obtain ⟨u, hu⟩ : ∃ u, l[k + d]? = some u := ⟨_, List.getElem?_eq_getElem (by omega)⟩
          obtain ⟨v, hv⟩ : ∃ v, l[k + (d - 1)]? = some v := ⟨_, List.getElem?_eq_getElem (by omega)⟩
          have hcu := hco _ _ hu
          have hcv := hco _ _ hv
          have w3 : IntKind.i64.wrap ((d : Int) - 1) = ((d - 1 : Nat) : Int) := by rw [wrap_i64 (by omega) (by omega)]; omega
          have w4 : IntKind.i64.wrap ((d : Int) + 1) = ((d + 1 : Nat) : Int) := by rw [wrap_i64 (by omega) (by omega)]; omega
          have w5 : IntKind.i64.wrap ((w : Int) + 1) = ((w + 1 : Nat) : Int) := by rw [wrap_i64 (by omega) (by omega)]; omega
          have hdm : d - 1 < n - k := by omega
          have hwn : w < n := by omega
          have hku : ks[k + d]? = some u := by rw [← hsame _ (by omega)]; exact hu
          have hkv : ks[k + d - 1]? = some v := by rw [← hsame _ (Nat.le_refl _), show k + d - 1 = k + (d - 1) by omega]; exact hv
          have hst := cpt_take (by omega : 1 ≤ k + d) hku hkv
          by_cases huv : u = v
          · rw [if_pos huv] at hst
            simp only [symA, go_opsd, symB, wantedX, X.put, X.look, Arg.ev, keepOf, restrict, evs, evO, initEnv, xres, tup, noTup, cls, quiet, Nat.reduceAdd, Nat.reduceEqDiff, ↓reduceIte, reduceCtorEq, goInt, exists_eq_left', eq_self, Int.reduceLT, Int.reduceLE, Int.reduceEq, Int.reduceNeg, Int.reduceAdd, Int.reduceSub, forall_const, ne_eq, undef, Nat.reducePow, Nat.reduceDiv, Nat.reduceMod, hdl', hdl, w3, hdm, hgo, hcu, hcv, bin_sneq, huv, w4]
            exact hN2 _ _ (n - (k + (d + 1))) (by omega) ⟨d + 1, w, l, by omega, by omega, rfl, by omega, o2, f2, by rw [htk, ← hst]; rfl, fun p hp => hsame p (by omega), rfl⟩
          · rw [if_neg huv] at hst
            obtain ⟨m3, s3, o3, f3⟩ := o2.set hwn (x := u)
            simp only [symA, go_opsd, symB, wantedX, X.put, X.look, Arg.ev, keepOf, restrict, evs, evO, initEnv, xres, tup, noTup, cls, quiet, Nat.reduceAdd, Nat.reduceEqDiff, ↓reduceIte, reduceCtorEq, goInt, exists_eq_left', eq_self, Int.reduceLT, Int.reduceLE, Int.reduceEq, Int.reduceNeg, Int.reduceAdd, Int.reduceSub, forall_const, ne_eq, undef, Nat.reducePow, Nat.reduceDiv, Nat.reduceMod, hdl', hdl, w3, hdm, hgo, hcu, hcv, bin_sneq, huv, w4, w5, hwn, s3]
            refine hN2 _ _ (n - (k + (d + 1))) (by omega) ⟨d + 1, w + 1, l.set w u, by omega, by omega, rfl, by omega, o3, f2.trans f3, ?_, fun p hp => ?_, rfl⟩
            · rw [show k + (d + 1) = k + d + 1 by omega, hst, ← htk, List.take_add_one, List.getElem?_set_self (by omega)]
              congr 1
              apply List.ext_getElem?
              intro p
              rw [List.getElem?_take, List.getElem?_take]
              split
              · rw [List.getElem?_set_ne (by omega)]
              · rfl
            · rw [List.getElem?_set_ne (by omega)]
              exact hsame p (by omega)
        · have hdl' : ¬ (d : Int) < ((n - k : Nat) : Int) := by omega
          simp only [symA, go_opsd, symB, wantedX, X.put, X.look, Arg.ev, keepOf, restrict, evs, evO, initEnv, xres, tup, noTup, cls, quiet, Nat.reduceAdd, Nat.reduceEqDiff, ↓reduceIte, reduceCtorEq, goInt, exists_eq_left', eq_self, Int.reduceLT, Int.reduceLE, Int.reduceEq, Int.reduceNeg, Int.reduceAdd, Int.reduceSub, forall_const, ne_eq, undef, Nat.reducePow, Nat.reduceDiv, Nat.reduceMod, hdl']
          refine hB2 _ _ _ ?_
          obtain ⟨id', o', cap', m3, o3, hv, g1, sp1, hwc, hcl, g2, sp2, own3, f3⟩ := o2.own.cut1 (zero := .string .empty) (by omega) (i := w) (by omega)
          cases hv
          have hs2 : sliceE m2 1 (SV id n cap) (some (I w)) none none = some (.val (.slice (some ⟨id, w, some 0⟩) (n - w) (cap - w)) m2) := by
            have := slice_lo (size := 1) (off := 0) (n := n) (cap := cap) (k := w) (kd := .i64) g1 sp1 (by omega)
            simpa using this
          have hs3 : sliceE m3 1 (SV id n cap) none (some (I w)) none = some (.val (SV id w cap) m3) := slice_hi (n := n) (kd := .i64) g2 sp2 hwc
          simp only [symA, go_opsd, symB, wantedX, X.put, X.look, Arg.ev, keepOf, restrict, evs, evO, initEnv, xres, tup, noTup, cls, quiet, Nat.reduceAdd, Nat.reduceEqDiff, ↓reduceIte, reduceCtorEq, goInt, exists_eq_left', eq_self, Int.reduceLT, Int.reduceLE, Int.reduceEq, Int.reduceNeg, Int.reduceAdd, Int.reduceSub, forall_const, ne_eq, undef, Nat.reducePow, Nat.reduceDiv, Nat.reduceMod, hs2, hcl, hs3]
          have hall : ks.take (k + d) = ks := List.take_of_length_le (by omega)
          rw [hall] at htk
          refine hQ _ _ _ rfl ⟨w, rfl, ⟨by rw [← htk, List.length_take]; omega, ?_⟩, f2.trans f3⟩
          rw [← htk, List.map_take]
          exact own3
      · rw [if_neg hxy, hd] at hstep
        simp only [symA, go_opsd, symB, wantedX, X.put, X.look, Arg.ev, keepOf, restrict, evs, evO, initEnv, xres, tup, noTup, cls, quiet, Nat.reduceAdd, Nat.reduceEqDiff, ↓reduceIte, reduceCtorEq, goInt, exists_eq_left', eq_self, Int.reduceLT, Int.reduceLE, Int.reduceEq, Int.reduceNeg, Int.reduceAdd, Int.reduceSub, forall_const, ne_eq, undef, Nat.reducePow, Nat.reduceDiv, Nat.reduceMod, hlt', hlt, w1, hkm, hg, hcx, hcy, bin_seql, hxy, w2]
        exact hN1 _ _ (n - (k + 1)) (by omega) ⟨rfl, k + 1, by omega, by omega, rfl, by rw [hstep, List.take_add_one, hx]; rfl, rfl⟩
    · have hlt' : ¬ (k : Int) < (n : Int) := by omega
      have hall : ks.take k = ks := List.take_of_length_le (by omega)
      rw [hall] at hd
      simp only [symA, go_opsd, symB, wantedX, X.put, X.look, Arg.ev, keepOf, restrict, evs, evO, initEnv, xres, tup, noTup, cls, quiet, Nat.reduceAdd, Nat.reduceEqDiff, ↓reduceIte, reduceCtorEq, goInt, exists_eq_left', eq_self, Int.reduceLT, Int.reduceLE, Int.reduceEq, Int.reduceNeg, Int.reduceAdd, Int.reduceSub, forall_const, ne_eq, undef, Nat.reducePow, Nat.reduceDiv, Nat.reduceMod, hlt']
      refine hB1 _ _ _ ?_
      simp only [symA, go_opsd, symB, wantedX, X.put, X.look, Arg.ev, keepOf, restrict, evs, evO, initEnv, xres, tup, noTup, cls, quiet, Nat.reduceAdd, Nat.reduceEqDiff, ↓reduceIte, reduceCtorEq, goInt, exists_eq_left', eq_self, Int.reduceLT, Int.reduceLE, Int.reduceEq, Int.reduceNeg, Int.reduceAdd, Int.reduceSub, forall_const, ne_eq, undef, Nat.reducePow, Nat.reduceDiv, Nat.reduceMod]
      exact hQ _ _ _ rfl ⟨n, rfl, by rw [hd]; exact h, .refl⟩
theorem compact_nil : Ca 39 [.slice none 0 0] m (.slice none 0 0) m := by
  refine callX_of (call_go (F := _) rfl rfl fun Q hQ => ?_)
  have h2 : ((0 : Nat) : Int) < 2 := by omega
  simp only [symA, go_opsd, symB, wantedX, X.put, X.look, Arg.ev, keepOf, restrict, evs, evO, initEnv, xres, tup, noTup, cls, quiet, Nat.reduceAdd, Nat.reduceEqDiff, ↓reduceIte, reduceCtorEq, goInt, exists_eq_left', eq_self, Int.reduceLT, Int.reduceLE, Int.reduceEq, Int.reduceNeg, Int.reduceAdd, Int.reduceSub, forall_const, ne_eq, undef, Nat.reducePow, Nat.reduceDiv, Nat.reduceMod, h2]
  exact hQ _ _ _ rfl ⟨rfl, rfl⟩
theorem sort_nil : Ca 38 [.slice none 0 0] m (tup []) m := ⟨200, by kernel_rfl⟩
end
end Go.Proofs.Ytlldfkapaeidoaa

namespace Go.Proofs.Ytlldfkapaeidoaa
open Go X
set_option maxRecDepth 100000
attribute [local irreducible] X.Go' X.GoO X.GoR X.GoG X.GoC X.GoF X.GoFV X.GoFG X.Ex X.GoD X.GoDV X.GoDG
set_option linter.unusedVariables false
set_option linter.unusedSimpArgs false

abbrev SortK (ks : List ByteArray) : Prop := ks.Pairwise ltT
theorem ded_sorted : ∀ (l : List ByteArray) (p : ByteArray), (p :: l).Pairwise (fun a b => ¬ ltT b a) → (∀ y ∈ ded p l, ltT p y) ∧ (ded p l).Pairwise ltT ∧ ∀ y, y ∈ ded p l ∨ y = p ↔ y ∈ p :: l
  | [], p, h => by simp [ded]
  | x :: l, p, h => by
    obtain ⟨h1, h2⟩ := List.pairwise_cons.1 h
    obtain ⟨h3, h4⟩ := List.pairwise_cons.1 h2
    rw [ded]
    by_cases hx : x = p
    · subst hx
      rw [if_pos rfl]
      obtain ⟨k1, k2, k3⟩ := ded_sorted l x h2
      refine ⟨k1, k2, fun y => ?_⟩
      rw [k3 y]
      simp only [List.mem_cons]
      constructor
      · rintro (h | h); exact .inl h; exact .inr (.inr h)
      · rintro (h | h | h); exact .inl h; exact .inl h; exact .inr h
    · rw [if_neg hx]
      have hpx : ltT p x := by
        rcases ltT_total (h1 x (by simp)) with e | e
        · exact absurd e hx
        · exact e
      obtain ⟨k1, k2, k3⟩ := ded_sorted l x h2
      refine ⟨fun y hy => ?_, List.pairwise_cons.2 ⟨k1, k2⟩, fun y => ?_⟩
      · rcases List.mem_cons.1 hy with rfl | hy
        · exact hpx
        · exact ltT_trans hpx (k1 y hy)
      · have := k3 y
        simp only [List.mem_cons] at this ⊢
        constructor
        · rintro ((h | h) | h)
          · exact .inr (.inl h)
          · exact .inr (this.1 (.inl h))
          · exact .inl h
        · rintro (h | h)
          · exact .inr h
          · rcases this.2 h with h | h
            · exact .inl (.inr h)
            · exact .inl (.inl h)
theorem cpt_sorted {l : List ByteArray} (h : l.Pairwise fun a b => ¬ ltT b a) : SortK (cpt l) ∧ ∀ y, y ∈ cpt l ↔ y ∈ l := by
  cases l with
  | nil => exact ⟨.nil, fun y => Iff.rfl⟩
  | cons p l =>
    obtain ⟨k1, k2, k3⟩ := ded_sorted l p h
    refine ⟨List.pairwise_cons.2 ⟨k1, k2⟩, fun y => ?_⟩
    rw [← k3 y, cpt, List.mem_cons]
    exact Or.comm
theorem srt_pairwise {l : List ByteArray} {n : Nat} (hl : l.length = n) (h : Srt ltT 0 n l) : l.Pairwise fun a b => ¬ ltT b a := by
  rw [List.pairwise_iff_getElem]
  intro i j hi hj hij
  exact h i j _ _ (by omega) hij (by omega) (List.getElem?_eq_getElem hi) (List.getElem?_eq_getElem hj)

section
variable {F : List Nat} {m m' : Mem} {v : Value} {id cap n : Nat} {ks : List ByteArray} {cs : List Value}
theorem OwnS.app1 {bytes : Nat} {zero x : Value} (hx : x.cells = #[x]) (h : OwnS 1 F m v n cs) (hb : (n + 1) * bytes ≤ 140737488355328) (hb2 : n + 1 ≤ 9223372036854775807) :
    ∃ m2 v' m3 F', buildSliceE m [zero] 1 1 [(0, x)] = some (.val (.slice (some ⟨m.next, 0, none⟩) 1 1) m2) ∧ appendE m2 1 bytes [zero] v (.slice (some ⟨m.next, 0, none⟩) 1 1) = some (.val v' m3) ∧
      OwnS 1 F' m3 v' (n + 1) (cs ++ [x]) ∧ Fm (· ∈ F) m m3 ∧ ∀ i ∈ F', i ∈ F ∨ m.next ≤ i := by
  obtain ⟨m2, hm2⟩ : ∃ m2, m.push { cells := [x], rw := true, spare := none, kin := [] } = m2 := ⟨_, rfl⟩
  have f2 : Fm (fun _ => False) m m2 := hm2 ▸ .push
  have hn2 : m2.next = m.next + 1 := by rw [← hm2]; simp
  have g2 : m2.get m.next = some { cells := [x], rw := true, spare := none, kin := [] } := by rw [← hm2, push_self]
  obtain ⟨v', m3, F', a1, a2, a3, a4, a5⟩ := (h.fr f2 (fun _ _ h => h)).append (bytes := bytes) (zero := [zero]) (new := [x]) (vx := .slice (some ⟨m.next, 0, none⟩) 1 1) rfl (by omega) rfl (by simp [xfirst, xload, g2]) rfl hb hb2
  refine ⟨m2, v', m3, F', by rw [← hm2]; exact buildSlice_one hx, a1, a2, (f2.mono fun _ _ h => h.elim).trans a3, fun i hi => ?_⟩
  rcases a5 i hi with h | h
  · exact .inl h
  · exact .inr (by omega)
theorem OwnK.rd (h : OwnK F m id cap n ks) : RdS m.next m 1 (SV id n cap) (ks.map fun k => [.string k]) := by
  have hl := h.len
  obtain ⟨o, hg, hc⟩ := h.obj
  obtain ⟨o', hg', _, hcap⟩ := h.sp
  refine ⟨some ⟨id, 0, some 0⟩, cap, by rw [List.length_map, hl], by rw [List.length_map, hl]; exact hcap, fun i r hr => ?_⟩
  rw [List.getElem?_map] at hr
  cases hk : ks[i]? with
  | none => rw [hk] at hr; cases hr
  | some k =>
    rw [hk] at hr
    cases hr
    refine ⟨rfl, ⟨id, 0, some 0⟩, o, rfl, ?_, hg, fun j hj => ?_⟩
    · obtain ⟨_, h2, ⟨hv, _⟩ | ⟨id', o2, cap', rest, hv, _, h6, _⟩⟩ := h.own
      · cases hv
      · cases hv; exact h2 _ h6
    · have : j = 0 := by omega
      subst this
      simpa using hc i k hk

abbrev keysE (vs : List Ent) : List ByteArray := vs.map Ent.key
def allK (vss : List (List Ent)) : List ByteArray := (vss.map keysE).flatten
theorem allK_mem {vss : List (List Ent)} {k : ByteArray} : k ∈ allK vss ↔ ∃ vs ∈ vss, ∃ x ∈ vs, x.key = k := by
  unfold allK
  rw [List.mem_flatten]
  constructor
  · rintro ⟨l, hl, hk⟩
    obtain ⟨vs, hvs, rfl⟩ := List.mem_map.1 hl
    obtain ⟨x, hx, rfl⟩ := List.mem_map.1 hk
    exact ⟨vs, hvs, x, hx, rfl⟩
  · rintro ⟨vs, hvs, x, hx, rfl⟩
    exact ⟨_, List.mem_map.2 ⟨vs, hvs, rfl⟩, List.mem_map.2 ⟨x, hx, rfl⟩⟩
theorem allK_take {vss : List (List Ent)} {i : Nat} {vs : List Ent} (h : vss[i]? = some vs) : allK (vss.take (i + 1)) = allK (vss.take i) ++ keysE vs := by
  simp [allK, List.take_add_one, h]
theorem allK_le {vss : List (List Ent)} (i : Nat) : (allK (vss.take i)).length ≤ (allK vss).length := by
  have : allK vss = allK (vss.take i) ++ allK (vss.drop i) := by
    unfold allK
    rw [← List.flatten_append, ← List.map_append, List.take_append_drop]
  rw [this, List.length_append]; omega

theorem keys_spec {b : Nat} {av : Value} {vals : List Value} {vss : List (List Ent)} (hl : vals.length = vss.length) (h : RdS b m 1 av (vals.map fun x => [x])) (hr : ∀ (i : Nat) (v : Value) (vs : List Ent), vals[i]? = some v → vss[i]? = some vs → RdE b m v vs) (hb : b ≤ m.next) (hn : (allK vss).length ≤ 255) (hn3 : vss.length ≤ 100) :
    Wc 30 [av] m fun r m' => ∃ ks, RdS m'.next m' 1 r (ks.map fun k => [.string k]) ∧ Nx m m' ∧ SortK ks ∧ (∀ k, k ∈ ks ↔ k ∈ allK vss) := by
  refine call_go (F := _) rfl rfl fun Q hQ => ?_
  obtain ⟨p, c, hav⟩ := h.slice
  rw [List.length_map, hl] at hav
  subst hav
  simp only [symA, go_opsd, symB, wantedX, X.put, X.look, Arg.ev, keepOf, restrict, evs, evO, initEnv, xres, tup, noTup, cls, quiet, Nat.reduceAdd, Nat.reduceEqDiff, ↓reduceIte, reduceCtorEq, goInt, exists_eq_left', eq_self, Int.reduceLT, Int.reduceLE, Int.reduceEq, Int.reduceNeg, Int.reduceAdd, Int.reduceSub, forall_const, ne_eq, undef, Nat.reducePow, Nat.reduceDiv, Nat.reduceMod]
  refine loop_go (fun q e m' => ∃ (i : Nat) (v' : Value) (F : List Nat), i ≤ vss.length ∧ q = vss.length - i ∧ Nx m m' ∧ OwnS 1 F m' v' (allK (vss.take i)).length ((allK (vss.take i)).map .string) ∧ (∀ f ∈ F, m.next ≤ f) ∧
    e = [(3, v'), (8, .slice p vss.length c), (9, I vss.length), (10, I i)]) vss.length ⟨0, .slice none 0 0, [], by omega, by omega, .refl, .nil (by simp), by simp, rfl⟩ ?_
  rintro q e m1 N1 B1 hN1 hB1 ⟨i, v1, F1, hi, rfl, f1, o1, l1, rfl⟩
  by_cases hlt : i < vss.length
  · have hlt' : (i : Int) < (vss.length : Int) := by omega
    obtain ⟨vs, hvs⟩ : ∃ vs, vss[i]? = some vs := ⟨_, List.getElem?_eq_getElem hlt⟩
    obtain ⟨iv, hiv⟩ : ∃ iv, vals[i]? = some iv := ⟨_, List.getElem?_eq_getElem (by omega)⟩
    obtain ⟨a, c', o, hv, hg, hc⟩ := (h.fr f1 hb (fun _ h => h.elim)).at1 hiv
    rw [hl] at hv
    cases hv
    have hre := hr i iv vs hiv hvs
    obtain ⟨p2, c2, rfl⟩ := rdE_slice hre
    have w1 : IntKind.i64.wrap ((i : Int) + 1) = ((i + 1 : Nat) : Int) := by rw [wrap_i64 (by omega) (by omega)]; omega
    have hstep := allK_take hvs
    have hle := allK_le (vss := vss) (i + 1)
    rw [hstep, List.length_append, List.length_map] at hle
    simp only [symA, go_opsd, symB, wantedX, X.put, X.look, Arg.ev, keepOf, restrict, evs, evO, initEnv, xres, tup, noTup, cls, quiet, Nat.reduceAdd, Nat.reduceEqDiff, ↓reduceIte, reduceCtorEq, goInt, exists_eq_left', eq_self, Int.reduceLT, Int.reduceLE, Int.reduceEq, Int.reduceNeg, Int.reduceAdd, Int.reduceSub, forall_const, ne_eq, undef, Nat.reducePow, Nat.reduceDiv, Nat.reduceMod, hlt', hlt, hg, hc]
    refine loop_go (fun q e m' => ∃ (j : Nat) (v' : Value) (F : List Nat), j ≤ vs.length ∧ q = vs.length - j ∧ Nx m m' ∧ OwnS 1 F m' v' ((allK (vss.take i)).length + j) ((allK (vss.take i) ++ keysE (vs.take j)).map .string) ∧ (∀ f ∈ F, m.next ≤ f) ∧
      e = [(3, v'), (8, .slice (some a) vss.length c), (9, I vss.length), (10, I i), (14, .slice p2 vs.length c2), (15, I vs.length), (16, I j)]) vs.length ⟨0, v1, F1, by omega, by omega, f1, by simpa using o1, l1, rfl⟩ ?_
    rintro q e m2 N2 B2 hN2 hB2 ⟨j, v2, F2, hj, rfl, f2, o2, l2, rfl⟩
    by_cases hjl : j < vs.length
    · have hjl' : (j : Int) < (vs.length : Int) := by omega
      obtain ⟨x, hx⟩ : ∃ x, vs[j]? = some x := ⟨_, List.getElem?_eq_getElem hjl⟩
      obtain ⟨a2, c3, hv2, _, l5, _⟩ := rdE_at (hre.fr f2 hb (fun _ h => h.elim)) hx
      cases hv2
      obtain ⟨m3, t1, t2, t3, t4⟩ := new_store (m := m2) (z := Z5) (row := x.row) (n := 5) rfl rfl (by omega)
      obtain ⟨m4, v4, m5, F5, s1, s2, s3, s4, s5⟩ := OwnS.app1 (bytes := 16) (zero := .string .empty) (x := .string x.key) rfl (o2.fr t3 (fun _ _ h => h)) (by omega) (by omega)
      have w2 : IntKind.i64.wrap ((j : Int) + 1) = ((j + 1 : Nat) : Int) := by rw [wrap_i64 (by omega) (by omega)]; omega
      have hn2 := f2.next
      have f3 : Nx m m3 := f2.comp t3 fun _ _ h => h
      have f5 : Nx m m5 := f3.comp s4 fun y hy hF => by have := l2 y hF; omega
      simp only [symA, go_opsd, symB, wantedX, X.put, X.look, Arg.ev, keepOf, restrict, evs, evO, initEnv, xres, tup, noTup, cls, quiet, Nat.reduceAdd, Nat.reduceEqDiff, ↓reduceIte, reduceCtorEq, goInt, exists_eq_left', eq_self, Int.reduceLT, Int.reduceLE, Int.reduceEq, Int.reduceNeg, Int.reduceAdd, Int.reduceSub, forall_const, ne_eq, undef, Nat.reducePow, Nat.reduceDiv, Nat.reduceMod, hjl', hjl, l5, t1, t2, s1, s2, w2]
      refine hN2 _ _ (vs.length - (j + 1)) (by omega) ⟨j + 1, v4, F5, by omega, rfl, f5, ?_, fun y hy => ?_, rfl⟩
      · rw [List.take_add_one, hx]
        simp only [Option.toList_some, List.map_append, List.map_cons, List.map_nil, ← List.append_assoc] at s3 ⊢
        rw [← Nat.add_assoc]
        exact s3
      · rcases s5 y hy with h | h
        · exact l2 y h
        · have := f3.next; omega
    · have hjl' : ¬ (j : Int) < (vs.length : Int) := by omega
      have hje : j = vs.length := by omega
      subst hje
      rw [List.take_length, ← hstep] at o2
      simp only [symA, go_opsd, symB, wantedX, X.put, X.look, Arg.ev, keepOf, restrict, evs, evO, initEnv, xres, tup, noTup, cls, quiet, Nat.reduceAdd, Nat.reduceEqDiff, ↓reduceIte, reduceCtorEq, goInt, exists_eq_left', eq_self, Int.reduceLT, Int.reduceLE, Int.reduceEq, Int.reduceNeg, Int.reduceAdd, Int.reduceSub, forall_const, ne_eq, undef, Nat.reducePow, Nat.reduceDiv, Nat.reduceMod, hjl']
      refine hB2 _ _ _ ?_
      simp only [symA, go_opsd, symB, wantedX, X.put, X.look, Arg.ev, keepOf, restrict, evs, evO, initEnv, xres, tup, noTup, cls, quiet, Nat.reduceAdd, Nat.reduceEqDiff, ↓reduceIte, reduceCtorEq, goInt, exists_eq_left', eq_self, Int.reduceLT, Int.reduceLE, Int.reduceEq, Int.reduceNeg, Int.reduceAdd, Int.reduceSub, forall_const, ne_eq, undef, Nat.reducePow, Nat.reduceDiv, Nat.reduceMod, w1]
      refine hN1 _ _ (vss.length - (i + 1)) (by omega) ⟨i + 1, v2, F2, by omega, rfl, f2, ?_, l2, rfl⟩
      rw [hstep, List.length_append, List.length_map]
      rw [hstep] at o2
      exact o2
  · have hlt' : ¬ (i : Int) < (vss.length : Int) := by omega
    have hall : vss.take i = vss := List.take_of_length_le (by omega)
    rw [hall] at o1
    simp only [symA, go_opsd, symB, wantedX, X.put, X.look, Arg.ev, keepOf, restrict, evs, evO, initEnv, xres, tup, noTup, cls, quiet, Nat.reduceAdd, Nat.reduceEqDiff, ↓reduceIte, reduceCtorEq, goInt, exists_eq_left', eq_self, Int.reduceLT, Int.reduceLE, Int.reduceEq, Int.reduceNeg, Int.reduceAdd, Int.reduceSub, forall_const, ne_eq, undef, Nat.reducePow, Nat.reduceDiv, Nat.reduceMod, hlt']
    refine hB1 _ _ _ ?_
    have o1' := o1
    obtain ⟨k1, k2, ⟨hv, hz⟩ | ⟨id, o, cap, rest, hv, k5⟩⟩ := o1
    · subst hv
      have hnil : allK vss = [] := List.eq_nil_of_length_eq_zero hz
      simp only [symA, go_opsd, symB, wantedX, X.put, X.look, Arg.ev, keepOf, restrict, evs, evO, initEnv, xres, tup, noTup, cls, quiet, Nat.reduceAdd, Nat.reduceEqDiff, ↓reduceIte, reduceCtorEq, goInt, exists_eq_left', eq_self, Int.reduceLT, Int.reduceLE, Int.reduceEq, Int.reduceNeg, Int.reduceAdd, Int.reduceSub, forall_const, ne_eq, undef, Nat.reducePow, Nat.reduceDiv, Nat.reduceMod, goR_call sort_nil, goR_call compact_nil]
      refine hQ _ _ _ rfl ⟨[], .nil, f1, .nil, fun k => by rw [hnil]⟩
    · subst hv
      have oK : OwnK F1 m1 id cap (allK vss).length (allK vss) := ⟨rfl, o1'⟩
      have hF : ∀ y, y < m.next → y ∈ F1 → False := fun y hy hF => by have := l1 y hF; omega
      have hpos : 1 ≤ (allK vss).length ∨ (allK vss).length = 0 := by omega
      simp only [symA, go_opsd, symB, wantedX, X.put, X.look, Arg.ev, keepOf, restrict, evs, evO, initEnv, xres, tup, noTup, cls, quiet, Nat.reduceAdd, Nat.reduceEqDiff, ↓reduceIte, reduceCtorEq, goInt, exists_eq_left', eq_self, Int.reduceLT, Int.reduceLE, Int.reduceEq, Int.reduceNeg, Int.reduceAdd, Int.reduceSub, forall_const, ne_eq, undef, Nat.reducePow, Nat.reduceDiv, Nat.reduceMod]
      refine goR_wp (sort_spec oK hn) ?_
      rintro _ m2 ⟨rfl, ks, o2, p2, s2, f2⟩
      simp only [symA, go_opsd, symB, wantedX, X.put, X.look, Arg.ev, keepOf, restrict, evs, evO, initEnv, xres, tup, noTup, cls, quiet, Nat.reduceAdd, Nat.reduceEqDiff, ↓reduceIte, reduceCtorEq, goInt, exists_eq_left', eq_self, Int.reduceLT, Int.reduceLE, Int.reduceEq, Int.reduceNeg, Int.reduceAdd, Int.reduceSub, forall_const, ne_eq, undef, Nat.reducePow, Nat.reduceDiv, Nat.reduceMod]
      obtain ⟨q1, q2⟩ := cpt_sorted (srt_pairwise o2.len s2)
      rcases hpos with hpos | hz
      · refine goR_wp (compact_spec o2 hpos (by omega)) ?_
        rintro _ m3 ⟨n3, rfl, o3, f3⟩
        simp only [symA, go_opsd, symB, wantedX, X.put, X.look, Arg.ev, keepOf, restrict, evs, evO, initEnv, xres, tup, noTup, cls, quiet, Nat.reduceAdd, Nat.reduceEqDiff, ↓reduceIte, reduceCtorEq, goInt, exists_eq_left', eq_self, Int.reduceLT, Int.reduceLE, Int.reduceEq, Int.reduceNeg, Int.reduceAdd, Int.reduceSub, forall_const, ne_eq, undef, Nat.reducePow, Nat.reduceDiv, Nat.reduceMod]
        exact hQ _ _ _ rfl ⟨cpt ks, o3.rd, (f1.comp f2 hF).comp f3 hF, q1, fun k => (q2 k).trans p2.mem_iff⟩
      · have hnil : allK vss = [] := List.eq_nil_of_length_eq_zero hz
        have hz' : ((allK vss).length : Int) < 2 := by omega
        have c0 : Ca 39 [SV id (allK vss).length cap] m2 (SV id (allK vss).length cap) m2 := by
          refine callX_of (call_go (F := _) rfl rfl fun Q hQ => ?_)
          simp only [symA, go_opsd, symB, wantedX, X.put, X.look, Arg.ev, keepOf, restrict, evs, evO, initEnv, xres, tup, noTup, cls, quiet, Nat.reduceAdd, Nat.reduceEqDiff, ↓reduceIte, reduceCtorEq, goInt, exists_eq_left', eq_self, Int.reduceLT, Int.reduceLE, Int.reduceEq, Int.reduceNeg, Int.reduceAdd, Int.reduceSub, forall_const, ne_eq, undef, Nat.reducePow, Nat.reduceDiv, Nat.reduceMod, hz']
          exact hQ _ _ _ rfl ⟨rfl, rfl⟩
        simp only [symA, go_opsd, symB, wantedX, X.put, X.look, Arg.ev, keepOf, restrict, evs, evO, initEnv, xres, tup, noTup, cls, quiet, Nat.reduceAdd, Nat.reduceEqDiff, ↓reduceIte, reduceCtorEq, goInt, exists_eq_left', eq_self, Int.reduceLT, Int.reduceLE, Int.reduceEq, Int.reduceNeg, Int.reduceAdd, Int.reduceSub, forall_const, ne_eq, undef, Nat.reducePow, Nat.reduceDiv, Nat.reduceMod, goR_call c0]
        have hks : ks = [] := List.eq_nil_of_length_eq_zero (by rw [o2.len, hz])
        subst hks
        exact hQ _ _ _ rfl ⟨[], o2.rd, f1.comp f2 hF, .nil, fun k => by rw [hnil]⟩
end
end Go.Proofs.Ytlldfkapaeidoaa
