/-
  Own work. The document's May; labels as arguments.
-/
import Derived.Test.YtfjeccaffenngaaH5
import Derived.Test.YtfjeccaffenngaaGA
namespace Go.Proofs.Ytfjeccaffenngaa
open Go X
set_option maxRecDepth 100000
set_option linter.unusedVariables false
set_option linter.unusedSimpArgs false

theorem fold_people : ∀ (ds : List Deed) (s : Tb × Rf), (ds.foldl stepB s).1.l.length = s.1.l.length
  | [], s => rfl
  | d :: ds, s => by
    rw [List.foldl_cons, fold_people ds]
    unfold stepB
    cases fits s.2 d with
    | false => rfl
    | true => exact (le_doT s.1 d).len.symm
theorem fold_deeds : ∀ (ds : List Deed) (s : Tb × Rf), (ds.foldl stepB s).2.l.length ≤ s.2.l.length + 2 * ds.length
  | [], s => by simp
  | d :: ds, s => by
    rw [List.foldl_cons]
    have h1 := fold_deeds ds (stepB s d)
    have h2 : (stepB s d).2.l.length ≤ s.2.l.length + 2 := by
      unfold stepB
      cases fits s.2 d with
      | false => show s.2.l.length ≤ _; omega
      | true => exact doR_len s.2 d
    rw [List.length_cons]
    omega

theorem rel_plus {T : Tb} {R : Rf} (h : RelTR T R) {w : Int} (ho : oneB T w = true) : plusR R w = plusN T w := by
  funext t
  exact (h.has w (t : Int) false ho).symm
theorem rel_minus {T : Tb} {R : Rf} (h : RelTR T R) {w : Int} (ho : oneB T w = true) : minusR R w = minusN T w := by
  funext t
  exact (h.has w (t : Int) true ho).symm

section
variable {b b' bp f y : Nat} {m : Mem} {w : Int} {Fr : List Nat} {pq : Option Addr} {R : Rf} {v vb : Value}
/-- Where the search finds a label. -/
theorem found_spec {m' : Mem} {lo : Nat} {F G : List Nat} {ov sv : Value} {vals : List Value} {out : List Nat} {plus minus : Nat → Bool} (hS : SprAt m' lo f F G ov sv vals out) (hB : Bfs plus minus f out out.length 1) (pf : popN f ≤ 6) (hy : y < 256) (hv : RdU b' m' vb (labN y)) :
    Wc 16 [ov, vb] m' fun r m'' => m'' = m' ∧ ∃ k : Int, r = I k ∧ ((k = -1 ∧ ¬ ComesN plus minus f y) ∨ ∃ n : Nat, k = (n : Int) ∧ out[n]? = some y ∧ ComesN plus minus f y) := by
  have hlen := hB.len
  refine wpCall_mono ?_ (at_where hS.rooms hv (by simp; omega) (fun us hus => by
    obtain ⟨z, hz, rfl⟩ := List.mem_map.1 hus
    rw [len_lab]
    have := (hB.ok z hz).pop
    omega))
  rintro r m'' ⟨rfl, k, rfl, hk⟩
  refine ⟨rfl, k, rfl, ?_⟩
  rcases hk with ⟨rfl, hn⟩ | ⟨n, rfl, hn⟩
  · refine .inl ⟨rfl, fun hc => hn ?_⟩
    exact List.mem_map.2 ⟨y, (hB.done pf).2 hc, rfl⟩
  · rw [List.getElem?_map, Option.map_eq_some_iff] at hn
    obtain ⟨z, hz, he⟩ := hn
    have hzm := List.mem_of_getElem? hz
    have : z = y := lab_inj (hB.ok z hzm).lt hy he
    subst this
    exact .inr ⟨n, rfl, hz, hB.ok z hzm⟩

theorem rmay_spec (hR : RefAt m bp Fr pq R) (hRl : R.l.length ≤ 100000) (hv : RdU b m v (labN f)) (hvb : RdU b m vb (labN y)) (hb : b ≤ m.next) (hf : f < 256) (pf : popN f ≤ 6) (hy : y < 256) :
    Wc 17 [Pt bp, I w, v, vb] m fun r m' => Nx m m' ∧ ∃ t : Bool, r = .bool t ∧ (t = true ↔ ((((labN f).all fun g => hasR R (w, g, false)) && oneR R w) = true ∧ ComesN (plusR R w) (minusR R w) f y)) := by
  refine call_go (F := _) rfl rfl fun Q hQ => ?_
  simp only [symA, go_opsd, symB, wantedX, X.put, X.look, Arg.ev, keepOf, restrict, evs, evO, initEnv, xres, tup, noTup, cls, quiet, Nat.reduceAdd, Nat.reduceEqDiff, ↓reduceIte, reduceCtorEq, goInt, exists_eq_left', eq_self, Int.reduceLT, Int.reduceLE, Int.reduceEq, Int.reduceNeg, Int.reduceAdd, Int.reduceSub, forall_const, ne_eq, undef, Nat.reducePow, Nat.reduceDiv, Nat.reduceMod]
  refine goR_wp (spread_spec hR hRl hv hb hf pf) ?_
  rintro _ m1 ⟨f1, F, G, ov, sv, vals, out, rfl, hS, hB⟩
  have hn1 := f1.next
  obtain ⟨m2, hm2⟩ : ∃ m2, m1.push { cells := [], rw := true, spare := none, kin := [] } = m2 := ⟨_, rfl⟩
  have f2 : Nx m1 m2 := hm2 ▸ .push
  have bz : buildSliceE m1 [U 0] 1 0 [] = some (.val (.slice (some ⟨m1.next, 0, none⟩) 0 0) m2) := by rw [← hm2]; exact buildSlice_zero
  have F2 := f1.trans f2
  have k1 := rclear_spec (w := w) (b' := 0) (va := .slice (some ⟨m1.next, 0, none⟩) 0 0) (hR.nx F2) hRl (hv.fr F2 hb (fun _ h => h.elim)) ⟨_, _, rfl, Nat.le_refl _, fun i r hr => by simp at hr⟩ (by rw [len_lab]; unfold popN; have : T8.countP (hasN f) ≤ 8 := List.countP_le_length; omega)
  cases hc : (((labN f).all fun g => hasR R (w, g, false)) && oneR R w) with
  | false =>
    rw [hc] at k1
    simp only [symA, go_opsd, symB, wantedX, X.put, X.look, Arg.ev, keepOf, restrict, evs, evO, initEnv, xres, tup, noTup, cls, quiet, Nat.reduceAdd, Nat.reduceEqDiff, ↓reduceIte, reduceCtorEq, goInt, exists_eq_left', eq_self, Int.reduceLT, Int.reduceLE, Int.reduceEq, Int.reduceNeg, Int.reduceAdd, Int.reduceSub, forall_const, ne_eq, undef, Nat.reducePow, Nat.reduceDiv, Nat.reduceMod, bz, goR_call k1]
    refine hQ _ _ _ rfl ⟨F2, false, rfl, by rw [hc]; simp⟩
  | true =>
    rw [hc] at k1
    simp only [symA, go_opsd, symB, wantedX, X.put, X.look, Arg.ev, keepOf, restrict, evs, evO, initEnv, xres, tup, noTup, cls, quiet, Nat.reduceAdd, Nat.reduceEqDiff, ↓reduceIte, reduceCtorEq, goInt, exists_eq_left', eq_self, Int.reduceLT, Int.reduceLE, Int.reduceEq, Int.reduceNeg, Int.reduceAdd, Int.reduceSub, forall_const, ne_eq, undef, Nat.reducePow, Nat.reduceDiv, Nat.reduceMod, bz, goR_call k1]
    refine goR_wp (found_spec (hS.nx f2) hB pf hy (hvb.fr F2 hb (fun _ h => h.elim))) ?_
    rintro _ _ ⟨rfl, k, rfl, hk⟩
    rcases hk with ⟨rfl, hk⟩ | ⟨n, rfl, _, hk⟩
    · simp only [symA, go_opsd, symB, wantedX, X.put, X.look, Arg.ev, keepOf, restrict, evs, evO, initEnv, xres, tup, noTup, cls, quiet, Nat.reduceAdd, Nat.reduceEqDiff, ↓reduceIte, reduceCtorEq, goInt, exists_eq_left', eq_self, Int.reduceLT, Int.reduceLE, Int.reduceEq, Int.reduceNeg, Int.reduceAdd, Int.reduceSub, forall_const, ne_eq, undef, Nat.reducePow, Nat.reduceDiv, Nat.reduceMod]
      exact hQ _ _ _ rfl ⟨F2, false, rfl, by rw [hc]; simp [hk]⟩
    · have h0 : (0 : Int) ≤ (n : Int) := by omega
      simp only [symA, go_opsd, symB, wantedX, X.put, X.look, Arg.ev, keepOf, restrict, evs, evO, initEnv, xres, tup, noTup, cls, quiet, Nat.reduceAdd, Nat.reduceEqDiff, ↓reduceIte, reduceCtorEq, goInt, exists_eq_left', eq_self, Int.reduceLT, Int.reduceLE, Int.reduceEq, Int.reduceNeg, Int.reduceAdd, Int.reduceSub, forall_const, ne_eq, undef, Nat.reducePow, Nat.reduceDiv, Nat.reduceMod, h0]
      exact hQ _ _ _ rfl ⟨F2, true, rfl, by rw [hc]; simp [hk]⟩
end

section
variable {H : Type} {m m' : Mem} {v : Value}
theorem RdT.up {b b' : Nat} {ns : List Int} (h : RdT b m v ns) (hf : Nx m m') (hb : b ≤ m.next) : RdT b m' v ns := ⟨h.rd.fr hf hb (fun _ h => h.elim), h.len, h.nn⟩
theorem tagsT_last {ns : List Int} (h : RdT m.next m v ns) (f : Nx m m') : RdT m'.next m' v ns := ⟨tags_last h.rd f, h.len, h.nn⟩
theorem abs_tagsT {d : DataW H} (h : wfD Try.prog d 23) :
    ∃ (ns : List Int) (v : Value), (absD Try.prog d 23 m).1 = [v] ∧ Nx m (absD Try.prog d 23 m).2 ∧ RdT (absD Try.prog d 23 m).2.next (absD Try.prog d 23 m).2 v ns := by
  obtain ⟨ns, v, h1, h2, h3, h4, h5⟩ := abs_slice_ints (m := m) Try.underlying23 Try.underlying30 h
  exact ⟨ns, v, h1, h4, h5, h3, fun x hx => (h2 x hx).1⟩
end
end Go.Proofs.Ytfjeccaffenngaa
