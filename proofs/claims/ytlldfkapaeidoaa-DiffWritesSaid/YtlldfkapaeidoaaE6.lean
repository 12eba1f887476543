/-
  Own work. The writes from entries to others: the program's, and the document's. The program's writes are the document's.
-/
import Derived.Test.YtlldfkapaeidoaaE3
import Derived.Test.YtlldfkapaeidoaaE4
namespace Go.Proofs.Ytlldfkapaeidoaa
open Go X
set_option maxRecDepth 100000
attribute [local irreducible] X.Go' X.GoO X.GoR X.GoG X.GoC X.GoF X.GoFV X.GoFG X.Ex X.GoD X.GoDV X.GoDG
set_option linter.unusedVariables false
set_option linter.unusedSimpArgs false

abbrev OwnW (F : List Nat) (m : Mem) (v : Value) (ws : List Wr) : Prop := Own2 5 F m v (rowsW ws)
theorem ownW_one {F : List Nat} {m : Mem} {v : Value} {ws : List Wr} (h : OwnW F m v ws) (x : Wr) (hl : ws.length ≤ 1000000) :
    ∃ v' m' F', appendE (m.push { cells := x.row, rw := true, spare := none, kin := [] }) 5 56 ZW v (.slice (some ⟨m.next, 0, none⟩) 1 1) = some (.val v' m') ∧ OwnW F' m' v' (ws ++ [x]) ∧ Fm (· ∈ F) m m' ∧ ∀ i ∈ F', i ∈ F ∨ m.next ≤ i := by
  obtain ⟨v', m', F', h1, h2, h3, h4⟩ := h.one (bytes := 56) (zero := ZW) (row := x.row) rfl (by omega) rfl (by rw [List.length_map]; omega) (by rw [List.length_map]; omega)
  refine ⟨v', m', F', h1, ?_, h3, h4⟩
  rw [OwnW, rowsW, List.map_append]
  exact h2
theorem buildS {m : Mem} {x : Wr} : buildSliceE m ZW 5 1 [(0, .agg ⟨x.row⟩)] = some (.val (.slice (some ⟨m.next, 0, none⟩) 1 1) (m.push { cells := x.row, rw := true, spare := none, kin := [] })) := by kernel_rfl
theorem buildS0 {m : Mem} : buildSliceE m ZW 5 0 [] = some (.val (.slice (some ⟨m.next, 0, none⟩) 0 0) (m.push { cells := [], rw := true, spare := none, kin := [] })) := by kernel_rfl
theorem ld_wr {m : Mem} {p : Nat} {x : Wr} (hg : m.get p = some { cells := x.row, rw := true, spare := none, kin := [] }) : ldA m 5 (.pointer (some ⟨p, 0, none⟩)) = some (.val (.agg ⟨x.row⟩) m) := by
  simp [ldA, xload, hg]
theorem fm_take {α β : Type} {f : α → Option β} {l : List α} {i : Nat} {x : α} (hx : l[i]? = some x) : (l.take (i + 1)).filterMap f = (l.take i).filterMap f ++ (f x).toList := by
  rw [List.take_add_one, hx, List.filterMap_append]
  congr 1
theorem fm_le {α β : Type} {f : α → Option β} {l : List α} (i : Nat) : ((l.take i).filterMap f).length ≤ l.length := by
  have h1 := List.length_filterMap_le f (l.take i)
  rw [List.length_take] at h1
  omega

/-- The document's. -/
def docW (vs ws : List Ent) : List Wr := (mrg (mrg [] vs) ws).filterMap fun k => turnE k vs ws
theorem rwrites_spec {b : Nat} {m : Mem} {v w : Value} {vs ws : List Ent} (h : RdE b m v vs) (h' : RdE b m w ws) (hl : vs.length ≤ 100) (hl' : ws.length ≤ 100) (hb : b ≤ m.next) :
    ∃ r m', Ca 17 [v, w] m r m' ∧ RdW m'.next m' r (docW vs ws) ∧ Nx m m' := by
  have key : Wc 17 [v, w] m fun r m' => RdW m'.next m' r (docW vs ws) ∧ Nx m m' := by
    refine call_go (F := _) rfl rfl fun Q hQ => ?_
    obtain ⟨m1, hm1⟩ : ∃ m1, m.push { cells := [], rw := true, spare := none, kin := [] } = m1 := ⟨_, rfl⟩
    have f1 : Nx m m1 := hm1 ▸ .push
    obtain ⟨kv, m2, q1, q2, q3⟩ := rkeys_spec (ks := []) (hv := .slice (some ⟨m.next, 0, none⟩) 0 0) (b := m1.next) RdS.nil (rd_up' (h.fr f1 hb (fun _ h => h.elim)) (Nat.le_trans hb f1.next)) (by simp) (by omega) (Nat.le_refl _)
    have f2 : Nx m m2 := f1.comp q3 fun _ _ h => h
    have hk1 := mrg_length [] vs
    obtain ⟨kw, m3, r1, r2, r3⟩ := rkeys_spec (b := m2.next) q2 (rd_up' (h'.fr f2 hb (fun _ h => h.elim)) (Nat.le_trans hb f2.next)) (by simp at hk1; omega) (by omega) (Nat.le_refl _)
    have f3 : Nx m m3 := f2.comp r3 fun _ _ h => h
    have hk2 := mrg_length (mrg [] vs) ws
    obtain ⟨ks, hks⟩ : ∃ ks, mrg (mrg [] vs) ws = ks := ⟨_, rfl⟩
    have hdoc : docW vs ws = ks.filterMap fun k => turnE k vs ws := by unfold docW; rw [hks]
    rw [hks] at r2 hk2
    have hkl : ks.length ≤ 200 := by simp at hk1; omega
    obtain ⟨m4, hm4⟩ : ∃ m4, m3.push { cells := [], rw := true, spare := none, kin := [] } = m4 := ⟨_, rfl⟩
    have f34 : Nx m3 m4 := hm4 ▸ .push
    have f4 : Nx m m4 := f3.comp f34 fun _ _ h => h
    obtain ⟨p, c, rfl⟩ := rdK_slice r2
    have hn3 := f3.next
    simp only [symA, go_opsd, symB, wantedX, X.put, X.look, Arg.ev, keepOf, restrict, evs, evO, initEnv, xres, tup, noTup, cls, quiet, Nat.reduceAdd, Nat.reduceEqDiff, ↓reduceIte, reduceCtorEq, goInt, exists_eq_left', eq_self, Int.reduceLT, Int.reduceLE, Int.reduceEq, Int.reduceNeg, Int.reduceAdd, Int.reduceSub, forall_const, ne_eq, undef, Nat.reducePow, Nat.reduceDiv, Nat.reduceMod, buildSlice_zero, hm1, goR_call q1, goR_call r1, buildS0, hm4]
    refine loop_go (fun q e m' => ∃ (i : Nat) (v' : Value) (F : List Nat), i ≤ ks.length ∧ q = ks.length - i ∧ Nx m3 m' ∧ OwnW F m' v' ((ks.take i).filterMap fun k => turnE k vs ws) ∧ (∀ f ∈ F, m3.next ≤ f) ∧
      e = [(0, v), (1, w), (5, .slice p ks.length c), (6, v'), (7, I i)]) ks.length ⟨0, _, [], by omega, by omega, f34, ⟨by simp, .inr ⟨rfl, by simp, m3.next, rfl⟩⟩, by simp, rfl⟩ ?_
    rintro q e m5 N1 B1 hN1 hB1 ⟨i, v1, F1, hi, rfl, f5, o1, l1, rfl⟩
    by_cases hlt : i < ks.length
    · have hlt' : (i : Int) < (ks.length : Int) := by omega
      obtain ⟨k, hk⟩ : ∃ k, ks[i]? = some k := ⟨_, List.getElem?_eq_getElem hlt⟩
      obtain ⟨ad, cc, o, hv, hg, hc⟩ := rdK_at (r2.fr f5 (Nat.le_refl _) (fun _ h => h.elim)) hk
      cases hv
      have f05 : Nx m m5 := f3.comp f5 fun _ _ h => h
      obtain ⟨m6, t1, t2⟩ := rturn_spec (k := k) (h.fr f05 hb (fun _ h => h.elim)) (h'.fr f05 hb (fun _ h => h.elim)) (by omega) (by omega) (Nat.le_trans hb f05.next)
      have w1 : IntKind.i64.wrap ((i : Int) + 1) = ((i + 1 : Nat) : Int) := by rw [wrap_i64 (by omega) (by omega)]; omega
      have hst := fm_take (f := fun k => turnE k vs ws) hk
      have hle := fm_le (f := fun k => turnE k vs ws) (l := ks) i
      unfold tupW at t1
      obtain ⟨m7, s1, s2, s3, s4⟩ := new_store (m := m6) (z := ZW) (row := ((turnE k vs ws).getD zeroW).row) (n := 5) rfl rfl (by omega)
      have f57 : Nx m5 m7 := t2.comp s3 fun _ _ h => h
      have f7 : Nx m3 m7 := f5.comp f57 fun _ _ h => h
      have ld := ld_wr s2
      have n7 := f7.next
      cases ht : turnE k vs ws with
      | none =>
        rw [ht] at hst t1 s1
        simp only [symA, go_opsd, symB, wantedX, X.put, X.look, Arg.ev, keepOf, restrict, evs, evO, initEnv, xres, tup, noTup, cls, quiet, Nat.reduceAdd, Nat.reduceEqDiff, ↓reduceIte, reduceCtorEq, goInt, exists_eq_left', eq_self, Int.reduceLT, Int.reduceLE, Int.reduceEq, Int.reduceNeg, Int.reduceAdd, Int.reduceSub, forall_const, ne_eq, undef, Nat.reducePow, Nat.reduceDiv, Nat.reduceMod, hlt', hlt, hg, hc, goR_call t1, s1, Option.isSome_none, w1]
        exact hN1 _ _ (ks.length - (i + 1)) (by omega) ⟨i + 1, v1, F1, by omega, rfl, f7, by rw [hst]; simpa using o1.fr f57 (fun _ _ h => h), l1, rfl⟩
      | some x =>
        rw [ht] at hst t1 s1 ld
        simp only [Option.getD_some, Option.isSome_some] at t1 s1 ld
        obtain ⟨v2, m8, F2, u1, u2, u3, u4⟩ := ownW_one (o1.fr f57 (fun _ _ h => h)) x (by omega)
        simp only [symA, go_opsd, symB, wantedX, X.put, X.look, Arg.ev, keepOf, restrict, evs, evO, initEnv, xres, tup, noTup, cls, quiet, Nat.reduceAdd, Nat.reduceEqDiff, ↓reduceIte, reduceCtorEq, goInt, exists_eq_left', eq_self, Int.reduceLT, Int.reduceLE, Int.reduceEq, Int.reduceNeg, Int.reduceAdd, Int.reduceSub, forall_const, ne_eq, undef, Nat.reducePow, Nat.reduceDiv, Nat.reduceMod, hlt', hlt, hg, hc, goR_call t1, s1, Option.isSome_some, ld, Option.getD_some, buildS, u1, w1]
        refine hN1 _ _ (ks.length - (i + 1)) (by omega) ⟨i + 1, v2, F2, by omega, rfl, f7.comp u3 (fun y hy hF => by have := l1 y hF; omega), by rw [hst]; exact u2, fun y hy => ?_, rfl⟩
        rcases u4 y hy with h | h
        · exact l1 y h
        · omega
    · have hlt' : ¬ (i : Int) < (ks.length : Int) := by omega
      have hall : ks.take i = ks := List.take_of_length_le (by omega)
      rw [hall] at o1
      simp only [symA, go_opsd, symB, wantedX, X.put, X.look, Arg.ev, keepOf, restrict, evs, evO, initEnv, xres, tup, noTup, cls, quiet, Nat.reduceAdd, Nat.reduceEqDiff, ↓reduceIte, reduceCtorEq, goInt, exists_eq_left', eq_self, Int.reduceLT, Int.reduceLE, Int.reduceEq, Int.reduceNeg, Int.reduceAdd, Int.reduceSub, forall_const, ne_eq, undef, Nat.reducePow, Nat.reduceDiv, Nat.reduceMod, hlt']
      refine hB1 _ _ _ ?_
      simp only [symA, go_opsd, symB, wantedX, X.put, X.look, Arg.ev, keepOf, restrict, evs, evO, initEnv, xres, tup, noTup, cls, quiet, Nat.reduceAdd, Nat.reduceEqDiff, ↓reduceIte, reduceCtorEq, goInt, exists_eq_left', eq_self, Int.reduceLT, Int.reduceLE, Int.reduceEq, Int.reduceNeg, Int.reduceAdd, Int.reduceSub, forall_const, ne_eq, undef, Nat.reducePow, Nat.reduceDiv, Nat.reduceMod]
      exact hQ _ _ _ rfl ⟨by rw [hdoc]; exact o1.rd (by omega), f3.comp f5 fun _ _ h => h⟩
  obtain ⟨r, m', hc, h1, h2⟩ := key
  exact ⟨r, m', hc, h1, h2⟩
end Go.Proofs.Ytlldfkapaeidoaa

namespace Go.Proofs.Ytlldfkapaeidoaa
open Go X
set_option maxRecDepth 100000
attribute [local irreducible] X.Go' X.GoO X.GoR X.GoG X.GoC X.GoF X.GoFV X.GoFG X.Ex X.GoD X.GoDV X.GoDG
set_option linter.unusedVariables false
set_option linter.unusedSimpArgs false

/-! ## Keys that rise, with the same members -/
theorem sorted_ext : ∀ {a b : List ByteArray}, SortK a → SortK b → (∀ k, k ∈ a ↔ k ∈ b) → a = b
  | [], [], _, _, _ => rfl
  | [], y :: b, _, _, h => by have := (h y).2 (by simp); cases this
  | x :: a, [], _, _, h => by have := (h x).1 (by simp); cases this
  | x :: a, y :: b, ha, hb, h => by
    obtain ⟨a1, a2⟩ := List.pairwise_cons.1 ha
    obtain ⟨b1, b2⟩ := List.pairwise_cons.1 hb
    have hxy : x = y := by
      rcases List.mem_cons.1 ((h x).1 (by simp)) with e | e
      · exact e
      · rcases List.mem_cons.1 ((h y).2 (by simp)) with e' | e'
        · exact e'.symm
        · exact absurd (a1 y e') (ltT_asymm (b1 x e))
    subst hxy
    rw [sorted_ext a2 b2 fun k => ?_]
    constructor
    · intro hk
      rcases List.mem_cons.1 ((h k).1 (List.mem_cons_of_mem _ hk)) with e | e
      · subst e; exact absurd (a1 k hk) (ltT_irrefl k)
      · exact e
    · intro hk
      rcases List.mem_cons.1 ((h k).2 (List.mem_cons_of_mem _ hk)) with e | e
      · subst e; exact absurd (b1 k hk) (ltT_irrefl k)
      · exact e
theorem mrg_sorted : ∀ (h : List ByteArray) (l : List Ent), SortK h → SortE l → SortK (mrg h l) ∧ ∀ k, k ∈ mrg h l ↔ k ∈ h ∨ k ∈ keysE l
  | [], l, h1, h2 => by
    rw [mrg]
    exact ⟨List.pairwise_map.2 h2, fun k => by simp⟩
  | a :: h, [], h1, h2 => by
    rw [mrg_nil]
    exact ⟨h1, fun k => by simp⟩
  | a :: h, x :: l, h1, h2 => by
    obtain ⟨a1, a2⟩ := List.pairwise_cons.1 h1
    obtain ⟨b1, b2⟩ := List.pairwise_cons.1 h2
    rw [mrg]
    have hkx : ∀ k, k ∈ keysE l → ltT x.key k := fun k hk => by
      obtain ⟨y, hy, rfl⟩ := List.mem_map.1 hk
      exact b1 y hy
    by_cases hax : ltT a x.key
    · rw [if_pos hax]
      obtain ⟨k1, k2⟩ := mrg_sorted h (x :: l) a2 h2
      refine ⟨List.pairwise_cons.2 ⟨fun k hk => ?_, k1⟩, fun k => ?_⟩
      · rcases (k2 k).1 hk with e | e
        · exact a1 k e
        · rcases List.mem_cons.1 e with e | e
          · rw [e]; exact hax
          · exact ltT_trans hax (hkx k e)
      · rw [List.mem_cons, k2 k, List.mem_cons, or_assoc]
    · rw [if_neg hax]
      by_cases he : a = x.key
      · rw [if_pos he]
        obtain ⟨k1, k2⟩ := mrg_sorted h (x :: l) a2 h2
        refine ⟨k1, fun k => ?_⟩
        rw [k2 k, List.mem_cons]
        constructor
        · rintro (e | e); exact .inl (.inr e); exact .inr e
        · rintro ((e | e) | e)
          · exact .inr (by rw [e, he]; simp [keysE])
          · exact .inl e
          · exact .inr e
      · rw [if_neg he]
        obtain ⟨k1, k2⟩ := mrg_sorted (a :: h) l h1 b2
        have hxa : ltT x.key a := by
          rcases ltT_total hax with e | e
          · exact absurd e he
          · exact e
        refine ⟨List.pairwise_cons.2 ⟨fun k hk => ?_, k1⟩, fun k => ?_⟩
        · rcases (k2 k).1 hk with e | e
          · rcases List.mem_cons.1 e with e | e
            · rw [e]; exact hxa
            · exact ltT_trans hxa (a1 k e)
          · exact hkx k e
        · rw [List.mem_cons, k2 k]
          simp only [keysE, List.map_cons, List.mem_cons]
          constructor
          · rintro (e | e | e)
            · exact .inr (.inl e)
            · exact .inl e
            · exact .inr (.inr e)
          · rintro (e | e | e)
            · exact .inr (.inl e)
            · exact .inl e
            · exact .inr (.inr e)
termination_by h l => h.length + l.length
theorem okE_srt : ∀ {vs : List Ent} {k : Option ByteArray}, okE k vs = true → SortE vs ∧ ∀ a, k = some a → ∀ x ∈ vs, ltT a x.key
  | [], k, h => ⟨.nil, by simp⟩
  | x :: vs, k, h => by
    simp only [okE, Bool.and_eq_true] at h
    obtain ⟨⟨_, h2⟩, h3⟩ := h
    obtain ⟨k1, k2⟩ := okE_srt h3
    refine ⟨List.pairwise_cons.2 ⟨fun z hz => k2 _ rfl z hz, k1⟩, fun a ha z hz => ?_⟩
    subst ha
    simp only [prevOk, decide_eq_true_eq] at h2
    rcases List.mem_cons.1 hz with rfl | hz
    · exact h2
    · exact ltT_trans h2 (k2 _ rfl z hz)

/-! ## Slices as elements -/
theorem rdS_lit {b : Nat} {m : Mem} {id : Nat} {vals : List Value} (hg : m.get id = some { cells := vals, rw := true, spare := none, kin := [] }) (hb : id < b) : RdS b m 1 (.slice (some ⟨id, 0, none⟩) vals.length vals.length) (vals.map fun x => [x]) := by
  refine ⟨_, _, by rw [List.length_map], by rw [List.length_map]; exact Nat.le_refl _, fun i r hr => ?_⟩
  rw [List.getElem?_map] at hr
  cases hk : vals[i]? with
  | none => rw [hk] at hr; cases hr
  | some k =>
    rw [hk] at hr
    cases hr
    refine ⟨rfl, ⟨id, 0, none⟩, _, rfl, hb, hg, fun j hj => ?_⟩
    have : j = 0 := by omega
    subst this
    simpa using hk
theorem buildK2 {m : Mem} {p q : Option Addr} {n c n' c' : Nat} : buildSliceE m [.slice none 0 0] 1 2 [(0, .slice p n c), (1, .slice q n' c')] = some (.val (.slice (some ⟨m.next, 0, none⟩) 2 2) (m.push { cells := [.slice p n c, .slice q n' c'], rw := true, spare := none, kin := [] })) := by kernel_rfl

/-- The keys of two. -/
theorem keys2 {b : Nat} {m : Mem} {p q : Option Addr} {c c' : Nat} {vs ws : List Ent} (h : RdE b m (.slice p vs.length c) vs) (h' : RdE b m (.slice q ws.length c') ws) (hs : SortE vs) (hs' : SortE ws) (hl : vs.length ≤ 100) (hl' : ws.length ≤ 100) (hb : b ≤ m.next) :
    ∃ r m', Ca 30 [.slice (some ⟨m.next, 0, none⟩) 2 2] (m.push { cells := [.slice p vs.length c, .slice q ws.length c'], rw := true, spare := none, kin := [] }) r m' ∧ RdK m'.next m' r (mrg (mrg [] vs) ws) ∧ Nx m m' := by
  obtain ⟨m1, hm1⟩ : ∃ m1, m.push { cells := [.slice p vs.length c, .slice q ws.length c'], rw := true, spare := none, kin := [] } = m1 := ⟨_, rfl⟩
  have g1 : m1.get m.next = some { cells := [.slice p vs.length c, .slice q ws.length c'], rw := true, spare := none, kin := [] } := by rw [← hm1, push_self]
  have f1 : Nx m m1 := hm1 ▸ .push
  have n1 : m1.next = m.next + 1 := by rw [← hm1]; simp
  have hal : allK [vs, ws] = keysE vs ++ keysE ws := by simp [allK]
  rw [hm1]
  obtain ⟨r, m', hc, ks, h1, h2, h3, h4⟩ := keys_spec (b := m1.next) (vss := [vs, ws]) (vals := [.slice p vs.length c, .slice q ws.length c']) rfl (rdS_lit g1 (by omega)) (fun i v us hi hu => by
    match i with
    | 0 => simp at hi hu; subst hi hu; exact rd_up' (h.fr f1 hb (fun _ h => h.elim)) (by omega)
    | 1 => simp at hi hu; subst hi hu; exact rd_up' (h'.fr f1 hb (fun _ h => h.elim)) (by omega)
    | i + 2 => simp at hi) (Nat.le_refl _) (by rw [hal]; simp; omega) (by simp)
  have e : ks = mrg (mrg [] vs) ws := by
    obtain ⟨k1, k2⟩ := mrg_sorted [] vs .nil hs
    obtain ⟨k3, k4⟩ := mrg_sorted (mrg [] vs) ws k1 hs'
    refine sorted_ext h3 k3 fun k => ?_
    rw [h4 k, k4 k, k2 k, hal]
    simp
  rw [e] at h1
  exact ⟨r, m', hc, h1, f1.comp h2 fun _ _ h => h⟩

theorem writes_spec {b : Nat} {m : Mem} {v w : Value} {vs ws : List Ent} (h : RdE b m v vs) (h' : RdE b m w ws) (hw : ∀ x ∈ vs, x.Wf) (hw' : ∀ x ∈ ws, x.Wf) (hl : vs.length ≤ 100) (hl' : ws.length ≤ 100) (hb : b ≤ m.next) :
    ∃ r m', Ca 22 [v, w] m (.tuple #[r, I (bif okE none vs && okE none ws then 0 else 1)]) m' ∧ RdW m'.next m' r (bif okE none vs && okE none ws then docW vs ws else []) ∧ CutB m'.next m' 5 r ∧ Nx m m' := by
  have key : Wc 22 [v, w] m fun r m' => ∃ u, r = .tuple #[u, I (bif okE none vs && okE none ws then 0 else 1)] ∧ RdW m'.next m' u (bif okE none vs && okE none ws then docW vs ws else []) ∧ CutB m'.next m' 5 u ∧ Nx m m' := by
    refine call_go (F := _) rfl rfl fun Q hQ => ?_
    obtain ⟨m1, r1, f1⟩ := right h hw (by omega) hb
    obtain ⟨m2, q1, q2⟩ := right (h'.fr f1 hb (fun _ h => h.elim)) hw' (by omega) (Nat.le_trans hb f1.next)
    have f2 : Nx m m2 := f1.comp q2 fun _ _ h => h
    obtain ⟨p, c, rfl⟩ := rdE_slice h
    obtain ⟨p', c', rfl⟩ := rdE_slice h'
    cases e1 : okE none vs with
    | false =>
      rw [e1] at r1 hQ
      simp only [symA, go_opsd, symB, wantedX, X.put, X.look, Arg.ev, keepOf, restrict, evs, evO, initEnv, xres, tup, noTup, cls, quiet, Nat.reduceAdd, Nat.reduceEqDiff, ↓reduceIte, reduceCtorEq, goInt, exists_eq_left', eq_self, Int.reduceLT, Int.reduceLE, Int.reduceEq, Int.reduceNeg, Int.reduceAdd, Int.reduceSub, forall_const, ne_eq, undef, Nat.reducePow, Nat.reduceDiv, Nat.reduceMod, goR_call r1]
      exact hQ _ _ _ rfl ⟨_, rfl, .nil, .nil, f1⟩
    | true =>
    cases e2 : okE none ws with
    | false =>
      rw [e1] at r1 hQ
      rw [e2] at q1 hQ
      simp only [symA, go_opsd, symB, wantedX, X.put, X.look, Arg.ev, keepOf, restrict, evs, evO, initEnv, xres, tup, noTup, cls, quiet, Nat.reduceAdd, Nat.reduceEqDiff, ↓reduceIte, reduceCtorEq, goInt, exists_eq_left', eq_self, Int.reduceLT, Int.reduceLE, Int.reduceEq, Int.reduceNeg, Int.reduceAdd, Int.reduceSub, forall_const, ne_eq, undef, Nat.reducePow, Nat.reduceDiv, Nat.reduceMod, goR_call r1, goR_call q1]
      exact hQ _ _ _ rfl ⟨_, rfl, .nil, .nil, f2⟩
    | true =>
    rw [e1] at r1 hQ
    rw [e2] at q1 hQ
    have hs := (okE_srt e1).1
    have hs' := (okE_srt e2).1
    obtain ⟨kv, m3, k1, k2, k3⟩ := keys2 (h.fr f2 hb (fun _ h => h.elim)) (h'.fr f2 hb (fun _ h => h.elim)) hs hs' hl hl' (Nat.le_trans hb f2.next)
    have f3 : Nx m m3 := f2.comp k3 fun _ _ h => h
    have hk1 := mrg_length [] vs
    have hk2 := mrg_length (mrg [] vs) ws
    obtain ⟨ks, hks⟩ : ∃ ks, mrg (mrg [] vs) ws = ks := ⟨_, rfl⟩
    have hdoc : docW vs ws = ks.filterMap fun k => turnE k vs ws := by unfold docW; rw [hks]
    rw [hks] at k2 hk2
    have hkl : ks.length ≤ 200 := by simp at hk1; omega
    obtain ⟨pk, ck, rfl⟩ := rdK_slice k2
    have hn3 := f3.next
    simp only [symA, go_opsd, symB, wantedX, X.put, X.look, Arg.ev, keepOf, restrict, evs, evO, initEnv, xres, tup, noTup, cls, quiet, Nat.reduceAdd, Nat.reduceEqDiff, ↓reduceIte, reduceCtorEq, goInt, exists_eq_left', eq_self, Int.reduceLT, Int.reduceLE, Int.reduceEq, Int.reduceNeg, Int.reduceAdd, Int.reduceSub, forall_const, ne_eq, undef, Nat.reducePow, Nat.reduceDiv, Nat.reduceMod, goR_call r1, goR_call q1, buildK2, goR_call k1]
    refine loop_go (fun q e m' => ∃ (i : Nat) (v' : Value) (F : List Nat), i ≤ ks.length ∧ q = ks.length - i ∧ Nx m3 m' ∧ OwnW F m' v' ((ks.take i).filterMap fun k => turnE k vs ws) ∧ (∀ f ∈ F, m3.next ≤ f) ∧
      e = [(0, .slice p vs.length c), (1, .slice p' ws.length c'), (6, v'), (22, .slice pk ks.length ck), (23, I ks.length), (24, I i)]) ks.length ⟨0, _, [], by omega, by omega, .refl, .nil, by simp, rfl⟩ ?_
    rintro q e m5 N1 B1 hN1 hB1 ⟨i, v1, F1, hi, rfl, f5, o1, l1, rfl⟩
    by_cases hlt : i < ks.length
    · have hlt' : (i : Int) < (ks.length : Int) := by omega
      obtain ⟨k, hk⟩ : ∃ k, ks[i]? = some k := ⟨_, List.getElem?_eq_getElem hlt⟩
      obtain ⟨ad, cc, o, hv, hg, hc⟩ := rdK_at (k2.fr f5 (Nat.le_refl _) (fun _ h => h.elim)) hk
      cases hv
      have f05 : Nx m m5 := f3.comp f5 fun _ _ h => h
      obtain ⟨m6, t1, t2⟩ := turn_spec (k := k) (h.fr f05 hb (fun _ h => h.elim)) (h'.fr f05 hb (fun _ h => h.elim)) hs hs' (by omega) (by omega) (Nat.le_trans hb f05.next)
      have w1 : IntKind.i64.wrap ((i : Int) + 1) = ((i + 1 : Nat) : Int) := by rw [wrap_i64 (by omega) (by omega)]; omega
      have hst := fm_take (f := fun k => turnE k vs ws) hk
      have hle := fm_le (f := fun k => turnE k vs ws) (l := ks) i
      unfold tupW at t1
      obtain ⟨m7, s1, s2, s3, s4⟩ := new_store (m := m6) (z := ZW) (row := ((turnE k vs ws).getD zeroW).row) (n := 5) rfl rfl (by omega)
      have f57 : Nx m5 m7 := t2.comp s3 fun _ _ h => h
      have f7 : Nx m3 m7 := f5.comp f57 fun _ _ h => h
      have ld := ld_wr s2
      have n7 := f7.next
      cases ht : turnE k vs ws with
      | none =>
        rw [ht] at hst t1 s1
        simp only [symA, go_opsd, symB, wantedX, X.put, X.look, Arg.ev, keepOf, restrict, evs, evO, initEnv, xres, tup, noTup, cls, quiet, Nat.reduceAdd, Nat.reduceEqDiff, ↓reduceIte, reduceCtorEq, goInt, exists_eq_left', eq_self, Int.reduceLT, Int.reduceLE, Int.reduceEq, Int.reduceNeg, Int.reduceAdd, Int.reduceSub, forall_const, ne_eq, undef, Nat.reducePow, Nat.reduceDiv, Nat.reduceMod, hlt', hlt, hg, hc, goR_call t1, s1, Option.isSome_none, w1]
        exact hN1 _ _ (ks.length - (i + 1)) (by omega) ⟨i + 1, v1, F1, by omega, rfl, f7, by rw [hst]; simpa using o1.fr f57 (fun _ _ h => h), l1, rfl⟩
      | some x =>
        rw [ht] at hst t1 s1 ld
        simp only [Option.getD_some, Option.isSome_some] at t1 s1 ld
        obtain ⟨v2, m8, F2, u1, u2, u3, u4⟩ := ownW_one (o1.fr f57 (fun _ _ h => h)) x (by omega)
        simp only [symA, go_opsd, symB, wantedX, X.put, X.look, Arg.ev, keepOf, restrict, evs, evO, initEnv, xres, tup, noTup, cls, quiet, Nat.reduceAdd, Nat.reduceEqDiff, ↓reduceIte, reduceCtorEq, goInt, exists_eq_left', eq_self, Int.reduceLT, Int.reduceLE, Int.reduceEq, Int.reduceNeg, Int.reduceAdd, Int.reduceSub, forall_const, ne_eq, undef, Nat.reducePow, Nat.reduceDiv, Nat.reduceMod, hlt', hlt, hg, hc, goR_call t1, s1, ld, buildS, u1, w1]
        refine hN1 _ _ (ks.length - (i + 1)) (by omega) ⟨i + 1, v2, F2, by omega, rfl, f7.comp u3 (fun y hy hF => by have := l1 y hF; omega), by rw [hst]; exact u2, fun y hy => ?_, rfl⟩
        rcases u4 y hy with h | h
        · exact l1 y h
        · omega
    · have hlt' : ¬ (i : Int) < (ks.length : Int) := by omega
      have hall : ks.take i = ks := List.take_of_length_le (by omega)
      rw [hall] at o1
      simp only [symA, go_opsd, symB, wantedX, X.put, X.look, Arg.ev, keepOf, restrict, evs, evO, initEnv, xres, tup, noTup, cls, quiet, Nat.reduceAdd, Nat.reduceEqDiff, ↓reduceIte, reduceCtorEq, goInt, exists_eq_left', eq_self, Int.reduceLT, Int.reduceLE, Int.reduceEq, Int.reduceNeg, Int.reduceAdd, Int.reduceSub, forall_const, ne_eq, undef, Nat.reducePow, Nat.reduceDiv, Nat.reduceMod, hlt']
      refine hB1 _ _ _ ?_
      simp only [symA, go_opsd, symB, wantedX, X.put, X.look, Arg.ev, keepOf, restrict, evs, evO, initEnv, xres, tup, noTup, cls, quiet, Nat.reduceAdd, Nat.reduceEqDiff, ↓reduceIte, reduceCtorEq, goInt, exists_eq_left', eq_self, Int.reduceLT, Int.reduceLE, Int.reduceEq, Int.reduceNeg, Int.reduceAdd, Int.reduceSub, forall_const, ne_eq, undef, Nat.reducePow, Nat.reduceDiv, Nat.reduceMod]
      exact hQ _ _ _ rfl ⟨_, rfl, by simp only [Bool.and_self, cond_true]; rw [hdoc]; exact o1.rd (by omega), o1.cutB, f3.comp f5 fun _ _ h => h⟩
  obtain ⟨r, m', hc, u, rfl, h1, h2, h3⟩ := key
  exact ⟨u, m', hc, h1, h2, h3⟩
end Go.Proofs.Ytlldfkapaeidoaa
