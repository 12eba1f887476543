/-
  Own work. The tree, plain: two nodes side by side are one; a node that is too full is two. The tree: of two kids side by side one is too poor: what they stand for then. The tree: a key goes out below a node; it may be too poor then. The tree as a whole: a key isn't there.
-/
import Derived.Test.YtecceimgpeookaaS5
import Derived.Test.YtecceimgpeookaaS4
namespace Go.Proofs.Ytecceimgpeookaa
open Go X
set_option maxRecDepth 100000
set_option linter.unusedVariables false
set_option linter.unusedSimpArgs false

section
variable {R : RepT} {lo hi : Option Key} {s : Key} {ks1 ks2 : List Key} {kids1 kids2 : List Nat} {e1 e2 es : List Ent} {J J1 J2 : List Nat} {ls ls' : List Nd} {h a b i ia ib : Nat} {N A B : Nd}
theorem Row.join (h1 : Row R lo (some s) ks1 kids1 e1 J1) (h2 : Row R (some s) hi ks2 kids2 e2 J2) : Row R lo hi (ks1 ++ s :: ks2) (kids1 ++ kids2) (e1 ++ e2) (J1 ++ J2) := by
  generalize hm : some s = mid at h1
  induction h1 with
  | one h => subst hm; exact .cons h h2
  | cons h t ih =>
    have := Row.cons h (ih hm)
    simpa [List.append_assoc] using this
theorem Rep.head (hr : Rep ls a b h i lo hi es J) : ∃ J', J = i :: J' := by
  cases h with
  | zero => obtain ⟨_, rfl, _⟩ := hr; exact ⟨[], rfl⟩
  | succ _ => obtain ⟨_, _, J', _, rfl, _⟩ := hr; exact ⟨J', rfl⟩
def mergeN (h : Nat) (s : Key) (A B : Nd) : Nd := ⟨if h = 0 then A.keys ++ B.keys else A.keys ++ [s] ++ B.keys, A.nums ++ B.nums, A.kids ++ B.kids⟩
/-- What a node is by its height. -/
theorem Rep.kind (hr : Rep ls a b h i lo hi es J) (hN : ls[i]? = some N) : (h = 0 → N.kids = [] ∧ N.nums.length = N.keys.length ∧ N.size = N.keys.length) ∧ (h ≠ 0 → N.nums = [] ∧ N.kids.length = N.keys.length + 1 ∧ N.size = N.kids.length) ∧ a ≤ N.size ∧ N.size ≤ b := by
  obtain ⟨N', q1, q2, q3, _⟩ := hr.sz
  rw [hN] at q1
  cases q1
  cases h with
  | zero =>
    obtain ⟨h1, _⟩ := hr
    rw [h1] at hN
    cases hN
    exact ⟨fun _ => ⟨rfl, by simp, by simp [Nd.size]⟩, fun q => absurd rfl q, q2, q3⟩
  | succ h =>
    obtain ⟨ks, kids, J', h1, _, h3, _⟩ := hr
    rw [h1] at hN
    cases hN
    have := h3.len
    refine ⟨fun q => by omega, fun _ => ⟨rfl, this, ?_⟩, q2, q3⟩
    unfold Nd.size
    rw [if_neg (by show ¬ kids.length = 0; omega)]
/-- Two are one. -/
theorem mergeP (r1 : Rep ls 1 4 h ia lo (some s) e1 (ia :: J1)) (r2 : Rep ls 1 4 h ib (some s) hi e2 (ib :: J2)) (hA : ls[ia]? = some A) (hB : ls[ib]? = some B) :
    (mergeN h s A B).size = A.size + B.size ∧ ∀ ls' : List Nd, ls'[ia]? = some (mergeN h s A B) → (∀ j ∈ J1 ++ J2, ls'[j]? = ls[j]?) → Rep ls' 1 8 h ia lo hi (e1 ++ e2) (ia :: (J1 ++ J2)) := by
  have g1 : GoodR (Rep ls 1 4 h) := fun _ _ _ _ _ hc => Rep.good (by omega) hc
  have gd := (Row.cons r1 (.one r2)).good g1
  have k1 := r1.kind hA
  have k2 := r2.kind hB
  cases h with
  | zero =>
    obtain ⟨a1, a2, a3, a4, a5, a6⟩ := r1
    obtain ⟨b1, b2, b3, b4, b5, b6⟩ := r2
    rw [a1] at hA
    cases hA
    rw [b1] at hB
    cases hB
    have ej1 : J1 = [] := by simpa using a2
    have ej2 : J2 = [] := by simpa using b2
    subst ej1 ej2
    refine ⟨by simp [mergeN, Nd.size], fun ls' hm _ => ⟨?_, rfl, gd.1, gd.2.1, by rw [List.length_append]; omega, by rw [List.length_append]; omega⟩⟩
    rw [hm]
    simp [mergeN]
  | succ h =>
    obtain ⟨ks1, kids1, J1', a1, a2, a3, a4, a5⟩ := r1
    obtain ⟨ks2, kids2, J2', b1, b2, b3, b4, b5⟩ := r2
    rw [a1] at hA
    cases hA
    rw [b1] at hB
    cases hB
    simp only [List.cons.injEq, true_and] at a2 b2
    subst a2 b2
    refine ⟨?_, fun ls' hm hf => ⟨ks1 ++ s :: ks2, kids1 ++ kids2, _, by rw [hm]; simp [mergeN], rfl, (a3.join b3).frame hf, by rw [List.length_append]; omega, by rw [List.length_append]; omega⟩⟩
    rw [(k1.2.1 (by omega)).2.2, (k2.2.1 (by omega)).2.2]
    unfold Nd.size
    rw [if_neg (by show ¬ (kids1 ++ kids2).length = 0; rw [List.length_append]; omega)]
    exact List.length_append
/-- One is two. -/
theorem splitP (hr : Rep ls a b h i lo hi es (i :: J)) (hN : ls[i]? = some N) (h5 : N.size = 5) :
    ∃ least e1 e2 J1 J2, es = e1 ++ e2 ∧ J = J1 ++ J2 ∧ N.keys[if h = 0 then 2 else 1]? = some least ∧ Inb lo hi least ∧ ∀ (ls' : List Nd) (k : Nat), ls'[i]? = some ⟨N.keys.take (if h = 0 then 2 else 1), N.nums.take 2, N.kids.take 2⟩ → ls'[k]? = some ⟨N.keys.drop 2, N.nums.drop 2, N.kids.drop 2⟩ → (∀ j ∈ J, ls'[j]? = ls[j]?) →
      Rep ls' 2 4 h i lo (some least) e1 (i :: J1) ∧ Rep ls' 2 4 h k (some least) hi e2 (k :: J2) := by
  cases h with
  | zero =>
    obtain ⟨h1, hj, h3, h4, h6, h7⟩ := hr
    rw [h1] at hN
    cases hN
    have ej : J = [] := by simpa using hj
    subst ej
    have hlen : es.length = 5 := by simpa [Nd.size] using h5
    obtain ⟨x, hx⟩ : ∃ x, es[2]? = some x := ⟨_, List.getElem?_eq_getElem (by omega)⟩
    have hd : es.drop 2 = x :: es.drop 3 := by
      obtain ⟨hl, hv⟩ := List.getElem?_eq_some_iff.1 hx
      rw [← hv]; exact List.drop_eq_getElem_cons hl
    obtain ⟨p1, p2, p3⟩ := List.pairwise_append.1 (by rw [List.take_append_drop 2 es]; exact h3 : SortE (es.take 2 ++ es.drop 2))
    have p4 := List.pairwise_cons.1 (hd ▸ p2)
    have hx2 : x ∈ es.drop 2 := by rw [hd]; simp
    refine ⟨x.1, es.take 2, es.drop 2, [], [], (List.take_append_drop 2 es).symm, rfl, ?_, h4 x (List.mem_of_getElem? hx), fun ls' k q1 q2 _ => ⟨⟨?_, rfl, p1, fun e he => ⟨(h4 e (List.mem_of_mem_take he)).1, fun q hq => ?_⟩, ?_, ?_⟩, ⟨?_, rfl, p2, fun e he => ⟨fun q hq => ?_, (h4 e (List.mem_of_mem_drop he)).2⟩, ?_, ?_⟩⟩⟩
    · rw [if_pos rfl]; show (es.map (·.1))[2]? = _; rw [List.getElem?_map, hx]; rfl
    · rw [q1, if_pos rfl]; simp
    · cases hq; exact p3 e he x hx2
    · rw [List.length_take]; omega
    · rw [List.length_take]; omega
    · rw [q2]; simp
    · cases hq
      rw [hd] at he
      rcases List.mem_cons.1 he with rfl | he
      · exact ltT_irrefl _
      · exact ltT_asymm (p4.1 e he)
    · rw [List.length_drop]; omega
    · rw [List.length_drop]; omega
  | succ h =>
    obtain ⟨ks, kids, J', h1, hj, h3, h4, h6⟩ := hr
    rw [h1] at hN
    cases hN
    simp only [List.cons.injEq, true_and] at hj
    subst hj
    have hkl := h3.len
    have hlen : kids.length = 5 := by
      unfold Nd.size at h5
      rw [if_neg (by show ¬ kids.length = 0; omega)] at h5
      exact h5
    obtain ⟨k, e1, e2, J1, J2, hk, r1, r2, rfl, rfl⟩ := h3.part (j := 2) (by omega) (by omega)
    refine ⟨k, e1, e2, J1, J2, rfl, rfl, by rw [if_neg (by omega)]; exact hk, ?_, fun ls' k' q1 q2 hf => ⟨⟨ks.take 1, kids.take 2, J1, by rw [q1, if_neg (by omega)]; simp, rfl, r1.frame fun j hj => hf j (by simp [hj]), ?_, ?_⟩, ⟨ks.drop 2, kids.drop 2, J2, by rw [q2]; simp, rfl, r2.frame fun j hj => hf j (by simp [hj]), ?_, ?_⟩⟩⟩
    · obtain ⟨y, hy⟩ := List.exists_mem_of_ne_nil _ (r2.good goodRep).2.2
      obtain ⟨z, hz⟩ := List.exists_mem_of_ne_nil _ (r1.good goodRep).2.2
      have hy1 := (r2.good goodRep).2.1 y hy
      have hz1 := (r1.good goodRep).2.1 z hz
      refine ⟨fun l hl q => hz1.1 l hl (ltT_trans (hz1.2 k rfl) q), fun h' hh => ?_⟩
      rcases ltT_total (hy1.1 k rfl) with e | e
      · rw [← e]; exact hy1.2 h' hh
      · exact ltT_trans e (hy1.2 h' hh)
    · rw [List.length_take]; omega
    · rw [List.length_take]; omega
    · rw [List.length_drop]; omega
    · rw [List.length_drop]; omega
end
theorem Chg.drop {ls : List Nd} {fr JA JB : List Nat} {ib : Nat} (hg : Good ls fr (JA ++ ib :: JB)) (hl : ib < ls.length) : Chg ls fr (JA ++ ib :: JB) (ls.set ib noNd) (fr ++ [ib]) (JA ++ JB) 0 := by
  have hib : ib ∉ fr := hg.dis ib (by simp)
  have hm : (ib :: (JA ++ JB)).Nodup := (List.perm_middle (l₁ := JA) (a := ib) (l₂ := JB)).nodup_iff.1 hg.nd
  obtain ⟨n1, n2⟩ := List.nodup_cons.1 hm
  have hin : ∀ j, j ∈ JA ++ JB → j ∈ JA ++ ib :: JB := fun j hj => by
    rcases List.mem_append.1 hj with hj | hj <;> simp [hj]
  refine ⟨⟨n2, List.nodup_append.2 ⟨hg.fn, by simp, fun x hx y hy e => ?_⟩, fun j hj => ?_, fun j hj q => ?_⟩, fun j hj => ?_, fun j hj => .inl (hin j hj), fun j h1 h2 h3 => List.getElem?_set_ne fun (e : ib = j) => h2 (by rw [← e]; simp), by simp, by simp⟩
  · have : y = ib := by simpa using hy
    exact hib (by rw [← this, ← e]; exact hx)
  · rw [List.length_set]
    rcases List.mem_append.1 hj with hj | hj
    · exact hg.fl j hj
    · have : j = ib := by simpa using hj
      omega
  · rcases List.mem_append.1 q with q | q
    · exact hg.dis j (hin j hj) q
    · have : j = ib := by simpa using q
      exact n1 (this ▸ hj)
  · rcases List.mem_append.1 hj with hj | hj
    · exact .inl hj
    · have : j = ib := by simpa using hj
      exact .inr (.inl (by simp [this]))
end Go.Proofs.Ytecceimgpeookaa

namespace Go.Proofs.Ytecceimgpeookaa
open Go X
set_option maxRecDepth 100000
attribute [local irreducible] X.Go' X.GoO X.GoR X.GoG X.GoC X.GoF X.GoFV X.GoFG X.Ex X.GoD X.GoDV X.GoDG
set_option linter.unusedVariables false
set_option linter.unusedSimpArgs false

section
variable {σ : Nat → Tag} {m : Mem} {p : Nat} {vl vf : Value} {ns : List (Nat → Value)} {ls : List Nd} {fr : List Nat} {root n : Int}
theorem kind_len {h a i : Nat} {lo hi : Option Key} {es : List Ent} {J : List Nat} {N : Nd} (hr : Rep ls a 4 h i lo hi es J) (hN : ls[i]? = some N) : ∀ f, f < 3 → (N.fld f).length ≤ 4 := by
  obtain ⟨k1, k2, k3, k4⟩ := hr.kind hN
  have l0 : (N.fld 0).length = N.keys.length := List.length_map ..
  have l1 : (N.fld 1).length = N.nums.length := List.length_map ..
  have l2 : (N.fld 2).length = N.kids.length := List.length_map ..
  intro f hf
  by_cases h0 : h = 0
  · obtain ⟨q1, q2, q3⟩ := k1 h0
    have : N.kids.length = 0 := by rw [q1]; rfl
    have hc : f = 0 ∨ f = 1 ∨ f = 2 := by omega
    rcases hc with rfl | rfl | rfl <;> omega
  · obtain ⟨q1, q2, q3⟩ := k2 h0
    have : N.nums.length = 0 := by rw [q1]; rfl
    have hc : f = 0 ∨ f = 1 ∨ f = 2 := by omega
    rcases hc with rfl | rfl | rfl <;> omega
/-- Either they are one, -/
theorem join_any {h i ia ib w id cp : Nat} {lo lo' hi hi' : Option Key} {e1 e2 : List Ent} {J1 J2 : List Nat} {ks : List Key} {kids : List Nat} {A B : Nd} {s : Key} (ht : TMH [] σ m p vl vf ns ls fr root n) (hvl : vl = .slice (some ⟨id, 0, some 0⟩) ls.length cp) (hN : ls[i]? = some ⟨ks, [], kids⟩) (hka : kids[w]? = some ia) (hkb : kids[w + 1]? = some ib) (hs : ks[w]? = some s) (r1 : Rep ls 1 4 h ia lo hi e1 J1) (r2 : Rep ls 1 4 h ib lo' hi' e2 J2) (hA : ls[ia]? = some A) (hB : ls[ib]? = some B)
    (h1 : i ≠ ia) (h2 : i ≠ ib) (h3 : ia ≠ ib) (hks : ks.length ≤ 900) (hkd : kids.length ≤ 900) (hsz : A.size + B.size ≤ 4) (hfl : fr.length ≤ 99990) :
    ∃ m' σ' vf' ns', Ca 77 [Pt p, Pn id i, nv (w + 1)] m (.tuple #[]) m' ∧ TMH [] σ' m' p vl vf' ns' (((ls.set ia (mergeN h s A B)).set i ⟨ks.eraseIdx w, [], kids.eraseIdx (w + 1)⟩).set ib noNd) (fr ++ [ib]) root n ∧ Gr σ σ' m m' := by
  have kl1 := kind_len r1 hA
  have kl2 := kind_len r2 hB
  obtain ⟨k1, k2, k3, k4⟩ := r1.kind hA
  have hl : ∀ f, f < 3 → (A.fld f).length + (B.fld f).length ≤ 900 := fun f hf => by have := kl1 f hf; have := kl2 f hf; omega
  have hwl : w + 1 < kids.length := (List.getElem?_eq_some_iff.1 hkb).1
  cases h with
  | zero =>
    obtain ⟨q1, q2, q3⟩ := k1 rfl
    obtain ⟨m', σ', vf', ns', c1, c2, c3⟩ := joinL ht hvl hN hka hkb hs hA hB h1 h2 h3 (by rw [q1]; rfl) hks hkd hl hfl
    exact ⟨m', σ', vf', ns', mend_join ht hvl hN hka hkb hA hB hsz (by omega) c1, c2, c3⟩
  | succ h =>
    obtain ⟨q1, q2, q3⟩ := k2 (by omega)
    obtain ⟨m', σ', vf', ns', c1, c2, c3⟩ := joinN ht hvl hN hka hkb hs hA hB h1 h2 h3 (by omega) hks hkd hl hfl
    exact ⟨m', σ', vf', ns', mend_join ht hvl hN hka hkb hA hB hsz (by omega) c1, c2, c3⟩
/-- or they share anew. -/
theorem rot_any {h i ia ib w id cp : Nat} {lo lo' hi hi' : Option Key} {e1 e2 : List Ent} {J1 J2 : List Nat} {ks : List Key} {kids : List Nat} {A B : Nd} {s least : Key} (ht : TMH [] σ m p vl vf ns ls fr root n) (hvl : vl = .slice (some ⟨id, 0, some 0⟩) ls.length cp) (hN : ls[i]? = some ⟨ks, [], kids⟩) (hka : kids[w]? = some ia) (hkb : kids[w + 1]? = some ib) (hs : ks[w]? = some s) (r1 : Rep ls 1 4 h ia lo hi e1 J1) (r2 : Rep ls 1 4 h ib lo' hi' e2 J2) (hA : ls[ia]? = some A) (hB : ls[ib]? = some B)
    (h1 : i ≠ ia) (h2 : i ≠ ib) (h3 : ia ≠ ib) (hkd : kids.length ≤ 900) (hsz : A.size + B.size = 5) (hle : (mergeN h s A B).keys[if h = 0 then 2 else 1]? = some least) :
    ∃ m' σ' ns', Ca 77 [Pt p, Pn id i, nv (w + 1)] m (.tuple #[]) m' ∧ TMH [] σ' m' p vl vf ns' (((ls.set ia ⟨(mergeN h s A B).keys.take (if h = 0 then 2 else 1), (mergeN h s A B).nums.take 2, (mergeN h s A B).kids.take 2⟩).set ib ⟨(mergeN h s A B).keys.drop 2, (mergeN h s A B).nums.drop 2, (mergeN h s A B).kids.drop 2⟩).set i ⟨ks.set w least, [], kids⟩) fr root n ∧ Gr σ σ' m m' := by
  obtain ⟨k1, k2, k3, k4⟩ := r1.kind hA
  obtain ⟨l1, l2, l3, l4⟩ := r2.kind hB
  have hwl : w + 1 < kids.length := (List.getElem?_eq_some_iff.1 hkb).1
  cases h with
  | zero =>
    obtain ⟨q1, q2, q3⟩ := k1 rfl
    obtain ⟨o1, o2, o3⟩ := l1 rfl
    obtain ⟨m', σ', ns', c1, c2, c3⟩ := rotL ht hvl hN hka hkb hs hA hB h1 h2 h3 (by rw [q1]; rfl) hsz (by omega) (by rw [List.length_append]; omega) (by rw [List.length_append]; omega) (by rw [q1, o1]; simp) hle
    refine ⟨m', σ', ns', c1, ?_, c3⟩
    have e : (mergeN 0 s A B).kids = [] := by show A.kids ++ B.kids = []; rw [q1, o1]; rfl
    rw [e]
    exact c2
  | succ h =>
    obtain ⟨q1, q2, q3⟩ := k2 (by omega)
    obtain ⟨o1, o2, o3⟩ := l2 (by omega)
    obtain ⟨m', σ', ns', c1, c2, c3⟩ := rotN ht hvl hN hka hkb hs hA hB h1 h2 h3 (by omega) hsz (by omega) (by simp only [List.length_append, List.length_singleton]; omega) (by rw [List.length_append]; omega) (by rw [q1, o1]; simp) hle
    refine ⟨m', σ', ns', c1, ?_, c3⟩
    have e : (mergeN (h + 1) s A B).nums = [] := by show A.nums ++ B.nums = []; rw [q1, o1]; rfl
    rw [e]
    exact c2
theorem erase_at {α : Type} {A B : List α} {x : α} {k : Nat} (hk : k = A.length) : (A ++ x :: B).eraseIdx k = A ++ B := by
  subst hk
  rw [List.eraseIdx_eq_take_drop_succ, List.take_left' rfl]
  congr 1
  have e : A ++ x :: B = (A ++ [x]) ++ B := by simp
  rw [e, List.drop_left' (by simp)]
theorem mend_spec {h i ia ib id cp : Nat} {lo lo' hi hi' : Option Key} {eA e1 e2 eB : List Ent} {JA J1 J2 JB : List Nat} {KA KB : List Key} {A B : List Nat} {NA NB : Nd} {s : Key} (ht : TMH [] σ m p vl vf ns ls fr root n) (hvl : vl = .slice (some ⟨id, 0, some 0⟩) ls.length cp) (hN : ls[i]? = some ⟨KA ++ s :: KB, [], A ++ ia :: ib :: B⟩)
    (z1 : Left (Rep ls 2 4 h) lo lo' KA A eA JA) (r1 : Rep ls 1 4 h ia lo' (some s) e1 J1) (r2 : Rep ls 1 4 h ib (some s) hi' e2 J2) (z3 : Right (Rep ls 2 4 h) hi' hi KB B eB JB) (hg : Good ls fr (i :: (JA ++ (J1 ++ (J2 ++ JB))))) (hA : ls[ia]? = some NA) (hB : ls[ib]? = some NB) (hs1 : 3 ≤ NA.size + NB.size) (hs2 : NA.size + NB.size ≤ 5) (hkd : (A ++ ia :: ib :: B).length ≤ 5) (hfl : fr.length ≤ 99990) :
    ∃ m' σ' vf' ns' ls' fr' ks' kids' J', Ca 77 [Pt p, Pn id i, nv (A.length + 1)] m (.tuple #[]) m' ∧ TMH [] σ' m' p vl vf' ns' ls' fr' root n ∧ Gr σ σ' m m' ∧ ls'[i]? = some ⟨ks', [], kids'⟩ ∧ Row (Rep ls' 2 4 h) lo hi ks' kids' (eA ++ (e1 ++ (e2 ++ eB))) J' ∧
      (A ++ ia :: ib :: B).length ≤ kids'.length + 1 ∧ kids'.length ≤ (A ++ ia :: ib :: B).length ∧ Chg ls fr (i :: (JA ++ (J1 ++ (J2 ++ JB)))) ls' fr' (i :: J') 0 := by
  obtain ⟨J1, rfl⟩ := r1.head
  obtain ⟨J2, rfl⟩ := r2.head
  have hAl := z1.len
  have hBl := z3.len
  have hil : i < ls.length := (List.getElem?_eq_some_iff.1 hN).1
  have hial : ia < ls.length := (List.getElem?_eq_some_iff.1 hA).1
  have hibl : ib < ls.length := (List.getElem?_eq_some_iff.1 hB).1
  have hJ : i :: (JA ++ (ia :: J1 ++ (ib :: J2 ++ JB))) = (i :: (JA ++ ia :: J1)) ++ ib :: (J2 ++ JB) := by simp
  have hJ2 : (i :: (JA ++ (ia :: J1 ++ (ib :: J2 ++ JB)))).Perm (i :: ia :: ib :: (JA ++ (J1 ++ (J2 ++ JB)))) := by
    refine .cons _ ?_
    refine (List.perm_middle (l₁ := JA) (a := ia) (l₂ := J1 ++ (ib :: J2 ++ JB))).trans (.cons _ ?_)
    have e : JA ++ (J1 ++ (ib :: J2 ++ JB)) = (JA ++ J1) ++ ib :: (J2 ++ JB) := by simp
    rw [e]
    refine (List.perm_middle (l₁ := JA ++ J1) (a := ib) (l₂ := J2 ++ JB)).trans (.cons _ ?_)
    rw [List.append_assoc]
  have hnd := hJ2.nodup_iff.1 hg.nd
  obtain ⟨n1, n2⟩ := List.nodup_cons.1 hnd
  obtain ⟨n3, n4⟩ := List.nodup_cons.1 n2
  obtain ⟨n5, n6⟩ := List.nodup_cons.1 n4
  have h1 : i ≠ ia := fun e => n1 (by simp [e])
  have h2 : i ≠ ib := fun e => n1 (by simp [e])
  have h3 : ia ≠ ib := fun e => n3 (by simp [e])
  have ne : ∀ j ∈ JA ++ (J1 ++ (J2 ++ JB)), i ≠ j ∧ ia ≠ j ∧ ib ≠ j := fun j hj => ⟨fun e => n1 (by rw [e]; exact List.mem_cons.2 (.inr (List.mem_cons.2 (.inr hj)))), fun e => n3 (by rw [e]; exact List.mem_cons.2 (.inr hj)), fun e => n5 (by rw [e]; exact hj)⟩
  have hka : (A ++ ia :: ib :: B)[A.length]? = some ia := by rw [List.getElem?_append_right (Nat.le_refl _), Nat.sub_self]; rfl
  have hkb : (A ++ ia :: ib :: B)[A.length + 1]? = some ib := by rw [List.getElem?_append_right (by omega)]; simp
  have hks : (KA ++ s :: KB)[A.length]? = some s := by rw [hAl, List.getElem?_append_right (Nat.le_refl _), Nat.sub_self]; rfl
  have hkl : (KA ++ s :: KB).length ≤ 900 := by
    simp only [List.length_append, List.length_cons] at hkd ⊢
    omega
  obtain ⟨ms, mr⟩ := mergeP r1 r2 hA hB
  by_cases hsum : NA.size + NB.size ≤ 4
  · obtain ⟨m', σ', vf', ns', c1, c2, c3⟩ := join_any ht hvl hN hka hkb hks r1 r2 hA hB h1 h2 h3 hkl (by omega) hsum hfl
    rw [erase_at hAl] at c2
    have eB' : (A ++ ia :: ib :: B).eraseIdx (A.length + 1) = A ++ ia :: B := by
      have e : A ++ ia :: ib :: B = (A ++ [ia]) ++ ib :: B := by simp
      rw [e, erase_at (by simp)]; simp
    rw [eB'] at c2
    have hfrm : ∀ j ∈ JA ++ (J1 ++ (J2 ++ JB)), (((ls.set ia (mergeN h s NA NB)).set i ⟨KA ++ KB, [], A ++ ia :: B⟩).set ib noNd)[j]? = ls[j]? := fun j hj => by
      obtain ⟨q1, q2, q3⟩ := ne j hj
      rw [List.getElem?_set_ne q3, List.getElem?_set_ne q1, List.getElem?_set_ne q2]
    have hM : (((ls.set ia (mergeN h s NA NB)).set i ⟨KA ++ KB, [], A ++ ia :: B⟩).set ib noNd)[ia]? = some (mergeN h s NA NB) := by
      rw [List.getElem?_set_ne (Ne.symm h3), List.getElem?_set_ne h1, List.getElem?_set_self hial]
    have R := mr _ hM fun j hj => hfrm j (by
      rcases List.mem_append.1 hj with hj | hj <;> simp [hj])
    obtain ⟨M', e1', _, _, R'⟩ := R.sz
    rw [hM] at e1'
    cases e1'
    have R2 := R' 2 4 (by omega) (by omega)
    refine ⟨m', σ', vf', ns', _, _, KA ++ KB, A ++ ia :: B, JA ++ ((ia :: (J1 ++ J2)) ++ JB), c1, c2, c3, ?_, ?_, by simp only [List.length_append, List.length_cons]; omega, by simp only [List.length_append, List.length_cons]; omega, ?_⟩
    · rw [List.getElem?_set_ne (Ne.symm h2), List.getElem?_set_self (by rw [List.length_set]; exact hil)]
    · have := (z1.frame (ls' := ((ls.set ia (mergeN h s NA NB)).set i ⟨KA ++ KB, [], A ++ ia :: B⟩).set ib noNd) fun j hj => hfrm j (by simp [hj])).plug (Right.plug R2 (z3.frame fun j hj => hfrm j (by simp [hj])))
      simpa [List.append_assoc] using this
    · have C1 := Chg.set (N := mergeN h s NA NB) (i := ia) hg (by simp)
      have C2 := Chg.set (N := ⟨KA ++ KB, [], A ++ ia :: B⟩) (i := i) C1.good (by simp)
      have g3 := C2.good
      rw [hJ] at g3
      have C3 := Chg.drop g3 (by simp; exact hibl)
      rw [← hJ] at C3
      have := C1.trans (C2.trans C3)
      simpa [List.append_assoc] using this
  · have hs5 : NA.size + NB.size = 5 := by omega
    have hMl : (ls.set ia (mergeN h s NA NB))[ia]? = some (mergeN h s NA NB) := List.getElem?_set_self hial
    have R := mr _ hMl fun j hj => List.getElem?_set_ne (ne j (by
      rcases List.mem_append.1 hj with hj | hj <;> simp [hj])).2.1
    obtain ⟨least, e3, e4, J3, J4, q1, q2, q3, q4, q5⟩ := splitP R hMl (by rw [ms]; exact hs5)
    obtain ⟨m', σ', ns', c1, c2, c3⟩ := rot_any ht hvl hN hka hkb hks r1 r2 hA hB h1 h2 h3 (by omega) hs5 q3
    have eK : (KA ++ s :: KB).set A.length least = KA ++ least :: KB := by rw [hAl]; simp
    rw [eK] at c2
    obtain ⟨N1, hN1⟩ : ∃ N, Nd.mk ((mergeN h s NA NB).keys.take (if h = 0 then 2 else 1)) ((mergeN h s NA NB).nums.take 2) ((mergeN h s NA NB).kids.take 2) = N := ⟨_, rfl⟩
    obtain ⟨N2, hN2⟩ : ∃ N, Nd.mk ((mergeN h s NA NB).keys.drop 2) ((mergeN h s NA NB).nums.drop 2) ((mergeN h s NA NB).kids.drop 2) = N := ⟨_, rfl⟩
    rw [hN1, hN2] at c2
    rw [hN1, hN2] at q5
    have hfrm : ∀ j ∈ JA ++ (J1 ++ (J2 ++ JB)), (((ls.set ia N1).set ib N2).set i ⟨KA ++ least :: KB, [], A ++ ia :: ib :: B⟩)[j]? = ls[j]? := fun j hj => by
      obtain ⟨q1, q2, q3⟩ := ne j hj
      rw [List.getElem?_set_ne q1, List.getElem?_set_ne q3, List.getElem?_set_ne q2]
    have hinJ : ∀ j, j ∈ J1 ++ J2 → j ∈ JA ++ (J1 ++ (J2 ++ JB)) := fun j hj => by
      rcases List.mem_append.1 hj with hj | hj <;> simp [hj]
    obtain ⟨R1, R2⟩ := q5 (((ls.set ia N1).set ib N2).set i ⟨KA ++ least :: KB, [], A ++ ia :: ib :: B⟩) ib (by rw [List.getElem?_set_ne h1, List.getElem?_set_ne (Ne.symm h3), List.getElem?_set_self hial]) (by rw [List.getElem?_set_ne h2, List.getElem?_set_self (by rw [List.length_set]; exact hibl)]) fun j hj => by
      rw [hfrm j (hinJ j hj), List.getElem?_set_ne (ne j (hinJ j hj)).2.1]
    refine ⟨m', σ', vf, ns', _, _, KA ++ least :: KB, A ++ ia :: ib :: B, JA ++ ((ia :: J3) ++ ((ib :: J4) ++ JB)), c1, c2, c3, ?_, ?_, by omega, by omega, ?_⟩
    · rw [List.getElem?_set_self (by rw [List.length_set, List.length_set]; exact hil)]
    · have := (z1.frame (ls' := ((ls.set ia N1).set ib N2).set i ⟨KA ++ least :: KB, [], A ++ ia :: ib :: B⟩) fun j hj => hfrm j (by simp [hj])).plug (.cons R1 (Right.plug R2 (z3.frame fun j hj => hfrm j (by simp [hj]))))
      have e : e1 ++ (e2 ++ eB) = e3 ++ (e4 ++ eB) := by rw [← List.append_assoc, q1, List.append_assoc]
      rw [e]
      exact this
    · have C1 := Chg.set (N := N1) (i := ia) hg (by simp)
      have C2 := Chg.set (N := N2) (i := ib) C1.good (by simp)
      have C3 := Chg.set (N := ⟨KA ++ least :: KB, [], A ++ ia :: ib :: B⟩) (i := i) C2.good (by simp)
      refine (C1.trans (C2.trans C3)).perm (.cons _ (.append_left _ (.cons _ ?_)))
      show (J1 ++ ib :: (J2 ++ JB)).Perm (J3 ++ ib :: (J4 ++ JB))
      refine (List.perm_middle (l₁ := J1)).trans (.trans (.cons _ ?_) (List.perm_middle (l₁ := J3)).symm)
      rw [← List.append_assoc, q2, List.append_assoc]
end
end Go.Proofs.Ytecceimgpeookaa

namespace Go.Proofs.Ytecceimgpeookaa
open Go X
set_option maxRecDepth 100000
attribute [local irreducible] X.Go' X.GoO X.GoR X.GoG X.GoC X.GoF X.GoFV X.GoFG X.Ex X.GoD X.GoDV X.GoDG
set_option linter.unusedVariables false
set_option linter.unusedSimpArgs false

section
variable {R : RepT} {lo hi : Option Key} {σ : Nat → Tag} {m : Mem} {p : Nat} {vl vf : Value} {ns : List (Nat → Value)} {ls : List Nd} {fr : List Nat} {root n : Int}
theorem Right.uncons {hi' : Option Key} {KB : List Key} {b : Nat} {B : List Nat} {eB : List Ent} {JB : List Nat} (h : Right R hi' hi KB (b :: B) eB JB) : ∃ k KB' hi2 e J eB' JB', KB = k :: KB' ∧ hi' = some k ∧ R b (some k) hi2 e J ∧ Right R hi2 hi KB' B eB' JB' ∧ eB = e ++ eB' ∧ JB = J ++ JB' := by
  cases h with
  | cons t =>
    cases t with
    | one h => exact ⟨_, _, _, _, _, _, _, rfl, rfl, h, .nil, by simp, by simp⟩
    | cons h t => exact ⟨_, _, _, _, _, _, _, rfl, rfl, h, .cons t, rfl, rfl⟩
theorem erase_map {α β : Type} (f : α → β) (l : List α) (k : Nat) : (l.eraseIdx k).map f = (l.map f).eraseIdx k := by
  rw [List.eraseIdx_eq_take_drop_succ, List.eraseIdx_eq_take_drop_succ, List.map_append, List.map_take, List.map_drop]
theorem del_len {key : Key} {es : List Ent} (hs : SortE es) (hh : hasK key (es.map (·.1)) = true) : delE key es = es.eraseIdx (posK key (es.map (·.1))) ∧ (delE key es).length + 1 = es.length ∧ posK key (es.map (·.1)) < es.length := by
  obtain ⟨h1, _, h3⟩ := cutE (k := key) hs
  obtain ⟨v, q1, q2⟩ := h3 hh
  have hl := (List.getElem?_eq_some_iff.1 q1).1
  have e : delE key es = es.eraseIdx (posK key (es.map (·.1))) := by
    unfold delE
    rw [← h1, ← q2, List.eraseIdx_eq_take_drop_succ]
  exact ⟨e, by rw [e, List.length_eraseIdx_of_lt hl]; omega, hl⟩
theorem delE_sub {key : Key} {es : List Ent} (hs : SortE es) (hh : hasK key (es.map (·.1)) = true) : (delE key es).Sublist es := by
  rw [(del_len hs hh).1]
  exact List.eraseIdx_sublist ..
theorem hasK_mid {key : Key} {eA es eB : List Ent} (hA : ∀ x ∈ eA, ltT x.1 key) (hB : ∀ x ∈ eB, ltT key x.1) (hh : hasK key ((eA ++ (es ++ eB)).map (·.1)) = true) : hasK key (es.map (·.1)) = true := by
  unfold hasK at hh ⊢
  obtain ⟨k, hk, hd⟩ := List.any_eq_true.1 hh
  have hke : k = key := of_decide_eq_true hd
  subst hke
  obtain ⟨x, hx, rfl⟩ := List.mem_map.1 hk
  rcases List.mem_append.1 hx with hx | hx
  · exact absurd (hA x hx) (ltT_irrefl _)
  · rcases List.mem_append.1 hx with hx | hx
    · exact List.any_eq_true.2 ⟨x.1, List.mem_map.2 ⟨x, hx, rfl⟩, decide_eq_true rfl⟩
    · exact absurd (hB x hx) (ltT_irrefl _)

theorem del_spec {key : Key} : ∀ {h a i : Nat} {σ : Nat → Tag} {m : Mem} {vf : Value} {ns : List (Nat → Value)} {ls : List Nd} {fr : List Nat} {lo hi : Option Key} {es : List Ent} {J : List Nat}, TMH [] σ m p vl vf ns ls fr root n → Rep ls a 4 h i lo hi es J → 1 ≤ a → (h ≠ 0 → 2 ≤ a) → Inb lo hi key → hasK key (es.map (·.1)) = true → Good ls fr J → ls.length ≤ 99990 →
    ∃ m' σ' vf' ns' ls' fr' J', Ca 54 [Pt p, nv i, .string key] m (.tuple #[]) m' ∧ TMH [] σ' m' p vl vf' ns' ls' fr' root n ∧ Gr σ σ' m m' ∧ Rep ls' (a - 1) 4 h i lo hi (delE key es) J' ∧ Chg ls fr J ls' fr' J' 0
  | 0, a, i, σ, m, vf, ns, ls, fr, lo, hi, es, J, ht, hr, ha, ha2, hk, hh, hg, hl => by
    obtain ⟨h1, rfl, h3, h4, h6, h7⟩ := hr
    have hsk : SortK (es.map (·.1)) := by
      unfold SortK
      rw [List.pairwise_map]
      exact h3
    obtain ⟨p1, p2, p3⟩ := del_len h3 hh
    have l0 : (Nd.fld ⟨es.map (·.1), es.map (·.2), []⟩ 0).length = es.length := by show ((es.map (·.1)).map sv).length = _; simp
    have l1 : (Nd.fld ⟨es.map (·.1), es.map (·.2), []⟩ 1).length = es.length := by show ((es.map (·.2)).map iv).length = _; simp
    obtain ⟨id, cp, o, q0, c0, q1, c1, mC, mD, mE, mF, v0, v1, ns', hv, gm, gC, f0, f1, a0, a1, s0, s1, hT, hG⟩ := del2 (F := 1) (k0 := posK key (es.map (·.1))) (k1 := posK key (es.map (·.1))) (N' := ⟨(delE key es).map (·.1), (delE key es).map (·.2), []⟩) ht h1 (.inl rfl) (by rw [l0]; exact p3) (by rw [l1]; exact p3) (by rw [l0]; omega) (by rw [l1]; omega)
      (by show ((delE key es).map (·.1)).map sv = ((es.map (·.1)).map sv).eraseIdx _
          rw [p1, erase_map, erase_map])
      (by show ((delE key es).map (·.2)).map iv = ((es.map (·.2)).map iv).eraseIdx _
          rw [p1, erase_map, erase_map]) rfl
    rw [l0] at f0 a0
    rw [l1] at f1 a1
    have hil : i < ls.length := (List.getElem?_eq_some_iff.1 h1).1
    have hsub := delE_sub h3 hh
    refine ⟨mF, σ, vf, ns', _, fr, [i], callX_of (call_go (F := _) rfl rfl fun Q hQ => ?_), hT, hG, ⟨List.getElem?_set_self hil, rfl, h3.sublist hsub, fun e he => h4 e (hsub.subset he), by omega, by omega⟩, Chg.set hg (by simp)⟩
    obtain ⟨id', cp', o', av, bv, cv, hv', nd⟩ := ht.node h1
    rw [hv] at hv'
    cases hv'
    have hl := nd.leaf
    have hl0 : decide ((([] : List Nat).length : Int) = 0) = true := rfl
    rw [hl0] at hl
    have hbs := bs_spec (k := key) nd.r0 hsk (by rw [List.length_map]; omega)
    have z1 := nd.get
    rw [gm] at z1
    cases z1
    have z2 := nd.c0
    rw [f0] at z2
    cases z2
    have htg := ht.get
    have w1 : IntKind.i64.wrap ((posK key (es.map (·.1)) : Int) + 1) = ((posK key (es.map (·.1)) + 1 : Nat) : Int) := by rw [wrap_i64 (by omega) (by omega)]; omega
    subst hv
    simp only [↓tbS, Nat.reduceShiftRight, Nat.reduceAnd, Nat.reduceBneDiff, bne_self_eq_false, symA, go_opsd, symB, wantedX, X.put, X.look, Arg.ev, keepOf, restrict, evs, evO, initEnv, xres, tup, noTup, cls, quiet, Nat.reduceAdd, Nat.reduceEqDiff, ↓reduceIte, reduceCtorEq, goInt, exists_eq_left', eq_self, Int.reduceLT, Int.reduceLE, Int.reduceEq, Int.reduceNeg, Int.reduceAdd, Int.reduceSub, forall_const, ne_eq, undef, Nat.reducePow, Nat.reduceDiv, Nat.reduceMod, htg, hil, goR_call hl, gm, f0, goR_call hbs, f1, w1, goDV3c a0, goDV3c a1, gC, s0, s1]
    exact hQ _ _ _ rfl ⟨rfl, rfl⟩
  | h + 1, a, i, σ, m, vf, ns, ls, fr, lo, hi, es, J, ht, hr, ha, ha2, hk, hh, hg, hl => by
    obtain ⟨ks, kids, J', h1, rfl, h3, h4, h5⟩ := hr
    have ha2 := ha2 (by omega)
    have hks := (h3.keys goodRep).1
    have hkl := h3.len
    obtain ⟨KA, A, eA, JA, c, lo', hi', e2, Jc, KB, B, eB, JB, z1, z2, z3, z4, rfl, rfl, rfl, rfl, z9, z10, z11⟩ := h3.way goodRep hk
    have hg' : Good ls fr ((i :: JA) ++ (Jc ++ JB)) := hg
    have hil : i < ls.length := (List.getElem?_eq_some_iff.1 h1).1
    have hJA : ∀ j ∈ i :: JA, j < ls.length := fun j hj => by
      rcases List.mem_cons.1 hj with rfl | hj
      · exact hil
      · exact z1.lt j hj
    have hJB := z3.lt
    have hgc : Good ls fr Jc := hg'.sub ((List.sublist_append_left _ _).trans (List.sublist_append_right _ _))
    obtain ⟨m1, σ1, vf1, ns1, ls1, fr1, Jc1, c1, t1, g1, r1, q1⟩ := del_spec (h := h) ht z2 (by omega) (by omega) z4 (hasK_mid z10 z11 hh) hgc (by omega)
    have Q1 := q1.mid hg' hJA hJB
    obtain ⟨n1, n2, n3⟩ := List.nodup_append.1 hg'.nd
    obtain ⟨n4, n5, n6⟩ := List.nodup_append.1 n2
    have aw : ∀ j, j ∈ i :: JA ∨ j ∈ JB → ls1[j]? = ls[j]? := fun j hj => by
      rcases hj with hj | hj
      · exact q1.out j (hJA j hj) (fun q => n3 j hj j (by simp [q]) rfl) (hg'.dis j (List.mem_append.2 (.inl hj)))
      · exact q1.out j (hJB j hj) (fun q => n6 j q j hj rfl) (hg'.dis j (by simp [hj]))
    obtain ⟨N1, hN1, s1, s2, s3⟩ := r1.sz
    have hAl := z1.len
    -- the walk's facts
    obtain ⟨id, cp, o, av, bv, cv, hv, nd⟩ := ht.node h1
    have hleaf := nd.leaf
    have hk0 : ¬ (((A ++ c :: B).length : Nat) : Int) = 0 := by simp only [List.length_append, List.length_cons]; omega
    rw [decide_eq_false hk0] at hleaf
    have hway := nd.way (key := key) hks (by show (KA ++ KB).length ≤ 1000; omega)
    have hw9 : wayK key (Nd.mk (KA ++ KB) [] (A ++ c :: B)).keys = A.length := z9
    rw [hw9] at hway
    have hwc : (A ++ c :: B)[A.length]? = some c := by rw [List.getElem?_append_right (Nat.le_refl _), Nat.sub_self]; rfl
    obtain ⟨ac, cc, oc, d1, d2, d3⟩ := nd.kidAt hwc
    have hwl : A.length < (A ++ c :: B).length := (List.getElem?_eq_some_iff.1 hwc).1
    have hc2 := nd.c2
    have hcl : c < ls1.length := (List.getElem?_eq_some_iff.1 hN1).1
    have hN' : ls1[i]? = some ⟨KA ++ KB, [], A ++ c :: B⟩ := by rw [aw i (.inl (by simp))]; exact h1
    obtain ⟨idn, cpn, on, avn, bvn, cvn, hvn, ndn⟩ := t1.node hN'
    obtain ⟨ac', cc', oc', d1', d2', d3'⟩ := ndn.kidAt hwc
    have hc2n := ndn.c2
    have hgn := ndn.get
    obtain ⟨id1, cp1, o1, av1, bv1, cv1, hv1, nd1⟩ := t1.node hN1
    have hsize := nd1.size
    have htg := ht.get
    have htg1 := t1.get
    rw [hv] at hvn hv1
    have hle1 : ls1.length = ls.length := by have := q1.le; have := q1.len; omega
    have e1 : idn = id := by injection hvn with e; injection e with e; injection e with e; exact e.symm
    have e2' : id1 = id := by injection hv1 with e; injection e with e; injection e with e; exact e.symm
    subst e1 e2'
    by_cases h5' : 2 ≤ N1.size
    · have hgt : ¬ (N1.size : Int) < 2 := by omega
      refine ⟨m1, σ1, vf1, ns1, ls1, fr1, i :: (JA ++ (Jc1 ++ JB)), callX_of (call_go (F := _) rfl rfl fun Q hQ => ?_), t1, g1, ⟨KA ++ KB, A ++ c :: B, _, hN', rfl, ?_, by omega, by omega⟩, Q1⟩
      · subst d1 d1' hv
        have hvq : Value.slice (some ⟨id1, 0, some 0⟩) ls.length cp = Value.slice (some ⟨id1, 0, some 0⟩) ls1.length cp := by rw [hle1]
        have hcl' : c < ls.length := by omega
        simp only [↓tbS, Nat.reduceShiftRight, Nat.reduceAnd, Nat.reduceBneDiff, bne_self_eq_false, symA, go_opsd, symB, wantedX, X.put, X.look, Arg.ev, keepOf, restrict, evs, evO, initEnv, xres, tup, noTup, cls, quiet, Nat.reduceAdd, Nat.reduceEqDiff, ↓reduceIte, reduceCtorEq, goInt, exists_eq_left', eq_self, Int.reduceLT, Int.reduceLE, Int.reduceEq, Int.reduceNeg, Int.reduceAdd, Int.reduceSub, forall_const, ne_eq, undef, Nat.reducePow, Nat.reduceDiv, Nat.reduceMod, htg, hil, goR_call hleaf, nd.get, hc2, goR_call hway, hwl, d2, d3, goR_call c1, htg1, hcl', hgn, hc2n, d2', d3', goDV3c hsize, hgt]
        exact hQ _ _ _ rfl ⟨rfl, rfl⟩
      · rw [delE_mid z10 z11]
        exact (z1.frame fun j hj => aw j (.inl (by simp [hj]))).plug (Right.plug (s3 2 4 h5' s2) (z3.frame fun j hj => aw j (.inr hj)))
    · have hgt : (N1.size : Int) < 2 := by omega
      have hs1 : N1.size = 1 := by omega
      have r1' := s3 1 4 (by omega) s2
      have F1 := z1.frame (ls' := ls1) fun j hj => aw j (.inl (by simp [hj]))
      have F3 := z3.frame (ls' := ls1) fun j hj => aw j (.inr hj)
      rw [hle1.symm] at hv
      -- the two kids side by side
      have hfl1 := q1.good.frlen
      have key : ∃ m2 σ2 vf2 ns2 ls2 fr2 ks2 kids2 J2, Ca 77 [Pt p, Pn id1 i, I (max (A.length : Int) 1)] m1 (.tuple #[]) m2 ∧ TMH [] σ2 m2 p vl vf2 ns2 ls2 fr2 root n ∧ Gr σ1 σ2 m1 m2 ∧ ls2[i]? = some ⟨ks2, [], kids2⟩ ∧ Row (Rep ls2 2 4 h) lo hi ks2 kids2 (eA ++ (delE key e2 ++ eB)) J2 ∧
          (A ++ c :: B).length ≤ kids2.length + 1 ∧ kids2.length ≤ (A ++ c :: B).length ∧ Chg ls1 fr1 (i :: (JA ++ (Jc1 ++ JB))) ls2 fr2 (i :: J2) 0 := by
        by_cases hA0 : A = []
        · subst hA0
          cases F1
          cases hB0 : B with
          | nil =>
            rw [hB0] at h4
            simp at h4
            omega
          | cons b B' =>
            subst hB0
            obtain ⟨k, KB', hi2, e3, J3, eB', JB', rfl, rfl, u1, u2, rfl, rfl⟩ := F3.uncons
            obtain ⟨Nb, w1, w2, w3, w4⟩ := u1.sz
            have hm : max ((([] : List Nat).length : Nat) : Int) 1 = ((([] : List Nat).length + 1 : Nat) : Int) := by simp only [List.length_nil]; omega
            rw [hm]
            have := mend_spec t1 hv hN' .nil r1' (w4 1 4 (by omega) w3) u2 (by simpa [List.append_assoc] using Q1.good) hN1 w1 (by omega) (by omega) (by simp only [List.nil_append, List.length_cons] at h5 ⊢; omega) (by omega)
            simpa [nv, List.append_assoc] using this
        · obtain ⟨KA', A', eA', JA', b, lo1, k, e3, J3, u2, u1, rfl, rfl, rfl, rfl, rfl⟩ := F1.snoc hA0
          obtain ⟨Nb, w1, w2, w3, w4⟩ := u1.sz
          have hm : max (((A' ++ [b]).length : Nat) : Int) 1 = ((A'.length + 1 : Nat) : Int) := by simp; omega
          rw [hm]
          have hq := Q1.good
          have := mend_spec (A := A') (B := B) (s := k) (KA := KA') (KB := KB) t1 hv (by simpa [List.append_assoc] using hN') u2 (w4 1 4 (by omega) w3) r1' F3 (by simpa [List.append_assoc] using hq) w1 hN1 (by omega) (by omega) (by simp only [List.length_append, List.length_cons, List.length_nil] at h5 ⊢; omega) (by omega)
          simpa [nv, List.append_assoc] using this
      obtain ⟨m2, σ2, vf2, ns2, ls2, fr2, ks2, kids2, J2, c2, t2, g2, k1, k2, k3, k4, k5⟩ := key
      refine ⟨m2, σ2, vf2, ns2, ls2, fr2, i :: J2, callX_of (call_go (F := _) rfl rfl fun Q hQ => ?_), t2, g1.trans g2, ⟨ks2, kids2, J2, k1, rfl, ?_, by omega, by omega⟩, Q1.trans k5⟩
      · rw [hle1] at hv
        subst d1 d1' hv
        have hcl' : c < ls.length := by omega
        simp only [↓tbS, Nat.reduceShiftRight, Nat.reduceAnd, Nat.reduceBneDiff, bne_self_eq_false, symA, go_opsd, symB, wantedX, X.put, X.look, Arg.ev, keepOf, restrict, evs, evO, initEnv, xres, tup, noTup, cls, quiet, Nat.reduceAdd, Nat.reduceEqDiff, ↓reduceIte, reduceCtorEq, goInt, exists_eq_left', eq_self, Int.reduceLT, Int.reduceLE, Int.reduceEq, Int.reduceNeg, Int.reduceAdd, Int.reduceSub, forall_const, ne_eq, undef, Nat.reducePow, Nat.reduceDiv, Nat.reduceMod, htg, hil, goR_call hleaf, nd.get, hc2, goR_call hway, hwl, d2, d3, goR_call c1, htg1, hcl', hgn, hc2n, d2', d3', goDV3c hsize, hgt, goR_call c2]
        exact hQ _ _ _ rfl ⟨rfl, rfl⟩
      · rw [delE_mid z10 z11]
        exact k2
end
end Go.Proofs.Ytecceimgpeookaa

namespace Go.Proofs.Ytecceimgpeookaa
open Go X
set_option maxRecDepth 100000
attribute [local irreducible] X.Go' X.GoO X.GoR X.GoG X.GoC X.GoF X.GoFV X.GoFG X.Ex X.GoD X.GoDV X.GoDG
set_option linter.unusedVariables false
set_option linter.unusedSimpArgs false

section
variable {σ : Nat → Tag} {m : Mem} {p : Nat} {vl vf : Value} {ns : List (Nat → Value)} {ls : List Nd} {fr : List Nat} {root n : Int} {key : Key} {x : Int} {es : List Ent} {k : Nat} {above : Bool}
theorem getE_has {key : Key} {es : List Ent} : (getE key es).isSome = hasK key (es.map (·.1)) := by
  unfold getE hasK
  induction es with
  | nil => rfl
  | cons y es ih =>
    by_cases h : y.1 = key
    · simp [h]
    · simp only [List.find?_cons, h, decide_false, List.map_cons, List.any_cons, Bool.false_or]
      exact ih
theorem delE_no {key : Key} {es : List Ent} (hs : SortE es) (h : (getE key es).isSome = false) : delE key es = es := by
  obtain ⟨h1, h2, _⟩ := cutE (k := key) hs
  rw [getE_has] at h
  unfold delE
  rw [← h1, ← h2 h, List.take_append_drop]
theorem wrapm {a b : Nat} (hb : a + 1 = b) (h : b ≤ 1000000) : IntKind.i64.wrap ((b : Int) - 1) = (a : Int) := by
  rw [wrap_i64 (by omega) (by omega)]; omega
theorem Root.sort {ls : List Nd} {fr : List Nat} {r : Int} {es : List Ent} (h : Root ls fr r es) : SortE es := by
  cases h with
  | nil _ => exact .nil
  | @node h r es J hr hg => exact (hr.good (by split <;> omega)).1
theorem TreeM.sort (h : TreeM σ m p es k) : SortE es := by
  obtain ⟨vl, vf, ns, ls, fr, root, ht, hr, b1, b2⟩ := h
  exact hr.sort
theorem Row.single {R : RepT} {lo hi : Option Key} {ks : List Key} {c : Nat} {es : List Ent} {J : List Nat} (h : Row R lo hi ks [c] es J) : ks = [] ∧ R c lo hi es J := by
  cases h with
  | one h => exact ⟨rfl, h⟩
  | cons h t => cases t
theorem Del_none (h : TreeM σ m p es k) (hno : getE key es = none) : Ca 30 [Pt p, .string key] m (.tuple #[I 0, .bool false]) m := by
  have hg := Get_spec (key := key) h
  rw [hno] at hg
  refine callX_of (call_go (F := _) rfl rfl fun Q hQ => ?_)
  simp only [symA, go_opsd, symB, wantedX, X.put, X.look, Arg.ev, keepOf, restrict, evs, evO, initEnv, xres, tup, noTup, cls, quiet, Nat.reduceAdd, Nat.reduceEqDiff, ↓reduceIte, reduceCtorEq, goInt, exists_eq_left', eq_self, Int.reduceLT, Int.reduceLE, Int.reduceEq, Int.reduceNeg, Int.reduceAdd, Int.reduceSub, forall_const, ne_eq, undef, Nat.reducePow, Nat.reduceDiv, Nat.reduceMod, goR_call hg, Option.getD_none, Option.isSome_none]
  exact hQ _ _ _ rfl ⟨rfl, rfl⟩
theorem Del_some {v : Int} (h : TreeM σ m p es k) (hk : k ≤ 4000) (hv : getE key es = some v) : ∃ m' σ', Ca 30 [Pt p, .string key] m (.tuple #[I v, .bool true]) m' ∧ TreeM σ' m' p (delE key es) k ∧ Gr σ σ' m m' := by
  have hget := Get_spec (key := key) h
  rw [hv] at hget
  have hh : hasK key (es.map (·.1)) = true := by rw [← getE_has, hv]; rfl
  have hso := h.sort
  obtain ⟨d1, d2, d3⟩ := del_len hso hh
  obtain ⟨vl, vf, ns, ls, fr, root, ht, hr, b1, b2⟩ := h
  cases hr with
  | nil hg => simp [getE] at hv
  | @node h r es J hr hg =>
    have ha : 1 ≤ (if h = 0 then 1 else 2) := by split <;> omega
    have w1 := wrapm (a := (delE key es).length) (b := es.length) d2 (by omega)
    obtain ⟨m1, s1, s2, s3⟩ := ht.setn ((delE key es).length : Int)
    obtain ⟨m2, σ2, vf2, ns2, ls2, fr2, J2, c2, t2, g2, r2, q2⟩ := del_spec (key := key) s2 hr ha (fun h0 => by rw [if_neg h0]; omega) inb_none hh hg (by omega)
    obtain ⟨N, hN2, n1, n2, n3⟩ := r2.sz
    have hql := q2.len
    have hfl2 := q2.good.frlen
    have hrl : r < ls2.length := (List.getElem?_eq_some_iff.1 hN2).1
    obtain ⟨g, z1, z2⟩ := t2.nd r _ (by simp) hN2
    obtain ⟨id, o, cp, hvl, hgo, hco, hld, _⟩ := t2.at z1
    obtain ⟨q0, c0, e0⟩ := (z2 0 (by omega)).slice
    obtain ⟨q1, c1, e1⟩ := (z2 1 (by omega)).slice
    obtain ⟨q2', c2', e2⟩ := (z2 2 (by omega)).slice
    obtain ⟨m3, t1', t2', t3', t4'⟩ := new_store (m := m2) (z := [.slice none 0 0, .slice none 0 0, .slice none 0 0]) (row := row3 g) (n := 3) rfl rfl (by omega)
    have h3 := t2.nx t3'
    obtain ⟨mP, hP⟩ : ∃ mP, m2.push { cells := [.slice none 0 0, .slice none 0 0, .slice none 0 0], rw := true, spare := none, kin := [] } = mP := ⟨_, rfl⟩
    rw [hP] at t1'
    have hPn : Nx m2 mP := hP ▸ .push
    have hPt := t2.nx hPn
    have pP := hPt.get
    obtain ⟨idP, oP, cpP, hvlP, hgoP, hcoP, hldP, _⟩ := hPt.at z1
    rw [hvl] at hvlP
    cases hvlP
    have cc0 : (row3 g)[0]? = some (.slice q0 (N.fld 0).length c0) := by rw [← e0]; rfl
    have cc2 : (row3 g)[0 + 2]? = some (.slice q2' (N.fld 2).length c2') := by rw [← e2]; rfl
    have l0 : (N.fld 0).length = N.keys.length := List.length_map ..
    have l2 : (N.fld 2).length = N.kids.length := List.length_map ..
    have hleaf := leaf_call (off := 0) t2' cc2
    rw [l2] at hleaf e2
    rw [l0] at e0
    have p0 := ht.get
    have p1 := s2.get
    have p2 := t2.get
    have p3 := h3.get
    have eg0 : row3 g = [g 0, g 1, g 2] := rfl
    have v0 : veq (g 0) (g 0) = true := by rw [e0]; exact veq_slice
    have v1 : veq (g 1) (g 1) = true := by rw [e1]; exact veq_slice
    have v2 : veq (g 2) (g 2) = true := by rw [e2]; exact veq_slice
    have hb0 : σ2 m2.next = .no := t2.fresh _ (Nat.le_refl _)
    have hlt3 : m2.next < m3.next := by rw [t4']; omega
    have hJ2 := r2.lt
    obtain ⟨y1, y2, y3, y4⟩ := r2.kind hN2
    have hrJ : ∃ J', J2 = r :: J' := r2.head
    obtain ⟨J', hJ'⟩ := hrJ
    subst hJ'
    by_cases hk1 : N.kids.length = 1
    · have hh0 : h ≠ 0 := fun e => by rw [(y1 e).1] at hk1; simp at hk1
      obtain ⟨h', rfl⟩ : ∃ h', h = h' + 1 := ⟨h - 1, by omega⟩
      obtain ⟨ks, kids, J'', w2, w3, w4, _, _⟩ := r2
      rw [hN2] at w2
      cases w2
      injection w3 with _ w3
      subst w3
      obtain ⟨c, rfl⟩ := List.length_eq_one_iff.1 hk1
      have hone : ks = [] ∧ Rep ls2 2 4 h' c none none (delE key es) J' := by
        exact w4.single
      obtain ⟨rfl, hc⟩ := hone
      have gg2 := q2.good
      obtain ⟨m4, σ4, vf4, ns4, c4, t4, g4, f4⟩ := drop_spec2 h3 hrl (by omega)
      obtain ⟨ac, cc, oc, f1, f2, f3⟩ := rd_at (f4 _ _ _ (by simp) (by simp) (by simp) ((z2 2 (by omega)).nx t3')).rd (i := 0) (x := nv c) rfl
      obtain ⟨m5, u1, u2, u3⟩ := t4.setroot (c : Int)
      have gc4 := g4.fm.get hlt3 (by rw [hb0]; simp [tr]) t2'
      have p4 := t4.get
      have hC := Chg.drop (JA := []) (JB := J') gg2 hrl
      have hrJ : r ∉ J' := (List.nodup_cons.1 gg2.nd).1
      have hR := hc.frame (ls' := ls2.set r noNd) fun j hj => List.getElem?_set_ne fun (e : r = j) => hrJ (by rw [e]; exact hj)
      refine ⟨m5, σ4, callX_of (call_go (F := _) rfl rfl fun Q hQ => ?_), ⟨vl, vf4, ns4, _, _, _, u2, .node (h := h') (J := J') (hR.more (by split <;> omega) (by omega)) hC.good, by rw [List.length_set]; omega, by omega⟩, (Gr.ch s3 rfl).trans (g2.trans ((Gr.nx t3').trans (g4.trans (Gr.ch u3 rfl))))⟩
      have e0' : g 0 = .slice q0 0 c0 := e0
      obtain ⟨n1', hn1⟩ : ∃ n, (Nd.fld ⟨[], [], [c]⟩ 1).length = n := ⟨_, rfl⟩
      rw [hn1] at e1
      have f1' : g 2 = .slice (some ac) 1 cc := f1
      have hix : ∀ M : Mem, indexAddrE M 1 (.slice (some ac) 1 cc) (I 0) = some (.val (.pointer (some ⟨ac.block, ac.off + 0, none⟩)) M) := fun M => by
        have := indexAddr_at (m := M) (size := 1) (i := 0) (len := 1) (c := cc) (a := ac) (kd := .i64) (by omega)
        simpa using this
      have f3' : oc.cells[ac.off]? = some (nv c) := f3
      simp only [eg0, f1', e0', e1] at t1' t2' gc4 hld hldP
      subst hvl
      simp only [↓tbS, Nat.reduceShiftRight, Nat.reduceAnd, Nat.reduceBneDiff, bne_self_eq_false, symA, go_opsd, symB, wantedX, X.put, X.look, Arg.ev, keepOf, restrict, evs, evO, initEnv, xres, tup, noTup, cls, quiet, Nat.reduceAdd, Nat.reduceEqDiff, ↓reduceIte, reduceCtorEq, goInt, exists_eq_left', eq_self, Int.reduceLT, Int.reduceLE, Int.reduceEq, Int.reduceNeg, Int.reduceAdd, Int.reduceSub, forall_const, ne_eq, undef, Nat.reducePow, Nat.reduceDiv, Nat.reduceMod, goR_call hget, Option.getD_some, Option.isSome_some, p0, w1, s1, p1, goR_call c2, p2, hrl, hld, hP, pP, hldP, t1', t2', p3, goR_call c4, gc4, hix, Nat.add_zero, f2, f3', u1, veq_slice]
      exact hQ _ _ _ rfl ⟨rfl, rfl⟩
    · have hk1' : ¬ (N.kids.length : Int) = 1 := by omega
      by_cases hk0 : N.kids.length = 0 ∧ N.keys.length = 0
      · obtain ⟨kk0, kk1⟩ := hk0
        have hh0 : h = 0 := by
          by_cases q : h = 0
          · exact q
          · have := (y2 q).2.1; omega
        subst hh0
        obtain ⟨w2, w3, w4, w5, w6, w7⟩ := r2
        injection w3 with _ w3
        subst w3
        rw [hN2] at w2
        cases w2
        have hd0 : delE key es = [] := List.eq_nil_of_length_eq_zero (by rw [List.length_map] at kk1; exact kk1)
        have gg2 := q2.good
        obtain ⟨m4, σ4, vf4, ns4, c4, t4, g4, f4⟩ := drop_spec2 h3 hrl (by omega)
        obtain ⟨m5, u1, u2, u3⟩ := t4.setroot (-1)
        have gc4 := g4.fm.get hlt3 (by rw [hb0]; simp [tr]) t2'
        have p4 := t4.get
        have hC := Chg.drop (JA := []) (JB := []) gg2 hrl
        refine ⟨m5, σ4, callX_of (call_go (F := _) rfl rfl fun Q hQ => ?_), ?_, (Gr.ch s3 rfl).trans (g2.trans ((Gr.nx t3').trans (g4.trans (Gr.ch u3 rfl))))⟩
        · have l0' : decide ((([] : List Nat).length : Int) = 0) = true := rfl
          rw [l0'] at hleaf
          have e2' : g 2 = .slice q2' 0 c2' := e2
          have e0' : g 0 = .slice q0 0 c0 := by rw [e0]; congr 1
          simp only [eg0, e0', e1, e2'] at t1' t2' gc4 hld hldP
          subst hvl
          simp only [↓tbS, Nat.reduceShiftRight, Nat.reduceAnd, Nat.reduceBneDiff, bne_self_eq_false, symA, go_opsd, symB, wantedX, X.put, X.look, Arg.ev, keepOf, restrict, evs, evO, initEnv, xres, tup, noTup, cls, quiet, Nat.reduceAdd, Nat.reduceEqDiff, ↓reduceIte, reduceCtorEq, goInt, exists_eq_left', eq_self, Int.reduceLT, Int.reduceLE, Int.reduceEq, Int.reduceNeg, Int.reduceAdd, Int.reduceSub, forall_const, ne_eq, undef, Nat.reducePow, Nat.reduceDiv, Nat.reduceMod, goR_call hget, Option.getD_some, Option.isSome_some, p0, w1, s1, p1, goR_call c2, p2, hrl, hld, hP, pP, hldP, t1', t2', p3, goR_call hleaf, goR_call c4, gc4, u1, veq_slice]
          exact hQ _ _ _ rfl ⟨rfl, rfl⟩
        · rw [hd0] at u2 ⊢
          exact ⟨vl, vf4, ns4, _, _, _, u2, .nil hC.good, by rw [List.length_set]; omega, by simp⟩
      · have hT : TreeM σ2 m3 p (delE key es) k := by
          refine ⟨vl, vf2, ns2, ls2, fr2, _, h3, .node (h := h) (J := r :: J') (n3 _ 4 ?_ n2) q2.good, by omega, by omega⟩
          by_cases q : h = 0
          · rw [if_pos q]
            have := y1 q
            rw [this.2.2]
            rw [this.1] at hk0
            simp only [List.length_nil, true_and] at hk0
            omega
          · rw [if_neg q]
            have := y2 q
            omega
        refine ⟨m3, σ2, callX_of (call_go (F := _) rfl rfl fun Q hQ => ?_), hT, (Gr.ch s3 rfl).trans (g2.trans (Gr.nx t3'))⟩
        simp only [eg0, e0, e1, e2] at t1' t2' hld hldP
        subst hvl
        by_cases hz : N.kids.length = 0
        · have hz2 : ¬ (N.keys.length : Int) = 0 := by omega
          rw [decide_eq_true (by omega : (N.kids.length : Int) = 0)] at hleaf
          simp only [↓tbS, Nat.reduceShiftRight, Nat.reduceAnd, Nat.reduceBneDiff, bne_self_eq_false, symA, go_opsd, symB, wantedX, X.put, X.look, Arg.ev, keepOf, restrict, evs, evO, initEnv, xres, tup, noTup, cls, quiet, Nat.reduceAdd, Nat.reduceEqDiff, ↓reduceIte, reduceCtorEq, goInt, exists_eq_left', eq_self, Int.reduceLT, Int.reduceLE, Int.reduceEq, Int.reduceNeg, Int.reduceAdd, Int.reduceSub, forall_const, ne_eq, undef, Nat.reducePow, Nat.reduceDiv, Nat.reduceMod, goR_call hget, Option.getD_some, Option.isSome_some, p0, w1, s1, p1, goR_call c2, p2, hrl, hld, hP, pP, hldP, t1', t2', p3, hk1', goR_call hleaf, hz2, veq_slice]
          exact hQ _ _ _ rfl ⟨rfl, rfl⟩
        · rw [decide_eq_false (by omega : ¬ (N.kids.length : Int) = 0)] at hleaf
          simp only [↓tbS, Nat.reduceShiftRight, Nat.reduceAnd, Nat.reduceBneDiff, bne_self_eq_false, symA, go_opsd, symB, wantedX, X.put, X.look, Arg.ev, keepOf, restrict, evs, evO, initEnv, xres, tup, noTup, cls, quiet, Nat.reduceAdd, Nat.reduceEqDiff, ↓reduceIte, reduceCtorEq, goInt, exists_eq_left', eq_self, Int.reduceLT, Int.reduceLE, Int.reduceEq, Int.reduceNeg, Int.reduceAdd, Int.reduceSub, forall_const, ne_eq, undef, Nat.reducePow, Nat.reduceDiv, Nat.reduceMod, goR_call hget, Option.getD_some, Option.isSome_some, p0, w1, s1, p1, goR_call c2, p2, hrl, hld, hP, pP, hldP, t1', t2', p3, hk1', goR_call hleaf, veq_slice]
          exact hQ _ _ _ rfl ⟨rfl, rfl⟩
theorem Del_spec (h : TreeM σ m p es k) (hk : k ≤ 4000) : ∃ m' σ', Ca 30 [Pt p, .string key] m (.tuple #[I ((getE key es).getD 0), .bool (getE key es).isSome]) m' ∧ TreeM σ' m' p (delE key es) k ∧ Gr σ σ' m m' := by
  cases hq : getE key es with
  | none =>
    have := Del_none h hq
    refine ⟨m, σ, this, ?_, .refl⟩
    rw [delE_no h.sort (by rw [hq]; rfl)]
    exact h
  | some v => exact Del_some h hk hq
end
end Go.Proofs.Ytecceimgpeookaa
