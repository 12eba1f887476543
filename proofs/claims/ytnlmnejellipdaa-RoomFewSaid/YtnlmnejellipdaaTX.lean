/-
  Own work. The tree of keys: the awake example is known. Slices that a node owns: of known capacity, or of what append made. Slices that a node owns: an element stored, parts, copies, elements put between, deleted, two slices made one. The tree in memory: each row of memory bears a tag that tells whose it is; what changes rows of one tag leaves the others. The tree in memory: what is stored to a node, and to the tree; what a node's functions come to; a node more, a node less. The tree, plain: nodes in a list stand for entries that rise. The tree: what its functions that only look come to. The tree: walks down from the root; what is told of a key. The tree: the first key from one on, the last one below it. The tree: a node more, a node less.
-/
import Derived.Test.YtnlmnejellipdaaR0
namespace Go.Proofs.Ytnlmnejellipdaa
open Go X
set_option maxRecDepth 100000
attribute [local irreducible] X.Go' X.GoO X.GoR X.GoG X.GoC X.GoF X.GoFV X.GoFG X.Ex X.GoD X.GoDV X.GoDG
set_option linter.unusedVariables false
set_option linter.unusedSimpArgs false
abbrev ones (xs : List Value) : List (List Value) := xs.map fun x => [x]
theorem ones_flat (xs : List Value) : (ones xs).flatten = xs := by
 induction xs with
 | nil => rfl
 | cons x l ih => simp only [ones, List.map_cons, List.flatten_cons] at ih ⊢; rw [ih]; rfl
theorem ones_len (xs : List Value) : (ones xs).length = xs.length := by simp
theorem ones_one (xs : List Value) : ∀ r ∈ ones xs, r.length = 1 := fun r hr => by
 obtain ⟨x, _, rfl⟩ := List.mem_map.1 hr
 rfl
def OwnX (F : List Nat) (m : Mem) (v : Value) (xs : List Value) : Prop :=
 Own2 1 F m v (ones xs) ∨
 ((∀ i ∈ F, i < m.next) ∧ ∃ id c o, v = .slice (some ⟨id, 0, none⟩) xs.length c ∧ (xs.length ≤ c ∧ c ≤ 100000) ∧ id ∈ F ∧ m.get id = some o ∧ o.rw = true ∧ (∀ k ∈ o.kin, k ∈ F ∧ k ≠ id) ∧ c ≤ o.cells.length ∧ o.cells.take xs.length = xs)
section
variable {F : List Nat} {m m' : Mem} {v : Value} {xs ys : List Value}
theorem OwnX.lt (h : OwnX F m v xs) : ∀ i ∈ F, i < m.next := by
 rcases h with h | ⟨h, _⟩
 ·exact h.lt
 ·exact h
theorem OwnX.nil : OwnX [] m (.slice none 0 0) [] := .inl .nil
theorem OwnX.fr {T : Nat → Prop} (h : OwnX F m v xs) (hf : Fm T m m') (hs : ∀ i ∈ F, ¬ T i) : OwnX F m' v xs := by
 rcases h with h | ⟨h, id, c, o, h1, h2, h3, h4, h5⟩
 ·exact .inl (h.fr hf hs)
 ·exact .inr ⟨fun i hi => Nat.lt_of_lt_of_le (h i hi) hf.next, id, c, o, h1, h2, h3, hf.get (h id h3) (hs id h3) h4, h5⟩
theorem OwnX.rd (h : OwnX F m v xs) : RdS m.next m 1 v (ones xs) := by
 rcases h with h | ⟨h, id, c, o, rfl, h2, h3, h4, h5, h6, h7, h8⟩
 ·exact h.rd (by omega)
 ·refine ⟨_, _, by rw [ones_len], by rw [ones_len]; exact h2.1, fun i r hr => ?_⟩
  rw [List.getElem?_map] at hr
  cases hx : xs[i]? with
  | none => rw [hx] at hr; cases hr
  | some x =>
   rw [hx] at hr; cases hr
   have hlt := (List.getElem?_eq_some_iff.1 hx).1
   refine ⟨rfl, _, o, rfl, h id h3, h4, fun j hj => ?_⟩
   have e : j = 0 := by omega
   subst e
   rw [← h8, List.getElem?_take, if_pos hlt] at hx
   simpa using hx
theorem OwnX.slice (h : OwnX F m v xs) : ∃ p c, v = .slice p xs.length c := by
 obtain ⟨p, c, rfl⟩ := h.rd.slice
 exact ⟨p, c, by rw [ones_len]⟩
theorem OwnX.cut (h : OwnX F m v xs) : CutOk m 1 v := by
 rcases h with h | ⟨h, id, c, o, rfl, _⟩
 ·exact h.cut
 ·intro a n c' hv; cases hv; exact .inl rfl
theorem rd_at {b : Nat} (h : RdS b m 1 v (ones xs)) {i : Nat} {x : Value} (hi : xs[i]? = some x) : ∃ a c o, v = .slice (some a) xs.length c ∧ m.get a.block = some o ∧ o.cells[a.off + i]? = some x := h.at1 hi
theorem xfirst_rd {b : Nat} (h : RdS b m 1 v (ones xs)) : xlen v = some xs.length ∧ xfirst m 1 xs.length v = some xs := by
 obtain ⟨h1, h2⟩ := h.first (by omega)
 rw [ones_len, ones_flat] at h2
 rw [ones_len] at h1
 exact ⟨h1, h2⟩
theorem own2_of {id cap : Nat} {o : XObj} {rest : List Value} (hF : ∀ i ∈ F, i < m.next) (hg : m.get id = some o) (hi : id ∈ F) (hk : ∀ i ∈ o.kin, i ∈ F ∧ i ≠ id) (hrw : o.rw = true) (hsp : o.spare = some 1) (hc : o.cells = xs ++ rest) (hl : o.cells.length = cap) : OwnX F m (.slice (some ⟨id, 0, some 0⟩) xs.length cap) xs :=
 .inl ⟨ones_one xs, .inl ⟨by rw [ones_flat, ones_len]; omega, hF, .inr ⟨id, o, cap, rest, by rw [ones_len], hg, hi, hk, hrw, hsp, by rw [ones_flat]; exact hc, by omega⟩⟩⟩
theorem OwnX.append {bytes : Nat} {zero vx : Value} {b : Nat} (h : OwnX F m v xs) (hx : RdS b m 1 vx (ones ys)) (hl : xs.length + ys.length ≤ 100000) (hb : bytes ≤ 100) :
  ∃ v' m' F', appendE m 1 bytes [zero] v vx = some (.val v' m') ∧ OwnX F' m' v' (xs ++ ys) ∧ Fm (· ∈ F) m m' ∧ (∀ i ∈ F, i ∈ F') ∧ ∀ i ∈ F', i ∈ F ∨ m.next ≤ i := by
 obtain ⟨hx1, hx2⟩ := xfirst_rd hx
 have hbb : (xs.length + ys.length) * bytes ≤ 140737488355328 := by
  have := Nat.mul_le_mul hl hb
  omega
 have hbb2 : ys.length * bytes ≤ 140737488355328 := by
  have := Nat.mul_le_mul (show ys.length ≤ 100000 by omega) hb
  omega
 have hF := h.lt
 by_cases h0 : ys.length = 0
 ·have : ys = [] := List.eq_nil_of_length_eq_zero h0
  subst this
  refine ⟨v, m, F, ?_, by rw [List.append_nil]; exact h, .refl, fun i hi => hi, fun i hi => .inl hi⟩
  have hxl : xappend m 1 bytes v 0 [] = some (v, m) := by
   rcases h with ⟨_, ⟨_, _, ⟨rfl, _⟩ | ⟨id, o, cap, rest, rfl, _⟩⟩ | ⟨_, _, id, rfl⟩⟩ | ⟨_, id, c, o, rfl, _⟩ <;> simp [xappend]
  simp only [List.length_nil] at hx1 hx2
  simp only [appendE, hx1, hx2, Option.bind_some, hxl]
  rfl
 have fresh : ∀ old : List Value, old = xs → OwnX (m.next :: F) (m.push { cells := old ++ ys, rw := true, spare := some 1, kin := [] }) (.slice (some ⟨m.next, 0, some 0⟩) (xs.length + ys.length) (xs.length + ys.length)) (xs ++ ys) := fun old ho => by
  subst ho
  have := own2_of (F := m.next :: F) (m := m.push { cells := old ++ ys, rw := true, spare := some 1, kin := [] }) (xs := old ++ ys) (id := m.next) (cap := (old ++ ys).length) (rest := []) (fun i hi => by
   rw [Mem.next_push]
   rcases List.mem_cons.1 hi with rfl | hi
   ·omega
   ·have := hF i hi; omega) push_self (by simp) (by simp) rfl rfl (by simp) rfl
  rw [List.length_append] at this
  exact this
 have nw : ∀ i ∈ m.next :: F, i ∈ F ∨ m.next ≤ i := fun i hi => by
  rcases List.mem_cons.1 hi with rfl | hi
  ·exact .inr (Nat.le_refl _)
  ·exact .inl hi
 rcases h with ⟨_, ⟨k1, k2, ⟨rfl, hn⟩ | ⟨id, o, cap, rest, rfl, h5, h6, h7, h8, h9, h10, h11⟩⟩ | ⟨hn, _, id, rfl⟩⟩ | ⟨_, id, c, o, rfl, h2, h3, h4, h5, h6, h7, h8⟩
 ·have hx0 : xs = [] := List.eq_nil_of_length_eq_zero (by simpa using hn)
  have hf := fresh [] hx0.symm
  subst hx0
  simp only [List.length_nil, Nat.zero_add, List.nil_append] at hf
  refine ⟨_, _, _, ?_, hf, .push, fun i hi => by simp [hi], nw⟩
  simp only [appendE, hx1, hx2, Option.bind_some, xappend]
  rw [if_pos (by rfl), if_neg h0, if_pos ⟨hbb2, by omega⟩]
  rfl
 ·rw [ones_len]
  rw [ones_flat] at h10
  rw [Nat.mul_one] at h11
  by_cases hc : xs.length + ys.length ≤ cap
  ·have hset : setAll o.cells xs.length ys = xs ++ ys ++ o.cells.drop (xs.length + ys.length) := by
    rw [setAll_eq _ _ _ (by omega), h10, List.take_left' rfl]
   have hst := xstore_own (off := xs.length) (vs := ys) h5 h8 (by omega)
   have := own2_of (o := { o with cells := setAll o.cells xs.length ys, kin := [] }) (F := F) (m := (m.eraseAll o.kin).set id { o with cells := setAll o.cells xs.length ys, kin := [] }) (xs := xs ++ ys) (id := id) (cap := cap) (rest := o.cells.drop (xs.length + ys.length)) (fun i hi => by simpa using hF i hi) (by rw [Mem.get_set, if_pos rfl]) h6 (by simp) h8 h9 hset (by
    show (setAll o.cells xs.length ys).length = cap
    rw [setAll_eq _ _ _ (by omega)]; simp only [List.length_append, List.length_take, List.length_drop]; omega)
   rw [List.length_append] at this
   refine ⟨_, _, F, ?_, this, Fm.trans (Fm.eraseAll fun i hi => (h7 i hi).1) (Fm.set h6), fun i hi => hi, fun i hi => .inl hi⟩
   simp only [appendE, hx1, hx2, Option.bind_some, xappend]
   rw [if_pos (by rfl), if_neg h0, if_pos hc, if_neg (by omega), Nat.zero_add, Nat.mul_one, hst]
   rfl
  ·have hlc : xs.length ≤ cap := by rw [← h11, h10]; simp
   have grown : ∀ (M : Mem) (old kin : List Value) (K : List Nat), M.next = m.next → old = xs → (∀ k ∈ K, k ∈ F) →
     OwnX (m.next :: F) (M.push { cells := old ++ ys, rw := true, spare := some 1, kin := K }) (.slice (some ⟨m.next, 0, some 0⟩) (xs.length + ys.length) (xs.length + ys.length)) (xs ++ ys) := fun M old _ K hM ho hK => by
    subst ho
    have := own2_of (F := m.next :: F) (m := M.push { cells := old ++ ys, rw := true, spare := some 1, kin := K }) (xs := old ++ ys) (id := m.next) (cap := (old ++ ys).length) (rest := []) (fun i hi => by
     rw [Mem.next_push]
     rcases List.mem_cons.1 hi with rfl | hi
     ·omega
     ·have := hF i hi; omega) (by rw [← hM]; exact push_self) (by simp) (fun k hk => ⟨by simp [hK k hk], by have := hF k (hK k hk); omega⟩) rfl rfl (by simp) rfl
    rw [List.length_append] at this
    exact this
   by_cases hfull : xs.length = o.cells.length
   ·refine ⟨_, _, _, ?_, grown (m.set id { o with rw := false, kin := [] }) (o.cells.drop 0) [] (id :: o.kin) (by simp) (by rw [List.drop_zero, h10]; rw [h10, List.length_append] at hfull; rw [List.eq_nil_of_length_eq_zero (by omega : rest.length = 0), List.append_nil]) (fun k hk => ?_), Fm.trans (Fm.set h6) .push, fun i hi => by simp [hi], nw⟩
    ·simp only [appendE, hx1, hx2, Option.bind_some, xappend]
     rw [if_pos (by rfl), if_neg h0, if_neg hc, if_pos ⟨hbb, by omega⟩]
     simp only [h5]
     rw [if_pos ⟨h8, h9, by omega, by omega⟩]
     rfl
    ·rcases List.mem_cons.1 hk with rfl | hk
     ·exact h6
     ·exact (h7 k hk).1
   ·refine ⟨_, _, _, ?_, grown (((m.eraseAll o.kin).set id { cells := o.cells.take (0 + xs.length * 1), rw := true, spare := some 1, kin := [] }).set id { cells := o.cells.take (0 + xs.length * 1), rw := false, spare := some 1, kin := [] }) ((o.cells.take (0 + xs.length * 1)).drop 0) [] [id] (by simp) (by rw [List.drop_zero, Nat.zero_add, Nat.mul_one, h10, List.take_left']; rfl) (fun k hk => by simp at hk; subst hk; exact h6), Fm.trans (Fm.eraseAll fun i hi => (h7 i hi).1) (Fm.trans (Fm.set h6) (Fm.trans (Fm.set h6) .push)), fun i hi => by simp [hi], nw⟩
    simp only [appendE, hx1, hx2, Option.bind_some, xappend]
    rw [if_pos (by rfl), if_neg h0, if_neg hc, if_pos ⟨hbb, by omega⟩]
    simp only [h5]
    rw [if_neg (fun h => hfull (by have := h.2.2.2; omega)), if_pos ⟨h8, h9, by omega, by omega⟩]
    rfl
 ·have hx0 : xs = [] := by simpa using hn
  have hf := fresh [] hx0.symm
  subst hx0
  simp only [List.length_nil, Nat.zero_add, List.nil_append] at hf
  refine ⟨_, _, _, ?_, hf, .push, fun i hi => by simp [hi], nw⟩
  simp only [appendE, hx1, hx2, Option.bind_some, xappend]
  rw [if_pos (by rfl), if_neg h0, if_neg (by omega), if_pos ⟨by simpa using hbb2, by omega⟩]
  simp
 ·by_cases hc : xs.length + ys.length ≤ c
  ·have hset : setAll o.cells xs.length ys = xs ++ ys ++ o.cells.drop (xs.length + ys.length) := by
    rw [setAll_eq _ _ _ (by omega), h8]
   have hst := xstore_own (off := xs.length) (vs := ys) h4 h5 (by omega)
   refine ⟨.slice (some ⟨id, 0, none⟩) (xs.length + ys.length) c, (m.eraseAll o.kin).set id { o with cells := setAll o.cells xs.length ys, kin := [] }, F, ?_, .inr ⟨fun i hi => by simpa using hF i hi, id, c, { o with cells := setAll o.cells xs.length ys, kin := [] }, by rw [List.length_append], by rw [List.length_append]; exact ⟨hc, h2.2⟩, h3, by rw [Mem.get_set, if_pos rfl], h5, by simp, ?_, ?_⟩, Fm.trans (Fm.eraseAll fun i hi => (h6 i hi).1) (Fm.set h3), fun i hi => hi, fun i hi => .inl hi⟩
   ·simp only [appendE, hx1, hx2, Option.bind_some, xappend]
    rw [if_pos (by rfl), if_neg h0, if_pos hc, if_neg (by omega), Nat.zero_add, Nat.mul_one, hst]
    rfl
   ·show c ≤ (setAll o.cells xs.length ys).length
    rw [setAll_eq _ _ _ (by omega)]; simp only [List.length_append, List.length_take, List.length_drop]; omega
   ·show (setAll o.cells xs.length ys).take _ = _
    rw [hset, List.length_append, ← List.length_append, List.take_left']
    rfl
  ·have hf := fresh xs rfl
   refine ⟨_, _, _, ?_, hf, .push, fun i hi => by simp [hi], nw⟩
   have hold : (if xs.length = 0 then some [] else xload m ⟨id, 0, none⟩ (xs.length * 1)) = some xs := by
    by_cases hq : xs.length = 0
    ·rw [if_pos hq, List.eq_nil_of_length_eq_zero hq]
    ·rw [if_neg hq, xload_own h4 (by omega), List.drop_zero, Nat.mul_one, h8]
   simp only [appendE, hx1, hx2, Option.bind_some, xappend]
   rw [if_pos (by rfl), if_neg h0, if_neg hc, if_pos ⟨hbb, by omega⟩, hold]
   rfl
end
end Go.Proofs.Ytnlmnejellipdaa
namespace Go.Proofs.Ytnlmnejellipdaa
open Go X
set_option maxRecDepth 100000
attribute [local irreducible] X.Go' X.GoO X.GoR X.GoG X.GoC X.GoF X.GoFV X.GoFG X.Ex X.GoD X.GoDV X.GoDG
set_option linter.unusedVariables false
set_option linter.unusedSimpArgs false
section
variable {F : List Nat} {m m' : Mem} {v : Value} {xs ys : List Value}
theorem own_cut {size k : Nat} {rows : List (List Value)} (hs : 0 < size) (h : Own2 size F m v rows) (hk : k ≤ rows.length) : ∃ v', sliceE m size v none (some (I (k : Int))) none = some (.val v' m) ∧ Own2 size F m v' (rows.take k) := by
 have hmem : ∀ r ∈ rows.take k, r.length = size := fun r hr => h.1 r (List.mem_of_mem_take hr)
 have flen : ∀ {l : List (List Value)}, (∀ r ∈ l, r.length = size) → l.flatten.length = l.length * size := by
  intro l
  induction l with
  | nil => simp
  | cons r l ih => intro h; rw [List.flatten_cons, List.length_append, ih (fun r hr => h r (by simp [hr])), h r (by simp), List.length_cons, Nat.add_mul]; omega
 obtain ⟨h0, h | ⟨rfl, hF, id, rfl⟩⟩ := h
 ·obtain ⟨k1, k2, ⟨rfl, hz⟩ | ⟨id, o, cap, rest, rfl, h5, h6, h7, h8, h9, h10, h11⟩⟩ := h
  ·have hr0 : rows = [] := List.eq_nil_of_length_eq_zero hz
   subst hr0
   have hk0 : k = 0 := by simpa using hk
   subst hk0
   exact ⟨.slice none 0 0, rfl, by simp, .inl (.nil k2)⟩
  ·have hcap : rows.length ≤ cap := by
    have hle : rows.length * size ≤ cap * size := by rw [← h11, h10, List.length_append, k1]; omega
    exact Nat.le_of_mul_le_mul_right hle hs
   refine ⟨.slice (some ⟨id, 0, some 0⟩) k cap, slice_hi (n := rows.length) h5 h9 (by omega), hmem, .inl ⟨flen hmem, k2, .inr ⟨id, o, cap, (rows.drop k).flatten ++ rest, by rw [List.length_take, Nat.min_eq_left hk], h5, h6, h7, h8, h9, ?_, h11⟩⟩⟩
   rw [h10, ← List.append_assoc, ← List.flatten_append, List.take_append_drop]
 ·have hk0 : k = 0 := by simpa using hk
  subst hk0
  exact ⟨.slice (some ⟨id, 0, none⟩) 0 0, by simp [sliceE, xbounds, asNat_zero, xsliceR], by simp, .inr ⟨rfl, hF, id, rfl⟩⟩
theorem OwnX.set {i : Nat} {x : Value} (h : OwnX F m v xs) (hi : i < xs.length) (h1 : x.cells = #[x]) (h2 : noTup x = true) :
  ∃ a c m', v = .slice (some a) xs.length c ∧ storeE m 1 (.pointer (some ⟨a.block, a.off + i, none⟩)) x = some (.skip m') ∧ OwnX F m' v (xs.set i x) ∧ Fm (· ∈ F) m m' := by
 rcases h with ⟨k0, h | ⟨h, _⟩⟩ | ⟨hF, id, c, o, rfl, q2, q3, q4, q5, q6, q7, q8⟩
 ·rw [ones_len, ones_flat] at h
  obtain ⟨id, cap, m', rfl, s1, s2, s3⟩ := h.set1 hi h1 h2
  refine ⟨_, _, m', rfl, by simpa using s1, .inl ⟨ones_one _, .inl ?_⟩, s3⟩
  rw [ones_len, ones_flat, List.length_set]
  exact s2
 ·have : xs = [] := by simpa using h
  subst this; simp at hi
 ·have hst := xstore_own (off := i) (vs := [x]) q4 q5 (by show i + 1 ≤ _; omega)
  refine ⟨_, _, (m.eraseAll o.kin).set id { o with cells := setAll o.cells i [x], kin := [] }, rfl, ?_, .inr ⟨fun j hj => by simpa using hF j hj, id, c, { o with cells := setAll o.cells i [x], kin := [] }, by rw [List.length_set], by rw [List.length_set]; exact q2, q3, by rw [Mem.get_set, if_pos rfl], q5, by simp, ?_, ?_⟩, Fm.trans (Fm.eraseAll fun y hy => (q6 y hy).1) (Fm.set q3)⟩
  ·have e1 : x.cells.size = 1 := by rw [h1]; rfl
   have e2 : x.cells.toList = [x] := by rw [h1]
   simp only [storeE, Nat.zero_add]
   rw [if_pos ⟨e1, h2⟩, if_neg (by decide), e2, hst]
   rfl
  ·show c ≤ (setAll o.cells i [x]).length
   rw [setAll_one, List.length_set]; exact q7
  ·show (setAll o.cells i [x]).take _ = _
   rw [setAll_one, List.length_set, List.take_set, q8]
theorem OwnX.to {k : Nat} (h : OwnX F m v xs) (hk : k ≤ xs.length) : ∃ v', sliceE m 1 v none (some (I (k : Int))) none = some (.val v' m) ∧ OwnX F m v' (xs.take k) := by
 rcases h with h | ⟨hF, id, c, o, rfl, q2, q3, q4, q5, q6, q7, q8⟩
 ·obtain ⟨v', h1, h2⟩ := own_cut (k := k) (by omega) h (by rw [ones_len]; exact hk)
  rw [← List.map_take] at h2
  exact ⟨v', h1, .inl h2⟩
 ·refine ⟨.slice (some ⟨id, 0, none⟩) k c, ?_, .inr ⟨hF, id, c, o, by rw [List.length_take, Nat.min_eq_left hk], by rw [List.length_take]; omega, q3, q4, q5, q6, q7, ?_⟩⟩
  ·have : k ≤ c := by omega
   simp [sliceE, xbounds, asNat_nat, this, xsliceR]
  ·rw [List.length_take, ← q8, List.take_take]
   congr 1
   rw [List.length_take]; omega
theorem OwnX.from {k : Nat} (h : OwnX F m v xs) (hk : k ≤ xs.length) : ∃ v', sliceE m 1 v (some (I (k : Int))) none none = some (.val v' m) ∧ RdS m.next m 1 v' (ones (xs.drop k)) := by
 obtain ⟨v', h1, h2⟩ := slice_from (kd := .i64) h.rd h.cut (by rw [ones_len]; exact hk)
 exact ⟨v', h1, by rw [ones, List.map_drop]; exact h2⟩
theorem OwnX.to3 {k : Nat} (h : OwnX F m v xs) (h0 : 0 < k) (hk : k ≤ xs.length) (hl : xs.length ≤ 1000) : ∃ v', sliceE m 1 v none (some (I (k : Int))) (some (I (k : Int))) = some (.val v' m) ∧ OwnX F m v' (xs.take k) := by
 have hk0 : ¬ k = 0 := by omega
 have htl : (xs.take k).length = k := by rw [List.length_take]; omega
 rcases h with ⟨k0, ⟨k1, k2, ⟨rfl, hz⟩ | ⟨id, o, cap, rest, rfl, h5, h6, h7, h8, h9, h10, h11⟩⟩ | ⟨h, _⟩⟩ | ⟨hF, id, c, o, rfl, q2, q3, q4, q5, q6, q7, q8⟩
 ·rw [ones_len] at hz; omega
 ·rw [ones_len]
  rw [ones_flat] at h10
  have hlc : xs.length ≤ cap := by rw [Nat.mul_one] at h11; rw [← h11, h10]; simp
  have hkc : k ≤ cap := by omega
  refine ⟨.slice (some ⟨id, 0, none⟩) k k, by simp [sliceE, xbounds, asNat_nat, hkc, xsliceR, hk0], .inr ⟨k2, id, k, o, by rw [htl], by rw [htl]; omega, h6, h5, h8, h7, by omega, ?_⟩⟩
  rw [htl, h10, List.take_append_of_le_length (by omega)]
 ·have : xs = [] := by simpa using h
  subst this; simp at hk; omega
 ·have hkc : k ≤ c := by omega
  refine ⟨.slice (some ⟨id, 0, none⟩) k k, by simp [sliceE, xbounds, asNat_nat, hkc, xsliceR, hk0], .inr ⟨hF, id, k, o, by rw [htl], by rw [htl]; omega, q3, q4, q5, q6, by omega, ?_⟩⟩
  rw [htl, ← q8, List.take_take]
  congr 1
  omega
theorem own_one {x : Value} : OwnX [m.next] (m.push { cells := [x], rw := true, spare := none, kin := [] }) (.slice (some ⟨m.next, 0, none⟩) 1 1) [x] :=
 .inr ⟨by simp, m.next, 1, { cells := [x], rw := true, spare := none, kin := [] }, rfl, ⟨Nat.le_refl _, by omega⟩, by simp, push_self, rfl, by simp, Nat.le_refl _, rfl⟩
theorem sliceE_slice {size : Nat} {l hh k : Option Value} {r : Value} (h : sliceE m size v l hh k = some (.val r m')) : ∃ p a c, r = .slice p a c := by
 unfold sliceE at h
 split at h
 ·rename_i p n c
  cases hb : xbounds n c l hh k with
  | none => rw [hb] at h; cases h
  | some b =>
   rw [hb] at h
   simp only [Option.bind_some] at h
   have key : ∀ q, xsliceR m size p b.1 b.2.1 b.2.2 k.isSome = some q → ∃ p a c, q = .slice p a c := fun q hq => by
    unfold xsliceR at hq
    split at hq
    ·cases hq; exact ⟨_, _, _, rfl⟩
    ·split at hq
     ·cases hq; exact ⟨_, _, _, rfl⟩
     ·split at hq
      ·cases hq; exact ⟨_, _, _, rfl⟩
      ·split at hq
       ·split at hq
        ·cases hq; exact ⟨_, _, _, rfl⟩
        ·cases hq
       ·cases hq
     ·cases hq; exact ⟨_, _, _, rfl⟩
   cases hr : xsliceR m size p b.1 b.2.1 b.2.2 k.isSome with
   | none => rw [hr] at h; cases h
   | some q =>
    rw [hr] at h
    simp only [Option.bind_some, Option.some.injEq, XR.val.injEq] at h
    obtain ⟨rfl, _⟩ := h
    exact key _ hr
 ·cases h
theorem ex3 {id n c a b k : Nat} (ha : a ≤ b) (hb : b ≤ k) (hk : k ≤ c) : ∃ v, sliceE m 1 (.slice (some ⟨id, 0, none⟩) n c) (some (I (a : Int))) (some (I (b : Int))) (some (I (k : Int))) = some (.val v m) := by
 simp [sliceE, xbounds, asNat_nat, ha, hb, hk, xsliceR]
theorem ex_lo {id n c k : Nat} (hk : k ≤ n) : sliceE m 1 (.slice (some ⟨id, 0, none⟩) n c) (some (I (k : Int))) none none = some (.val (.slice (some (if c = k then ⟨id, 0, none⟩ else ⟨id, k, none⟩)) (n - k) (c - k)) m) := by
 simp [sliceE, xbounds, asNat_nat, hk, xsliceR]
theorem ex_lohi {id n c a b : Nat} (ha : a ≤ b) (hb : b ≤ c) : sliceE m 1 (.slice (some ⟨id, 0, none⟩) n c) (some (I (a : Int))) (some (I (b : Int))) none = some (.val (.slice (some (if c = a then ⟨id, 0, none⟩ else ⟨id, a, none⟩)) (b - a) (c - a)) m) := by
 simp [sliceE, xbounds, asNat_nat, ha, hb, xsliceR]
theorem OwnX.delete {bytes i : Nat} {zero : Value} (h : OwnX F m v xs) (hi : i < xs.length) (hl : xs.length ≤ 1000) :
  ∃ v3 sA sB vD m1 sC m2 p c, sliceE m 1 v (some (I (i : Int))) (some (I ((i + 1 : Nat) : Int))) (some (I (xs.length : Int))) = some (.val v3 m) ∧ sliceE m 1 v none (some (I (i : Int))) none = some (.val sA m) ∧ sliceE m 1 v (some (I ((i + 1 : Nat) : Int))) none none = some (.val sB m) ∧
   appendE m 1 bytes [zero] sA sB = some (.val vD m1) ∧ vD = .slice p (xs.length - 1) c ∧ sliceE m1 1 vD (some (I ((xs.length - 1 : Nat) : Int))) (some (I (xs.length : Int))) none = some (.val sC m1) ∧ clearE m1 [zero] sC = some (.val (.tuple #[]) m2) ∧ OwnX F m2 vD (xs.eraseIdx i) ∧ Fm (· ∈ F) m m2 := by
 have hn : i + (xs.length - (i + 1)) = xs.length - 1 := by omega
 have hE : xs.eraseIdx i = xs.take i ++ xs.drop (i + 1) := List.eraseIdx_eq_take_drop_succ ..
 have hEl : (xs.eraseIdx i).length = xs.length - 1 := by rw [hE]; simp; omega
 rcases h with ⟨k0, h | ⟨h, _⟩⟩ | ⟨hF, id, c, o, rfl, q2, q3, q4, q5, q6, q7, q8⟩
 ·rw [ones_len, ones_flat] at h
  obtain ⟨id, o, cap, m1, o1, m2, rfl, hcap, hg, hsp, k1, k2, k3, k4, k5, k6⟩ := OwnS.delete (bytes := bytes) (zero := [zero]) (i := i) (j := i + 1) h rfl (by omega) (by omega) (by omega)
  obtain ⟨v3, hv3⟩ := slice_three (m := m) (size := 1) (n := xs.length) (id := id) (off := 0) (a := i) (b := i + 1) (k := xs.length) (cap := cap) (kd := .i64) (by omega) (by omega) hcap
  have s1 := slice_hi (n := xs.length) (off := 0) (k := i) (cap := cap) (kd := .i64) hg hsp (by omega)
  have s2 := slice_lo (n := xs.length) (off := 0) (k := i + 1) (cap := cap) (kd := .i64) hg hsp (by omega)
  have s3 := slice_lohi (n := i + (xs.length - (i + 1))) (off := 0) (a := i + (xs.length - (i + 1))) (b := xs.length) (cap := cap) (kd := .i64) k2 k3 (by omega) hcap
  rw [hn] at s3 k1 k4 k5
  refine ⟨v3, _, _, _, m1, _, m2, _, _, hv3, s1, s2, k1, rfl, s3, k4, .inl ⟨ones_one _, .inl ?_⟩, k6⟩
  rw [ones_len, ones_flat, hEl, hE]
  simpa using k5
 ·have : xs = [] := by simpa using h
  subst this; simp at hi
 ·have hlc : xs.length ≤ c := q2.1
  have hic : i ≤ c := by omega
  have hi1c : i + 1 ≤ c := by omega
  
  have key : ∃ m1 o1, appendE m 1 bytes [zero] (.slice (some ⟨id, 0, none⟩) i c) (.slice (some (if c = i + 1 then ⟨id, 0, none⟩ else ⟨id, i + 1, none⟩)) (xs.length - (i + 1)) (c - (i + 1))) = some (.val (.slice (some ⟨id, 0, none⟩) (xs.length - 1) c) m1) ∧
    m1.get id = some o1 ∧ o1.rw = true ∧ (∀ k ∈ o1.kin, k ∈ F ∧ k ≠ id) ∧ c ≤ o1.cells.length ∧ o1.cells.take (xs.length - 1) = xs.eraseIdx i ∧ Fm (· ∈ F) m m1 := by
   by_cases h0 : xs.length - (i + 1) = 0
   ·have e : i = xs.length - 1 := by omega
    refine ⟨m, o, ?_, q4, q5, q6, q7, ?_, .refl⟩
    ·simp [appendE, xlen, xfirst, h0, xappend]
     exact e
    ·rw [hE, List.drop_eq_nil_of_le (by omega), List.append_nil]
     conv => rhs; rw [← q8]
     rw [List.take_take, e]
     congr 1
     omega
   ·have hne : ¬ c = i + 1 := by omega
    have hx : xfirst m 1 (xs.length - (i + 1)) (.slice (some ⟨id, i + 1, none⟩) (xs.length - (i + 1)) (c - (i + 1))) = some (xs.drop (i + 1)) := by
     simp only [xfirst, if_neg h0]
     rw [xload_own q4 (by omega), Nat.mul_one]
     conv => rhs; rw [← q8]
     rw [List.drop_take]
    have hst := xstore_own (off := i) (vs := xs.drop (i + 1)) q4 q5 (by rw [List.length_drop]; omega)
    refine ⟨(m.eraseAll o.kin).set id { o with cells := setAll o.cells i (xs.drop (i + 1)), kin := [] }, { o with cells := setAll o.cells i (xs.drop (i + 1)), kin := [] }, ?_, by rw [Mem.get_set, if_pos rfl], q5, by simp, ?_, ?_, Fm.trans (Fm.eraseAll fun y hy => (q6 y hy).1) (Fm.set q3)⟩
    ·rw [if_neg hne]
     simp only [appendE, xlen, Option.bind_some, hx, xappend]
     rw [if_pos (by rfl), if_neg h0, if_pos (by omega), if_neg (by omega)]
     simp only [Nat.zero_add, Nat.mul_one, hst, Option.bind_some]
     rw [hn]
    ·show c ≤ (setAll o.cells i _).length
     rw [setAll_eq _ _ _ (by rw [List.length_drop]; omega)]
     simp only [List.length_append, List.length_take, List.length_drop]; omega
    ·show (setAll o.cells i _).take _ = _
     rw [setAll_eq _ _ _ (by rw [List.length_drop]; omega), hE]
     have e1 : o.cells.take i = xs.take i := by
      conv => rhs; rw [← q8]
      rw [List.take_take]; congr 1; omega
     rw [e1, List.take_left']
     simp; omega
  obtain ⟨m1, o1, k1, k2, k3, k4, k5, k6, k7⟩ := key
  have hst := xstore_own (off := xs.length - 1) (vs := [zero]) k2 k3 (by show xs.length - 1 + 1 ≤ _; omega)
  have hne1 : ¬ c = i + 1 ∨ c = i + 1 := by omega
  have hlt : i + 1 ≤ xs.length := by omega
  have hsub : xs.length - (xs.length - 1) = 1 := by omega
  obtain ⟨v3, hv3⟩ := ex3 (m := m) (id := id) (n := xs.length) (c := c) (a := i) (b := i + 1) (k := xs.length) (by omega) hlt hlc
  refine ⟨v3, .slice (some ⟨id, 0, none⟩) i c, .slice (some (if c = i + 1 then ⟨id, 0, none⟩ else ⟨id, i + 1, none⟩)) (xs.length - (i + 1)) (c - (i + 1)), _, m1, .slice (some ⟨id, xs.length - 1, none⟩) 1 (c - (xs.length - 1)), (m1.eraseAll o1.kin).set id { o1 with cells := setAll o1.cells (xs.length - 1) [zero], kin := [] }, _, _, hv3, by simp [sliceE, xbounds, asNat_nat, hic, xsliceR], ex_lo hlt, k1, rfl, ?_, ?_, .inr ⟨fun j hj => by have := hF j hj; have := k7.next; simp; omega, id, c, { o1 with cells := setAll o1.cells (xs.length - 1) [zero], kin := [] }, by rw [hEl], by rw [hEl]; omega, q3, by rw [Mem.get_set, if_pos rfl], k3, by simp, ?_, ?_⟩, k7.trans (Fm.trans (Fm.eraseAll fun y hy => (k4 y hy).1) (Fm.set q3))⟩
  ·have hc1 : ¬ c = xs.length - 1 := by omega
   rw [ex_lohi (by omega) hlc, if_neg hc1, hsub]
  ·simp only [clearE]
   rw [if_neg (by omega), if_neg (by simp), show zerosOf [zero] 1 = [zero] from rfl, hst]
   rfl
  ·show c ≤ (setAll o1.cells _ [zero]).length
   rw [setAll_one, List.length_set]; exact k5
  ·show (setAll o1.cells _ [zero]).take _ = _
   rw [setAll_one, hEl, List.take_set_of_le (Nat.le_refl _), k6]
theorem OwnX.ins {i va : Nat} {x : Value} (h : OwnX F m v xs) (hi : i < xs.length) (hl : xs.length ≤ 1000) (hg : m.get va = some { cells := [x], rw := true, spare := none, kin := [] }) (hva : va ∉ F) :
  ∃ v' m' F', insG 1 [v, I (i : Int), .slice (some ⟨va, 0, none⟩) 1 1] m = some (v', m') ∧ OwnX F' m' v' (xs.take i ++ x :: xs.drop i) ∧ Fm (· ∈ F) m m' ∧ ∀ j ∈ F', j ∈ F ∨ m.next ≤ j := by
 have hlen : (xs.take i ++ x :: xs.drop i).length = xs.length + 1 := by simp; omega
 have hld : xload m ⟨va, 0, none⟩ 1 = some [x] := by rw [xload_own hg (by show 0 + 1 ≤ 1; omega)]; rfl
 have hnil : xs.length ≠ 0 := by omega
 rcases h with ⟨k0, ⟨k1, k2, ⟨rfl, hz⟩ | ⟨id, o, cap, rest, rfl, h5, h6, h7, h8, h9, h10, h11⟩⟩ | ⟨h, _⟩⟩ | ⟨hF, id, c, o, rfl, q2, q3, q4, q5, q6, q7, q8⟩
 ·rw [ones_len] at hz; omega
 ·rw [ones_len]
  rw [ones_flat] at h10
  rw [Nat.mul_one] at h11
  have hlc : xs.length ≤ cap := by rw [← h11, h10]; simp
  have hid : va ≠ id := fun e => hva (e ▸ h6)
  have hkin : va ∉ o.kin := fun e => hva (h7 va e).1
  have hfm : ∀ y : XObj, Fm (· ∈ F) m ((m.eraseAll (id :: o.kin)).push y) := fun y => Fm.trans (Fm.eraseAll fun z hz => by
   rcases List.mem_cons.1 hz with rfl | hz
   ·exact h6
   ·exact (h7 z hz).1) .push
  have htk : o.cells.take xs.length = xs := by rw [h10, List.take_left' rfl]
  have hins : insC xs [x] i = xs.take i ++ x :: xs.drop i := rfl
  have hcond : (some 0 : Option Nat) = some 0 ∧ (none : Option Nat) = none ∧ o.rw = true ∧ true = true ∧ o.spare = some 1 ∧ (1 : Nat) ≠ 0 ∧ (0 : Int) ≤ i ∧ (i : Int) < (xs.length : Nat) ∧ va ≠ id ∧ va ∉ o.kin ∧ xs.length ≤ 1000000 ∧ 0 ≤ o.cells.length ∧ xs.length ≤ cap :=
   ⟨rfl, rfl, h8, rfl, h9, by omega, by omega, by omega, hid, hkin, by omega, by omega, hlc⟩
  have nw : ∀ j ∈ [m.next], j ∈ F ∨ m.next ≤ j := by simp
  by_cases hroom : xs.length + 1 ≤ cap
  ·refine ⟨.slice (some ⟨m.next, 0, some 0⟩) (xs.length + 1) cap, (m.eraseAll (id :: o.kin)).push { cells := (xs.take i ++ x :: xs.drop i) ++ o.cells.drop (xs.length + 1), rw := true, spare := some 1, kin := [] }, [m.next], ?_, ?_, hfm _, nw⟩
   ·unfold insG
    simp only [h5, hg]
    rw [if_pos (by simpa using hcond), hld]
    simp only [Option.bind_some, List.drop_zero, Nat.mul_one]
    rw [if_pos hroom, if_pos (by omega), Int.toNat_natCast, htk, hins]
   ·have := own2_of (o := { cells := (xs.take i ++ x :: xs.drop i) ++ o.cells.drop (xs.length + 1), rw := true, spare := some 1, kin := [] }) (F := [m.next]) (m := (m.eraseAll (id :: o.kin)).push { cells := (xs.take i ++ x :: xs.drop i) ++ o.cells.drop (xs.length + 1), rw := true, spare := some 1, kin := [] }) (xs := xs.take i ++ x :: xs.drop i) (id := m.next) (cap := cap) (rest := o.cells.drop (xs.length + 1)) (by simp) (by rw [← show (m.eraseAll (id :: o.kin)).next = m.next by simp]; exact push_self) (by simp) (by simp) rfl rfl rfl (by simp only [List.length_append, List.length_drop, hlen]; omega)
    rw [hlen] at this
    exact this
  ·have hcn : cap = xs.length := by omega
   have hall : o.cells = xs := by rw [← htk, List.take_of_length_le (by omega)]
   refine ⟨.slice (some ⟨m.next, 0, some 0⟩) (xs.length + 1) (xs.length + 1), (m.eraseAll (id :: o.kin)).push { cells := xs.take i ++ x :: xs.drop i, rw := true, spare := some 1, kin := [] }, [m.next], ?_, ?_, hfm _, nw⟩
   ·unfold insG
    simp only [h5, hg]
    rw [if_pos (by simpa using hcond), hld]
    simp only [Option.bind_some, List.drop_zero, Nat.mul_one]
    rw [if_neg hroom, if_pos (by omega), Int.toNat_natCast, hall, hins]
   ·have := own2_of (o := { cells := xs.take i ++ x :: xs.drop i, rw := true, spare := some 1, kin := [] }) (F := [m.next]) (m := (m.eraseAll (id :: o.kin)).push { cells := xs.take i ++ x :: xs.drop i, rw := true, spare := some 1, kin := [] }) (xs := xs.take i ++ x :: xs.drop i) (id := m.next) (cap := xs.length + 1) (rest := []) (by simp) (by rw [← show (m.eraseAll (id :: o.kin)).next = m.next by simp]; exact push_self) (by simp) (by simp) rfl rfl (by simp) hlen
    rw [hlen] at this
    exact this
 ·have : xs = [] := by simpa using h
  subst this; simp at hi
 ·have hid : va ≠ id := fun e => hva (e ▸ q3)
  have hkin : va ∉ o.kin := fun e => hva (q6 va e).1
  have hfm : ∀ y : XObj, Fm (· ∈ F) m ((m.eraseAll (id :: o.kin)).push y) := fun y => Fm.trans (Fm.eraseAll fun z hz => by
   rcases List.mem_cons.1 hz with rfl | hz
   ·exact q3
   ·exact (q6 z hz).1) .push
  have hins : insC xs [x] i = xs.take i ++ x :: xs.drop i := rfl
  have nw : ∀ j ∈ [m.next], j ∈ F ∨ m.next ≤ j := by simp
  have hc63 : c ≤ 9223372036854775807 := by omega
  have q2 := q2
  ·have hcond : (none : Option Nat) = none ∧ (none : Option Nat) = none ∧ o.rw = true ∧ true = true ∧ (1 : Nat) ≠ 0 ∧ (0 : Int) ≤ i ∧ (i : Int) < (xs.length : Nat) ∧ va ≠ id ∧ va ∉ o.kin ∧ xs.length ≤ 1000000 ∧ xs.length ≤ c ∧ 0 + c * 1 ≤ o.cells.length ∧ c ≤ 9223372036854775807 :=
    ⟨rfl, rfl, q5, rfl, by omega, by omega, by omega, hid, hkin, by omega, q2.1, by omega, hc63⟩
   have hG : insG 1 [.slice (some ⟨id, 0, none⟩) xs.length c, I (i : Int), .slice (some ⟨va, 0, none⟩) 1 1] m = insX 1 ⟨id, 0, none⟩ xs.length c (i : Int) ⟨va, 0, none⟩ m o { cells := [x], rw := true, spare := none, kin := [] } := by
    unfold insG
    simp only [q4, hg]
    rw [if_neg (fun h => by simp at h)]
   by_cases hroom : xs.length + 1 ≤ c
   ·refine ⟨.slice (some ⟨m.next, 0, none⟩) (xs.length + 1) c, (m.eraseAll (id :: o.kin)).push { cells := (xs.take i ++ x :: xs.drop i) ++ o.cells.drop (xs.length + 1), rw := true, spare := none, kin := [] }, [m.next], ?_, .inr ⟨by simp, m.next, c, { cells := (xs.take i ++ x :: xs.drop i) ++ o.cells.drop (xs.length + 1), rw := true, spare := none, kin := [] }, by rw [hlen], by rw [hlen]; exact ⟨hroom, q2.2⟩, by simp, by rw [← show (m.eraseAll (id :: o.kin)).next = m.next by simp]; exact push_self, rfl, by simp, ?_, by rw [List.take_left' rfl]⟩, hfm _, nw⟩
    ·rw [hG]
     unfold insX
     rw [if_pos hcond, hld]
     simp only [Option.bind_some, List.drop_zero, Nat.mul_one]
     rw [if_pos hroom, Int.toNat_natCast, q8, hins]
    ·simp only [List.length_append, List.length_drop, hlen]; omega
   ·refine ⟨.slice (some ⟨m.next, 0, some 0⟩) (xs.length + 1) (xs.length + 1), (m.eraseAll (id :: o.kin)).push { cells := xs.take i ++ x :: xs.drop i, rw := true, spare := some 1, kin := [] }, [m.next], ?_, ?_, hfm _, nw⟩
    ·rw [hG]
     unfold insX
     rw [if_pos hcond, hld]
     simp only [Option.bind_some, List.drop_zero, Nat.mul_one]
     rw [if_neg hroom, Int.toNat_natCast, q8, hins]
    ·have := own2_of (o := { cells := xs.take i ++ x :: xs.drop i, rw := true, spare := some 1, kin := [] }) (F := [m.next]) (m := (m.eraseAll (id :: o.kin)).push { cells := xs.take i ++ x :: xs.drop i, rw := true, spare := some 1, kin := [] }) (xs := xs.take i ++ x :: xs.drop i) (id := m.next) (cap := xs.length + 1) (rest := []) (by simp) (by rw [← show (m.eraseAll (id :: o.kin)).next = m.next by simp]; exact push_self) (by simp) (by simp) rfl rfl (by simp) hlen
     rw [hlen] at this
     exact this
theorem insG_end {n c va : Nat} {p : Option Addr} (hg : m.get va = some { cells := ys, rw := true, spare := none, kin := [] }) : insG 1 [.slice p n c, I (n : Int), .slice (some ⟨va, 0, none⟩) 1 1] m = none := by
 cases p with
 | none => rfl
 | some a =>
  unfold insG
  simp only [hg]
  split
  ·rw [if_neg (by omega)]
   unfold insX
   rw [if_neg (by omega)]
  ·rfl
end
section
variable {F : List Nat} {m m' : Mem} {v : Value} {xs ys : List Value}
theorem ins70 {i va : Nat} {x : Value} (h : OwnX F m v xs) (hi : i ≤ xs.length) (hl : xs.length ≤ 1000) (hg : m.get va = some { cells := [x], rw := true, spare := none, kin := [] }) (hva : va ∉ F) (hvn : va < m.next) :
  ∃ v' m' F', Ca 76 [v, I (i : Int), .slice (some ⟨va, 0, none⟩) 1 1] m v' m' ∧ OwnX F' m' v' (xs.take i ++ x :: xs.drop i) ∧ Fm (· ∈ F) m m' ∧ ∀ j ∈ F', j ∈ F ∨ m.next ≤ j := by
 by_cases hlt : i < xs.length
 ·obtain ⟨v', m', F', h1, h2⟩ := h.ins hlt hl hg hva
  exact ⟨v', m', F', ins_call (F := F76) (size := 1) rfl h1, h2⟩
 ·have hin : i = xs.length := by omega
  subst hin
  have hx : RdS m.next m 1 (.slice (some ⟨va, 0, none⟩) 1 1) (ones [x]) := by
   refine ⟨_, _, rfl, Nat.le_refl _, fun j r hr => ?_⟩
   have hj : j = 0 := by have := (List.getElem?_eq_some_iff.1 hr).1; simp at this; omega
   subst hj
   simp at hr; subst hr
   refine ⟨rfl, _, _, rfl, ?_, hg, fun q hq => ?_⟩
   ·exact hvn
   ·have : q = 0 := by omega
    subst this; rfl
  obtain ⟨v', m', F', a1, a2, a3, a4, a5⟩ := h.append (bytes := 16) (zero := .string .empty) hx (by simp; omega) (by omega)
  obtain ⟨v2, b1, b2⟩ := h.from (k := xs.length) (Nat.le_refl _)
  have e : xs.take xs.length ++ x :: xs.drop xs.length = xs ++ [x] := by simp
  rw [e]
  refine ⟨v', m', F', ?_, a2, a3, a5⟩
  obtain ⟨p, c, rfl⟩ := h.slice
  refine callX_of (ins_go (F := F76) (size := 1) rfl (insG_end hg) rfl fun Q hQ => ?_)
  obtain ⟨n, hn⟩ : ∃ n, xs.length = n := ⟨_, rfl⟩
  rw [hn] at a1 b1
  simp only [F76, x76]
  simp only [symA, symB, X.put, X.look, Arg.ev, keepOf, restrict, evO, initEnv, Nat.reduceAdd, Nat.reduceEqDiff, ↓reduceIte, reduceCtorEq, goInt, eq_self, Int.reduceEq, hn, b1, a1]
  exact hQ _ _ _ rfl ⟨rfl, rfl⟩
theorem del75 {i : Nat} (h : OwnX F m v xs) (hi : i < xs.length) (hl : xs.length ≤ 1000) :
  ∃ v' m', Ca 73 [v, I (i : Int), I ((i + 1 : Nat) : Int)] m v' m' ∧ OwnX F m' v' (xs.eraseIdx i) ∧ Fm (· ∈ F) m m' := by
 obtain ⟨v3, sA, sB, vD, m1, sC, m2, p, c, d1, d2, d3, d4, rfl, d6, d7, d8, d9⟩ := h.delete (bytes := 16) (zero := .string .empty) hi hl
 refine ⟨_, m2, ?_, d8, d9⟩
 obtain ⟨q, cq, rfl⟩ := h.slice
 obtain ⟨pA, nA, cA, rfl⟩ := sliceE_slice d2
 obtain ⟨pB, nB, cB, rfl⟩ := sliceE_slice d3
 refine callX_of (call_go (F := _) rfl rfl fun Q hQ => ?_)
 have hne : ¬ (i : Int) = ((i + 1 : Nat) : Int) := by omega
 simp only [symA, go_opsd, symB, X.put, X.look, Arg.ev, keepOf, restrict, evO, initEnv, cls, quiet, Nat.reduceAdd, Nat.reduceEqDiff, ↓reduceIte, reduceCtorEq, goInt, eq_self, Nat.reducePow, Nat.reduceDiv, Nat.reduceMod, d1, hne, d2, d3, d4, d6, d7]
 exact hQ _ _ _ rfl ⟨rfl, rfl⟩
theorem bs72 {m : Mem} : buildSliceE m [.string .empty] 1 0 [] = some (.val (.slice (some ⟨m.next, 0, none⟩) 0 0) (m.push { cells := [], rw := true, spare := none, kin := [] })) := by kernel_rfl
theorem bone72 {m : Mem} {x : ByteArray} : buildSliceE m [.string .empty] 1 1 [(0, .string x)] = some (.val (.slice (some ⟨m.next, 0, none⟩) 1 1) (m.push { cells := [.string x], rw := true, spare := none, kin := [] })) := buildSlice_one rfl
theorem clone72 {b : Nat} (h : RdS b m 1 v (ones xs)) (hb : b ≤ m.next) (hl : xs.length ≤ 1000) : ∃ r m' F, Ca 78 [v] m r m' ∧ OwnX F m' r xs ∧ (∀ i ∈ F, m.next ≤ i) ∧ Nx m m' := by
 obtain ⟨q, c, hv⟩ := h.slice
 rw [ones_len] at hv
 subst hv
 cases q with
 | none =>
  have h0 : xs = [] := by
   cases xs with
   | nil => rfl
   | cons x l =>
    obtain ⟨a, c', o, hv, _⟩ := rd_at h (i := 0) rfl
    cases hv
  subst h0
  refine ⟨.slice none 0 0, m, [], callX_of (call_go (F := _) rfl rfl fun Q hQ => ?_), .nil, by simp, .refl⟩
  simp only [symA, symB, X.put, X.look, Arg.ev, keepOf, restrict, initEnv, ↓reduceIte, reduceCtorEq, eq_self]
  exact hQ _ _ _ rfl ⟨rfl, rfl⟩
 | some a =>
  obtain ⟨m1, hm1⟩ : ∃ m1, m.push { cells := [], rw := true, spare := none, kin := [] } = m1 := ⟨_, rfl⟩
  have f1 : Nx m m1 := hm1 ▸ .push
  have n1 : m1.next = m.next + 1 := by rw [← hm1]; simp
  obtain ⟨v', m', F, a1, a2, a3, a4⟩ := append_all (bytes := 16) (zero := [.string .empty]) (s := .slice (some ⟨m.next, 0, none⟩) 0 0) (.inr ⟨_, rfl⟩) (h.fr f1 hb (fun _ h => h.elim)) rfl (by omega) (by rw [ones_len]; omega) (by rw [ones_len]; omega)
  refine ⟨v', m', F, callX_of (call_go (F := _) rfl rfl fun Q hQ => ?_), .inl a2, fun i hi => by have := a4 i hi; omega, f1.comp a3 fun _ _ h => h⟩
  simp only [symA, symB, X.put, X.look, Arg.ev, keepOf, restrict, initEnv, Nat.reduceEqDiff, ↓reduceIte, reduceCtorEq, eq_self, bs72, hm1, a1]
  exact hQ _ _ _ rfl ⟨rfl, rfl⟩
end
section
variable {F : List Nat} {m m' : Mem} {v : Value} {xs ys : List Value}
theorem ins71 {i va : Nat} {x : Value} (h : OwnX F m v xs) (hi : i ≤ xs.length) (hl : xs.length ≤ 1000) (hg : m.get va = some { cells := [x], rw := true, spare := none, kin := [] }) (hva : va ∉ F) (hvn : va < m.next) :
  ∃ v' m' F', Ca 77 [v, I (i : Int), .slice (some ⟨va, 0, none⟩) 1 1] m v' m' ∧ OwnX F' m' v' (xs.take i ++ x :: xs.drop i) ∧ Fm (· ∈ F) m m' ∧ ∀ j ∈ F', j ∈ F ∨ m.next ≤ j := by
 by_cases hlt : i < xs.length
 ·obtain ⟨v', m', F', h1, h2⟩ := h.ins hlt hl hg hva
  exact ⟨v', m', F', ins_call (F := F77) (size := 1) rfl h1, h2⟩
 ·have hin : i = xs.length := by omega
  subst hin
  have hx : RdS m.next m 1 (.slice (some ⟨va, 0, none⟩) 1 1) (ones [x]) := by
   refine ⟨_, _, rfl, Nat.le_refl _, fun j r hr => ?_⟩
   have hj : j = 0 := by have := (List.getElem?_eq_some_iff.1 hr).1; simp at this; omega
   subst hj
   simp at hr; subst hr
   refine ⟨rfl, _, _, rfl, ?_, hg, fun q hq => ?_⟩
   ·exact hvn
   ·have : q = 0 := by omega
    subst this; rfl
  obtain ⟨v', m', F', a1, a2, a3, a4, a5⟩ := h.append (bytes := 8) (zero := I 0) hx (by simp; omega) (by omega)
  obtain ⟨v2, b1, b2⟩ := h.from (k := xs.length) (Nat.le_refl _)
  have e : xs.take xs.length ++ x :: xs.drop xs.length = xs ++ [x] := by simp
  rw [e]
  refine ⟨v', m', F', ?_, a2, a3, a5⟩
  obtain ⟨p, c, rfl⟩ := h.slice
  refine callX_of (ins_go (F := F77) (size := 1) rfl (insG_end hg) rfl fun Q hQ => ?_)
  obtain ⟨n, hn⟩ : ∃ n, xs.length = n := ⟨_, rfl⟩
  rw [hn] at a1 b1
  simp only [F77, x77]
  simp only [symA, symB, X.put, X.look, Arg.ev, keepOf, restrict, evO, initEnv, Nat.reduceAdd, Nat.reduceEqDiff, ↓reduceIte, reduceCtorEq, goInt, eq_self, Int.reduceEq, hn, b1, a1]
  exact hQ _ _ _ rfl ⟨rfl, rfl⟩
theorem del76 {i : Nat} (h : OwnX F m v xs) (hi : i < xs.length) (hl : xs.length ≤ 1000) :
  ∃ v' m', Ca 74 [v, I (i : Int), I ((i + 1 : Nat) : Int)] m v' m' ∧ OwnX F m' v' (xs.eraseIdx i) ∧ Fm (· ∈ F) m m' := by
 obtain ⟨v3, sA, sB, vD, m1, sC, m2, p, c, d1, d2, d3, d4, rfl, d6, d7, d8, d9⟩ := h.delete (bytes := 8) (zero := I 0) hi hl
 refine ⟨_, m2, ?_, d8, d9⟩
 obtain ⟨q, cq, rfl⟩ := h.slice
 obtain ⟨pA, nA, cA, rfl⟩ := sliceE_slice d2
 obtain ⟨pB, nB, cB, rfl⟩ := sliceE_slice d3
 refine callX_of (call_go (F := _) rfl rfl fun Q hQ => ?_)
 have hne : ¬ (i : Int) = ((i + 1 : Nat) : Int) := by omega
 simp only [symA, go_opsd, symB, X.put, X.look, Arg.ev, keepOf, restrict, evO, initEnv, cls, quiet, Nat.reduceAdd, Nat.reduceEqDiff, ↓reduceIte, reduceCtorEq, goInt, eq_self, Nat.reducePow, Nat.reduceDiv, Nat.reduceMod, d1, hne, d2, d3, d4, d6, d7]
 exact hQ _ _ _ rfl ⟨rfl, rfl⟩
theorem bs73 {m : Mem} : buildSliceE m [I 0] 1 0 [] = some (.val (.slice (some ⟨m.next, 0, none⟩) 0 0) (m.push { cells := [], rw := true, spare := none, kin := [] })) := by kernel_rfl
theorem bone73 {m : Mem} {x : Int} : buildSliceE m [I 0] 1 1 [(0, I x)] = some (.val (.slice (some ⟨m.next, 0, none⟩) 1 1) (m.push { cells := [I x], rw := true, spare := none, kin := [] })) := buildSlice_one rfl
theorem clone73 {b : Nat} (h : RdS b m 1 v (ones xs)) (hb : b ≤ m.next) (hl : xs.length ≤ 1000) : ∃ r m' F, Ca 79 [v] m r m' ∧ OwnX F m' r xs ∧ (∀ i ∈ F, m.next ≤ i) ∧ Nx m m' := by
 obtain ⟨q, c, hv⟩ := h.slice
 rw [ones_len] at hv
 subst hv
 cases q with
 | none =>
  have h0 : xs = [] := by
   cases xs with
   | nil => rfl
   | cons x l =>
    obtain ⟨a, c', o, hv, _⟩ := rd_at h (i := 0) rfl
    cases hv
  subst h0
  refine ⟨.slice none 0 0, m, [], callX_of (call_go (F := _) rfl rfl fun Q hQ => ?_), .nil, by simp, .refl⟩
  simp only [symA, symB, X.put, X.look, Arg.ev, keepOf, restrict, initEnv, ↓reduceIte, reduceCtorEq, eq_self]
  exact hQ _ _ _ rfl ⟨rfl, rfl⟩
 | some a =>
  obtain ⟨m1, hm1⟩ : ∃ m1, m.push { cells := [], rw := true, spare := none, kin := [] } = m1 := ⟨_, rfl⟩
  have f1 : Nx m m1 := hm1 ▸ .push
  have n1 : m1.next = m.next + 1 := by rw [← hm1]; simp
  obtain ⟨v', m', F, a1, a2, a3, a4⟩ := append_all (bytes := 8) (zero := [I 0]) (s := .slice (some ⟨m.next, 0, none⟩) 0 0) (.inr ⟨_, rfl⟩) (h.fr f1 hb (fun _ h => h.elim)) rfl (by omega) (by rw [ones_len]; omega) (by rw [ones_len]; omega)
  refine ⟨v', m', F, callX_of (call_go (F := _) rfl rfl fun Q hQ => ?_), .inl a2, fun i hi => by have := a4 i hi; omega, f1.comp a3 fun _ _ h => h⟩
  simp only [symA, symB, X.put, X.look, Arg.ev, keepOf, restrict, initEnv, Nat.reduceEqDiff, ↓reduceIte, reduceCtorEq, eq_self, bs73, hm1, a1]
  exact hQ _ _ _ rfl ⟨rfl, rfl⟩
end
end Go.Proofs.Ytnlmnejellipdaa
namespace Go.Proofs.Ytnlmnejellipdaa
open Go X
set_option maxRecDepth 100000
attribute [local irreducible] X.Go' X.GoO X.GoR X.GoG X.GoC X.GoF X.GoFV X.GoFG X.Ex X.GoD X.GoDV X.GoDG
set_option linter.unusedVariables false
set_option linter.unusedSimpArgs false
inductive Tag where
 | no
 | top
 | nodes
 | free
 | fld (f i : Nat)
 | other (n : Nat)
 deriving DecidableEq
section
variable {σ σ' σ'' : Nat → Tag} {t t' : Tag} {m m' m'' : Mem} {v : Value} {xs : List Value}
def Tg (σ : Nat → Tag) (t : Tag) (m : Mem) (v : Value) (xs : List Value) : Prop := ∃ F, OwnX F m v xs ∧ ∀ j ∈ F, σ j = t
structure Ch (t : Tag) (σ σ' : Nat → Tag) (m m' : Mem) : Prop where
 sig : ∀ j, j < m.next → σ' j = σ j
 fm : Fm (fun j => σ j = t) m m'
 fut : ∀ j, m'.next ≤ j → σ' j = σ j
theorem Ch.next (h : Ch t σ σ' m m') : m.next ≤ m'.next := h.fm.next
theorem Ch.nx (h : Nx m m') : Ch t σ σ m m' := ⟨fun _ _ => rfl, h.mono fun _ _ h => h.elim, fun _ _ => rfl⟩
theorem Ch.refl : Ch t σ σ m m := ⟨fun _ _ => rfl, .refl, fun _ _ => rfl⟩
theorem Ch.trans (h : Ch t σ σ' m m') (h' : Ch t σ' σ'' m' m'') : Ch t σ σ'' m m'' :=
 ⟨fun j hj => by rw [h'.sig j (Nat.lt_of_lt_of_le hj h.next), h.sig j hj], h.fm.comp h'.fm fun j hj ht => by rw [← h.sig j hj]; exact ht, fun j hj => by rw [h'.fut j hj, h.fut j (Nat.le_trans h'.next hj)]⟩
theorem Tg.ch (h : Tg σ t' m v xs) (hc : Ch t σ σ' m m') (hne : t' ≠ t) : Tg σ' t' m' v xs := by
 obtain ⟨F, h1, h2⟩ := h
 exact ⟨F, h1.fr hc.fm fun j hj q => hne (by rw [← h2 j hj]; exact q), fun j hj => by rw [hc.sig j (h1.lt j hj)]; exact h2 j hj⟩
theorem Tg.nx (h : Tg σ t' m v xs) (hc : Nx m m') : Tg σ t' m' v xs := by
 obtain ⟨F, h1, h2⟩ := h
 exact ⟨F, h1.fr hc fun _ _ h => h, h2⟩
theorem Tg.rd (h : Tg σ t m v xs) : RdS m.next m 1 v (ones xs) := by
 obtain ⟨F, h1, _⟩ := h
 exact h1.rd
theorem Tg.slice (h : Tg σ t m v xs) : ∃ p c, v = .slice p xs.length c := by
 obtain ⟨F, h1, _⟩ := h
 exact h1.slice
theorem Tg.nil : Tg σ t m (.slice none 0 0) [] := ⟨[], .nil, by simp⟩
theorem tag_of {F F' : List Nat} {v' : Value} {ys : List Value} (hF : ∀ j ∈ F, σ j = t) (ho : OwnX F' m' v' ys) (hf : Fm (· ∈ F) m m') (hn : ∀ j ∈ F', j ∈ F ∨ m.next ≤ j) (hlt : ∀ j ∈ F, j < m.next) : ∃ σ', Tg σ' t m' v' ys ∧ Ch t σ σ' m m' := by
 refine ⟨fun j => if j ∈ F' then t else σ j, ⟨F', ho, fun j hj => if_pos hj⟩, fun j hj => ?_, hf.mono fun j _ h => hF j h, fun j hj => if_neg fun q => by have := ho.lt j q; omega⟩
 show (if j ∈ F' then t else σ j) = σ j
 split
 ·rename_i h
  rcases hn j h with h | h
  ·exact (hF j h).symm
  ·omega
 ·rfl
theorem tag_new {F' : List Nat} {v' : Value} {ys : List Value} (t : Tag) (ho : OwnX F' m' v' ys) (hf : Nx m m') (hn : ∀ j ∈ F', m.next ≤ j) : ∃ σ', Tg σ' t m' v' ys ∧ (∀ j, j < m.next → σ' j = σ j) ∧ (∀ j, m'.next ≤ j → σ' j = σ j) := by
 refine ⟨fun j => if j ∈ F' then t else σ j, ⟨F', ho, fun j hj => if_pos hj⟩, fun j hj => ?_, fun j hj => if_neg fun q => by have := ho.lt j q; omega⟩
 show (if j ∈ F' then t else σ j) = σ j
 split
 ·rename_i h; have := hn j h; omega
 ·rfl
theorem Ch.nx' (h : Nx m m') (hs : (∀ j, j < m.next → σ' j = σ j) ∧ ∀ j, m'.next ≤ j → σ' j = σ j) : Ch t σ σ' m m' := ⟨hs.1, h.mono fun _ _ h => h.elim, hs.2⟩
end
structure Nd where
 keys : List ByteArray
 nums : List Int
 kids : List Nat
abbrev sv (s : ByteArray) : Value := .string s
abbrev iv (n : Int) : Value := .int .i64 n
abbrev nv (n : Nat) : Value := .int .i64 (n : Int)
def Nd.fld (N : Nd) : Nat → List Value
 | 0 => N.keys.map sv
 | 1 => N.nums.map iv
 | _ => N.kids.map nv
abbrev row3 (g : Nat → Value) : List Value := [g 0, g 1, g 2]
def upd (g : Nat → Value) (f : Nat) (v : Value) : Nat → Value := fun k => if k = f then v else g k
structure TMH (H : List Nat) (σ : Nat → Tag) (m : Mem) (p : Nat) (vl vf : Value) (ns : List (Nat → Value)) (ls : List Nd) (fr : List Nat) (root n : Int) : Prop where
 get : m.get p = some { cells := [vl, vf, I root, I n], rw := true, spare := none, kin := [] }
 top : σ p = .top
 pl : p < m.next
 ol : ∃ F, Own2 3 F m vl (ns.map row3) ∧ ∀ j ∈ F, σ j = .nodes
 free : Tg σ .free m vf (fr.map nv)
 len : ns.length = ls.length
 fresh : ∀ j, m.next ≤ j → σ j = .no
 nd : ∀ (i : Nat) (N : Nd), i ∉ H → ls[i]? = some N → ∃ g, ns[i]? = some g ∧ ∀ f, f < 3 → Tg σ (.fld f i) m (g f) (N.fld f)
section
variable {H H' : List Nat} {σ σ' : Nat → Tag} {t : Tag} {m m' : Mem} {p : Nat} {vl vf : Value} {ns : List (Nat → Value)} {ls : List Nd} {fr : List Nat} {root n : Int}
theorem TMH.ch (h : TMH H σ m p vl vf ns ls fr root n) (hc : Ch t σ σ' m m') (h1 : t ≠ .top) (h2 : t ≠ .nodes) (h3 : t ≠ .free) (h4 : ∀ f i, f < 3 → i ∉ H → t ≠ .fld f i) : TMH H σ' m' p vl vf ns ls fr root n := by
 obtain ⟨F, o1, o2⟩ := h.ol
 refine ⟨hc.fm.get h.pl (fun q => h1 (by rw [← q]; exact h.top)) h.get, by rw [hc.sig p h.pl]; exact h.top, Nat.lt_of_lt_of_le h.pl hc.next, ⟨F, o1.fr hc.fm fun j hj q => h2 (by rw [← q]; exact o2 j hj), fun j hj => by rw [hc.sig j (o1.lt j hj)]; exact o2 j hj⟩, h.free.ch hc (Ne.symm h3), h.len, fun j hj => by rw [hc.fut j hj]; exact h.fresh j (Nat.le_trans hc.next hj), fun i N hi hN => ?_⟩
 obtain ⟨g, k1, k2⟩ := h.nd i N hi hN
 exact ⟨g, k1, fun f hf => (k2 f hf).ch hc fun q => h4 f i hf hi q.symm⟩
theorem TMH.nx (h : TMH H σ m p vl vf ns ls fr root n) (hc : Nx m m') : TMH H σ m' p vl vf ns ls fr root n :=
 h.ch (t := .no) (Ch.nx hc) (by simp) (by simp) (by simp) (by simp)
theorem TMH.new (h : TMH H σ m p vl vf ns ls fr root n) (hc : Nx m m') (hs : (∀ j, j < m.next → σ' j = σ j) ∧ ∀ j, m'.next ≤ j → σ' j = σ j) : TMH H σ' m' p vl vf ns ls fr root n :=
 h.ch (t := .no) (Ch.nx' hc hs) (by simp) (by simp) (by simp) (by simp)
theorem TMH.take (h : TMH H σ m p vl vf ns ls fr root n) {i : Nat} {N : Nd} (hi : i ∉ H) (hN : ls[i]? = some N) : ∃ g, ns[i]? = some g ∧ (∀ f, f < 3 → Tg σ (.fld f i) m (g f) (N.fld f)) ∧ TMH (i :: H) σ m p vl vf ns ls fr root n := by
 obtain ⟨g, k1, k2⟩ := h.nd i N hi hN
 exact ⟨g, k1, k2, h.get, h.top, h.pl, h.ol, h.free, h.len, h.fresh, fun j N' hj hN' => h.nd j N' (fun q => hj (List.mem_cons.2 (.inr q))) hN'⟩
theorem TMH.give {i : Nat} (h : TMH (H ++ i :: H') σ m p vl vf ns ls fr root n) {N : Nd} {g : Nat → Value} (hi : i < ls.length) (hg : ns[i]? = some g) (hN : ∀ f, f < 3 → Tg σ (.fld f i) m (g f) (N.fld f)) : TMH (H ++ H') σ m p vl vf ns (ls.set i N) fr root n := by
 refine ⟨h.get, h.top, h.pl, h.ol, h.free, by rw [List.length_set]; exact h.len, h.fresh, fun j N' hj hN' => ?_⟩
 by_cases e : j = i
 ·subst e
  rw [List.getElem?_set_self hi] at hN'
  cases hN'
  exact ⟨g, hg, hN⟩
 ·rw [List.getElem?_set_ne (Ne.symm e)] at hN'
  exact h.nd j N' (fun q => by
   rcases List.mem_append.1 q with q | q
   ·exact hj (List.mem_append.2 (.inl q))
   ·rcases List.mem_cons.1 q with q | q
    ·exact e q
    ·exact hj (List.mem_append.2 (.inr q))) hN'
theorem TMH.give1 {i : Nat} (h : TMH (i :: H) σ m p vl vf ns ls fr root n) {N : Nd} {g : Nat → Value} (hi : i < ls.length) (hg : ns[i]? = some g) (hN : ∀ f, f < 3 → Tg σ (.fld f i) m (g f) (N.fld f)) : TMH H σ m p vl vf ns (ls.set i N) fr root n :=
 TMH.give (H := []) h hi hg hN
theorem TMH.at (h : TMH H σ m p vl vf ns ls fr root n) {i : Nat} {g : Nat → Value} (hg : ns[i]? = some g) :
  ∃ id o c, vl = .slice (some ⟨id, 0, some 0⟩) ls.length c ∧ m.get id = some o ∧ (∀ f, f < 3 → o.cells[i * 3 + f]? = some (g f)) ∧ ldA m 3 (.pointer (some ⟨id, i * 3, none⟩)) = some (.val (.agg ⟨row3 g⟩) m) ∧ id < m.next ∧ σ id = .nodes := by
 obtain ⟨F, o1, o2⟩ := h.ol
 have hi := (List.getElem?_eq_some_iff.1 hg).1
 obtain ⟨h0, h1 | ⟨h1, _⟩⟩ := o1
 ·obtain ⟨k1, k2, ⟨rfl, hz⟩ | ⟨id, o, cap, rest, rfl, h5, h6, h7, h8, h9, h10, h11⟩⟩ := h1
  ·rw [List.length_map] at hz; omega
  ·have hc : ∀ f, f < 3 → o.cells[0 + i * 3 + f]? = (row3 g)[f]? := fun f hf => by
    rw [Nat.zero_add, h10, List.getElem?_append_left, flat_get h0 (by rw [List.getElem?_map, hg]; rfl) hf]
    rw [k1, List.length_map]
    have : (i + 1) * 3 ≤ ns.length * 3 := Nat.mul_le_mul_right _ hi
    omega
   refine ⟨id, o, cap, by rw [List.length_map, h.len], h5, fun f hf => ?_, ?_, k2 id h6, o2 id h6⟩
   ·have := hc f hf
    rw [Nat.zero_add] at this
    rw [this]
    match f, hf with
    | 0, _ => rfl
    | 1, _ => rfl
    | 2, _ => rfl
   ·have := xload_cells (m := m) (b := id) (off := 0 + i * 3) (n := 3) (r := row3 g) h5 rfl (by omega) hc
    rw [Nat.zero_add] at this
    simp [ldA, this]
 ·have : ns = [] := by simpa using h1
  subst this; simp at hi
theorem setAll_len {vs l : List Value} {o : Nat} (h : o + vs.length ≤ l.length) : (setAll l o vs).length = l.length := by
 rw [setAll_eq _ _ _ h]; simp only [List.length_append, List.length_take, List.length_drop]; omega
theorem flat_len {size : Nat} : ∀ {rows : List (List Value)}, (∀ r ∈ rows, r.length = size) → rows.flatten.length = rows.length * size
 | [], _ => by simp
 | r :: rows, h => by
  rw [List.flatten_cons, List.length_append, flat_len (fun r hr => h r (by simp [hr])), h r (by simp), List.length_cons, Nat.add_mul]; omega
theorem setAll_mid {A B row vs : List Value} {k : Nat} (h : k + vs.length ≤ row.length) : setAll (A ++ (row ++ B)) (A.length + k) vs = A ++ (setAll row k vs ++ B) := by
 rw [setAll_eq _ _ _ (by simp; omega), setAll_eq _ _ _ h, List.take_length_add_append, Nat.add_assoc, List.drop_length_add_append, List.take_append_of_le_length (by omega), List.drop_append_of_le_length h]
 simp
theorem flat_setrow {size : Nat} {rows : List (List Value)} {row vs : List Value} {i k : Nat} (h : ∀ r ∈ rows, r.length = size) (hi : rows[i]? = some row) (hk : k + vs.length ≤ size) : (rows.set i (setAll row k vs)).flatten = setAll rows.flatten (i * size + k) vs := by
 obtain ⟨hil, hrow⟩ := List.getElem?_eq_some_iff.1 hi
 have hd : rows.drop i = row :: rows.drop (i + 1) := by rw [← hrow]; exact List.drop_eq_getElem_cons hil
 have e1 : (rows.take i).flatten.length = i * size := by rw [flat_len (fun r hr => h r (List.mem_of_mem_take hr)), List.length_take, Nat.min_eq_left (by omega)]
 have e2 : rows.flatten = (rows.take i).flatten ++ (row ++ (rows.drop (i + 1)).flatten) := by
  conv => lhs; rw [← List.take_append_drop i rows, hd]
  simp
 have hrl := h row (List.mem_of_getElem? hi)
 rw [e2, ← e1, setAll_mid (by omega), List.set_eq_take_append_cons_drop, if_pos hil]
 simp
theorem own_row {F : List Nat} {v : Value} {rows : List (List Value)} {row vs : List Value} {i k : Nat} {size : Nat} (h : Own2 size F m v rows) (hi : rows[i]? = some row) (hk : k + vs.length ≤ size) {id c len : Nat} (hv : v = .slice (some ⟨id, 0, some 0⟩) len c) :
  ∃ m', xstore m ⟨id, i * size + k, none⟩ vs = some m' ∧ Own2 size F m' v (rows.set i (setAll row k vs)) ∧ Fm (· ∈ F) m m' := by
 obtain ⟨h0, h1⟩ : (∀ r ∈ rows, r.length = size) ∧ OwnS size F m v rows.length rows.flatten := by
  obtain ⟨h0, h1 | ⟨h1, _⟩⟩ := h
  ·exact ⟨h0, h1⟩
  ·subst h1; simp at hi
 have hil := (List.getElem?_eq_some_iff.1 hi).1
 have hrl := h0 row (List.mem_of_getElem? hi)
 obtain ⟨k1, k2, ⟨rfl, hz⟩ | ⟨id', o, cap, rest, hv', h5, h6, h7, h8, h9, h10, h11⟩⟩ := h1
 ·cases hv
 rw [hv] at hv'
 cases hv'
 subst hv
 have hsz : (i + 1) * size ≤ rows.length * size := Nat.mul_le_mul_right _ hil
 have hs1 : (i + 1) * size = i * size + size := by rw [Nat.add_mul]; omega
 have hfl : rows.flatten.length = rows.length * size := k1
 have hol : rows.flatten.length ≤ o.cells.length := by rw [h10]; simp
 have hst := xstore_own (off := i * size + k) (vs := vs) h5 h8 (by omega)
 have hset : (rows.set i (setAll row k vs)).flatten = setAll rows.flatten (i * size + k) vs := flat_setrow h0 hi hk
 refine ⟨_, hst, ⟨fun r hr => ?_, .inl ⟨?_, fun j hj => by simpa using k2 j hj, .inr ⟨id, { o with cells := setAll o.cells (i * size + k) vs, kin := [] }, c, rest, by rw [List.length_set], by rw [Mem.get_set, if_pos rfl], h6, by simp, h8, h9, ?_, ?_⟩⟩⟩, Fm.trans (Fm.eraseAll fun y hy => (h7 y hy).1) (Fm.set h6)⟩
 ·rcases List.mem_or_eq_of_mem_set hr with h | rfl
  ·exact h0 r h
  ·rw [setAll_len (by omega)]; exact hrl
 ·rw [hset, setAll_len (by omega), List.length_set]; exact k1
 ·show setAll o.cells _ vs = _
  rw [hset, h10, setAll_eq _ _ _ (by rw [List.length_append]; omega), setAll_eq _ _ _ (by omega), List.take_append_of_le_length (by omega), List.drop_append_of_le_length (by omega)]
  simp
 ·show (setAll o.cells _ vs).length = _
  rw [setAll_len (by omega)]; exact h11
end
end Go.Proofs.Ytnlmnejellipdaa
namespace Go.Proofs.Ytnlmnejellipdaa
open Go X
set_option maxRecDepth 100000
attribute [local irreducible] X.Go' X.GoO X.GoR X.GoG X.GoC X.GoF X.GoFV X.GoFG X.Ex X.GoD X.GoDV X.GoDG
set_option linter.unusedVariables false
set_option linter.unusedSimpArgs false
section
variable {H H' : List Nat} {σ σ' : Nat → Tag} {t : Tag} {m m' : Mem} {p : Nat} {vl vf : Value} {ns : List (Nat → Value)} {ls : List Nd} {fr : List Nat} {root n : Int}
theorem TMH.rows (h : TMH H σ m p vl vf ns ls fr root n) {F : List Nat} {ns' : List (Nat → Value)} (ho : Own2 3 F m vl (ns.map row3)) (hF : ∀ j ∈ F, σ j = .nodes) (ho' : Own2 3 F m' vl (ns'.map row3)) (hf : Fm (· ∈ F) m m') (hl : ns'.length = ns.length) (hns : ∀ i, i ∉ H → ns'[i]? = ns[i]?) : TMH H σ m' p vl vf ns' ls fr root n ∧ Ch .nodes σ σ m m' := by
 have hc : Ch .nodes σ σ m m' := ⟨fun _ _ => rfl, hf.mono fun j _ hj => hF j hj, fun _ _ => rfl⟩
 refine ⟨⟨hc.fm.get h.pl (by rw [h.top]; simp) h.get, h.top, Nat.lt_of_lt_of_le h.pl hc.next, ⟨F, ho', hF⟩, h.free.ch hc (by simp), by rw [hl]; exact h.len, fun j hj => h.fresh j (Nat.le_trans hc.next hj), fun i N hi hN => ?_⟩, hc⟩
 obtain ⟨g, k1, k2⟩ := h.nd i N hi hN
 exact ⟨g, by rw [hns i hi]; exact k1, fun f hf => (k2 f hf).ch hc (by simp)⟩
theorem TMH.store (h : TMH H σ m p vl vf ns ls fr root n) {i f : Nat} {g : Nat → Value} {v : Value} (hi : i ∈ H) (hg : ns[i]? = some g) (hf : f < 3) (h1 : v.cells = #[v]) (h2 : noTup v = true) :
  ∃ id c m', vl = .slice (some ⟨id, 0, some 0⟩) ls.length c ∧ storeE m 1 (.pointer (some ⟨id, i * 3 + f, none⟩)) v = some (.skip m') ∧ TMH H σ m' p vl vf (ns.set i (upd g f v)) ls fr root n ∧ Ch .nodes σ σ m m' := by
 obtain ⟨F, o1, o2⟩ := h.ol
 obtain ⟨id, o, c, hv, _⟩ := h.at hg
 have hm : (ns.map row3)[i]? = some (row3 g) := by rw [List.getElem?_map, hg]; rfl
 obtain ⟨m', s1, s2, s3⟩ := own_row (vs := [v]) (k := f) o1 hm (by show f + 1 ≤ 3; omega) hv
 have e : (ns.map row3).set i (setAll (row3 g) f [v]) = (ns.set i (upd g f v)).map row3 := by
  rw [List.map_set]
  congr 1
  match f, hf with
  | 0, _ => rfl
  | 1, _ => rfl
  | 2, _ => rfl
 rw [e] at s2
 obtain ⟨k1, k2⟩ := h.rows o1 o2 s2 s3 (by simp) fun j hj => List.getElem?_set_ne fun (q : i = j) => hj (by rw [← q]; exact hi)
 refine ⟨id, c, m', hv, ?_, k1, k2⟩
 have e1 : v.cells.size = 1 := by rw [h1]; rfl
 have e2 : v.cells.toList = [v] := by rw [h1]
 simp only [storeE]
 rw [if_pos ⟨e1, h2⟩, if_neg (by decide), e2, s1]
 rfl
theorem TMH.store3 (h : TMH H σ m p vl vf ns ls fr root n) {i : Nat} {g g' : Nat → Value} (hi : i ∈ H) (hg : ns[i]? = some g) (h2 : noTup (.agg ⟨row3 g'⟩) = true) :
  ∃ id c m', vl = .slice (some ⟨id, 0, some 0⟩) ls.length c ∧ storeE m 3 (.pointer (some ⟨id, i * 3, none⟩)) (.agg ⟨row3 g'⟩) = some (.skip m') ∧ TMH H σ m' p vl vf (ns.set i g') ls fr root n ∧ Ch .nodes σ σ m m' := by
 obtain ⟨F, o1, o2⟩ := h.ol
 obtain ⟨id, o, c, hv, _⟩ := h.at hg
 have hm : (ns.map row3)[i]? = some (row3 g) := by rw [List.getElem?_map, hg]; rfl
 obtain ⟨m', s1, s2, s3⟩ := own_row (vs := row3 g') (k := 0) o1 hm (by show 0 + 3 ≤ 3; omega) hv
 have e : (ns.map row3).set i (setAll (row3 g) 0 (row3 g')) = (ns.set i g').map row3 := by
  rw [List.map_set]; rfl
 rw [e] at s2
 obtain ⟨k1, k2⟩ := h.rows o1 o2 s2 s3 (by simp) fun j hj => List.getElem?_set_ne fun (q : i = j) => hj (by rw [← q]; exact hi)
 refine ⟨id, c, m', hv, ?_, k1, k2⟩
 have hc : (Value.agg ⟨row3 g'⟩).cells.size = 3 ∧ noTup (.agg ⟨row3 g'⟩) = true := ⟨rfl, h2⟩
 have hl : (Value.agg ⟨row3 g'⟩).cells.toList = row3 g' := rfl
 simp only [storeE]
 rw [if_pos hc, if_neg (by omega), hl, ← Nat.add_zero (i * 3), s1]
 rfl
theorem fld_store {cs : List Value} {i : Nat} {x : Value} (hg : m.get p = some { cells := cs, rw := true, spare := none, kin := [] }) (hi : i < cs.length) (h1 : x.cells = #[x]) (h2 : noTup x = true) :
  ∃ m', storeE m 1 (.pointer (some ⟨p, i, none⟩)) x = some (.skip m') ∧ m'.get p = some { cells := cs.set i x, rw := true, spare := none, kin := [] } ∧ Fm (· = p) m m' ∧ m'.next = m.next := by
 have hst := xstore_own (off := i) (vs := [x]) hg rfl (by show i + 1 ≤ cs.length; omega)
 refine ⟨m.set p { cells := cs.set i x, rw := true, spare := none, kin := [] }, ?_, by rw [Mem.get_set, if_pos rfl], Fm.set rfl, by simp⟩
 have e1 : x.cells.size = 1 := by rw [h1]; rfl
 have e2 : x.cells.toList = [x] := by rw [h1]
 simp only [storeE]
 rw [if_pos ⟨e1, h2⟩, if_neg (by decide), e2, hst]
 rfl
theorem TMH.topch (h : TMH H σ m p vl vf ns ls fr root n) (hf : Fm (· = p) m m') {root' n' : Int} (hg : m'.get p = some { cells := [vl, vf, I root', I n'], rw := true, spare := none, kin := [] }) : TMH H σ m' p vl vf ns ls fr root' n' ∧ Ch .top σ σ m m' := by
 have hc : Ch .top σ σ m m' := ⟨fun _ _ => rfl, hf.mono fun j _ (e : j = p) => by rw [e]; exact h.top, fun _ _ => rfl⟩
 obtain ⟨F, o1, o2⟩ := h.ol
 refine ⟨⟨hg, h.top, Nat.lt_of_lt_of_le h.pl hc.next, ⟨F, o1.fr hc.fm fun j hj q => (by rw [o2 j hj] at q; cases q), o2⟩, h.free.ch hc (by simp), h.len, fun j hj => h.fresh j (Nat.le_trans hc.next hj), fun i N hi hN => ?_⟩, hc⟩
 obtain ⟨g, k1, k2⟩ := h.nd i N hi hN
 exact ⟨g, k1, fun f hf => (k2 f hf).ch hc (by simp)⟩
theorem TMH.setroot (h : TMH H σ m p vl vf ns ls fr root n) (r : Int) : ∃ m', storeE m 1 (.pointer (some ⟨p, 2, none⟩)) (I r) = some (.skip m') ∧ TMH H σ m' p vl vf ns ls fr r n ∧ Ch .top σ σ m m' := by
 obtain ⟨m', s1, s2, s3, _⟩ := fld_store (i := 2) (x := I r) h.get (by simp) rfl rfl
 obtain ⟨k1, k2⟩ := h.topch s3 s2
 exact ⟨m', s1, k1, k2⟩
theorem TMH.setn (h : TMH H σ m p vl vf ns ls fr root n) (r : Int) : ∃ m', storeE m 1 (.pointer (some ⟨p, 3, none⟩)) (I r) = some (.skip m') ∧ TMH H σ m' p vl vf ns ls fr root r ∧ Ch .top σ σ m m' := by
 obtain ⟨m', s1, s2, s3, _⟩ := fld_store (i := 3) (x := I r) h.get (by simp) rfl rfl
 obtain ⟨k1, k2⟩ := h.topch s3 s2
 exact ⟨m', s1, k1, k2⟩
theorem TMH.setfree (h : TMH H σ m p vl vf ns ls fr root n) {vf' : Value} {fr' : List Nat} (hc : Ch .free σ σ' m m') (hf : Tg σ' .free m' vf' (fr'.map nv)) :
  ∃ m2, storeE m' 1 (.pointer (some ⟨p, 1, none⟩)) vf' = some (.skip m2) ∧ TMH H σ' m2 p vl vf' ns ls fr' root n ∧ Ch .top σ' σ' m' m2 := by
 have hg := hc.fm.get h.pl (by rw [h.top]; simp) h.get
 have ht : σ' p = .top := by rw [hc.sig p h.pl]; exact h.top
 obtain ⟨q, c, hv⟩ := hf.slice
 obtain ⟨m2, s1, s2, s3, _⟩ := fld_store (i := 1) (x := vf') hg (by simp) (by rw [hv]; rfl) (by rw [hv]; rfl)
 have hc2 : Ch .top σ' σ' m' m2 := ⟨fun _ _ => rfl, s3.mono fun j _ (e : j = p) => by rw [e]; exact ht, fun _ _ => rfl⟩
 obtain ⟨F, o1, o2⟩ := h.ol
 refine ⟨m2, s1, ⟨s2, ht, Nat.lt_of_lt_of_le h.pl (Nat.le_trans hc.next hc2.next), ⟨F, (o1.fr hc.fm fun j hj q => (by rw [o2 j hj] at q; cases q)).fr hc2.fm fun j hj q => (by rw [hc.sig j (o1.lt j hj), o2 j hj] at q; cases q), fun j hj => by rw [hc.sig j (o1.lt j hj)]; exact o2 j hj⟩, hf.ch hc2 (by simp), h.len, fun j hj => by rw [hc.fut j (Nat.le_trans hc2.next hj)]; exact h.fresh j (Nat.le_trans hc.next (Nat.le_trans hc2.next hj)), fun i N hi hN => ?_⟩, hc2⟩
 obtain ⟨g, k1, k2⟩ := h.nd i N hi hN
 exact ⟨g, k1, fun f hf => ((k2 f hf).ch hc (by simp)).ch hc2 (by simp)⟩
def Nd.size (N : Nd) : Nat := if N.kids.length = 0 then N.keys.length else N.kids.length
theorem leaf_call {b off k c : Nat} {q : Option Addr} {o : XObj} (hg : m.get b = some o) (hc : o.cells[off + 2]? = some (.slice q k c)) : Ca 60 [.pointer (some ⟨b, off, none⟩)] m (.bool (decide ((k : Int) = 0))) m := by
 refine callX_of (call_go (F := _) rfl rfl fun Q hQ => ?_)
 simp only [symA, symB, X.put, X.look, Arg.ev, keepOf, restrict, initEnv, ↓reduceIte, reduceCtorEq, goInt, eq_self, hg, hc]
 exact hQ _ _ _ rfl ⟨rfl, rfl⟩
theorem size_call {b off k0 c0 k c : Nat} {q q0 : Option Addr} {o : XObj} (hg : m.get b = some o) (h0 : o.cells[off]? = some (.slice q0 k0 c0)) (hc : o.cells[off + 2]? = some (.slice q k c)) : Ca 63 [.pointer (some ⟨b, off, none⟩)] m (I ((if k = 0 then k0 else k : Nat) : Int)) m := by
 have hl := leaf_call hg hc
 refine callX_of (call_go (F := _) rfl rfl fun Q hQ => ?_)
 by_cases hk : k = 0
 ·subst hk
  rw [if_pos rfl] at hQ
  have e : decide (((0 : Nat) : Int) = 0) = true := rfl
  rw [e] at hl
  simp only [symA, symB, X.put, X.look, Arg.ev, keepOf, restrict, evs, initEnv, ↓reduceIte, reduceCtorEq, goInt, eq_self, goR_call hl, hg, h0]
  exact hQ _ _ _ rfl ⟨rfl, rfl⟩
 ·rw [if_neg hk] at hQ
  have e : decide ((k : Int) = 0) = false := decide_eq_false (by omega)
  rw [e] at hl
  simp only [symA, symB, X.put, X.look, Arg.ev, keepOf, restrict, evs, initEnv, ↓reduceIte, reduceCtorEq, goInt, eq_self, goR_call hl, hg, hc]
  exact hQ _ _ _ rfl ⟨rfl, rfl⟩
abbrev SortK (ks : List ByteArray) : Prop := ks.Pairwise ltT
def posK (k : ByteArray) (ks : List ByteArray) : Nat := (ks.filter fun x => decide (ltT x k)).length
def hasK (k : ByteArray) (ks : List ByteArray) : Bool := ks.any fun x => decide (x = k)
def wayK (k : ByteArray) (ks : List ByteArray) : Nat := if hasK k ks = true then posK k ks + 1 else posK k ks
theorem nan100 {a : ByteArray} : Ca 91 [.string a] m (.bool false) m := by
 refine callX_of (call_go (F := _) rfl rfl fun Q hQ => ?_)
 simp only [symA, symB, X.put, X.look, Arg.ev, keepOf, restrict, initEnv, Nat.reduceEqDiff, ↓reduceIte, reduceCtorEq, eq_self, ne_eq, bin_sneq]
 exact hQ _ _ _ rfl ⟨rfl, rfl⟩
theorem nan87 {a : ByteArray} : Ca 83 [.string a] m (.bool false) m := by
 refine callX_of (call_go (F := _) rfl rfl fun Q hQ => ?_)
 simp only [symA, symB, X.put, X.look, Arg.ev, keepOf, restrict, initEnv, Nat.reduceEqDiff, ↓reduceIte, reduceCtorEq, eq_self, ne_eq, bin_sneq]
 exact hQ _ _ _ rfl ⟨rfl, rfl⟩
theorem less86 {a b : ByteArray} : Ca 82 [.string a, .string b] m (.bool (decide (ltT a b))) m := by
 refine callX_of (call_go (F := _) rfl rfl fun Q hQ => ?_)
 simp only [symA, symB, wantedX, X.put, X.look, Arg.ev, keepOf, restrict, evs, initEnv, Nat.reduceEqDiff, ↓reduceIte, reduceCtorEq, eq_self, undef, goR_call nan100, bin_slss]
 exact hQ _ _ _ rfl ⟨rfl, rfl⟩
theorem conv_iu {m : Mem} {n : Int} : convE Try.prog 3 120 m (I n) = some (.val (U (IntKind.u64.wrap n)) m) := by kernel_rfl
theorem conv_uI {m : Mem} {n : Int} : convE Try.prog 120 3 m (U n) = some (.val (I (IntKind.i64.wrap n)) m) := by kernel_rfl
theorem bin_shr1 {m : Mem} {n : Int} : binE Try.prog .shr 120 (U n) (U 1) m = some (.val (U (n.fdiv 2)) m) := by kernel_rfl
theorem sortK_lt {ks : List ByteArray} (hs : SortK ks) {i j : Nat} {x y : ByteArray} (hij : i < j) (hx : ks[i]? = some x) (hy : ks[j]? = some y) : ltT x y := by
 obtain ⟨h1, rfl⟩ := List.getElem?_eq_some_iff.1 hx
 obtain ⟨h2, rfl⟩ := List.getElem?_eq_some_iff.1 hy
 exact List.pairwise_iff_getElem.1 hs i j h1 h2 hij
theorem posK_eq {k : ByteArray} {ks : List ByteArray} {i : Nat} (hi : i ≤ ks.length) (hlo : ∀ (d : Nat) (x : ByteArray), d < i → ks[d]? = some x → ltT x k) (hhi : ∀ (d : Nat) (x : ByteArray), i ≤ d → ks[d]? = some x → ¬ ltT x k) : posK k ks = i := by
 have h1 : (ks.take i).filter (fun x => decide (ltT x k)) = ks.take i := List.filter_eq_self.2 fun x hx => by
  obtain ⟨d, hd⟩ := List.mem_iff_getElem?.1 hx
  rw [List.getElem?_take] at hd
  split at hd
  ·rename_i h; simpa using hlo d x h hd
  ·cases hd
 have h2 : (ks.drop i).filter (fun x => decide (ltT x k)) = [] := List.filter_eq_nil_iff.2 fun x hx => by
  obtain ⟨d, hd⟩ := List.mem_iff_getElem?.1 hx
  rw [List.getElem?_drop] at hd
  simpa using hhi (i + d) x (by omega) hd
 rw [posK, ← List.take_append_drop i ks, List.filter_append, h1, h2]
 simp; omega
theorem posK_le (k : ByteArray) (ks : List ByteArray) : posK k ks ≤ ks.length := List.length_filter_le _ _
theorem posK_lo {k : ByteArray} {ks : List ByteArray} (hs : SortK ks) : (∀ (d : Nat) (x : ByteArray), d < posK k ks → ks[d]? = some x → ltT x k) ∧ (∀ (d : Nat) (x : ByteArray), posK k ks ≤ d → ks[d]? = some x → ¬ ltT x k) := by
 induction ks with
 | nil => exact ⟨fun d x _ hx => by simp at hx, fun d x _ hx => by simp at hx⟩
 | cons y ks ih =>
  obtain ⟨h1, h2⟩ := List.pairwise_cons.1 hs
  obtain ⟨i1, i2⟩ := ih h2
  by_cases hy : ltT y k
  ·have e : posK k (y :: ks) = posK k ks + 1 := by simp [posK, hy]
   rw [e]
   refine ⟨fun d x hd hx => ?_, fun d x hd hx => ?_⟩
   ·cases d with
    | zero => simp at hx; subst hx; exact hy
    | succ d => exact i1 d x (by omega) (by simpa using hx)
   ·cases d with
    | zero => omega
    | succ d => exact i2 d x (by omega) (by simpa using hx)
  ·have e0 : ks.filter (fun x => decide (ltT x k)) = [] := List.filter_eq_nil_iff.2 fun x hx => by
    simpa using fun q => hy (ltT_trans (h1 x hx) q)
   have e : posK k (y :: ks) = 0 := by simp [posK, hy, e0]
   rw [e]
   refine ⟨by intros; omega, fun d x hd hx => ?_⟩
   cases d with
   | zero => simp at hx; subst hx; exact hy
   | succ d => exact fun q => hy (ltT_trans (h1 x (List.mem_of_getElem? (by simpa using hx))) q)
theorem hasK_iff {k : ByteArray} {ks : List ByteArray} (hs : SortK ks) : hasK k ks = true ↔ ks[posK k ks]? = some k := by
 obtain ⟨h1, h2⟩ := posK_lo (k := k) hs
 constructor
 ·intro h
  have hm : k ∈ ks := by simpa [hasK] using h
  obtain ⟨d, hd⟩ := List.mem_iff_getElem?.1 hm
  rcases Nat.lt_trichotomy d (posK k ks) with q | q | q
  ·exact absurd (h1 d k q hd) (ltT_irrefl k)
  ·rw [← q]; exact hd
  ·obtain ⟨z, hz⟩ : ∃ z, ks[posK k ks]? = some z := ⟨_, List.getElem?_eq_getElem (by have := (List.getElem?_eq_some_iff.1 hd).1; omega)⟩
   exact absurd (sortK_lt hs q hz hd) (h2 _ z (Nat.le_refl _) hz)
 ·intro h
  simpa [hasK] using List.mem_of_getElem? h
theorem bs_spec {b : Nat} {v : Value} {ks : List ByteArray} {k : ByteArray} (h : RdS b m 1 v (ones (ks.map sv))) (hs : SortK ks) (hl : ks.length ≤ 1000) : Ca 72 [v, .string k] m (.tuple #[nv (posK k ks), .bool (hasK k ks)]) m := by
 refine callX_of (call_go (F := _) rfl rfl fun Q hQ => ?_)
 obtain ⟨p, c, hv⟩ := h.slice
 rw [ones_len, List.length_map] at hv
 subst hv
 simp only [symA, symB, X.put, X.look, Arg.ev, keepOf, restrict, initEnv, Nat.reduceEqDiff, ↓reduceIte, reduceCtorEq, goInt, eq_self]
 refine loop_go (fun q e m' => m' = m ∧ ∃ i j : Nat, i ≤ j ∧ j ≤ ks.length ∧ q = j - i ∧ (∀ (d : Nat) (x : ByteArray), d < i → ks[d]? = some x → ltT x k) ∧ (∀ (d : Nat) (x : ByteArray), j ≤ d → ks[d]? = some x → ¬ ltT x k) ∧
   e = [(0, .slice p ks.length c), (1, .string k), (6, I ks.length), (7, I i), (8, I j)]) ks.length ⟨rfl, 0, ks.length, by omega, by omega, by omega, by intros; omega, (fun d x hd hx => by rw [List.getElem?_eq_none (by omega)] at hx; cases hx), rfl⟩ ?_
 rintro q e m1 N' B' hN hB ⟨rfl, i, j, hij, hj, rfl, hlo, hhi, rfl⟩
 by_cases hlt : i < j
 ·have hlt' : (i : Int) < (j : Int) := by omega
  obtain ⟨x, hx⟩ : ∃ x, ks[(i + j) / 2]? = some x := ⟨_, List.getElem?_eq_getElem (by omega)⟩
  obtain ⟨a, c', o, hv, hg, hc⟩ := rd_at h (i := (i + j) / 2) (x := sv x) (by rw [List.getElem?_map, hx]; rfl)
  rw [List.length_map] at hv
  cases hv
  have w1 : IntKind.i64.wrap ((i : Int) + (j : Int)) = ((i + j : Nat) : Int) := by rw [wrap_i64 (by omega) (by omega)]; omega
  have w2 : IntKind.u64.wrap ((i + j : Nat) : Int) = ((i + j : Nat) : Int) := wrap_u64 (by omega) (by omega)
  have w3 : (((i + j : Nat) : Int)).fdiv 2 = (((i + j) / 2 : Nat) : Int) := by rw [Int.fdiv_eq_ediv_of_nonneg _ (by omega)]; omega
  have w4 : IntKind.i64.wrap (((i + j) / 2 : Nat) : Int) = (((i + j) / 2 : Nat) : Int) := wrap_i64 (by omega) (by omega)
  have w5 : IntKind.i64.wrap ((((i + j) / 2 : Nat) : Int) + 1) = (((i + j) / 2 + 1 : Nat) : Int) := by rw [wrap_i64 (by omega) (by omega)]; omega
  have hmid : (i + j) / 2 < ks.length := by omega
  have k1 := less86 (m := m1) (a := x) (b := k)
  by_cases hxt : ltT x k
  ·rw [decide_eq_true hxt] at k1
   simp only [symA, symB, X.put, X.look, Arg.ev, keepOf, restrict, evs, Nat.reduceEqDiff, ↓reduceIte, reduceCtorEq, eq_self, hlt', w1, conv_iu, w2, bin_shr1, w3, conv_uI, w4, w5, hmid, hg, hc, goR_call k1]
   refine hN _ _ (j - ((i + j) / 2 + 1)) (by omega) ⟨rfl, (i + j) / 2 + 1, j, by omega, hj, rfl, fun d y hd hy => ?_, hhi, rfl⟩
   rcases Nat.lt_or_ge d ((i + j) / 2) with h1 | h1
   ·exact ltT_trans (sortK_lt hs h1 hy hx) hxt
   ·have : d = (i + j) / 2 := by omega
    subst this
    rw [hx] at hy; cases hy; exact hxt
  ·rw [decide_eq_false hxt] at k1
   simp only [symA, symB, X.put, X.look, Arg.ev, keepOf, restrict, evs, Nat.reduceEqDiff, ↓reduceIte, reduceCtorEq, eq_self, hlt', w1, conv_iu, w2, bin_shr1, w3, conv_uI, w4, hmid, hg, hc, goR_call k1]
   refine hN _ _ ((i + j) / 2 - i) (by omega) ⟨rfl, i, (i + j) / 2, by omega, by omega, rfl, hlo, fun d y hd hy => ?_, rfl⟩
   rcases Nat.lt_or_ge ((i + j) / 2) d with h1 | h1
   ·exact fun q => hxt (ltT_trans (sortK_lt hs h1 hx hy) q)
   ·have : d = (i + j) / 2 := by omega
    subst this
    rw [hx] at hy; cases hy; exact hxt
 ·have hlt' : ¬ (i : Int) < (j : Int) := by omega
  have hji : i = j := by omega
  subst hji
  have hp : posK k ks = i := posK_eq hj hlo hhi
  have hhas := hasK_iff (k := k) hs
  rw [hp] at hhas hQ
  simp only [symA, symB, X.put, X.look, Arg.ev, keepOf, restrict, Nat.reduceEqDiff, ↓reduceIte, reduceCtorEq, eq_self, hlt']
  refine hB _ _ _ ?_
  by_cases hi : i < ks.length
  ·have hi' : (i : Int) < (ks.length : Int) := by omega
   obtain ⟨x, hx⟩ : ∃ x, ks[i]? = some x := ⟨_, List.getElem?_eq_getElem hi⟩
   obtain ⟨a, c', o, hv, hg, hc⟩ := rd_at h (i := i) (x := sv x) (by rw [List.getElem?_map, hx]; rfl)
   rw [List.length_map] at hv
   cases hv
   by_cases hxk : x = k
   ·have e : hasK k ks = true := hhas.2 (by rw [hx, hxk])
    rw [e] at hQ
    simp only [symA, symB, wantedX, X.put, X.look, Arg.ev, keepOf, restrict, Nat.reduceEqDiff, ↓reduceIte, reduceCtorEq, eq_self, undef, hi', hi, hg, hc, bin_seql, hxk]
    exact hQ _ _ _ rfl ⟨rfl, rfl⟩
   ·have e : hasK k ks = false := by
     cases hq : hasK k ks with
     | false => rfl
     | true => have := hhas.1 hq; rw [hx] at this; cases this; exact absurd rfl hxk
    rw [e] at hQ
    simp only [symA, symB, wantedX, X.put, X.look, Arg.ev, keepOf, restrict, evs, Nat.reduceEqDiff, ↓reduceIte, reduceCtorEq, eq_self, undef, hi', hi, hg, hc, bin_seql, hxk, goR_call nan87]
    exact hQ _ _ _ rfl ⟨rfl, rfl⟩
  ·have hi' : ¬ (i : Int) < (ks.length : Int) := by omega
   have e : hasK k ks = false := by
    cases hq : hasK k ks with
    | false => rfl
    | true => have := hhas.1 hq; rw [List.getElem?_eq_none (by omega)] at this; cases this
   rw [e] at hQ
   simp only [symA, symB, wantedX, X.put, X.look, Arg.ev, keepOf, restrict, Nat.reduceEqDiff, ↓reduceIte, reduceCtorEq, eq_self, undef, hi']
   exact hQ _ _ _ rfl ⟨rfl, rfl⟩
theorem way_call {b off bb : Nat} {o : XObj} {v : Value} {ks : List ByteArray} {k : ByteArray} (hg : m.get b = some o) (h0 : o.cells[off]? = some v) (h : RdS bb m 1 v (ones (ks.map sv))) (hs : SortK ks) (hl : ks.length ≤ 1000) : Ca 71 [.pointer (some ⟨b, off, none⟩), .string k] m (nv (wayK k ks)) m := by
 have hb := bs_spec (k := k) h hs hl
 have hp := posK_le k ks
 refine callX_of (call_go (F := _) rfl rfl fun Q hQ => ?_)
 unfold wayK at hQ
 cases hh : hasK k ks with
 | true =>
  rw [hh, if_pos rfl] at hQ
  rw [hh] at hb
  have w1 : IntKind.i64.wrap ((posK k ks : Int) + 1) = ((posK k ks + 1 : Nat) : Int) := by rw [wrap_i64 (by omega) (by omega)]; omega
  simp only [symA, symB, X.put, X.look, Arg.ev, keepOf, restrict, evs, initEnv, Nat.reduceEqDiff, ↓reduceIte, reduceCtorEq, eq_self, hg, h0, goR_call hb, w1]
  exact hQ _ _ _ rfl ⟨rfl, rfl⟩
 | false =>
  rw [hh, if_neg (by simp)] at hQ
  rw [hh] at hb
  simp only [symA, symB, X.put, X.look, Arg.ev, keepOf, restrict, evs, initEnv, Nat.reduceEqDiff, ↓reduceIte, reduceCtorEq, eq_self, hg, h0, goR_call hb]
  exact hQ _ _ _ rfl ⟨rfl, rfl⟩
end
end Go.Proofs.Ytnlmnejellipdaa
namespace Go.Proofs.Ytnlmnejellipdaa
open Go X
set_option maxRecDepth 100000
set_option linter.unusedVariables false
set_option linter.unusedSimpArgs false
abbrev Key := ByteArray
abbrev Ent := Key × Int
abbrev SortE (es : List Ent) : Prop := es.Pairwise fun a b => ltT a.1 b.1
def Inb (lo hi : Option Key) (k : Key) : Prop := (∀ l, lo = some l → ¬ ltT k l) ∧ ∀ h, hi = some h → ltT k h
abbrev RepT := Nat → Option Key → Option Key → List Ent → List Nat → Prop
inductive Row (R : RepT) : Option Key → Option Key → List Key → List Nat → List Ent → List Nat → Prop where
 | one {lo hi : Option Key} {c : Nat} {es : List Ent} {J : List Nat} (h : R c lo hi es J) : Row R lo hi [] [c] es J
 | cons {lo hi : Option Key} {k : Key} {c : Nat} {ks : List Key} {kids : List Nat} {e1 e2 : List Ent} {J1 J2 : List Nat} (h : R c lo (some k) e1 J1) (t : Row R (some k) hi ks kids e2 J2) : Row R lo hi (k :: ks) (c :: kids) (e1 ++ e2) (J1 ++ J2)
inductive Left (R : RepT) : Option Key → Option Key → List Key → List Nat → List Ent → List Nat → Prop where
 | nil {lo : Option Key} : Left R lo lo [] [] [] []
 | cons {lo lo' : Option Key} {k : Key} {c : Nat} {ks : List Key} {kids : List Nat} {e1 e2 : List Ent} {J1 J2 : List Nat} (h : R c lo (some k) e1 J1) (t : Left R (some k) lo' ks kids e2 J2) : Left R lo lo' (k :: ks) (c :: kids) (e1 ++ e2) (J1 ++ J2)
inductive Right (R : RepT) : Option Key → Option Key → List Key → List Nat → List Ent → List Nat → Prop where
 | nil {hi : Option Key} : Right R hi hi [] [] [] []
 | cons {hi : Option Key} {k : Key} {ks : List Key} {kids : List Nat} {es : List Ent} {J : List Nat} (t : Row R (some k) hi ks kids es J) : Right R (some k) hi (k :: ks) kids es J
section
variable {R R' : RepT} {lo lo' hi hi' : Option Key} {ks KA KB : List Key} {kids A B : List Nat} {es e1 eA eB : List Ent} {J JA JB : List Nat} {c : Nat} {key : Key}
theorem Left.plug (h : Left R lo lo' KA A eA JA) (t : Row R lo' hi ks kids es J) : Row R lo hi (KA ++ ks) (A ++ kids) (eA ++ es) (JA ++ J) := by
 induction h with
 | nil => exact t
 | cons h _ ih =>
  have := Row.cons h (ih t)
  simpa [List.append_assoc] using this
theorem Right.plug (h : R c lo hi' e1 J) (t : Right R hi' hi KB B eB JB) : Row R lo hi KB (c :: B) (e1 ++ eB) (J ++ JB) := by
 cases t with
 | nil => simpa using Row.one h
 | cons t => exact .cons h t
theorem Row.len (h : Row R lo hi ks kids es J) : kids.length = ks.length + 1 := by
 induction h with
 | one _ => rfl
 | cons _ _ ih => simp [ih]
theorem Left.len (h : Left R lo hi ks kids es J) : kids.length = ks.length := by
 induction h with
 | nil => rfl
 | cons _ _ ih => simp [ih]
theorem Right.len (h : Right R lo hi ks kids es J) : kids.length = ks.length := by
 cases h with
 | nil => rfl
 | cons t => simp [t.len]
theorem Row.mono (h : Row R lo hi ks kids es J) (hR : ∀ c lo hi es J', (∀ j ∈ J', j ∈ J) → R c lo hi es J' → R' c lo hi es J') : Row R' lo hi ks kids es J := by
 induction h with
 | one h => exact .one (hR _ _ _ _ _ (fun j hj => hj) h)
 | cons h _ ih => exact .cons (hR _ _ _ _ _ (fun j hj => by simp [hj]) h) (ih fun c lo hi es J' hJ => hR c lo hi es J' fun j hj => by simp [hJ j hj])
theorem Left.mono (h : Left R lo hi ks kids es J) (hR : ∀ c lo hi es J', (∀ j ∈ J', j ∈ J) → R c lo hi es J' → R' c lo hi es J') : Left R' lo hi ks kids es J := by
 induction h with
 | nil => exact .nil
 | cons h _ ih => exact .cons (hR _ _ _ _ _ (fun j hj => by simp [hj]) h) (ih fun c lo hi es J' hJ => hR c lo hi es J' fun j hj => by simp [hJ j hj])
theorem Right.mono (h : Right R lo hi ks kids es J) (hR : ∀ c lo hi es J', (∀ j ∈ J', j ∈ J) → R c lo hi es J' → R' c lo hi es J') : Right R' lo hi ks kids es J := by
 cases h with
 | nil => exact .nil
 | cons t => exact .cons (t.mono hR)
def GoodR (R : RepT) : Prop := ∀ c lo hi es J, R c lo hi es J → SortE es ∧ (∀ e ∈ es, Inb lo hi e.1) ∧ es ≠ []
theorem Row.good (hR : GoodR R) (h : Row R lo hi ks kids es J) : SortE es ∧ (∀ e ∈ es, Inb lo hi e.1) ∧ es ≠ [] := by
 induction h with
 | one h => exact hR _ _ _ _ _ h
 | @cons lo hi k c ks kids e1 e2 J1 J2 h _ ih =>
  obtain ⟨a1, a2, a3⟩ := hR _ _ _ _ _ h
  obtain ⟨b1, b2, b3⟩ := ih
  obtain ⟨x, hx⟩ := List.exists_mem_of_ne_nil _ a3
  obtain ⟨y, hy⟩ := List.exists_mem_of_ne_nil _ b3
  have hxk := (a2 x hx).2 k rfl
  have hyk := (b2 y hy).1 k rfl
  have lt_of : ∀ {u v : Key}, ltT u k → ¬ ltT v k → ltT u v := fun {u v} h1 h2 => by
   rcases ltT_total h2 with e | e
   ·rw [e]; exact h1
   ·exact ltT_trans h1 e
  refine ⟨List.pairwise_append.2 ⟨a1, b1, fun u hu v hv => lt_of ((a2 u hu).2 k rfl) ((b2 v hv).1 k rfl)⟩, fun e he => ?_, by simp [a3]⟩
  rcases List.mem_append.1 he with he | he
  ·exact ⟨(a2 e he).1, fun h' hh => ltT_trans (lt_of ((a2 e he).2 k rfl) hyk) ((b2 y hy).2 h' hh)⟩
  ·refine ⟨fun l hl q => ?_, (b2 e he).2⟩
   have h1 := (a2 x hx).1 l hl
   exact h1 (ltT_trans (lt_of hxk ((b2 e he).1 k rfl)) q)
theorem Row.keys (hR : GoodR R) (h : Row R lo hi ks kids es J) : SortK ks ∧ ∀ k ∈ ks, ∀ l, lo = some l → ltT l k := by
 induction h with
 | one h => exact ⟨.nil, by simp⟩
 | @cons lo hi k c ks kids e1 e2 J1 J2 h _ ih =>
  obtain ⟨a1, a2, a3⟩ := hR _ _ _ _ _ h
  obtain ⟨x, hx⟩ := List.exists_mem_of_ne_nil _ a3
  have hlk : ∀ l, lo = some l → ltT l k := fun l hl => by
   have h1 := (a2 x hx).1 l hl
   have h2 := (a2 x hx).2 k rfl
   rcases ltT_total h1 with e | e
   ·rw [← e]; exact h2
   ·exact ltT_trans e h2
  refine ⟨List.pairwise_cons.2 ⟨fun k' hk' => ih.2 k' hk' k rfl, ih.1⟩, fun k' hk' l hl => ?_⟩
  rcases List.mem_cons.1 hk' with rfl | hk'
  ·exact hlk l hl
  ·exact ltT_trans (hlk l hl) (ih.2 k' hk' k rfl)
theorem wayK_lt {k : Key} (hk : ltT key k) (hs : SortK (k :: ks)) : wayK key (k :: ks) = 0 := by
 obtain ⟨h1, h2⟩ := List.pairwise_cons.1 hs
 have e0 : posK key (k :: ks) = 0 := by
  unfold posK
  rw [List.length_eq_zero_iff, List.filter_eq_nil_iff]
  intro x hx
  rcases List.mem_cons.1 hx with rfl | hx
  ·simpa using ltT_asymm hk
  ·simpa using ltT_asymm (ltT_trans hk (h1 x hx))
 have e1 : hasK key (k :: ks) = false := by
  unfold hasK
  rw [List.any_eq_false]
  intro x hx
  rcases List.mem_cons.1 hx with rfl | hx
  ·simpa using (ltT_ne hk).symm
  ·simpa using (ltT_ne (ltT_trans hk (h1 x hx))).symm
 unfold wayK
 rw [e1, e0]; rfl
theorem wayK_ge {k : Key} (hk : ¬ ltT key k) (hs : SortK (k :: ks)) : wayK key (k :: ks) = wayK key ks + 1 := by
 obtain ⟨h1, h2⟩ := List.pairwise_cons.1 hs
 rcases ltT_total hk with rfl | hk
 ·have e0 : posK key (key :: ks) = 0 := by
   unfold posK
   rw [List.length_eq_zero_iff, List.filter_eq_nil_iff]
   intro x hx
   rcases List.mem_cons.1 hx with rfl | hx
   ·simpa using ltT_irrefl _
   ·simpa using ltT_asymm (h1 x hx)
  have e1 : posK key ks = 0 := by
   unfold posK
   rw [List.length_eq_zero_iff, List.filter_eq_nil_iff]
   intro x hx
   simpa using ltT_asymm (h1 x hx)
  have e2 : hasK key (key :: ks) = true := by simp [hasK]
  have e3 : hasK key ks = false := by
   unfold hasK
   rw [List.any_eq_false]
   intro x hx
   simpa using (ltT_ne (h1 x hx)).symm
  unfold wayK
  rw [e2, e3, e0, e1]; rfl
 ·have e0 : posK key (k :: ks) = posK key ks + 1 := by simp [posK, hk]
  have e1 : hasK key (k :: ks) = hasK key ks := by
   have := ltT_ne hk
   simp [hasK, this]
  unfold wayK
  rw [e0, e1]
  split <;> rfl
theorem Row.way (hR : GoodR R) (h : Row R lo hi ks kids es J) (hk : Inb lo hi key) :
  ∃ KA A eA JA c lo' hi' e Jc KB B eB JB, Left R lo lo' KA A eA JA ∧ R c lo' hi' e Jc ∧ Right R hi' hi KB B eB JB ∧ Inb lo' hi' key ∧ ks = KA ++ KB ∧ kids = A ++ c :: B ∧ es = eA ++ (e ++ eB) ∧ J = JA ++ (Jc ++ JB) ∧ wayK key ks = A.length ∧ (∀ x ∈ eA, ltT x.1 key) ∧ ∀ x ∈ eB, ltT key x.1 := by
 induction h with
 | @one lo hi c es J h => exact ⟨[], [], [], [], c, lo, hi, es, J, [], [], [], [], .nil, h, .nil, hk, rfl, rfl, by simp, by simp, rfl, by simp, by simp⟩
 | @cons lo hi k c ks kids e1 e2 J1 J2 h t ih =>
  have hs := (Row.cons h t).keys hR
  obtain ⟨a1, a2, a3⟩ := hR _ _ _ _ _ h
  by_cases hlt : ltT key k
  ·refine ⟨[], [], [], [], c, lo, some k, e1, J1, k :: ks, kids, e2, J2, .nil, h, .cons t, ⟨hk.1, fun h' hh => by cases hh; exact hlt⟩, rfl, rfl, by simp, by simp, wayK_lt hlt hs.1, by simp, fun x hx => ?_⟩
   have := ((t.good hR).2.1 x hx).1 k rfl
   rcases ltT_total this with e | e
   ·rw [e]; exact hlt
   ·exact ltT_trans hlt e
  ·obtain ⟨KA, A, eA, JA, c', lo', hi', e, Jc, KB, B, eB, JB, q1, q2, q3, q4, rfl, rfl, rfl, rfl, q5, q6, q7⟩ := ih ⟨fun l hl => by cases hl; exact hlt, hk.2⟩
   refine ⟨k :: KA, c :: A, e1 ++ eA, J1 ++ JA, c', lo', hi', e, Jc, KB, B, eB, JB, .cons h q1, q2, q3, q4, rfl, rfl, by simp, by simp, ?_, fun x hx => ?_, q7⟩
   ·rw [wayK_ge hlt hs.1, q5]; rfl
   ·rcases List.mem_append.1 hx with hx | hx
    ·have := (a2 x hx).2 k rfl
     rcases ltT_total hlt with e | e
     ·rw [e]; exact this
     ·exact ltT_trans this e
    ·exact q6 x hx
theorem Left.snoc (h : Left R lo lo' KA A eA JA) (h0 : A ≠ []) : ∃ KA' A' eA' JA' a lo1 k e J1, Left R lo lo1 KA' A' eA' JA' ∧ R a lo1 (some k) e J1 ∧ lo' = some k ∧ KA = KA' ++ [k] ∧ A = A' ++ [a] ∧ eA = eA' ++ e ∧ JA = JA' ++ J1 := by
 induction h with
 | nil => exact absurd rfl h0
 | @cons lo lo' k c ks kids e1 e2 J1 J2 h t ih =>
  by_cases hk : kids = []
  ·subst hk
   cases t with
   | nil => exact ⟨[], [], [], [], c, lo, k, e1, J1, .nil, h, rfl, rfl, rfl, by simp, by simp⟩
  ·obtain ⟨KA', A', eA', JA', a, lo1, k', e, J', q1, q2, q3, rfl, rfl, rfl, rfl⟩ := ih hk
   exact ⟨k :: KA', c :: A', e1 ++ eA', J1 ++ JA', a, lo1, k', e, J', .cons h q1, q2, q3, rfl, rfl, by simp, by simp⟩
end
def Rep (ls : List Nd) : Nat → Nat → Nat → RepT
 | a, b, 0, i, lo, hi, es, J => ls[i]? = some ⟨es.map (·.1), es.map (·.2), []⟩ ∧ J = [i] ∧ SortE es ∧ (∀ e ∈ es, Inb lo hi e.1) ∧ a ≤ es.length ∧ es.length ≤ b
 | a, b, h + 1, i, lo, hi, es, J => ∃ ks kids J', ls[i]? = some ⟨ks, [], kids⟩ ∧ J = i :: J' ∧ Row (Rep ls 2 4 h) lo hi ks kids es J' ∧ a ≤ kids.length ∧ kids.length ≤ b
section
variable {ls ls' : List Nd} {a b a' b' h i : Nat} {lo hi : Option Key} {es : List Ent} {J : List Nat}
theorem Rep.more (hr : Rep ls a b h i lo hi es J) (ha : a' ≤ a) (hb : b ≤ b') : Rep ls a' b' h i lo hi es J := by
 cases h with
 | zero => obtain ⟨h1, h2, h3, h4, h5, h6⟩ := hr; exact ⟨h1, h2, h3, h4, by omega, by omega⟩
 | succ h => obtain ⟨ks, kids, J', h1, h2, h3, h4, h5⟩ := hr; exact ⟨ks, kids, J', h1, h2, h3, by omega, by omega⟩
theorem Rep.good : ∀ {h a b i lo hi es J}, 1 ≤ a → Rep ls a b h i lo hi es J → SortE es ∧ (∀ e ∈ es, Inb lo hi e.1) ∧ es ≠ []
 | 0, a, b, i, lo, hi, es, J, ha, hr => by
  obtain ⟨h1, h2, h3, h4, h5, h6⟩ := hr
  exact ⟨h3, h4, fun e => by subst e; simp at h5; omega⟩
 | h + 1, a, b, i, lo, hi, es, J, ha, hr => by
  obtain ⟨ks, kids, J', h1, h2, h3, h4, h5⟩ := hr
  exact h3.good fun c lo hi es J hc => Rep.good (by omega) hc
theorem goodRep : GoodR (Rep ls 2 4 h) := fun _ _ _ _ _ hc => Rep.good (by omega) hc
theorem Row.leng {R : RepT} {ks : List Key} {kids : List Nat} {n : Nat} (hR : ∀ c lo hi es J, R c lo hi es J → n ≤ es.length) (h : Row R lo hi ks kids es J) : n + (kids.length - 1) * n ≤ es.length := by
 induction h with
 | one h => simpa using hR _ _ _ _ _ h
 | @cons lo hi k c ks kids e1 e2 J1 J2 h t ih =>
  have h1 := hR _ _ _ _ _ h
  have h2 := t.len
  rw [h2, Nat.add_sub_cancel] at ih
  rw [List.length_append, List.length_cons, Nat.add_sub_cancel, h2]
  have : (ks.length + 1) * n = ks.length * n + n := by rw [Nat.add_mul]; omega
  omega
theorem Row.idx {R : RepT} {ks : List Key} {kids : List Nat} {P : Nat → Prop} (hR : ∀ c lo hi es J, R c lo hi es J → ∀ j ∈ J, P j) (h : Row R lo hi ks kids es J) : ∀ j ∈ J, P j := by
 induction h with
 | one h => exact hR _ _ _ _ _ h
 | cons h t ih => intro j hj; rcases List.mem_append.1 hj with hj | hj; exact hR _ _ _ _ _ h j hj; exact ih j hj
theorem Rep.lt : ∀ {h a b i lo hi es J}, Rep ls a b h i lo hi es J → ∀ j ∈ J, j < ls.length
 | 0, a, b, i, lo, hi, es, J, hr => by
  obtain ⟨h1, rfl, _⟩ := hr
  have := (List.getElem?_eq_some_iff.1 h1).1
  simpa using this
 | h + 1, a, b, i, lo, hi, es, J, hr => by
  obtain ⟨ks, kids, J', h1, rfl, h3, h4, h5⟩ := hr
  intro j hj
  rcases List.mem_cons.1 hj with rfl | hj
  ·exact (List.getElem?_eq_some_iff.1 h1).1
  ·exact h3.idx (fun c lo hi es J hc => Rep.lt hc) j hj
theorem Rep.top (hr : Rep ls a b h i lo hi es J) : i ∈ J := by
 cases h with
 | zero => obtain ⟨_, rfl, _⟩ := hr; simp
 | succ h => obtain ⟨ks, kids, J', h1, rfl, _⟩ := hr; simp
theorem Rep.frame : ∀ {h a b i lo hi es J}, Rep ls a b h i lo hi es J → (∀ j ∈ J, ls'[j]? = ls[j]?) → Rep ls' a b h i lo hi es J
 | 0, a, b, i, lo, hi, es, J, hr, hf => by
  obtain ⟨h1, rfl, h3⟩ := hr
  exact ⟨by rw [hf i (by simp)]; exact h1, rfl, h3⟩
 | h + 1, a, b, i, lo, hi, es, J, hr, hf => by
  obtain ⟨ks, kids, J', h1, rfl, h3, h4⟩ := hr
  exact ⟨ks, kids, J', by rw [hf i (by simp)]; exact h1, rfl, h3.mono (fun c lo hi es J'' hJ hc => Rep.frame hc fun j hj => hf j (by simp [hJ j hj])), h4⟩
end
def putE (k : Key) (n : Int) (es : List Ent) : List Ent := es.filter (fun x => decide (ltT x.1 k)) ++ (k, n) :: es.filter (fun x => decide (ltT k x.1))
def delE (k : Key) (es : List Ent) : List Ent := es.filter (fun x => decide (ltT x.1 k)) ++ es.filter (fun x => decide (ltT k x.1))
section
variable {k : Key} {n : Int} {es eA eB : List Ent}
theorem filt_lo (h : ∀ x ∈ es, ltT x.1 k) : es.filter (fun x => decide (ltT x.1 k)) = es ∧ es.filter (fun x => decide (ltT k x.1)) = [] :=
 ⟨List.filter_eq_self.2 fun x hx => by simpa using h x hx, List.filter_eq_nil_iff.2 fun x hx => by simpa using ltT_asymm (h x hx)⟩
theorem filt_hi (h : ∀ x ∈ es, ltT k x.1) : es.filter (fun x => decide (ltT k x.1)) = es ∧ es.filter (fun x => decide (ltT x.1 k)) = [] :=
 ⟨List.filter_eq_self.2 fun x hx => by simpa using h x hx, List.filter_eq_nil_iff.2 fun x hx => by simpa using ltT_asymm (h x hx)⟩
theorem putE_mid (hA : ∀ x ∈ eA, ltT x.1 k) (hB : ∀ x ∈ eB, ltT k x.1) : putE k n (eA ++ (es ++ eB)) = eA ++ (putE k n es ++ eB) := by
 unfold putE
 simp only [List.filter_append, (filt_lo hA).1, (filt_lo hA).2, (filt_hi hB).1, (filt_hi hB).2, List.append_nil, List.nil_append]
 simp
theorem delE_mid (hA : ∀ x ∈ eA, ltT x.1 k) (hB : ∀ x ∈ eB, ltT k x.1) : delE k (eA ++ (es ++ eB)) = eA ++ (delE k es ++ eB) := by
 unfold delE
 simp only [List.filter_append, (filt_lo hA).1, (filt_lo hA).2, (filt_hi hB).1, (filt_hi hB).2, List.append_nil, List.nil_append]
 simp
theorem cutE (hs : SortE es) : es.take (posK k (es.map (·.1))) = es.filter (fun x => decide (ltT x.1 k)) ∧ (hasK k (es.map (·.1)) = false → es.drop (posK k (es.map (·.1))) = es.filter (fun x => decide (ltT k x.1))) ∧ (hasK k (es.map (·.1)) = true → ∃ v, es[posK k (es.map (·.1))]? = some (k, v) ∧ es.drop (posK k (es.map (·.1)) + 1) = es.filter (fun x => decide (ltT k x.1))) := by
 induction es with
 | nil => exact ⟨rfl, fun _ => rfl, fun h => by simp [hasK] at h⟩
 | cons y es ih =>
  obtain ⟨h1, h2⟩ := List.pairwise_cons.1 hs
  obtain ⟨i1, i2, i3⟩ := ih h2
  by_cases hy : ltT y.1 k
  ·have e : posK k ((y :: es).map (·.1)) = posK k (es.map (·.1)) + 1 := by simp [posK, hy]
   have e2 : hasK k ((y :: es).map (·.1)) = hasK k (es.map (·.1)) := by
    have := ltT_ne hy
    simp [hasK, this]
   rw [e, e2]
   refine ⟨by simp [hy, i1], fun h => by simp [ltT_asymm hy, i2 h], fun h => ?_⟩
   obtain ⟨v, q1, q2⟩ := i3 h
   exact ⟨v, by simpa using q1, by simp [ltT_asymm hy, q2]⟩
  ·have hge : ∀ x ∈ es, ¬ ltT x.1 k := fun x hx q => hy (ltT_trans (h1 x hx) q)
   have e0 : es.filter (fun x => decide (ltT x.1 k)) = [] := List.filter_eq_nil_iff.2 fun x hx => by simpa using hge x hx
   have e1 : posK k ((y :: es).map (·.1)) = 0 := by
    unfold posK
    rw [List.length_eq_zero_iff, List.filter_eq_nil_iff]
    intro x hx
    obtain ⟨z, hz, rfl⟩ := List.mem_map.1 hx
    rcases List.mem_cons.1 hz with rfl | hz
    ·simpa using hy
    ·simpa using hge z hz
   have hgt : ∀ x ∈ es, ltT k x.1 := fun x hx => by
    rcases ltT_total hy with e | e
    ·rw [← e]; exact h1 x hx
    ·exact ltT_trans e (h1 x hx)
   rw [e1]
   refine ⟨by simp [hy, e0], fun h => ?_, fun h => ?_⟩
   ·have hne : ¬ y.1 = k := fun e => by simp [hasK, e] at h
    have : ltT k y.1 := (ltT_total hy).resolve_left hne
    simp [this, (filt_hi hgt).1]
   ·have hek : y.1 = k := by
     by_cases e : y.1 = k
     ·exact e
     ·exfalso
      simp [hasK, e] at h
      obtain ⟨x, hx⟩ := h
      exact ltT_irrefl k (hgt _ hx)
    refine ⟨y.2, by simp [← hek], ?_⟩
    simp [hek, ltT_irrefl, (filt_hi hgt).1]
end
def leafOf (ls : List Nd) (key : Key) : Nat → Nat → Nat
 | 0, i => i
 | h + 1, i => match ls[i]? with
  | some N => match N.kids[wayK key N.keys]? with
   | some c => leafOf ls key h c
   | none => i
  | none => i
def getE (key : Key) (es : List Ent) : Option Int := (es.find? fun x => decide (x.1 = key)).map (·.2)
def fstE (above : Bool) (key : Key) (es : List Ent) : Option Ent := es.find? fun x => decide (ltT key x.1) || (!above && decide (x.1 = key))
def lastE (key : Key) (es : List Ent) : Option Ent := (es.filter fun x => decide (ltT x.1 key)).getLast?
section
variable {key : Key} {es eA eB : List Ent} {above : Bool}
theorem getE_mid (hA : ∀ x ∈ eA, ltT x.1 key) (hB : ∀ x ∈ eB, ltT key x.1) : getE key (eA ++ (es ++ eB)) = getE key es := by
 have h1 : eA.find? (fun x => decide (x.1 = key)) = none := List.find?_eq_none.2 fun x hx => by simpa using ltT_ne (hA x hx)
 have h2 : eB.find? (fun x => decide (x.1 = key)) = none := List.find?_eq_none.2 fun x hx => by simpa using (ltT_ne (hB x hx)).symm
 unfold getE
 rw [List.find?_append, h1, List.find?_append, h2]
 simp
theorem fstE_mid (hA : ∀ x ∈ eA, ltT x.1 key) (hB : ∀ x ∈ eB, ltT key x.1) : fstE above key (eA ++ (es ++ eB)) = (fstE above key es).or eB.head? := by
 have h1 : eA.find? (fun x => decide (ltT key x.1) || (!above && decide (x.1 = key))) = none := List.find?_eq_none.2 fun x hx => by
  have := ltT_ne (hA x hx)
  simp [ltT_asymm (hA x hx), this]
 have h2 : eB.find? (fun x => decide (ltT key x.1) || (!above && decide (x.1 = key))) = eB.head? := by
  cases eB with
  | nil => rfl
  | cons y eB => simp [hB y (by simp)]
 unfold fstE
 rw [List.find?_append, h1, List.find?_append, h2]
 rfl
theorem leafE (hs : SortE es) : (hasK key (es.map (·.1)) = true → ∃ v, es[posK key (es.map (·.1))]? = some (key, v) ∧ getE key es = some v) ∧ (hasK key (es.map (·.1)) = false → getE key es = none) ∧
  fstE above key es = es[posK key (es.map (·.1)) + (if hasK key (es.map (·.1)) = true ∧ above = true then 1 else 0)]? ∧ lastE key es = (if posK key (es.map (·.1)) = 0 then none else es[posK key (es.map (·.1)) - 1]?) := by
 obtain ⟨c1, c2, c3⟩ := cutE (k := key) hs
 have hlo : ∀ x ∈ es.take (posK key (es.map (·.1))), ltT x.1 key := fun x hx => by
  rw [c1] at hx
  simpa using (List.mem_filter.1 hx).2
 have hpl := posK_le key (es.map (·.1))
 rw [List.length_map] at hpl
 refine ⟨fun h => ?_, fun h => ?_, ?_, ?_⟩
 ·obtain ⟨v, q1, q2⟩ := c3 h
  refine ⟨v, q1, ?_⟩
  have hd : es.drop (posK key (es.map (·.1))) = (key, v) :: es.drop (posK key (es.map (·.1)) + 1) := by
   obtain ⟨hl, hv⟩ := List.getElem?_eq_some_iff.1 q1
   rw [← hv]; exact List.drop_eq_getElem_cons hl
  have h1 : (es.take (posK key (es.map (·.1)))).find? (fun x => decide (x.1 = key)) = none := List.find?_eq_none.2 fun x hx => by simpa using ltT_ne (hlo x hx)
  unfold getE
  conv => lhs; rw [← List.take_append_drop (posK key (es.map (·.1))) es]
  rw [List.find?_append, h1, hd]
  simp
 ·unfold getE
  rw [List.find?_eq_none.2]
  ·rfl
  ·intro x hx
   unfold hasK at h
   rw [List.any_eq_false] at h
   exact h x.1 (List.mem_map.2 ⟨x, hx, rfl⟩)
 ·have h1 : ∀ ab : Bool, (es.take (posK key (es.map (·.1)))).find? (fun x => decide (ltT key x.1) || (!ab && decide (x.1 = key))) = none := fun ab => List.find?_eq_none.2 fun x hx => by
   have := ltT_ne (hlo x hx)
   simp [ltT_asymm (hlo x hx), this]
  have hhi : ∀ (l : List Ent), l = es.filter (fun x => decide (ltT key x.1)) → ∀ ab : Bool, l.find? (fun x => decide (ltT key x.1) || (!ab && decide (x.1 = key))) = l.head? := fun l hl ab => by
   cases hq : l with
   | nil => rfl
   | cons y l' =>
    have : y ∈ es.filter (fun x => decide (ltT key x.1)) := by rw [← hl, hq]; simp
    have := (List.mem_filter.1 this).2
    simp at this
    simp [this]
  unfold fstE
  conv => lhs; rw [← List.take_append_drop (posK key (es.map (·.1))) es]
  rw [List.find?_append, h1]
  cases hh : hasK key (es.map (·.1)) with
  | false =>
   rw [if_neg (by simp), Nat.add_zero, Option.none_or, hhi _ (c2 hh), List.head?_drop]
  | true =>
   obtain ⟨v, q1, q2⟩ := c3 hh
   have hd : es.drop (posK key (es.map (·.1))) = (key, v) :: es.drop (posK key (es.map (·.1)) + 1) := by
    obtain ⟨hl, hv⟩ := List.getElem?_eq_some_iff.1 q1
    rw [← hv]; exact List.drop_eq_getElem_cons hl
   rw [hd, Option.none_or]
   cases above with
   | false =>
    rw [if_neg (by simp)]
    show _ = es[posK key (es.map (·.1))]?
    rw [q1]
    simp
   | true =>
    rw [if_pos (by simp)]
    rw [List.find?_cons_of_neg (by simp [ltT_irrefl]), hhi _ q2, List.head?_drop]
 ·unfold lastE
  rw [← c1]
  split
  ·rename_i h; rw [h]; rfl
  ·rw [List.getLast?_take]
   rw [if_neg (by assumption)]
   have : posK key (es.map (·.1)) - 1 < es.length := by omega
   rw [List.getElem?_eq_getElem this]
   rfl
end
abbrev Pn (id i : Nat) : Value := .pointer (some ⟨id, i * 3, none⟩)
def zeroE : Ent := (.empty, 0)
def tupF (o : Option Ent) : Value := .tuple #[.string (o.getD zeroE).1, I (o.getD zeroE).2, .bool o.isSome]
section
variable {σ : Nat → Tag} {m : Mem} {p : Nat} {vl vf : Value} {ns : List (Nat → Value)} {ls : List Nd} {fr : List Nat} {root n : Int} {key : Key} {above : Bool}
structure NodeAt (m : Mem) (vl : Value) (ls : List Nd) (id i : Nat) (o : XObj) (N : Nd) (a b c : Value) : Prop where
 get : m.get id = some o
 c0 : o.cells[i * 3]? = some a
 c1 : o.cells[i * 3 + 1]? = some b
 c2 : o.cells[i * 3 + 2]? = some c
 r0 : RdS m.next m 1 a (ones (N.keys.map sv))
 r1 : RdS m.next m 1 b (ones (N.nums.map iv))
 r2 : RdS m.next m 1 c (ones (N.kids.map nv))
 s0 : ∃ q k, a = .slice q N.keys.length k
 s1 : ∃ q k, b = .slice q N.nums.length k
 s2 : ∃ q k, c = .slice q N.kids.length k
 lt : i < ls.length
theorem TMH.node (h : TMH [] σ m p vl vf ns ls fr root n) {i : Nat} {N : Nd} (hN : ls[i]? = some N) : ∃ id cp o a b c, vl = .slice (some ⟨id, 0, some 0⟩) ls.length cp ∧ NodeAt m vl ls id i o N a b c := by
 obtain ⟨g, k1, k2⟩ := h.nd i N (by simp) hN
 obtain ⟨id, o, cp, hv, hg, hc, hl, _⟩ := h.at k1
 have sl : ∀ f, f < 3 → ∃ q k, g f = .slice q (N.fld f).length k := fun f hf => (k2 f hf).slice
 have l0 : (N.fld 0).length = N.keys.length := List.length_map ..
 have l1 : (N.fld 1).length = N.nums.length := List.length_map ..
 have l2 : (N.fld 2).length = N.kids.length := List.length_map ..
 exact ⟨id, cp, o, g 0, g 1, g 2, hv, hg, hc 0 (by omega), hc 1 (by omega), hc 2 (by omega), (k2 0 (by omega)).rd, (k2 1 (by omega)).rd, (k2 2 (by omega)).rd, l0 ▸ sl 0 (by omega), l1 ▸ sl 1 (by omega), l2 ▸ sl 2 (by omega), (List.getElem?_eq_some_iff.1 hN).1⟩
theorem NodeAt.leaf {id i : Nat} {o : XObj} {N : Nd} {a b c : Value} (h : NodeAt m vl ls id i o N a b c) : Ca 60 [Pn id i] m (.bool (decide ((N.kids.length : Int) = 0))) m := by
 obtain ⟨q, k, rfl⟩ := h.s2
 exact leaf_call h.get h.c2
theorem NodeAt.size {id i : Nat} {o : XObj} {N : Nd} {a b c : Value} (h : NodeAt m vl ls id i o N a b c) : Ca 63 [Pn id i] m (I (N.size : Int)) m := by
 obtain ⟨q, k, rfl⟩ := h.s2
 obtain ⟨q0, k0, rfl⟩ := h.s0
 exact size_call h.get h.c0 h.c2
theorem NodeAt.way {id i : Nat} {o : XObj} {N : Nd} {a b c : Value} (h : NodeAt m vl ls id i o N a b c) (hs : SortK N.keys) (hl : N.keys.length ≤ 1000) : Ca 71 [Pn id i, .string key] m (nv (wayK key N.keys)) m := way_call h.get h.c0 h.r0 hs hl
theorem NodeAt.kidAt {id i : Nat} {o : XObj} {N : Nd} {a b c : Value} (h : NodeAt m vl ls id i o N a b c) {w k : Nat} (hw : N.kids[w]? = some k) : ∃ ac cc oc, c = .slice (some ac) N.kids.length cc ∧ m.get ac.block = some oc ∧ oc.cells[ac.off + w]? = some (nv k) := by
 obtain ⟨ac, cc, oc, h1, h2, h3⟩ := rd_at h.r2 (i := w) (x := nv k) (by rw [List.getElem?_map, hw]; rfl)
 rw [List.length_map] at h1
 exact ⟨ac, cc, oc, h1, h2, h3⟩
theorem NodeAt.keyAt {id i : Nat} {o : XObj} {N : Nd} {a b c : Value} (h : NodeAt m vl ls id i o N a b c) {w : Nat} {k : Key} (hw : N.keys[w]? = some k) : ∃ ac cc oc, a = .slice (some ac) N.keys.length cc ∧ m.get ac.block = some oc ∧ oc.cells[ac.off + w]? = some (.string k) := by
 obtain ⟨ac, cc, oc, h1, h2, h3⟩ := rd_at h.r0 (i := w) (x := sv k) (by rw [List.getElem?_map, hw]; rfl)
 rw [List.length_map] at h1
 exact ⟨ac, cc, oc, h1, h2, h3⟩
theorem NodeAt.numAt {id i : Nat} {o : XObj} {N : Nd} {a b c : Value} (h : NodeAt m vl ls id i o N a b c) {w : Nat} {k : Int} (hw : N.nums[w]? = some k) : ∃ ac cc oc, b = .slice (some ac) N.nums.length cc ∧ m.get ac.block = some oc ∧ oc.cells[ac.off + w]? = some (I k) := by
 obtain ⟨ac, cc, oc, h1, h2, h3⟩ := rd_at h.r1 (i := w) (x := iv k) (by rw [List.getElem?_map, hw]; rfl)
 rw [List.length_map] at h1
 exact ⟨ac, cc, oc, h1, h2, h3⟩
theorem isNil_ptr' {a : Option Addr} {neg : Bool} : isNilE m .ptr neg (.pointer a) = some (.val (.bool (a.isNone != neg)) m) := (rfl)
theorem some_spec (h : TMH [] σ m p vl vf ns ls fr root n) : Ca 69 [Pt p] m (.bool (decide (0 ≤ root))) m := by
 refine callX_of (call_go (F := _) rfl rfl fun Q hQ => ?_)
 simp only [symA, symB, wantedX, X.put, X.look, Arg.ev, keepOf, restrict, initEnv, Nat.reduceEqDiff, ↓reduceIte, reduceCtorEq, eq_self, isNil_ptr', h.get]
 exact hQ _ _ _ rfl ⟨rfl, rfl⟩
theorem len_spec (h : TMH [] σ m p vl vf ns ls fr root n) : Ca 38 [Pt p] m (I n) m := by
 refine callX_of (call_go (F := _) rfl rfl fun Q hQ => ?_)
 simp only [symA, symB, X.put, X.look, Arg.ev, keepOf, restrict, initEnv, ↓reduceIte, reduceCtorEq, eq_self, isNil_ptr', h.get]
 exact hQ _ _ _ rfl ⟨rfl, rfl⟩
end
end Go.Proofs.Ytnlmnejellipdaa
namespace Go.Proofs.Ytnlmnejellipdaa
open Go X
set_option maxRecDepth 100000
attribute [local irreducible] X.Go' X.GoO X.GoR X.GoG X.GoC X.GoF X.GoFV X.GoFG X.Ex X.GoD X.GoDV X.GoDG
set_option linter.unusedVariables false
set_option linter.unusedSimpArgs false
section
variable {σ : Nat → Tag} {m : Mem} {p : Nat} {vl vf : Value} {ns : List (Nat → Value)} {ls : List Nd} {fr : List Nat} {root n : Int} {key : Key} {above : Bool}
theorem Row.get {R : RepT} {lo hi : Option Key} {ks : List Key} {kids : List Nat} {es : List Ent} {J : List Nat} (h : Row R lo hi ks kids es J) : (∃ c hi' e1 J1 B, kids = c :: B ∧ R c lo hi' e1 J1 ∧ ∃ eB, es = e1 ++ eB) ∧ ∃ A c lo' e1 J1, kids = A ++ [c] ∧ R c lo' hi e1 J1 ∧ ∃ eA, es = eA ++ e1 := by
 induction h with
 | @one lo hi c es J h => exact ⟨⟨c, _, es, J, [], rfl, h, [], by simp⟩, [], c, _, es, J, rfl, h, [], by simp⟩
 | @cons lo hi k c ks kids e1 e2 J1 J2 h t ih =>
  obtain ⟨_, A, c', lo', e', J', rfl, h', eA, rfl⟩ := ih
  exact ⟨⟨c, _, e1, J1, A ++ [c'], rfl, h, _, rfl⟩, c :: A, c', lo', e', J', rfl, h', e1 ++ eA, by simp⟩
theorem edge_spec {h a b i : Nat} {lo hi : Option Key} {es : List Ent} {J : List Nat} {last : Bool} (ht : TMH [] σ m p vl vf ns ls fr root n) (hr : Rep ls a b h i lo hi es J) (ha : 1 ≤ a) (hb : b ≤ 5) : Ca 81 [Pt p, nv i, .bool last] m (tupF (if last = true then es.getLast? else es.head?)) m := by
 refine callX_of (call_go (F := _) rfl rfl fun Q hQ => ?_)
 have hlt : i < ls.length := hr.lt i hr.top
 obtain ⟨N0, hN0⟩ : ∃ N, ls[i]? = some N := ⟨_, List.getElem?_eq_getElem hlt⟩
 obtain ⟨id, cp, o0, a0, b0, c0, rfl, nd0⟩ := ht.node hN0
 simp only [symA, symB, X.put, X.look, Arg.ev, keepOf, restrict, initEnv, Nat.reduceAdd, Nat.reduceEqDiff, ↓reduceIte, reduceCtorEq, eq_self, ht.get, hlt]
 refine loop_go (fun j e m' => m' = m ∧ ∃ (a b i : Nat) (lo hi : Option Key) (e1 : List Ent) (J1 : List Nat), Rep ls a b j i lo hi e1 J1 ∧ 1 ≤ a ∧ b ≤ 5 ∧ (if last = true then e1.getLast? else e1.head?) = (if last = true then es.getLast? else es.head?) ∧ e = [(0, Pt p), (2, .bool last), (9, Pn id i)]) h ⟨rfl, a, b, i, lo, hi, es, J, hr, ha, hb, rfl, rfl⟩ ?_
 rintro j e m' N' B' hN hB ⟨rfl, a, b, i, lo, hi, e1, J1, hr, ha, hb, heq, rfl⟩
 rw [← heq] at hQ
 cases j with
 | zero =>
  obtain ⟨q1, q2, q3, q4, q5, q6⟩ := hr
  obtain ⟨id', cp', o, av, bv, cv, hv, nd⟩ := ht.node q1
  cases hv
  have hl := nd.leaf
  have hl0 : decide ((([] : List Nat).length : Int) = 0) = true := rfl
  rw [hl0] at hl
  simp only [symA, symB, X.put, X.look, Arg.ev, keepOf, restrict, evs, Nat.reduceEqDiff, ↓reduceIte, reduceCtorEq, eq_self, goR_call hl]
  refine hB _ _ _ ?_
  have hlen1 : (e1.map (·.1)).length = e1.length := List.length_map ..
  have hlen2 : (e1.map (·.2)).length = e1.length := List.length_map ..
  cases last with
  | true =>
   obtain ⟨x, hx⟩ : ∃ x, e1[e1.length - 1]? = some x := ⟨_, List.getElem?_eq_getElem (by omega)⟩
   have hgl : e1.getLast? = some x := by rw [List.getLast?_eq_getElem?]; exact hx
   obtain ⟨ac, cc, oc, h1, h2, h3⟩ := nd.keyAt (w := e1.length - 1) (k := x.1) (by simp [hx])
   obtain ⟨ad, cd, od, g1, g2, g3⟩ := nd.numAt (w := e1.length - 1) (k := x.2) (by simp [hx])
   subst h1 g1
   have w1 : IntKind.i64.wrap ((e1.length : Int) - 1) = ((e1.length - 1 : Nat) : Int) := by rw [wrap_i64 (by omega) (by omega)]; omega
   have hlt1 : e1.length - 1 < e1.length := by omega
   rw [if_pos rfl, hgl] at hQ
   simp only [symA, symB, X.put, X.look, Arg.ev, keepOf, restrict, Nat.reduceEqDiff, ↓reduceIte, reduceCtorEq, goInt, eq_self, nd.get, nd.c0, nd.c1, hlen1, hlen2, w1, hlt1, h2, h3, g2, g3]
   exact hQ _ _ _ rfl ⟨rfl, rfl⟩
  | false =>
   obtain ⟨x, hx⟩ : ∃ x, e1[0]? = some x := ⟨_, List.getElem?_eq_getElem (by omega)⟩
   have hgl : e1.head? = some x := by rw [List.head?_eq_getElem?]; exact hx
   obtain ⟨ac, cc, oc, h1, h2, h3⟩ := nd.keyAt (w := 0) (k := x.1) (by show (e1.map (·.1))[0]? = _; rw [List.getElem?_map, hx]; rfl)
   obtain ⟨ad, cd, od, g1, g2, g3⟩ := nd.numAt (w := 0) (k := x.2) (by show (e1.map (·.2))[0]? = _; rw [List.getElem?_map, hx]; rfl)
   subst h1 g1
   have hlt1 : 0 < e1.length := by omega
   rw [if_neg (by simp), hgl] at hQ
   rw [Nat.add_zero] at h3 g3
   simp only [symA, symB, X.put, X.look, Arg.ev, keepOf, restrict, Nat.reduceEqDiff, ↓reduceIte, reduceCtorEq, eq_self, nd.get, nd.c0, nd.c1, hlen1, hlen2, hlt1, h2, h3, g2, g3]
   exact hQ _ _ _ rfl ⟨rfl, rfl⟩
 | succ j =>
  obtain ⟨ks, kids, J', q1, rfl, q3, q4, q5⟩ := hr
  obtain ⟨id', cp', o, av, bv, cv, hv, nd⟩ := ht.node q1
  cases hv
  have hl := nd.leaf
  have hk0 : ¬ ((kids.length : Nat) : Int) = 0 := by omega
  rw [decide_eq_false hk0] at hl
  obtain ⟨⟨c, hi', e2, J2, B, hkc, hrc, eB, hes⟩, A, c', lo', e3, J3, hkl, hrl, eA, hes'⟩ := q3.get
  obtain ⟨t1, t2, t3⟩ := Rep.good (by omega) hrc
  obtain ⟨u1, u2, u3⟩ := Rep.good (by omega) hrl
  cases last with
  | true =>
   have hw : kids[kids.length - 1]? = some c' := by rw [hkl]; simp
   obtain ⟨ac, cc, oc, h1, h2, h3⟩ := nd.kidAt hw
   subst h1
   have w1 : IntKind.i64.wrap ((kids.length : Int) - 1) = ((kids.length - 1 : Nat) : Int) := by rw [wrap_i64 (by omega) (by omega)]; omega
   have hlt1 : kids.length - 1 < kids.length := by omega
   have hcl : c' < ls.length := hrl.lt c' hrl.top
   simp only [symA, symB, X.put, X.look, Arg.ev, keepOf, restrict, evs, Nat.reduceEqDiff, ↓reduceIte, reduceCtorEq, goInt, eq_self, goR_call hl, nd.get, nd.c2, w1, ht.get, hlt1, h2, h3, hcl]
   refine hN _ _ j (by omega) ⟨rfl, 2, 4, c', lo', hi, e3, J3, hrl, by omega, by omega, ?_, rfl⟩
   rw [← heq, hes']
   simp only [if_pos]
   rw [List.getLast?_append]
   cases hq : e3.getLast? with
   | none => exact absurd (List.getLast?_eq_none_iff.1 hq) u3
   | some x => rfl
  | false =>
   have hw : kids[0]? = some c := by rw [hkc]; rfl
   obtain ⟨ac, cc, oc, h1, h2, h3⟩ := nd.kidAt hw
   subst h1
   have hlt1 : 0 < kids.length := by omega
   have hcl : c < ls.length := hrc.lt c hrc.top
   rw [Nat.add_zero] at h3
   simp only [symA, symB, X.put, X.look, Arg.ev, keepOf, restrict, evs, Nat.reduceEqDiff, ↓reduceIte, reduceCtorEq, eq_self, goR_call hl, nd.get, nd.c2, ht.get, hlt1, h2, h3, hcl]
   refine hN _ _ j (by omega) ⟨rfl, 2, 4, c, lo, hi', e2, J2, hrc, by omega, by omega, ?_, rfl⟩
   rw [← heq, hes, if_neg (by simp), if_neg (by simp)]
   cases e2 with
   | nil => exact absurd rfl t3
   | cons x e2 => rfl
theorem find_spec {h a b r : Nat} {lo hi : Option Key} {es : List Ent} {J : List Nat} (ht : TMH [] σ m p vl vf ns ls fr (r : Int) n) (hr : Rep ls a b h r lo hi es J) (ha : 1 ≤ a) (hb : b ≤ 5) (hk : Inb lo hi key) :
  ∃ id cp eL eA eB, vl = .slice (some ⟨id, 0, some 0⟩) ls.length cp ∧ Ca 54 [Pt p, .string key] m (.tuple #[Pn id (leafOf ls key h r), nv (posK key (eL.map (·.1))), .bool (hasK key (eL.map (·.1)))]) m ∧ ls[leafOf ls key h r]? = some ⟨eL.map (·.1), eL.map (·.2), []⟩ ∧
   SortE eL ∧ eL.length ≤ 5 ∧ es = eA ++ (eL ++ eB) ∧ (∀ x ∈ eA, ltT x.1 key) ∧ ∀ x ∈ eB, ltT key x.1 := by
 have hlt : r < ls.length := hr.lt r hr.top
 obtain ⟨N0, hN0⟩ : ∃ N, ls[r]? = some N := ⟨_, List.getElem?_eq_getElem hlt⟩
 obtain ⟨id, cp, o0, a0, b0, c0, rfl, nd0⟩ := ht.node hN0
 have key' : Wc 54 [Pt p, .string key] m fun v m' => m' = m ∧ ∃ eL eA eB, v = .tuple #[Pn id (leafOf ls key h r), nv (posK key (eL.map (·.1))), .bool (hasK key (eL.map (·.1)))] ∧ ls[leafOf ls key h r]? = some ⟨eL.map (·.1), eL.map (·.2), []⟩ ∧
   SortE eL ∧ eL.length ≤ 5 ∧ es = eA ++ (eL ++ eB) ∧ (∀ x ∈ eA, ltT x.1 key) ∧ ∀ x ∈ eB, ltT key x.1 := by
  refine call_go (F := _) rfl rfl fun Q hQ => ?_
  have hr0 : ¬ (r : Int) < 0 := by omega
  simp only [symA, symB, wantedX, X.put, X.look, Arg.ev, keepOf, restrict, initEnv, Nat.reduceEqDiff, ↓reduceIte, reduceCtorEq, eq_self, isNil_ptr', ht.get, hr0, hlt]
  refine loop_go (fun j e m' => m' = m ∧ ∃ (a b i : Nat) (lo hi : Option Key) (e1 eA eB : List Ent) (J1 : List Nat), Rep ls a b j i lo hi e1 J1 ∧ 1 ≤ a ∧ b ≤ 5 ∧ Inb lo hi key ∧ leafOf ls key j i = leafOf ls key h r ∧ es = eA ++ (e1 ++ eB) ∧ (∀ x ∈ eA, ltT x.1 key) ∧ (∀ x ∈ eB, ltT key x.1) ∧ e = [(0, Pt p), (1, .string key), (7, Pn id i)]) h ⟨rfl, a, b, r, lo, hi, es, [], [], J, hr, ha, hb, hk, rfl, by simp, by simp, by simp, rfl⟩ ?_
  rintro j e m' N' B' hN hB ⟨rfl, a, b, i, lo, hi, e1, eA, eB, J1, hr, ha, hb, hk, hleaf, hes, hA, hB', rfl⟩
  cases j with
  | zero =>
   obtain ⟨q1, q2, q3, q4, q5, q6⟩ := hr
   obtain ⟨id', cp', o, av, bv, cv, hv, nd⟩ := ht.node q1
   cases hv
   have hl := nd.leaf
   have hl0 : decide ((([] : List Nat).length : Int) = 0) = true := rfl
   rw [hl0] at hl
   have hsk : SortK (e1.map (·.1)) := by
    unfold SortK
    rw [List.pairwise_map]
    exact q3
   have hbs := bs_spec (k := key) nd.r0 hsk (by rw [List.length_map]; omega)
   simp only [symA, symB, X.put, X.look, Arg.ev, keepOf, restrict, evs, Nat.reduceEqDiff, ↓reduceIte, reduceCtorEq, eq_self, goR_call hl]
   refine hB _ _ _ ?_
   simp only [symA, symB, X.put, X.look, Arg.ev, keepOf, restrict, evs, Nat.reduceEqDiff, ↓reduceIte, reduceCtorEq, eq_self, nd.get, nd.c0, goR_call hbs]
   refine hQ _ _ _ rfl ⟨rfl, e1, eA, eB, ?_, ?_, q3, by omega, hes, hA, hB'⟩
   ·rw [← hleaf]; rfl
   ·rw [← hleaf]; exact q1
  | succ j =>
   obtain ⟨ks, kids, J', q1, rfl, q3, q4, q5⟩ := hr
   obtain ⟨id', cp', o, av, bv, cv, hv, nd⟩ := ht.node q1
   cases hv
   have hl := nd.leaf
   have hk0 : ¬ ((kids.length : Nat) : Int) = 0 := by omega
   rw [decide_eq_false hk0] at hl
   have hks := (q3.keys goodRep).1
   have hkl := q3.len
   have hw := nd.way (key := key) hks (by show ks.length ≤ 1000; omega)
   obtain ⟨KA, A, eA', JA, c, lo', hi', e2, Jc, KB, B, eB', JB, z1, z2, z3, z4, z5, z6, z7, z8, z9, z10, z11⟩ := q3.way goodRep hk
   have hwc : kids[wayK key ks]? = some c := by rw [z9, z6, List.getElem?_append_right (Nat.le_refl _), Nat.sub_self]; rfl
   obtain ⟨ac, cc, oc, h1, h2, h3⟩ := nd.kidAt hwc
   have hwl : wayK key ks < kids.length := (List.getElem?_eq_some_iff.1 hwc).1
   have hcl : c < ls.length := z2.lt c z2.top
   have hc2 := nd.c2
   subst h1
   simp only [symA, go_opsd, symB, X.put, X.look, Arg.ev, keepOf, restrict, evs, cls, quiet, Nat.reduceEqDiff, ↓reduceIte, reduceCtorEq, eq_self, Nat.reducePow, Nat.reduceDiv, Nat.reduceMod, goR_call hl, ht.get, nd.get, hc2, goDV3c hw, hwl, h2, h3, hcl]
   refine hN _ _ j (by omega) ⟨rfl, 2, 4, c, lo', hi', e2, eA ++ eA', eB' ++ eB, Jc, z2, by omega, by omega, z4, ?_, ?_, ?_, ?_, rfl⟩
   ·rw [← hleaf]
    simp only [leafOf, q1, hwc]
   ·rw [hes, z7]; simp
   ·intro x hx
    rcases List.mem_append.1 hx with hx | hx
    ·exact hA x hx
    ·exact z10 x hx
   ·intro x hx
    rcases List.mem_append.1 hx with hx | hx
    ·exact z11 x hx
    ·exact hB' x hx
 obtain ⟨v, m', hc, rfl, eL, eA, eB, rfl, h2⟩ := key'
 exact ⟨id, cp, eL, eA, eB, rfl, hc, h2⟩
theorem get_spec {h a b r : Nat} {lo hi : Option Key} {es : List Ent} {J : List Nat} (ht : TMH [] σ m p vl vf ns ls fr (r : Int) n) (hr : Rep ls a b h r lo hi es J) (ha : 1 ≤ a) (hb : b ≤ 5) (hk : Inb lo hi key) :
  Ca 39 [Pt p, .string key] m (.tuple #[I ((getE key es).getD 0), .bool (getE key es).isSome]) m := by
 obtain ⟨id, cp, eL, eA, eB, hv, hf, hN, hs, hl, hes, hA, hB⟩ := find_spec (key := key) ht hr ha hb hk
 obtain ⟨k1, k2, _⟩ := leafE (key := key) (above := false) hs
 rw [hes, getE_mid hA hB]
 refine callX_of (call_go (F := _) rfl rfl fun Q hQ => ?_)
 cases hh : hasK key (eL.map (·.1)) with
 | false =>
  rw [hh] at hf
  rw [k2 hh] at hQ
  simp only [symA, symB, X.put, X.look, Arg.ev, keepOf, restrict, evs, initEnv, Nat.reduceEqDiff, ↓reduceIte, reduceCtorEq, eq_self, goR_call hf]
  exact hQ _ _ _ rfl ⟨rfl, rfl⟩
 | true =>
  rw [hh] at hf
  obtain ⟨v, q1, q2⟩ := k1 hh
  rw [q2] at hQ
  obtain ⟨id', cp', o, av, bv, cv, hv', nd⟩ := ht.node hN
  rw [hv] at hv'
  cases hv'
  obtain ⟨ad, cd, od, g1, g2, g3⟩ := nd.numAt (w := posK key (eL.map (·.1))) (k := v) (by show (eL.map (·.2))[_]? = _; rw [List.getElem?_map, q1]; rfl)
  have hlt := (List.getElem?_eq_some_iff.1 q1).1
  have hl2 : (eL.map (·.2)).length = eL.length := List.length_map ..
  have hc1 := nd.c1
  subst g1
  simp only [symA, symB, X.put, X.look, Arg.ev, keepOf, restrict, evs, initEnv, Nat.reduceEqDiff, ↓reduceIte, reduceCtorEq, eq_self, goR_call hf, nd.get, hc1, hl2, hlt, g2, g3]
  exact hQ _ _ _ rfl ⟨rfl, rfl⟩
end
end Go.Proofs.Ytnlmnejellipdaa
namespace Go.Proofs.Ytnlmnejellipdaa
open Go X
set_option maxRecDepth 100000
attribute [local irreducible] X.Go' X.GoO X.GoR X.GoG X.GoC X.GoF X.GoFV X.GoFG X.Ex X.GoD X.GoDV X.GoDG
set_option linter.unusedVariables false
set_option linter.unusedSimpArgs false
section
variable {σ : Nat → Tag} {m : Mem} {p : Nat} {vl vf : Value} {ns : List (Nat → Value)} {ls : List Nd} {fr : List Nat} {root n : Int} {key : Key} {above : Bool}
theorem sortK_of {es : List Ent} (h : SortE es) : SortK (es.map (·.1)) := by
 unfold SortK
 rw [List.pairwise_map]
 exact h
theorem Right.head {R : RepT} {hi' hi : Option Key} {KB : List Key} {B : List Nat} {eB : List Ent} {JB : List Nat} (hg : GoodR R) (h : Right R hi' hi KB B eB JB) : (B = [] ∧ eB = []) ∨ ∃ c B' lo hi e J, B = c :: B' ∧ R c lo hi e J ∧ eB.head? = e.head? := by
 cases h with
 | nil => exact .inl ⟨rfl, rfl⟩
 | cons t =>
  obtain ⟨⟨c, hi'', e1, J1, B', rfl, hc, eB', rfl⟩, _⟩ := t.get
  refine .inr ⟨c, B', _, _, e1, J1, rfl, hc, ?_⟩
  have := (hg _ _ _ _ _ hc).2.2
  cases e1 with
  | nil => exact absurd rfl this
  | cons x e1 => rfl
theorem first_spec (ht : TMH [] σ m p vl vf ns ls fr root n) : ∀ {h a b i : Nat} {lo hi : Option Key} {es : List Ent} {J : List Nat}, Rep ls a b h i lo hi es J → 1 ≤ a → b ≤ 5 → Inb lo hi key →
  Ca 70 [Pt p, nv i, .string key, .bool above] m (tupF (fstE above key es)) m
 | 0, a, b, i, lo, hi, es, J, hr, ha, hb, hk => by
  obtain ⟨q1, q2, q3, q4, q5, q6⟩ := hr
  have hlt : i < ls.length := (List.getElem?_eq_some_iff.1 q1).1
  obtain ⟨id, cp, o, av, bv, cv, rfl, nd⟩ := ht.node q1
  have hl := nd.leaf
  have hl0 : decide ((([] : List Nat).length : Int) = 0) = true := rfl
  rw [hl0] at hl
  have hbs := bs_spec (k := key) nd.r0 (sortK_of q3) (by rw [List.length_map]; omega)
  obtain ⟨_, _, k3, _⟩ := leafE (key := key) (above := above) q3
  have hp := posK_le key (es.map (·.1))
  rw [List.length_map] at hp
  have hl1 : (es.map (·.1)).length = es.length := List.length_map ..
  have hl2 : (es.map (·.2)).length = es.length := List.length_map ..
  have w1 : IntKind.i64.wrap ((posK key (es.map (·.1)) : Int) + 1) = ((posK key (es.map (·.1)) + 1 : Nat) : Int) := by rw [wrap_i64 (by omega) (by omega)]; omega
  have hc0 := nd.c0
  have hc1 := nd.c1
  have hs0 := nd.s0
  rw [hl1] at hs0
  
  have fin : ∀ j : Nat, (es[j]? = none ∧ (es.length : Int) ≤ (j : Int)) ∨ ∃ x ac cc oc ad cd od, es[j]? = some x ∧ j < es.length ∧ ¬ (es.length : Int) ≤ (j : Int) ∧ av = .slice (some ac) es.length cc ∧ m.get ac.block = some oc ∧ oc.cells[ac.off + j]? = some (.string x.1) ∧ bv = .slice (some ad) es.length cd ∧ m.get ad.block = some od ∧ od.cells[ad.off + j]? = some (I x.2) := fun j => by
   by_cases hj : j < es.length
   ·obtain ⟨x, hx⟩ : ∃ x, es[j]? = some x := ⟨_, List.getElem?_eq_getElem hj⟩
    obtain ⟨ac, cc, oc, h1, h2, h3⟩ := nd.keyAt (w := j) (k := x.1) (by show (es.map (·.1))[_]? = _; rw [List.getElem?_map, hx]; rfl)
    obtain ⟨ad, cd, od, g1, g2, g3⟩ := nd.numAt (w := j) (k := x.2) (by show (es.map (·.2))[_]? = _; rw [List.getElem?_map, hx]; rfl)
    exact .inr ⟨x, ac, cc, oc, ad, cd, od, hx, hj, by omega, by rw [h1, hl1], h2, h3, by rw [g1, hl2], g2, g3⟩
   ·exact .inl ⟨List.getElem?_eq_none (by omega), by omega⟩
  refine callX_of (call_go (F := _) rfl rfl fun Q hQ => ?_)
  rw [k3] at hQ
  cases hh : hasK key (es.map (·.1)) with
  | true =>
   rw [hh] at hbs hQ
   cases above with
   | true =>
    rw [if_pos (by simp)] at hQ
    rcases fin (posK key (es.map (·.1)) + 1) with ⟨h1, h2⟩ | ⟨x, ac, cc, oc, ad, cd, od, h1, h2, h3, rfl, h5, h6, rfl, h8, h9⟩
    ·obtain ⟨q, k, rfl⟩ := hs0
     rw [h1] at hQ
     simp only [symA, symB, wantedX, X.put, X.look, Arg.ev, keepOf, restrict, evs, initEnv, Nat.reduceAdd, Nat.reduceEqDiff, ↓reduceIte, reduceCtorEq, goInt, eq_self, ht.get, hlt, goR_call hl, nd.get, hc0, goR_call hbs, w1, h2]
     exact hQ _ _ _ rfl ⟨rfl, rfl⟩
    ·rw [h1] at hQ
     simp only [symA, symB, wantedX, X.put, X.look, Arg.ev, keepOf, restrict, evs, initEnv, Nat.reduceAdd, Nat.reduceEqDiff, ↓reduceIte, reduceCtorEq, goInt, eq_self, ht.get, hlt, goR_call hl, nd.get, hc0, hc1, goR_call hbs, w1, h2, h3, h5, h6, h8, h9]
     exact hQ _ _ _ rfl ⟨rfl, rfl⟩
   | false =>
    rw [if_neg (by simp), Nat.add_zero] at hQ
    rcases fin (posK key (es.map (·.1))) with ⟨h1, h2⟩ | ⟨x, ac, cc, oc, ad, cd, od, h1, h2, h3, rfl, h5, h6, rfl, h8, h9⟩
    ·obtain ⟨q, k, rfl⟩ := hs0
     rw [h1] at hQ
     simp only [symA, symB, wantedX, X.put, X.look, Arg.ev, keepOf, restrict, evs, initEnv, Nat.reduceAdd, Nat.reduceEqDiff, ↓reduceIte, reduceCtorEq, goInt, eq_self, ht.get, hlt, goR_call hl, nd.get, hc0, goR_call hbs, h2]
     exact hQ _ _ _ rfl ⟨rfl, rfl⟩
    ·rw [h1] at hQ
     simp only [symA, symB, wantedX, X.put, X.look, Arg.ev, keepOf, restrict, evs, initEnv, Nat.reduceAdd, Nat.reduceEqDiff, ↓reduceIte, reduceCtorEq, goInt, eq_self, ht.get, hlt, goR_call hl, nd.get, hc0, hc1, goR_call hbs, h2, h3, h5, h6, h8, h9]
     exact hQ _ _ _ rfl ⟨rfl, rfl⟩
  | false =>
   rw [hh] at hbs hQ
   rw [if_neg (by simp), Nat.add_zero] at hQ
   rcases fin (posK key (es.map (·.1))) with ⟨h1, h2⟩ | ⟨x, ac, cc, oc, ad, cd, od, h1, h2, h3, rfl, h5, h6, rfl, h8, h9⟩
   ·obtain ⟨q, k, rfl⟩ := hs0
    rw [h1] at hQ
    simp only [symA, symB, wantedX, X.put, X.look, Arg.ev, keepOf, restrict, evs, initEnv, Nat.reduceAdd, Nat.reduceEqDiff, ↓reduceIte, reduceCtorEq, goInt, eq_self, undef, ht.get, hlt, goR_call hl, nd.get, hc0, goR_call hbs, h2]
    exact hQ _ _ _ rfl ⟨rfl, rfl⟩
   ·rw [h1] at hQ
    simp only [symA, symB, wantedX, X.put, X.look, Arg.ev, keepOf, restrict, evs, initEnv, Nat.reduceAdd, Nat.reduceEqDiff, ↓reduceIte, reduceCtorEq, goInt, eq_self, undef, ht.get, hlt, goR_call hl, nd.get, hc0, hc1, goR_call hbs, h2, h3, h5, h6, h8, h9]
    exact hQ _ _ _ rfl ⟨rfl, rfl⟩
 | h + 1, a, b, i, lo, hi, es, J, hr, ha, hb, hk => by
  obtain ⟨ks, kids, J', q1, rfl, q3, q4, q5⟩ := hr
  have hlt : i < ls.length := (List.getElem?_eq_some_iff.1 q1).1
  obtain ⟨KA, A, eA, JA, c, lo', hi', e2, Jc, KB, B, eB, JB, z1, z2, z3, z4, z5, z6, z7, z8, z9, z10, z11⟩ := q3.way goodRep hk
  have ih := first_spec ht z2 (by omega) (by omega) z4
  obtain ⟨id, cp, o, av, bv, cv, rfl, nd⟩ := ht.node q1
  have hl := nd.leaf
  have hk0 : ¬ ((kids.length : Nat) : Int) = 0 := by omega
  rw [decide_eq_false hk0] at hl
  have hks := (q3.keys goodRep).1
  have hkl := q3.len
  have hw := nd.way (key := key) hks (by show ks.length ≤ 1000; omega)
  have hwc : kids[wayK key ks]? = some c := by rw [z9, z6, List.getElem?_append_right (Nat.le_refl _), Nat.sub_self]; rfl
  obtain ⟨ac, cc, oc, h1, h2, h3⟩ := nd.kidAt hwc
  have hwl : wayK key ks < kids.length := (List.getElem?_eq_some_iff.1 hwc).1
  have hc2 := nd.c2
  have w1 : IntKind.i64.wrap ((wayK key ks : Int) + 1) = ((wayK key ks + 1 : Nat) : Int) := by rw [wrap_i64 (by omega) (by omega)]; omega
  subst h1
  refine callX_of (call_go (F := _) rfl rfl fun Q hQ => ?_)
  rw [z7, fstE_mid z10 z11] at hQ
  cases hf : fstE above key e2 with
  | some x =>
   rw [hf] at ih hQ
   simp only [tupF, Option.isSome_some, Option.getD_some, Option.some_or] at ih hQ
   simp only [symA, symB, X.put, X.look, Arg.ev, keepOf, restrict, evs, initEnv, Nat.reduceAdd, Nat.reduceEqDiff, ↓reduceIte, reduceCtorEq, eq_self, ht.get, hlt, goR_call hl, goR_call hw, nd.get, hc2, hwl, h2, h3, goR_call ih]
   exact hQ _ _ _ rfl ⟨rfl, rfl⟩
  | none =>
   rw [hf, Option.none_or] at hQ
   rw [hf] at ih
   simp only [tupF, Option.isSome_none, Option.getD_none] at ih
   have hBl : kids.length = wayK key ks + 1 + B.length := by rw [z9, z6]; simp; omega
   rcases z3.head goodRep with ⟨rfl, rfl⟩ | ⟨c', B', lo1, hi1, e1, J1, rfl, hc', hhd⟩
   ·have hge : ¬ ((wayK key ks + 1 : Nat) : Int) < (kids.length : Int) := by rw [hBl]; simp
    simp only [tupF, List.head?_nil, Option.isSome_none, Option.getD_none] at hQ
    simp only [symA, symB, X.put, X.look, Arg.ev, keepOf, restrict, evs, initEnv, Nat.reduceAdd, Nat.reduceEqDiff, ↓reduceIte, reduceCtorEq, goInt, eq_self, ht.get, hlt, goR_call hl, goR_call hw, nd.get, hc2, hwl, h2, h3, goR_call ih, w1, hge]
    exact hQ _ _ _ rfl ⟨rfl, rfl⟩
   ·have hlt2 : ((wayK key ks + 1 : Nat) : Int) < (kids.length : Int) := by rw [hBl]; simp; omega
    have hlt3 : wayK key ks + 1 < kids.length := by omega
    have hwc' : kids[wayK key ks + 1]? = some c' := by rw [z9, z6, List.getElem?_append_right (by omega)]; simp
    obtain ⟨ac', cc', oc', g1, g2, g3⟩ := nd.kidAt hwc'
    cases g1
    rw [h2] at g2
    cases g2
    have he := edge_spec (last := false) ht hc' (by omega) (by omega)
    rw [if_neg (by simp), ← hhd] at he
    unfold tupF at he hQ
    simp only [symA, symB, X.put, X.look, Arg.ev, keepOf, restrict, evs, initEnv, Nat.reduceAdd, Nat.reduceEqDiff, ↓reduceIte, reduceCtorEq, goInt, eq_self, ht.get, hlt, goR_call hl, goR_call hw, nd.get, hc2, hwl, h2, h3, goR_call ih, w1, hlt2, hlt3, g3, goR_call he]
    exact hQ _ _ _ rfl ⟨rfl, rfl⟩
end
end Go.Proofs.Ytnlmnejellipdaa
namespace Go.Proofs.Ytnlmnejellipdaa
open Go X
set_option maxRecDepth 100000
attribute [local irreducible] X.Go' X.GoO X.GoR X.GoG X.GoC X.GoF X.GoFV X.GoFG X.Ex X.GoD X.GoDV X.GoDG
set_option linter.unusedVariables false
set_option linter.unusedSimpArgs false
def tr : Tag → Bool
 | .no => false
 | .other n => decide (n < 3)
 | _ => true
structure Gr (σ σ' : Nat → Tag) (m m' : Mem) : Prop where
 fm : Fm (fun j => tr (σ j) = true) m m'
 out : ∀ j, j < m.next → tr (σ j) = false → σ' j = σ j
 fut : ∀ j, m'.next ≤ j → σ' j = σ j
def rt (k : Nat) : Tag → Tag
 | .other 0 => .fld 0 k
 | .other 1 => .fld 1 k
 | .other 2 => .fld 2 k
 | t => t
section
variable {H : List Nat} {σ σ' σ'' : Nat → Tag} {t : Tag} {m m' m'' : Mem} {p : Nat} {vl vf v : Value} {ns : List (Nat → Value)} {ls : List Nd} {fr : List Nat} {root n : Int} {xs : List Value}
theorem Gr.refl : Gr σ σ m m := ⟨.refl, fun _ _ _ => rfl, fun _ _ => rfl⟩
theorem Gr.trans (h : Gr σ σ' m m') (h' : Gr σ' σ'' m' m'') : Gr σ σ'' m m'' := by
 refine ⟨h.fm.comp h'.fm fun j hj ht => ?_, fun j hj ht => by rw [h'.out j (Nat.lt_of_lt_of_le hj h.fm.next) (by rw [h.out j hj ht]; exact ht), h.out j hj ht], fun j hj => by rw [h'.fut j hj, h.fut j (Nat.le_trans h'.fm.next hj)]⟩
 cases hq : tr (σ j) with
 | true => rfl
 | false => rw [h.out j hj hq, hq] at ht; cases ht
theorem Gr.nx (h : Nx m m') : Gr σ σ m m' := ⟨h.mono fun _ _ h => h.elim, fun _ _ _ => rfl, fun _ _ => rfl⟩
theorem Gr.ch (h : Ch t σ σ' m m') (ht : tr t = true) : Gr σ σ' m m' := ⟨h.fm.mono fun j _ (e : σ j = t) => by rw [e]; exact ht, fun j hj _ => h.sig j hj, h.fut⟩
theorem Gr.new (h : Nx m m') (hs : (∀ j, j < m.next → σ' j = σ j) ∧ ∀ j, m'.next ≤ j → σ' j = σ j) : Gr σ σ' m m' := ⟨h.mono fun _ _ h => h.elim, fun j hj _ => hs.1 j hj, hs.2⟩
theorem Gr.tg (h : Gr σ σ' m m') (ht : tr t = false) (hg : Tg σ t m v xs) : Tg σ' t m' v xs := by
 obtain ⟨F, h1, h2⟩ := hg
 exact ⟨F, h1.fr h.fm fun j hj q => (by rw [h2 j hj, ht] at q; cases q), fun j hj => by rw [h.out j (h1.lt j hj) (by rw [h2 j hj]; exact ht)]; exact h2 j hj⟩
theorem Gr.next (h : Gr σ σ' m m') : m.next ≤ m'.next := h.fm.next
theorem tr_rt {k : Nat} {t : Tag} (h : tr t = false) : rt k t = t := by
 cases t with
 | other n =>
  match n with
  | 0 => cases h
  | 1 => cases h
  | 2 => cases h
  | _ + 3 => rfl
 | _ => rfl
theorem Gr.rtg {k : Nat} (h : ∀ j, m.next ≤ j → σ j = .no) : Gr σ (fun j => rt k (σ j)) m m := ⟨.refl, fun j _ h => tr_rt h, fun j hj => by show rt k (σ j) = σ j; rw [h j hj]; rfl⟩
theorem Tg.rtg {k : Nat} (h : Tg σ t m v xs) : Tg (fun j => rt k (σ j)) (rt k t) m v xs := by
 obtain ⟨F, h1, h2⟩ := h
 exact ⟨F, h1, fun j hj => by show rt k (σ j) = _; rw [h2 j hj]⟩
theorem TMH.rtg {k : Nat} (h : TMH H σ m p vl vf ns ls fr root n) : TMH H (fun j => rt k (σ j)) m p vl vf ns ls fr root n := by
 obtain ⟨F, o1, o2⟩ := h.ol
 refine ⟨h.get, by show rt k (σ p) = _; rw [h.top]; rfl, h.pl, ⟨F, o1, fun j hj => by show rt k (σ j) = _; rw [o2 j hj]; rfl⟩, h.free.rtg (k := k), h.len, fun j hj => by show rt k (σ j) = _; rw [h.fresh j hj]; rfl, fun i N hi hN => ?_⟩
 obtain ⟨g, k1, k2⟩ := h.nd i N hi hN
 exact ⟨g, k1, fun f hf => (k2 f hf).rtg (k := k)⟩
theorem fld_rt {k f : Nat} (hf : f < 3) : rt k (.other f) = .fld f k := by
 match f, hf with
 | 0, _ => rfl
 | 1, _ => rfl
 | 2, _ => rfl
theorem TMH.app (h : TMH [] σ m p vl vf ns ls fr root n) {g : Nat → Value} {N : Nd} (hl : ls.length ≤ 1000000) (hN : ∀ f, f < 3 → Tg σ (.other f) m (g f) (N.fld f)) :
  ∃ vl' m2 m3 σ', appendE (m.push { cells := row3 g, rw := true, spare := none, kin := [] }) 3 72 [.slice none 0 0, .slice none 0 0, .slice none 0 0] vl (.slice (some ⟨m.next, 0, none⟩) 1 1) = some (.val vl' m2) ∧ storeE m2 1 (.pointer (some ⟨p, 0, none⟩)) vl' = some (.skip m3) ∧
   TMH [] σ' m3 p vl' vf (ns ++ [g]) (ls ++ [N]) fr root n ∧ Gr σ σ' m m3 ∧ (∃ q c, vl' = .slice q (ls.length + 1) c) ∧ ∃ q c, vl = .slice q ls.length c := by
 obtain ⟨F, o1, o2⟩ := h.ol
 have hnl := h.len
 obtain ⟨vl', m2, F', a1, a2, a3, a4⟩ := o1.one (bytes := 72) (zero := [.slice none 0 0, .slice none 0 0, .slice none 0 0]) (row := row3 g) rfl (by omega) rfl (by rw [List.length_map]; omega) (by rw [List.length_map]; omega)
 have eN : ns.map row3 ++ [row3 g] = (ns ++ [g]).map row3 := by simp
 rw [eN] at a2
 obtain ⟨q, c, hv⟩ := (a2.rd (by omega)).slice
 obtain ⟨q0, c0, hv0⟩ := (o1.rd (by omega)).slice
 rw [List.length_map, List.length_append, List.length_singleton, hnl] at hv
 rw [List.length_map, hnl] at hv0
 have hFm : Ch .nodes σ (fun j => if j ∈ F' then Tag.nodes else σ j) m m2 := by
  refine ⟨fun j hj => ?_, a3.mono fun j _ hj => o2 j hj, fun j hj => if_neg fun q => by have := a2.lt j q; omega⟩
  show (if j ∈ F' then Tag.nodes else σ j) = σ j
  split
  ·rename_i hh
   rcases a4 j hh with hh | hh
   ·exact (o2 j hh).symm
   ·omega
  ·rfl
 have hg := hFm.fm.get h.pl (by rw [h.top]; simp) h.get
 obtain ⟨m3, s1, s2, s3, s4⟩ := fld_store (i := 0) (x := vl') hg (by simp) (by rw [hv]; rfl) (by rw [hv]; rfl)
 have htop : (if p ∈ F' then Tag.nodes else σ p) = .top := (hFm.sig p h.pl).trans h.top
 have hc2 : Ch .top (fun j => if j ∈ F' then Tag.nodes else σ j) (fun j => if j ∈ F' then Tag.nodes else σ j) m2 m3 := ⟨fun _ _ => rfl, s3.mono fun j _ (e : j = p) => by rw [e]; exact htop, fun _ _ => rfl⟩
 have hp' : ∀ j ∈ F', j ≠ p := fun j hj e => by
  have : (if j ∈ F' then Tag.nodes else σ j) = .top := by rw [e]; exact htop
  rw [if_pos hj] at this; cases this
 have hfr1 : ∀ j, m3.next ≤ j → (if j ∈ F' then Tag.nodes else σ j) = .no := fun j hj => by
  have := hFm.next
  have := hc2.next
  exact (hFm.fut j (by omega)).trans (h.fresh j (by omega))
 refine ⟨vl', m2, m3, fun j => rt ls.length (if j ∈ F' then Tag.nodes else σ j), a1, s1, ?_, (Gr.ch hFm rfl).trans ((Gr.ch hc2 rfl).trans (.rtg hfr1)), ⟨q, c, hv⟩, ⟨q0, c0, hv0⟩⟩
 refine ⟨s2, by show rt ls.length (if p ∈ F' then Tag.nodes else σ p) = _; rw [htop]; rfl, by have := hFm.next; have := hc2.next; have := h.pl; omega, ⟨F', a2.fr s3 fun j hj e => hp' j hj e, fun j hj => by show rt ls.length (if j ∈ F' then Tag.nodes else σ j) = _; rw [if_pos hj]; rfl⟩, ((h.free.ch hFm (by simp)).ch hc2 (by simp)).rtg (k := ls.length), by simp [hnl], fun j hj => by show rt ls.length (if j ∈ F' then Tag.nodes else σ j) = _; rw [hfr1 j hj]; rfl, fun i N' hi hN' => ?_⟩
 by_cases hlt : i < ls.length
 ·rw [List.getElem?_append_left hlt] at hN'
  obtain ⟨g', k1, k2⟩ := h.nd i N' hi hN'
  exact ⟨g', by rw [List.getElem?_append_left (by omega)]; exact k1, fun f hf => (((k2 f hf).ch hFm (by simp)).ch hc2 (by simp)).rtg (k := ls.length)⟩
 ·have hi' : i = ls.length := by have := (List.getElem?_eq_some_iff.1 hN').1; simp at this; omega
  subst hi'
  rw [List.getElem?_append_right (Nat.le_refl _), Nat.sub_self] at hN'
  simp at hN'
  subst hN'
  refine ⟨g, by rw [List.getElem?_append_right (by omega), hnl, Nat.sub_self]; rfl, fun f hf => ?_⟩
  have := (((hN f hf).ch hFm (by simp)).ch hc2 (by simp)).rtg (k := ls.length)
  rwa [fld_rt hf] at this
theorem veqC_slice {q : Option Addr} {a c : Nat} : veqC (.slice q a c) (.slice q a c) = true := by rcases q with _ | ⟨b, o, _ | s⟩ <;> simp [veqC, veqA]
def addI (ls : List Nd) (fr : List Nat) : Nat := match fr.getLast? with | some k => k | none => ls.length
def addL (ls : List Nd) (fr : List Nat) (N : Nd) : List Nd := match fr.getLast? with | some k => ls.set k N | none => ls ++ [N]
theorem ld_row3 {q : Nat} {g : Nat → Value} (hg : m.get q = some { cells := row3 g, rw := true, spare := none, kin := [] }) : ldA m 3 (.pointer (some ⟨q, 0, none⟩)) = some (.val (.agg ⟨row3 g⟩) m) := by
 simp [ldA, xload, hg]
theorem bs3 {g : Nat → Value} (h2 : noTup (.agg ⟨row3 g⟩) = true) : buildSliceE m [.slice none 0 0, .slice none 0 0, .slice none 0 0] 3 1 [(0, .agg ⟨row3 g⟩)] = some (.val (.slice (some ⟨m.next, 0, none⟩) 1 1) (m.push { cells := row3 g, rw := true, spare := none, kin := [] })) := by kernel_rfl
theorem add_spec (h : TMH [] σ m p vl vf ns ls fr root n) {g : Nat → Value} {N : Nd} (hl : ls.length ≤ 1000000) (hfr : ∀ j ∈ fr, j < ls.length) (hfl : fr.length ≤ 1000000) (hN : ∀ f, f < 3 → Tg σ (.other f) m (g f) (N.fld f)) :
  ∃ m' σ' vl' vf' ns', Ca 61 [Pt p, .agg ⟨row3 g⟩] m (nv (addI ls fr)) m' ∧ TMH [] σ' m' p vl' vf' ns' (addL ls fr N) fr.dropLast root n ∧ Gr σ σ' m m' ∧ ∀ j, j < ls.length → j ≠ addI ls fr → ns'[j]? = ns[j]? := by
 have hgs : ∀ f, f < 3 → ∃ q c, g f = .slice q (N.fld f).length c := fun f hf => (hN f hf).slice
 have hnt : noTup (.agg ⟨row3 g⟩) = true := by
  obtain ⟨q0, c0, e0⟩ := hgs 0 (by omega)
  obtain ⟨q1, c1, e1⟩ := hgs 1 (by omega)
  obtain ⟨q2, c2, e2⟩ := hgs 2 (by omega)
  simp only [row3, e0, e1, e2]
  rfl
 have hvq : (veqC (g 0) (g 0) && (veqC (g 1) (g 1) && veqC (g 2) (g 2))) = true := by
  obtain ⟨q0, c0, e0⟩ := hgs 0 (by omega)
  obtain ⟨q1, c1, e1⟩ := hgs 1 (by omega)
  obtain ⟨q2, c2, e2⟩ := hgs 2 (by omega)
  rw [e0, e1, e2, veqC_slice, veqC_slice, veqC_slice]; rfl
 obtain ⟨m1, hm1⟩ : ∃ m1, m.push { cells := row3 g, rw := true, spare := none, kin := [] } = m1 := ⟨_, rfl⟩
 have f1 : Nx m m1 := hm1 ▸ .push
 have n1 : m1.next = m.next + 1 := by rw [← hm1]; simp
 have g1 : m1.get m.next = some { cells := row3 g, rw := true, spare := none, kin := [] } := by rw [← hm1, push_self]
 have h1 := h.nx f1
 have hl1 := ld_row3 g1
 obtain ⟨q, c, hvf⟩ := h1.free.slice
 rw [List.length_map] at hvf
 cases hfe : fr.getLast? with
 | some k =>
  have hfn : fr ≠ [] := fun e => by rw [e] at hfe; cases hfe
  have hpos : 0 < fr.length := List.length_pos_iff.2 hfn
  have hk : fr[fr.length - 1]? = some k := by rw [← List.getLast?_eq_getElem?]; exact hfe
  have hkl : k < ls.length := hfr k (List.mem_of_getElem? hk)
  obtain ⟨Nk, hNk⟩ : ∃ N, ls[k]? = some N := ⟨_, List.getElem?_eq_getElem hkl⟩
  obtain ⟨F, of1, of2⟩ := h1.free
  obtain ⟨vf', c1, c2⟩ := of1.to (k := fr.length - 1) (by rw [List.length_map]; omega)
  have hdl : (fr.map nv).take (fr.length - 1) = fr.dropLast.map nv := by rw [← List.map_take, List.dropLast_eq_take]
  rw [hdl] at c2
  obtain ⟨m2, s1, s2, s3⟩ := h1.setfree (σ' := σ) (m' := m1) Ch.refl ⟨F, c2, of2⟩
  obtain ⟨gk, t1, t2, t3⟩ := s2.take (i := k) (by simp) hNk
  obtain ⟨id, cp, m3, hvl, u1, u2, u3⟩ := t3.store3 (i := k) (g' := g) (by simp) t1 hnt
  have hnk : k < ns.length := (List.getElem?_eq_some_iff.1 t1).1
  have h3 : TMH [k] (fun j => rt k (σ j)) m3 p vl vf' (ns.set k g) ls fr.dropLast root n := u2.rtg
  have hT := h3.give1 (N := N) (g := g) hkl (List.getElem?_set_self hnk) fun f hf => by
   have := ((((hN f hf).nx f1).ch s3 (by simp)).ch u3 (by simp)).rtg (k := k)
   rwa [fld_rt hf] at this
  have hfr1 : ∀ j, m3.next ≤ j → σ j = .no := u2.fresh
  have hG : Gr σ (fun j => rt k (σ j)) m m3 := (Gr.nx f1).trans ((Gr.ch s3 rfl).trans ((Gr.ch u3 rfl).trans (.rtg hfr1)))
  have eI : addI ls fr = k := by unfold addI; rw [hfe]
  have eL : addL ls fr N = ls.set k N := by unfold addL; rw [hfe]
  rw [eI, eL]
  refine ⟨m3, _, vl, vf', ns.set k g, callX_of (call_go (F := _) rfl rfl fun Q hQ => ?_), hT, hG, fun j hj hne => List.getElem?_set_ne (Ne.symm hne)⟩
  have hbox : σ m.next = .no := h.fresh _ (Nat.le_refl _)
  have g2 := s3.fm.get (i := m.next) (by omega) (by rw [hbox]; simp) g1
  have hl2 := ld_row3 g2
  have ht1 := h1.get
  have ht2 := s2.get
  obtain ⟨ac, cc, oc, hv1, hv2, hv3⟩ := rd_at h1.free.rd (i := fr.length - 1) (x := nv k) (by rw [List.getElem?_map, hk]; rfl)
  rw [List.length_map] at hv1
  rw [hv1] at hvf
  cases hvf
  have e1 : (0 : Int) < (fr.length : Int) := by omega
  have w1 : IntKind.i64.wrap ((fr.length : Int) - 1) = ((fr.length - 1 : Nat) : Int) := by rw [wrap_i64 (by omega) (by omega)]; omega
  have hlt : fr.length - 1 < fr.length := by omega
  subst hv1 hvl
  simp only [symA, go_opsd, symB, X.put, X.look, Arg.ev, keepOf, restrict, evO, initEnv, cls, quiet, Nat.reduceEqDiff, ↓reduceIte, reduceCtorEq, goInt, eq_self, Nat.reducePow, Nat.reduceDiv, Nat.reduceMod, hm1, ht1, e1, w1, hlt, hv2, hv3, c1, s1, ht2, hl2, hkl, u1]
  exact ⟨hvq, hQ _ _ _ rfl ⟨rfl, rfl⟩⟩
 | none =>
  have hfn : fr = [] := List.getLast?_eq_none_iff.1 hfe
  have eI : addI ls fr = ls.length := by unfold addI; rw [hfe]
  have eL : addL ls fr N = ls ++ [N] := by unfold addL; rw [hfe]
  rw [eI, eL]
  obtain ⟨vl', m2, m3, σ', a1, a2, a3, a4, ⟨q', c', hv'⟩, q0, c0, hv0⟩ := h1.app (g := g) hl (fun f hf => (hN f hf).nx f1)
  subst hfn
  refine ⟨m3, σ', vl', vf, ns ++ [g], callX_of (call_go (F := _) rfl rfl fun Q hQ => ?_), a3, (Gr.nx f1).trans a4, fun j hj _ => List.getElem?_append_left (by rw [h.len]; exact hj)⟩
  obtain ⟨mp, hp⟩ : ∃ mp, m1.push { cells := row3 g, rw := true, spare := none, kin := [] } = mp := ⟨_, rfl⟩
  have b1 := bs3 (m := m1) (g := g) hnt
  rw [hp] at a1 b1
  have fp : Nx m1 mp := hp ▸ .push
  have ht1 := h1.get
  have htp := (h1.nx fp).get
  have ht3 := a3.get
  have gp := fp.get (by omega) (fun h => h) g1
  have hlp := ld_row3 gp
  have w1 : IntKind.i64.wrap (((ls.length + 1 : Nat) : Int) - 1) = (ls.length : Int) := by rw [wrap_i64 (by omega) (by omega)]; omega
  subst hvf hv' hv0
  simp only [List.length_nil] at ht1
  simp only [symA, go_opsd, symB, X.put, X.look, Arg.ev, keepOf, restrict, initEnv, noTup, cls, quiet, Nat.reduceEqDiff, ↓reduceIte, reduceCtorEq, goInt, eq_self, Int.reduceLT, Nat.reducePow, Nat.reduceDiv, Nat.reduceMod, hm1, ht1, hl1, b1, htp, hlp, a1, a2, ht3, w1]
  exact ⟨hvq, hQ _ _ _ rfl ⟨rfl, rfl⟩⟩
abbrev noNd : Nd := ⟨[], [], []⟩
def gnil : Nat → Value := fun _ => .slice none 0 0
theorem build3n {m : Mem} : buildE m [.slice none 0 0, .slice none 0 0, .slice none 0 0] [(0, 1), (1, 1), (2, 1)] [] = some (.val (.agg ⟨row3 gnil⟩) m) := by kernel_rfl
theorem drop_spec2 (h : TMH [] σ m p vl vf ns ls fr root n) {i : Nat} (hi : i < ls.length) (hfl : fr.length ≤ 99990) :
  ∃ m' σ' vf' ns', Ca 59 [Pt p, nv i] m (.tuple #[]) m' ∧ TMH [] σ' m' p vl vf' ns' (ls.set i noNd) (fr ++ [i]) root n ∧ Gr σ σ' m m' ∧ ∀ t v xs, t ≠ .nodes → t ≠ .free → t ≠ .top → Tg σ t m v xs → Tg σ' t m' v xs := by
 obtain ⟨Ni, hNi⟩ : ∃ N, ls[i]? = some N := ⟨_, List.getElem?_eq_getElem hi⟩
 obtain ⟨g, t1, t2, t3⟩ := h.take (i := i) (by simp) hNi
 obtain ⟨id, cp, m1, hvl, u1, u2, u3⟩ := t3.store3 (i := i) (g' := gnil) (by simp) t1 rfl
 have hni : i < ns.length := (List.getElem?_eq_some_iff.1 t1).1
 have h1 : TMH [] σ m1 p vl vf (ns.set i gnil) (ls.set i noNd) fr root n := u2.give1 (N := noNd) (g := gnil) hi (List.getElem?_set_self hni) fun f hf => by
  have : (noNd : Nd).fld f = [] := by match f with | 0 => rfl | 1 => rfl | _ + 2 => rfl
  rw [this]; exact Tg.nil
 obtain ⟨m2, hm2⟩ : ∃ m2, m1.push { cells := [nv i], rw := true, spare := none, kin := [] } = m2 := ⟨_, rfl⟩
 have f2 : Nx m1 m2 := hm2 ▸ .push
 have h2 := h1.nx f2
 obtain ⟨F, of1, of2⟩ := h2.free
 have ho : OwnX [m1.next] m2 (.slice (some ⟨m1.next, 0, none⟩) 1 1) [nv i] := hm2 ▸ own_one
 obtain ⟨vf', m3, F', a1, a2, a3, a4, a5⟩ := of1.append (bytes := 8) (zero := I 0) (ys := [nv i]) ho.rd (by rw [List.length_map]; simp; omega) (by omega)
 have eF : fr.map nv ++ [nv i] = (fr ++ [i]).map nv := by simp
 rw [eF] at a2
 obtain ⟨σ', k1, k2⟩ := tag_of (σ := σ) (t := .free) of2 a2 a3 a5 of1.lt
 obtain ⟨m4, s1, s2, s3⟩ := h2.setfree k2 k1
 refine ⟨m4, σ', vf', _, callX_of (call_go (F := _) rfl rfl fun Q hQ => ?_), s2, (Gr.ch u3 rfl).trans ((Gr.nx f2).trans ((Gr.ch k2 rfl).trans (Gr.ch s3 rfl))), fun t v xs z1 z2 z3 z => ((((z.ch u3 z1).nx f2).ch k2 z2).ch s3 z3)⟩
 have b1 := bone73 (m := m1) (x := (i : Int))
 rw [hm2] at b1
 have ht := h.get
 have ht1 := h1.get
 subst hvl
 simp only [symA, symB, X.put, X.look, Arg.ev, keepOf, restrict, initEnv, noTup, Nat.reduceEqDiff, ↓reduceIte, reduceCtorEq, eq_self, ht, build3n, hi, u1, ht1, b1, a1, s1]
 exact hQ _ _ _ rfl ⟨rfl, rfl⟩
theorem drop_spec (h : TMH [] σ m p vl vf ns ls fr root n) {i : Nat} (hi : i < ls.length) (hfl : fr.length ≤ 99990) :
  ∃ m' σ' vf' ns', Ca 59 [Pt p, nv i] m (.tuple #[]) m' ∧ TMH [] σ' m' p vl vf' ns' (ls.set i noNd) (fr ++ [i]) root n ∧ Gr σ σ' m m' := by
 obtain ⟨m', σ', vf', ns', h1, h2, h3, _⟩ := drop_spec2 h hi hfl
 exact ⟨m', σ', vf', ns', h1, h2, h3⟩
end
end Go.Proofs.Ytnlmnejellipdaa
