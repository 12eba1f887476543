/-
  Own work. What merged writes come to, key by key: no program in sight. Merged: each key has mine's value where mine did something, else theirs'; without clashes it is the same both ways. No program in sight. Merged writes may be done: no program in sight. Clashes compared.
-/
import Derived.Test.YtlldfkapaeidoaaEB
namespace Go.Proofs.Ytlldfkapaeidoaa
open Go X
set_option maxRecDepth 100000
set_option linter.unusedVariables false
set_option linter.unusedSimpArgs false

theorem sortW_one {w : List Wr} (hw : SortW w) {y z : Wr} (hy : y ∈ w) (hz : z ∈ w) (h : y.key = z.key) : y = z := by
  obtain ⟨i, hi⟩ := List.mem_iff_getElem?.1 hy
  obtain ⟨j, hj⟩ := List.mem_iff_getElem?.1 hz
  obtain ⟨h1, e1⟩ := List.getElem?_eq_some_iff.1 hi
  obtain ⟨h2, e2⟩ := List.getElem?_eq_some_iff.1 hj
  have hp := List.pairwise_iff_getElem.1 hw
  rcases Nat.lt_trichotomy i j with q | q | q
  · have := hp i j h1 h2 q
    rw [e1, e2, h] at this
    exact absurd this (ltT_irrefl _)
  · subst q
    rw [hi] at hj
    exact Option.some.inj hj
  · have := hp j i h2 h1 q
    rw [e1, e2, h] at this
    exact absurd this (ltT_irrefl _)
theorem fold_hit {s : Int} {l : List Ent} {w : List Wr} (hs : SortE l) (hw : SortW w) {y : Wr} (hy : y ∈ w) : lookE y.key (w.foldl (apply1 s) l) = if y.gone = true then none else some (y.ent s) := by
  by_cases hg : y.gone = true
  · rw [if_pos hg]
    refine lookE_none fun x hx e => ?_
    rcases (fold_mem hw).1 hx with ⟨_, h2⟩ | ⟨z, h1, h2, rfl⟩
    · exact h2 y hy e
    · have := sortW_one hw h1 hy e
      subst this
      rw [hg] at h2
      cases h2
  · rw [if_neg hg]
    exact (lookE_iff (fold_sorted hs)).2 ⟨(fold_mem hw).2 (.inr ⟨y, hy, by simpa using hg, rfl⟩), rfl⟩
theorem fold_miss {s : Int} {l : List Ent} {w : List Wr} (hs : SortE l) (hw : SortW w) {k : ByteArray} (h : ∀ y ∈ w, y.key ≠ k) : lookE k (w.foldl (apply1 s) l) = lookE k l := by
  cases hl : lookE k l with
  | some x =>
    obtain ⟨q1, q2⟩ := lookE_key hl
    exact (lookE_iff (fold_sorted hs)).2 ⟨(fold_mem hw).2 (.inl ⟨q2, fun y hy e => h y hy (by rw [← e, q1])⟩), q1⟩
  | none =>
    refine lookE_none fun x hx e => ?_
    rcases (fold_mem hw).1 hx with ⟨h1, _⟩ | ⟨z, h1, _, rfl⟩
    · have := (lookE_iff hs).2 ⟨h1, e⟩
      rw [hl] at this
      cases this
    · exact h z h1 e

section
variable {s : Int} {vs ws us : List Ent}
theorem keyL_spec (hs : SortE vs) (hs' : SortE ws) (hs'' : SortE us) : SortK (keyL vs ws us) ∧ ∀ k, k ∈ keyL vs ws us ↔ k ∈ keysE vs ∨ k ∈ keysE ws ∨ k ∈ keysE us := by
  obtain ⟨k1, k2⟩ := mrg_sorted [] vs .nil hs
  obtain ⟨k3, k4⟩ := mrg_sorted (mrg [] vs) ws k1 hs'
  obtain ⟨k5, k6⟩ := mrg_sorted (mrg (mrg [] vs) ws) us k3 hs''
  refine ⟨k5, fun k => ?_⟩
  unfold keyL
  rw [k6, k4, k2]
  simp [or_assoc]
theorem mW_some {a c : Option Wr} {w : Wr} : mW a c = some w ↔ a = some w ∧ c ≠ some w := by
  cases a with
  | none => simp [mW]
  | some x =>
    by_cases h : c = some x
    · simp only [mW, h, if_true]
      constructor
      · intro q; cases q
      · rintro ⟨q1, q2⟩; cases q1; exact absurd rfl q2
    · simp only [mW, h, if_false]
      constructor
      · intro q; cases q; exact ⟨rfl, h⟩
      · rintro ⟨q1, _⟩; exact q1
theorem mergeW_mem (hs : SortE vs) (hs' : SortE ws) (hs'' : SortE us) {w : Wr} : w ∈ mergeW vs ws us ↔ turnE w.key vs ws = some w ∧ turnE w.key vs us ≠ some w := by
  unfold mergeW
  rw [List.mem_filterMap]
  constructor
  · rintro ⟨k, hk, h⟩
    obtain ⟨h1, h2⟩ := mW_some.1 h
    have := (turn_key h1).1
    rw [this]; exact ⟨h1, h2⟩
  · rintro ⟨h1, h2⟩
    refine ⟨w.key, ?_, mW_some.2 ⟨h1, h2⟩⟩
    rw [(keyL_spec hs hs' hs'').2]
    rcases (turn_key h1).2 with ⟨x, hx, e⟩ | ⟨x, hx, e⟩
    · exact .inl (List.mem_map.2 ⟨x, hx, e⟩)
    · exact .inr (.inl (List.mem_map.2 ⟨x, hx, e⟩))
theorem mergeW_sorted (hs : SortE vs) (hs' : SortE ws) (hs'' : SortE us) : SortW (mergeW vs ws us) := by
  unfold mergeW
  refine List.pairwise_filterMap.2 ((keyL_spec hs hs' hs'').1.imp fun {a a'} hab b hb b' hb' => ?_)
  rw [(turn_key (mW_some.1 hb).1).1, (turn_key (mW_some.1 hb').1).1]
  exact hab
def outE (s : Int) (vs ws us : List Ent) : List Ent := (mergeW vs ws us).foldl (apply1 s) us
theorem outE_sorted (hs'' : SortE us) : SortE (outE s vs ws us) := fold_sorted hs''
theorem outE_eq (hs : SortE vs) (hs' : SortE ws) (hs'' : SortE us) : mergeE s us (mergeW vs ws us) = outE s vs ws us := (fold_merge s us _ hs'' (mergeW_sorted hs hs' hs'')).symm
theorem outE_look (hs : SortE vs) (hs' : SortE ws) (hs'' : SortE us) (k : ByteArray) :
    lookE k (outE s vs ws us) = match mW (turnE k vs ws) (turnE k vs us) with | some w => if w.gone = true then none else some (w.ent s) | none => lookE k us := by
  cases h : mW (turnE k vs ws) (turnE k vs us) with
  | some w =>
    obtain ⟨h1, h2⟩ := mW_some.1 h
    have hk := (turn_key h1).1
    subst hk
    exact fold_hit hs'' (mergeW_sorted hs hs' hs'') ((mergeW_mem hs hs' hs'').2 ⟨h1, h2⟩)
  | none =>
    refine fold_miss hs'' (mergeW_sorted hs hs' hs'') fun y hy e => ?_
    subst e
    have := mW_some.2 ((mergeW_mem hs hs' hs'').1 hy)
    rw [h] at this
    cases this
end
end Go.Proofs.Ytlldfkapaeidoaa

namespace Go.Proofs.Ytlldfkapaeidoaa
open Go X
set_option maxRecDepth 100000
set_option linter.unusedVariables false
set_option linter.unusedSimpArgs false

theorem sameV_iff {x y : Ent} : sameV x y = true ↔ x.num = y.num ∧ x.text = y.text ∧ x.bits = y.bits := by
  simp [sameV, and_assoc]
/-- The same value, or none. -/
def SameO (o o' : Option Ent) : Prop := o.isSome = o'.isSome ∧ sameV (o.getD zeroE) (o'.getD zeroE) = true
theorem SameO.refl {o : Option Ent} : SameO o o := ⟨rfl, sameV_self⟩
theorem SameO.symm {o o' : Option Ent} (h : SameO o o') : SameO o' o := by
  refine ⟨h.1.symm, ?_⟩
  rw [sameV_iff]
  obtain ⟨h1, h2, h3⟩ := sameV_iff.1 h.2
  exact ⟨h1.symm, h2.symm, h3.symm⟩
theorem SameO.trans {a b c : Option Ent} (h : SameO a b) (h' : SameO b c) : SameO a c := by
  refine ⟨h.1.trans h'.1, ?_⟩
  rw [sameV_iff]
  obtain ⟨h1, h2, h3⟩ := sameV_iff.1 h.2
  obtain ⟨k1, k2, k3⟩ := sameV_iff.1 h'.2
  exact ⟨h1.trans k1, h2.trans k2, h3.trans k3⟩
theorem turn_none {k : ByteArray} {vs ws : List Ent} (h : turnE k vs ws = none) : SameO (lookE k vs) (lookE k ws) := by
  unfold turnE turnB at h
  cases h1 : lookE k vs with
  | none => cases h2 : lookE k ws with
    | none => exact .refl
    | some y => simp [h1, h2] at h
  | some x => cases h2 : lookE k ws with
    | none => simp [h1, h2] at h
    | some y =>
      refine ⟨rfl, ?_⟩
      cases hsv : sameV x y with
      | true => simpa using hsv
      | false => simp [h1, h2, hsv] at h
theorem turn_some {k : ByteArray} {vs ws : List Ent} {w : Wr} (h : turnE k vs ws = some w) : (w.gone = true ∧ lookE k ws = none) ∨ ∃ y, lookE k ws = some y ∧ w = ⟨k, false, y.num, y.text, y.bits⟩ := by
  unfold turnE turnB at h
  cases h2 : lookE k ws with
  | none =>
    cases h1 : lookE k vs with
    | none => simp [h1, h2] at h
    | some x => simp [h1, h2] at h; exact .inl ⟨by rw [← h], rfl⟩
  | some y =>
    refine .inr ⟨y, rfl, ?_⟩
    cases h1 : lookE k vs with
    | none => simp [h1, h2] at h; exact h.symm
    | some x => simp [h1, h2] at h; exact h.2.symm
theorem turn_two {k : ByteArray} {vs ws us : List Ent} {w : Wr} (h : turnE k vs ws = some w) (h' : turnE k vs us = some w) : SameO (lookE k ws) (lookE k us) := by
  rcases turn_some h with ⟨h1, h2⟩ | ⟨y, h1, h2⟩
  · rcases turn_some h' with ⟨k1, k2⟩ | ⟨z, k1, k2⟩
    · rw [h2, k2]; exact .refl
    · rw [k2] at h1; cases h1
  · rcases turn_some h' with ⟨k1, k2⟩ | ⟨z, k1, k2⟩
    · rw [h2] at k1; cases k1
    · rw [h1, k1]
      refine ⟨rfl, ?_⟩
      rw [h2] at k2
      simp only [Wr.mk.injEq, true_and] at k2
      simpa [sameV_iff] using k2
section
variable {s : Int} {vs ws us : List Ent}
theorem outE_did (hs : SortE vs) (hs' : SortE ws) (hs'' : SortE us) {k : ByteArray} {a : Wr} (h : turnE k vs ws = some a) : SameO (lookE k (outE s vs ws us)) (lookE k ws) := by
  rw [outE_look hs hs' hs'' k]
  cases hm : mW (turnE k vs ws) (turnE k vs us) with
  | some w =>
    obtain ⟨h1, _⟩ := mW_some.1 hm
    rw [h] at h1
    cases h1
    simp only
    rcases turn_some h with ⟨h1, h2⟩ | ⟨y, h1, h2⟩
    · rw [if_pos h1, h2]; exact .refl
    · rw [h1, h2]
      refine ⟨rfl, ?_⟩
      simp [sameV, Wr.ent]
  | none =>
    simp only
    have hc : turnE k vs us = some a := by
      refine Classical.byContradiction fun hne => ?_
      have := mW_some.2 ⟨h, hne⟩
      rw [hm] at this
      cases this
    exact (turn_two h hc).symm
theorem outE_not (hs : SortE vs) (hs' : SortE ws) (hs'' : SortE us) {k : ByteArray} (h : turnE k vs ws = none) : lookE k (outE s vs ws us) = lookE k us := by
  rw [outE_look hs hs' hs'' k, h]
  rfl
theorem alike_of_look {a b : List Ent} (hs : SortE a) (hs' : SortE b) (h : ∀ k, SameO (lookE k a) (lookE k b)) : Alike a b := by
  have hk : keysE a = keysE b := by
    refine sorted_ext (List.pairwise_map.2 hs) (List.pairwise_map.2 hs') fun k => ?_
    have key : ∀ {l : List Ent}, SortE l → (k ∈ keysE l ↔ (lookE k l).isSome = true) := fun {l} hl => by
      constructor
      · intro hm
        obtain ⟨x, hx, e⟩ := List.mem_map.1 hm
        rw [(lookE_iff hl).2 ⟨hx, e⟩]; rfl
      · intro hm
        cases hq : lookE k l with
        | none => rw [hq] at hm; cases hm
        | some x =>
          obtain ⟨q1, q2⟩ := lookE_key hq
          exact List.mem_map.2 ⟨x, q2, q1⟩
    rw [key hs, key hs', (h k).1]
  have hlen : a.length = b.length := by
    have := congrArg List.length hk
    simpa using this
  refine ⟨hlen, fun i x y hx hy => ?_⟩
  have e : x.key = y.key := by
    have := congrArg (fun l => l[i]?) hk
    simp only [List.getElem?_map, hx, hy, Option.map_some, Option.some.injEq] at this
    exact this
  have l1 := (lookE_iff hs).2 ⟨List.mem_of_getElem? hx, rfl⟩
  have l2 := (lookE_iff hs').2 ⟨List.mem_of_getElem? hy, e.symm⟩
  have := (h x.key).2
  rw [l1, l2] at this
  exact ⟨e, by simpa using this⟩
theorem mC_some {k : ByteArray} {a c : Option Wr} : (mC k a c).isSome = true ↔ ∃ x y, a = some x ∧ c = some y ∧ x ≠ y := by
  cases a with
  | none => simp [mC]
  | some x => cases c with
    | none => simp [mC]
    | some y => by_cases h : x = y <;> simp [mC, h]
theorem keyL_comm (hs : SortE vs) (hs' : SortE ws) (hs'' : SortE us) : keyL vs us ws = keyL vs ws us := by
  obtain ⟨k1, k2⟩ := keyL_spec hs hs' hs''
  obtain ⟨k3, k4⟩ := keyL_spec hs hs'' hs'
  refine sorted_ext k3 k1 fun k => ?_
  rw [k2, k4]
  constructor
  · rintro (h | h | h); exact .inl h; exact .inr (.inr h); exact .inr (.inl h)
  · rintro (h | h | h); exact .inl h; exact .inr (.inr h); exact .inr (.inl h)
theorem mergeC_length (hs : SortE vs) (hs' : SortE ws) (hs'' : SortE us) : (mergeC vs us ws).length = (mergeC vs ws us).length := by
  unfold mergeC
  rw [keyL_comm hs hs' hs'', List.length_filterMap_eq_countP, List.length_filterMap_eq_countP]
  congr 1
  funext k
  rw [Bool.eq_iff_iff, mC_some, mC_some]
  constructor
  · rintro ⟨x, y, h1, h2, h3⟩; exact ⟨y, x, h2, h1, Ne.symm h3⟩
  · rintro ⟨x, y, h1, h2, h3⟩; exact ⟨y, x, h2, h1, Ne.symm h3⟩
theorem no_clash (hs : SortE vs) (hs' : SortE ws) (hs'' : SortE us) (h : mergeC vs ws us = []) {k : ByteArray} {x y : Wr} (h1 : turnE k vs ws = some x) (h2 : turnE k vs us = some y) : x = y := by
  refine Classical.byContradiction fun hne => ?_
  have hk : k ∈ keyL vs ws us := by
    rw [(keyL_spec hs hs' hs'').2]
    rcases (turn_key h1).2 with ⟨z, hz, e⟩ | ⟨z, hz, e⟩
    · exact .inl (List.mem_map.2 ⟨z, hz, e⟩)
    · exact .inr (.inl (List.mem_map.2 ⟨z, hz, e⟩))
  have hm : (mC k (turnE k vs ws) (turnE k vs us)).isSome = true := mC_some.2 ⟨x, y, h1, h2, hne⟩
  cases hc : mC k (turnE k vs ws) (turnE k vs us) with
  | none => rw [hc] at hm; cases hm
  | some c =>
    have : c ∈ mergeC vs ws us := by
      unfold mergeC
      exact List.mem_filterMap.2 ⟨k, hk, hc⟩
    rw [h] at this
    cases this
theorem out_back (hs : SortE vs) (hs' : SortE ws) (hs'' : SortE us) (h : mergeC vs ws us = []) : Alike (outE s vs ws us) (outE s vs us ws) := by
  refine alike_of_look (outE_sorted hs'') (outE_sorted hs') fun k => ?_
  cases h1 : turnE k vs ws with
  | some x =>
    have e1 := outE_did (s := s) hs hs' hs'' h1
    cases h2 : turnE k vs us with
    | some y =>
      have := no_clash hs hs' hs'' h h1 h2
      subst this
      exact (e1.trans (turn_two h1 h2)).trans (outE_did hs hs'' hs' h2).symm
    | none =>
      rw [outE_not (s := s) hs hs'' hs' h2]
      exact e1
  | none =>
    rw [outE_not (s := s) hs hs' hs'' h1]
    cases h2 : turnE k vs us with
    | some y => exact (outE_did hs hs'' hs' h2).symm
    | none =>
      rw [outE_not (s := s) hs hs'' hs' h2]
      exact (turn_none h2).symm.trans (turn_none h1)
end
end Go.Proofs.Ytlldfkapaeidoaa

namespace Go.Proofs.Ytlldfkapaeidoaa
open Go X
set_option maxRecDepth 100000
set_option linter.unusedVariables false
set_option linter.unusedSimpArgs false

theorem okW_right : ∀ {l : List Wr} {k : Option ByteArray}, okW k l = true → ∀ x ∈ l, rightW x = true
  | [], k, _, x, hx => by cases hx
  | y :: l, k, h, x, hx => by
    simp only [okW, Bool.and_eq_true] at h
    rcases List.mem_cons.1 hx with rfl | hx
    · exact h.1.1
    · exact okW_right h.2 x hx
section
variable {s : Int} {vs ws us : List Ent}
theorem mergeW_right (h : okE none vs = true) (h' : okE none ws = true) (h'' : okE none us = true) : okW none (mergeW vs ws us) = true := by
  have hs := (okE_srt h).1
  have hs' := (okE_srt h').1
  have hs'' := (okE_srt h'').1
  refine okW_of (mergeW_sorted hs hs' hs'') (fun w hw => ?_) (fun a ha => by cases ha)
  exact okW_right (docW_right h h') w ((docW_mem hs hs').2 ((mergeW_mem hs hs' hs'').1 hw).1)
theorem turn_wf {k : ByteArray} {w : Wr} (hw : ∀ x ∈ ws, x.Wf) (h : turnE k vs ws = some w) : w.Wf := by
  unfold turnE turnB at h
  cases h2 : lookE k ws with
  | none =>
    cases h1 : lookE k vs with
    | none => simp [h1, h2] at h
    | some x => simp [h1, h2] at h; rw [← h]; exact ⟨by show (0 : Nat) < _; omega⟩
  | some y =>
    obtain ⟨_, q2⟩ := lookE_key h2
    have hb := (hw y q2).bits
    cases h1 : lookE k vs with
    | none => simp [h1, h2] at h; rw [← h]; exact ⟨hb⟩
    | some x => simp [h1, h2] at h; rw [← h.2]; exact ⟨hb⟩
theorem docW_wf (hs : SortE vs) (hs' : SortE ws) (hw : ∀ x ∈ ws, x.Wf) : ∀ w ∈ docW vs ws, w.Wf := fun w hm => turn_wf hw ((docW_mem hs hs').1 hm)
theorem mergeW_wf (hs : SortE vs) (hs' : SortE ws) (hs'' : SortE us) (hw : ∀ x ∈ ws, x.Wf) : ∀ w ∈ mergeW vs ws us, w.Wf := fun w hm => turn_wf hw ((mergeW_mem hs hs' hs'').1 hm).1
theorem docW_len (hl : vs.length ≤ 60) (hl' : ws.length ≤ 60) : (docW vs ws).length ≤ 120 := by
  have h1 := mrg_length [] vs
  have h2 := mrg_length (mrg [] vs) ws
  have h3 := List.length_filterMap_le (fun k => turnE k vs ws) (mrg (mrg [] vs) ws)
  unfold docW
  simp at h1
  omega
theorem keyL_len (hl : vs.length ≤ 60) (hl' : ws.length ≤ 60) (hl'' : us.length ≤ 60) : (keyL vs ws us).length ≤ 180 := by
  have h1 := mrg_length [] vs
  have h2 := mrg_length (mrg [] vs) ws
  have h3 := mrg_length (mrg (mrg [] vs) ws) us
  unfold keyL
  simp at h1
  omega
theorem mergeW_len (hl : vs.length ≤ 60) (hl' : ws.length ≤ 60) (hl'' : us.length ≤ 60) : (mergeW vs ws us).length ≤ 180 := by
  have h1 := keyL_len hl hl' hl''
  have h2 := List.length_filterMap_le (fun k => mW (turnE k vs ws) (turnE k vs us)) (keyL vs ws us)
  unfold mergeW
  omega
end
end Go.Proofs.Ytlldfkapaeidoaa

namespace Go.Proofs.Ytlldfkapaeidoaa
open Go X
set_option maxRecDepth 100000
attribute [local irreducible] X.Go' X.GoO X.GoR X.GoG X.GoC X.GoF X.GoFV X.GoFG X.Ex X.GoD X.GoDV X.GoDG
set_option linter.unusedVariables false
set_option linter.unusedSimpArgs false

theorem eq_rowWd {d : Nat} {v w : Wr} : ∀ {fs : Array Field}, Try.prog.underlying 36 = some (.struct fs) → eqFs Try.prog (d + 2) ⟨v.row⟩ ⟨w.row⟩ fs.toList = some (sameW v w) := by
  intro fs hu
  rw [Try.underlying36] at hu
  cases hu
  have p1 : ∀ u : Wr, ans Try.prog (Go.part 9 (⟨u.row⟩ : Array Value) 0) = some (.string u.key) := fun u => by kernel_rfl
  have p2 : ∀ u : Wr, ans Try.prog (Go.part 4 (⟨u.row⟩ : Array Value) 1) = some (.bool u.gone) := fun u => by kernel_rfl
  have p3 : ∀ u : Wr, ans Try.prog (Go.part 34 (⟨u.row⟩ : Array Value) 2) = some (.agg ⟨valL u.num u.text u.bits⟩) := fun u => by kernel_rfl
  have q1 : ans Try.prog (Op.equalIn (d + 2) 9 (.string v.key) (.string w.key)) = some (decide (v.key = w.key)) := ans_equal_text (d := d + 1) Try.underlying9
  have q2 : ans Try.prog (Op.equalIn (d + 2) 4 (.bool v.gone) (.bool w.gone)) = some (v.gone == w.gone) := ans_equal_bool (d := d + 1) Try.underlying4
  have q3 : ans Try.prog (Op.equalIn (d + 2) 34 (.agg ⟨valL v.num v.text v.bits⟩) (.agg ⟨valL w.num w.text w.bits⟩)) = some (decide (v.num = w.num) && decide (v.text = w.text) && decide ((v.bits : Int) = w.bits)) := ans_equal_struct (d := d + 1) Try.underlying34 (by kernel_rfl) (eq_val (d := d) Try.underlying34)
  simp only [eqFs, p1, p2, p3, q1, q2, q3, Option.bind_some, sameW]
  have h3 : decide ((v.bits : Int) = w.bits) = decide (v.bits = w.bits) := decide_eq_decide.2 (by omega)
  rw [h3]
  generalize (decide (v.num = w.num) && decide (v.text = w.text) && decide (v.bits = w.bits)) = c
  by_cases h1 : v.key = w.key <;> by_cases h2 : v.gone = w.gone <;> cases c <;> simp [h1, h2]
def sameC (v w : Cl) : Bool := decide (v.key = w.key) && sameW v.a w.a && sameW v.b w.b
theorem sameC_self {v : Cl} : sameC v v = true := by
  have h1 : sameW v.a v.a = true := sameW_iff.2 rfl
  have h2 : sameW v.b v.b = true := sameW_iff.2 rfl
  simp [sameC, h1, h2]
theorem eq_rowC {v w : Cl} : ∀ {fs : Array Field}, Try.prog.underlying 50 = some (.struct fs) → eqFs Try.prog 9999 ⟨v.row⟩ ⟨w.row⟩ fs.toList = some (sameC v w) := by
  intro fs hu
  rw [Try.underlying50] at hu
  cases hu
  have p1 : ∀ u : Cl, ans Try.prog (Go.part 9 (⟨u.row⟩ : Array Value) 0) = some (.string u.key) := fun u => by kernel_rfl
  have p2 : ∀ u : Cl, ans Try.prog (Go.part 36 (⟨u.row⟩ : Array Value) 1) = some (.agg ⟨u.a.row⟩) := fun u => by kernel_rfl
  have p3 : ∀ u : Cl, ans Try.prog (Go.part 36 (⟨u.row⟩ : Array Value) 6) = some (.agg ⟨u.b.row⟩) := fun u => by kernel_rfl
  have q1 : ans Try.prog (Op.equalIn 9999 9 (.string v.key) (.string w.key)) = some (decide (v.key = w.key)) := ans_equal_text (d := 9998) Try.underlying9
  have q2 : ∀ x y : Wr, ans Try.prog (Op.equalIn 9999 36 (.agg ⟨x.row⟩) (.agg ⟨y.row⟩)) = some (sameW x y) := fun x y => ans_equal_struct (d := 9998) Try.underlying36 (by kernel_rfl) (eq_rowWd (d := 9996) Try.underlying36)
  simp only [eqFs, p1, p2, p3, q1, q2, Option.bind_some, sameC]
  generalize sameW v.a w.a = c
  generalize sameW v.b w.b = c'
  by_cases h1 : v.key = w.key <;> cases c <;> cases c' <;> simp [h1]
theorem ne50 {m : Mem} {v w : Cl} : binE Try.prog .neq 50 (.agg ⟨v.row⟩) (.agg ⟨w.row⟩) m = some (.val (.bool (!sameC v w)) m) :=
  bin_aneq Try.underlying50 (by kernel_rfl) (by kernel_rfl) rfl rfl (eq_rowC Try.underlying50)
theorem clash_at {b : Nat} {m : Mem} {v : Value} {cs : List Cl} (h : RdC b m v cs) {i : Nat} {x : Cl} (hi : cs[i]? = some x) : ∃ a c, v = .slice (some a) cs.length c ∧ ldA m 11 (.pointer (some ⟨a.block, a.off + i * 11, none⟩)) = some (.val (.agg ⟨x.row⟩) m) := by
  obtain ⟨p, c, rfl, hc, h⟩ := h
  obtain ⟨h1, a, o, rfl, h3, h4, h5⟩ := h i x.row (by simp [hi])
  refine ⟨a, c, by simp, ?_⟩
  have := xload_cells (m := m) (b := a.block) (off := a.off + i * 11) (n := 11) (r := x.row) h4 rfl (by omega) h5
  simp [ldA, this]
end Go.Proofs.Ytlldfkapaeidoaa
