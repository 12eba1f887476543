/-
  Own work. The walk through the tree, plain: what is met, with other keys coming and going between.
-/
import Derived.Test.YtecceimgpeookaaS8
namespace Go.Proofs.Ytecceimgpeookaa
open Go X
set_option maxRecDepth 100000
set_option linter.unusedVariables false
set_option linter.unusedSimpArgs false

section
variable {es : List Ent} {k s key : Key} {n : Int}
abbrev keysOf (es : List Ent) : List Key := es.map (·.1)
theorem mem_putE : s ∈ keysOf (putE k n es) ↔ s = k ∨ s ∈ keysOf es := by
  unfold putE keysOf
  simp only [List.map_append, List.map_cons, List.mem_append, List.mem_cons, List.mem_map, List.mem_filter, decide_eq_true_eq]
  constructor
  · rintro (⟨x, ⟨h1, _⟩, rfl⟩ | rfl | ⟨x, ⟨h1, _⟩, rfl⟩)
    · exact .inr ⟨x, h1, rfl⟩
    · exact .inl rfl
    · exact .inr ⟨x, h1, rfl⟩
  · rintro (rfl | ⟨x, h1, rfl⟩)
    · exact .inr (.inl rfl)
    · by_cases h : ltT x.1 k
      · exact .inl ⟨x, ⟨h1, h⟩, rfl⟩
      · rcases ltT_total h with q | q
        · exact .inr (.inl q)
        · exact .inr (.inr ⟨x, ⟨h1, q⟩, rfl⟩)
theorem mem_delE : s ∈ keysOf (delE k es) ↔ s ≠ k ∧ s ∈ keysOf es := by
  unfold delE keysOf
  simp only [List.map_append, List.mem_append, List.mem_map, List.mem_filter, decide_eq_true_eq]
  constructor
  · rintro (⟨x, ⟨h1, h2⟩, rfl⟩ | ⟨x, ⟨h1, h2⟩, rfl⟩)
    · exact ⟨ltT_ne h2, x, h1, rfl⟩
    · exact ⟨(ltT_ne h2).symm, x, h1, rfl⟩
  · rintro ⟨h0, x, h1, rfl⟩
    by_cases h : ltT x.1 k
    · exact .inl ⟨x, ⟨h1, h⟩, rfl⟩
    · rcases ltT_total h with q | q
      · exact absurd q h0
      · exact .inr ⟨x, ⟨h1, q⟩, rfl⟩
/-- The first one above. -/
theorem fst_some (hs : SortE es) : ∀ e, fstE true key es = some e → ltT key e.1 ∧ e.1 ∈ keysOf es := fun e he => by
  unfold fstE at he
  have h1 := List.find?_some he
  have h2 := List.mem_of_find?_eq_some he
  simp only [Bool.not_true, Bool.false_and, Bool.or_false, decide_eq_true_eq] at h1
  exact ⟨h1, List.mem_map.2 ⟨e, h2, rfl⟩⟩
theorem fst_min (hs : SortE es) (hm : s ∈ keysOf es) (hk : ltT key s) : ∃ e, fstE true key es = some e ∧ (e.1 = s ∨ ltT e.1 s) := by
  induction es with
  | nil => cases hm
  | cons y es ih =>
    obtain ⟨h1, h2⟩ := List.pairwise_cons.1 hs
    by_cases hy : ltT key y.1
    · refine ⟨y, by simp [fstE, hy], ?_⟩
      rcases List.mem_cons.1 hm with e | e
      · exact .inl e.symm
      · obtain ⟨x, hx, rfl⟩ := List.mem_map.1 e
        exact .inr (h1 x hx)
    · have hne : s ≠ y.1 := fun e => hy (e ▸ hk)
      obtain ⟨e, q1, q2⟩ := ih h2 ((List.mem_cons.1 hm).resolve_left hne)
      refine ⟨e, ?_, q2⟩
      rw [← q1]
      simp [fstE, hy]
end
theorem ltT_empty {k : Key} : ¬ ltT k ByteArray.empty := fun h => by
  unfold ltT at h
  have e : ByteArray.empty.toList = [] := by first | rfl | kernel_rfl
  rw [e] at h
  cases hk : k.toList with
  | nil => rw [hk] at h; cases h
  | cons a l => rw [hk] at h; cases h
section
variable {M S U : List Key}
abbrev RiseK (l : List Key) : Prop := l.Pairwise ltT
theorem rise_nodup (h : RiseK M) : M.Nodup := h.imp fun q => ltT_ne q
/-- What rises and is among what rises is part of it, in order. -/
theorem rise_sub : ∀ {M S : List Key}, RiseK M → RiseK S → (∀ s ∈ S, s ∈ M) → S.Sublist M
  | [], S, _, _, h => by
    cases S with
    | nil => exact .slnil
    | cons s S => exact absurd (h s (by simp)) (by simp)
  | y :: M, [], _, _, _ => List.nil_sublist _
  | y :: M, s :: S, hM, hS, h => by
    obtain ⟨m1, m2⟩ := List.pairwise_cons.1 hM
    obtain ⟨s1, s2⟩ := List.pairwise_cons.1 hS
    by_cases e : s = y
    · subst e
      refine .cons_cons _ (rise_sub m2 s2 fun t ht => ?_)
      rcases List.mem_cons.1 (h t (by simp [ht])) with q | q
      · exact absurd q.symm (ltT_ne (s1 t ht))
      · exact q
    · have hsm : s ∈ M := (List.mem_cons.1 (h s (by simp))).resolve_left e
      refine .cons _ (rise_sub m2 hS fun t ht => ?_)
      rcases List.mem_cons.1 (h t ht) with q | q
      · subst q
        rcases List.mem_cons.1 ht with q | q
        · exact absurd q.symm e
        · exact absurd (ltT_trans (s1 t q) (m1 s hsm)) (ltT_irrefl _)
      · exact q
theorem sub_step {s y : Key} (h : (s :: S).Sublist (y :: M)) : (s = y → S.Sublist M) ∧ (s ≠ y → (s :: S).Sublist M) := by
  cases h with
  | cons _ h => exact ⟨fun _ => (List.sublist_cons_self _ _).trans h, fun _ => h⟩
  | cons_cons _ h => exact ⟨fun _ => h, fun e => absurd rfl e⟩
theorem sub_len (hn : M.Nodup) (h : ∀ s ∈ M, s ∈ U) : M.length ≤ U.length := by
  induction M generalizing U with
  | nil => simp
  | cons y M ih =>
    obtain ⟨h1, h2⟩ := List.nodup_cons.1 hn
    have hy := h y (by simp)
    have := ih (U := U.filter fun t => decide (t ≠ y)) h2 fun s hs => List.mem_filter.2 ⟨h s (by simp [hs]), decide_eq_true fun e => h1 (by rw [← e]; exact hs)⟩
    have h3 : (U.filter fun t => decide (t ≠ y)).length < U.length := List.length_filter_lt_length_iff_exists.2 ⟨y, hy, by simp⟩
    simp only [List.length_cons]
    omega
end

/-! ## The walk -/
def stepC (x : Act) (es : List Ent) : List Ent := if x.key.size ≤ 100 then if x.kind = 1 then putE x.key x.n es else delE x.key es else es
/-- What holds ahead of each step: what was met, what comes next. -/
structure WalkC (S U : List Key) (es : List Ent) (M : List Key) (o : Option Key) : Prop where
  rise : RiseK (M ++ o.toList)
  stay : ∀ s ∈ S, s ∈ keysOf es
  met : ∀ s ∈ S, s ∈ M ∨ ∃ k, o = some k ∧ (k = s ∨ ltT k s)
  low : ∀ s ∈ keysOf es, s ∈ U
  lowM : ∀ s ∈ M ++ o.toList, s ∈ U
section
variable {S U U' : List Key} {es es' : List Ent} {M : List Key} {o : Option Key} {k : Key}
theorem WalkC.step (h : WalkC S U es M (some k)) (hs : SortE es') (h1 : ∀ s ∈ S, s ∈ keysOf es') (h2 : ∀ s ∈ keysOf es', s ∈ U') (h3 : ∀ s ∈ U, s ∈ U') : WalkC S U' es' (M ++ [k]) ((fstE true k es').map (·.1)) := by
  have hk : ∀ e, fstE true k es' = some e → ltT k e.1 ∧ e.1 ∈ keysOf es' := fst_some hs
  refine ⟨?_, h1, fun s hs' => ?_, h2, fun s hs' => ?_⟩
  · cases hq : fstE true k es' with
    | none => simpa using h.rise
    | some e =>
      refine List.pairwise_append.2 ⟨h.rise, List.pairwise_singleton .., fun a ha b hb => ?_⟩
      have hb' : b = e.1 := by simpa using hb
      subst hb'
      rcases List.mem_append.1 ha with ha | ha
      · exact ltT_trans ((List.pairwise_append.1 h.rise).2.2 a ha k (by simp)) (hk e hq).1
      · have : a = k := by simpa using ha
        rw [this]; exact (hk e hq).1
  · rcases h.met s hs' with q | ⟨k', q, q2⟩
    · exact .inl (by simp [q])
    · cases q
      rcases q2 with q2 | q2
      · exact .inl (by simp [q2])
      · obtain ⟨e, w1, w2⟩ := fst_min hs (h1 s hs') q2
        exact .inr ⟨e.1, by rw [w1]; rfl, w2⟩
  · rcases List.mem_append.1 hs' with q | q
    · exact h3 s (h.lowM s q)
    · cases hq : fstE true k es' with
      | none => rw [hq] at q; simp at q
      | some e =>
        rw [hq] at q
        have : s = e.1 := by simpa using q
        rw [this]; exact h2 _ (hk e hq).2
theorem stepC_stay {x : Act} (hx : x.key ∉ S) (h : ∀ s ∈ S, s ∈ keysOf es) : ∀ s ∈ S, s ∈ keysOf (stepC x es) := fun s hs => by
  unfold stepC
  split
  · split
    · exact mem_putE.2 (.inr (h s hs))
    · exact mem_delE.2 ⟨fun e => hx (e ▸ hs), h s hs⟩
  · exact h s hs
theorem stepC_low {x : Act} (h : ∀ s ∈ keysOf es, s ∈ U) : ∀ s ∈ keysOf (stepC x es), s ∈ U ++ [x.key] := fun s hs => by
  unfold stepC at hs
  split at hs
  · split at hs
    · rcases mem_putE.1 hs with q | q
      · simp [q]
      · simp [h s q]
    · simp [h s (mem_delE.1 hs).2]
  · simp [h s hs]
theorem WalkC.begin (hs : SortE es) (hS : ∀ s ∈ S, s ∈ keysOf es) : WalkC S (keysOf es) es [] (es.head?.map (·.1)) := by
  cases es with
  | nil => exact ⟨.nil, hS, fun s h => absurd (hS s h) (by simp), fun s h => h, by simp⟩
  | cons y es =>
    obtain ⟨h1, h2⟩ := List.pairwise_cons.1 hs
    refine ⟨by simp, hS, fun s h => .inr ⟨y.1, rfl, ?_⟩, fun s h => h, fun s h => ?_⟩
    · rcases List.mem_cons.1 (hS s h) with q | q
      · exact .inl q.symm
      · obtain ⟨x, hx, rfl⟩ := List.mem_map.1 q
        exact .inr (h1 x hx)
    · have : s = y.1 := by simpa using h
      simp [this]
theorem WalkC.bound (h : WalkC S U es M o) : M.length + (if o.isSome then 1 else 0) ≤ U.length := by
  have := sub_len (rise_nodup h.rise) h.lowM
  cases o <;> simpa using this
theorem WalkC.done (h : WalkC S U es M none) (hS : RiseK S) : S.Sublist M := by
  refine rise_sub (by simpa using h.rise) hS fun s hs => ?_
  rcases h.met s hs with q | ⟨k, q, _⟩
  · exact q
  · cases q
end
end Go.Proofs.Ytecceimgpeookaa
