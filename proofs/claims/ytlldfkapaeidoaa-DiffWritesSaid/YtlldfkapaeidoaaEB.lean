/-
  Own work. What writes done to entries come to, key by key: no program in sight.
-/
import Derived.Test.YtlldfkapaeidoaaE8
import Derived.Test.YtlldfkapaeidoaaD7
namespace Go.Proofs.Ytlldfkapaeidoaa
open Go X
set_option maxRecDepth 100000
set_option linter.unusedVariables false
set_option linter.unusedSimpArgs false

theorem lookE_iff {vs : List Ent} (hs : SortE vs) {k : ByteArray} {x : Ent} : lookE k vs = some x ↔ x ∈ vs ∧ x.key = k := by
  constructor
  · intro h
    obtain ⟨h1, h2⟩ := lookE_key h
    exact ⟨h2, h1⟩
  · rintro ⟨h1, h2⟩
    obtain ⟨i, hi⟩ := List.mem_iff_getElem?.1 h1
    exact lookE_some hs hi h2
theorem ap_mem {s : Int} {y : Wr} {x : Ent} : ∀ {l : List Ent} {put : Bool}, x ∈ ap s y put l ↔ (x ∈ l ∧ x.key ≠ y.key) ∨ (put = false ∧ x = y.ent s)
  | [], put => by cases put <;> simp [ap]
  | z :: l, put => by
    rw [ap]
    split
    · rename_i h
      obtain ⟨h1, h2⟩ := h
      subst h1
      rw [List.mem_cons, List.mem_append, ap_mem]
      by_cases hz : z.key = y.key
      · rw [if_pos hz]
        simp only [List.not_mem_nil, false_or, List.mem_cons]
        constructor
        · rintro (h | h | h)
          · exact .inr ⟨by trivial, h⟩
          · exact .inl ⟨.inr h.1, h.2⟩
          · exact absurd h.1 (by simp)
        · rintro (⟨h1 | h1, h3⟩ | h)
          · subst h1; exact absurd hz h3
          · exact .inr (.inl ⟨h1, h3⟩)
          · exact .inl h.2
      · rw [if_neg hz]
        simp only [List.mem_singleton, List.mem_cons, List.not_mem_nil, or_false]
        constructor
        · rintro (h | h | h | h)
          · exact .inr ⟨by trivial, h⟩
          · exact .inl ⟨.inl h, by rw [h]; exact hz⟩
          · exact .inl ⟨.inr h.1, h.2⟩
          · exact absurd h.1 (by simp)
        · rintro (⟨h1 | h1, h3⟩ | h)
          · exact .inr (.inl h1)
          · exact .inr (.inr (.inl ⟨h1, h3⟩))
          · exact .inl h.2
    · rw [List.mem_append, ap_mem]
      by_cases hz : z.key = y.key
      · rw [if_pos hz]
        simp only [List.not_mem_nil, false_or, List.mem_cons]
        constructor
        · rintro (h | h)
          · exact .inl ⟨.inr h.1, h.2⟩
          · exact .inr h
        · rintro (⟨h1 | h1, h3⟩ | h)
          · subst h1; exact absurd hz h3
          · exact .inl ⟨h1, h3⟩
          · exact .inr h
      · rw [if_neg hz]
        simp only [List.mem_singleton, List.mem_cons, List.not_mem_nil, or_false]
        constructor
        · rintro (h | h | h)
          · exact .inl ⟨.inl h, by rw [h]; exact hz⟩
          · exact .inl ⟨.inr h.1, h.2⟩
          · exact .inr h
        · rintro (⟨h1 | h1, h3⟩ | h)
          · exact .inl h1
          · exact .inr (.inl ⟨h1, h3⟩)
          · exact .inr (.inr h)
theorem ap_sorted {s : Int} {y : Wr} : ∀ {l : List Ent} {put : Bool}, SortE l → SortE (ap s y put l)
  | [], put, _ => by cases put <;> simp [ap]
  | z :: l, put, h => by
    obtain ⟨h1, h2⟩ := List.pairwise_cons.1 h
    have ih := fun p => ap_sorted (s := s) (y := y) (put := p) h2
    rw [ap]
    split
    · rename_i hh
      obtain ⟨_, hz⟩ := hh
      have hzy : z.key = y.key ∨ ltT y.key z.key := ltT_total hz
      have hyl : ∀ x ∈ l, ltT y.key x.key := fun x hx => by
        rcases hzy with e | e
        · rw [← e]; exact h1 x hx
        · exact ltT_trans e (h1 x hx)
      have tl : SortE ((if z.key = y.key then [] else [z]) ++ ap s y true l) := by
        split
        · simpa using ih true
        · refine List.pairwise_cons.2 ⟨fun x hx => ?_, ih true⟩
          rcases ap_mem.1 hx with ⟨q1, _⟩ | ⟨q1, _⟩
          · exact h1 x q1
          · cases q1
      refine List.pairwise_cons.2 ⟨fun x hx => ?_, tl⟩
      rcases List.mem_append.1 hx with hx | hx
      · split at hx
        · cases hx
        · rename_i hne
          rw [List.mem_singleton] at hx
          subst hx
          exact hzy.resolve_left hne
      · rcases ap_mem.1 hx with ⟨q1, _⟩ | ⟨q1, _⟩
        · exact hyl x q1
        · cases q1
    · rename_i hne
      split
      · simpa using ih put
      · refine List.pairwise_cons.2 ⟨fun x hx => ?_, ih put⟩
        rcases ap_mem.1 hx with ⟨q1, _⟩ | ⟨q1, q2⟩
        · exact h1 x q1
        · rw [q2]
          exact Decidable.byContradiction fun hc => hne ⟨q1, hc⟩
theorem fold_mem {s : Int} : ∀ {w : List Wr} {l : List Ent} {x : Ent}, SortW w → (x ∈ w.foldl (apply1 s) l ↔ (x ∈ l ∧ ∀ y ∈ w, x.key ≠ y.key) ∨ ∃ y ∈ w, y.gone = false ∧ x = y.ent s)
  | [], l, x, _ => by simp
  | y :: w, l, x, h => by
    obtain ⟨h1, h2⟩ := List.pairwise_cons.1 h
    rw [List.foldl_cons, fold_mem h2, apply1, ap_mem]
    constructor
    · rintro (⟨⟨q1, q2⟩ | ⟨q1, q2⟩, q3⟩ | ⟨z, hz, q⟩)
      · exact .inl ⟨q1, fun z hz => by
          rcases List.mem_cons.1 hz with rfl | hz
          · exact q2
          · exact q3 z hz⟩
      · exact .inr ⟨y, by simp, q1, q2⟩
      · exact .inr ⟨z, by simp [hz], q⟩
    · rintro (⟨q1, q2⟩ | ⟨z, hz, q⟩)
      · exact .inl ⟨.inl ⟨q1, q2 y (by simp)⟩, fun z hz => q2 z (by simp [hz])⟩
      · rcases List.mem_cons.1 hz with rfl | hz
        · exact .inl ⟨.inr ⟨q.1, q.2⟩, fun z' hz' => by rw [q.2]; exact ltT_ne (h1 z' hz')⟩
        · exact .inr ⟨z, hz, q⟩
theorem fold_sorted {s : Int} : ∀ {w : List Wr} {l : List Ent}, SortE l → SortE (w.foldl (apply1 s) l)
  | [], l, h => h
  | y :: w, l, h => fold_sorted (w := w) (ap_sorted h)

/-! ## The writes from one to the other -/
theorem turn_key {k : ByteArray} {vs ws : List Ent} {w : Wr} (h : turnE k vs ws = some w) : w.key = k ∧ ((∃ x ∈ vs, x.key = k) ∨ ∃ x ∈ ws, x.key = k) := by
  unfold turnE turnB at h
  cases h1 : lookE k vs with
  | none => cases h2 : lookE k ws with
    | none => simp [h1, h2] at h
    | some y =>
      obtain ⟨q1, q2⟩ := lookE_key h2
      simp [h1, h2] at h
      exact ⟨by rw [← h], .inr ⟨y, q2, q1⟩⟩
  | some x =>
    obtain ⟨q1, q2⟩ := lookE_key h1
    refine ⟨?_, .inl ⟨x, q2, q1⟩⟩
    cases h2 : lookE k ws with
    | none => simp [h1, h2] at h; rw [← h]
    | some y =>
      simp [h1, h2] at h
      rw [← h.2]
theorem docW_mem {vs ws : List Ent} (hs : SortE vs) (hs' : SortE ws) {w : Wr} : w ∈ docW vs ws ↔ turnE w.key vs ws = some w := by
  obtain ⟨k1, k2⟩ := mrg_sorted [] vs .nil hs
  obtain ⟨k3, k4⟩ := mrg_sorted (mrg [] vs) ws k1 hs'
  unfold docW
  rw [List.mem_filterMap]
  constructor
  · rintro ⟨k, hk, h⟩
    have := (turn_key h).1
    rw [this]; exact h
  · intro h
    refine ⟨w.key, ?_, h⟩
    rw [k4, k2]
    rcases (turn_key h).2 with ⟨x, hx, e⟩ | ⟨x, hx, e⟩
    · exact .inl (.inr (List.mem_map.2 ⟨x, hx, e⟩))
    · exact .inr (List.mem_map.2 ⟨x, hx, e⟩)
theorem docW_sorted {vs ws : List Ent} (hs : SortE vs) (hs' : SortE ws) : SortW (docW vs ws) := by
  obtain ⟨k1, k2⟩ := mrg_sorted [] vs .nil hs
  obtain ⟨k3, k4⟩ := mrg_sorted (mrg [] vs) ws k1 hs'
  unfold docW
  refine List.pairwise_filterMap.2 (k3.imp fun {a a'} hab b hb b' hb' => ?_)
  rw [(turn_key hb).1, (turn_key hb').1]
  exact hab
/-- What they make. -/
def doneE (s : Int) (vs ws : List Ent) : List Ent := (docW vs ws).foldl (apply1 s) vs
section
variable {s : Int} {vs ws : List Ent}
theorem doneE_sorted (hs : SortE vs) : SortE (doneE s vs ws) := fold_sorted hs
theorem doneE_eq (hs : SortE vs) (hs' : SortE ws) : mergeE s vs (docW vs ws) = doneE s vs ws := (fold_merge s vs (docW vs ws) hs (docW_sorted hs hs')).symm
theorem doneE_to (hs : SortE vs) (hs' : SortE ws) {x : Ent} (hx : x ∈ doneE s vs ws) : ∃ y ∈ ws, y.key = x.key ∧ sameV x y = true := by
  rcases (fold_mem (docW_sorted hs hs')).1 hx with ⟨h1, h2⟩ | ⟨w, h1, h2, rfl⟩
  · have hl : lookE x.key vs = some x := (lookE_iff hs).2 ⟨h1, rfl⟩
    have hn : turnE x.key vs ws = none := by
      cases ht : turnE x.key vs ws with
      | none => rfl
      | some w =>
        have hk := (turn_key ht).1
        exact absurd hk.symm (h2 w ((docW_mem hs hs').2 (by rw [hk]; exact ht)))
    unfold turnE turnB at hn
    cases h3 : lookE x.key ws with
    | none => simp [hl, h3] at hn
    | some y =>
      obtain ⟨q1, q2⟩ := lookE_key h3
      refine ⟨y, q2, q1, ?_⟩
      cases hsv : sameV x y with
      | true => rfl
      | false => simp [hl, h3, hsv] at hn
  · have ht := (docW_mem hs hs').1 h1
    unfold turnE turnB at ht
    cases h3 : lookE w.key ws with
    | none =>
      cases h4 : lookE w.key vs with
      | none => simp [h3, h4] at ht
      | some z => simp [h3, h4] at ht; rw [← ht] at h2; simp at h2
    | some y =>
      obtain ⟨q1, q2⟩ := lookE_key h3
      refine ⟨y, q2, q1, ?_⟩
      have e : w = ⟨w.key, false, y.num, y.text, y.bits⟩ := by
        cases h4 : lookE w.key vs with
        | none => simp [h3, h4] at ht; exact ht.symm
        | some z => simp [h3, h4] at ht; exact ht.2.symm
      rw [e]
      simp [Wr.ent, sameV]
theorem doneE_from (hs : SortE vs) (hs' : SortE ws) {y : Ent} (hy : y ∈ ws) : ∃ x ∈ doneE s vs ws, x.key = y.key := by
  have hl : lookE y.key ws = some y := (lookE_iff hs').2 ⟨hy, rfl⟩
  cases ht : turnE y.key vs ws with
  | some w =>
    have hk := (turn_key ht).1
    have hg : w.gone = false := by
      have ht2 := ht
      unfold turnE turnB at ht2
      cases h4 : lookE y.key vs with
      | none => simp [hl, h4] at ht2; rw [← ht2]
      | some z => simp [hl, h4] at ht2; rw [← ht2.2]
    exact ⟨w.ent s, (fold_mem (docW_sorted hs hs')).2 (.inr ⟨w, (docW_mem hs hs').2 (by rw [hk]; exact ht), hg, rfl⟩), hk⟩
  | none =>
    cases h4 : lookE y.key vs with
    | none =>
      unfold turnE turnB at ht
      simp [hl, h4] at ht
    | some x =>
      obtain ⟨q1, q2⟩ := lookE_key h4
      refine ⟨x, (fold_mem (docW_sorted hs hs')).2 (.inl ⟨q2, fun w hw e => ?_⟩), q1⟩
      have := (docW_mem hs hs').1 hw
      rw [← e, q1, ht] at this
      cases this
theorem doneE_keys (hs : SortE vs) (hs' : SortE ws) : keysE (doneE s vs ws) = keysE ws := by
  refine sorted_ext (List.pairwise_map.2 (doneE_sorted hs)) (List.pairwise_map.2 hs') fun k => ?_
  constructor
  · intro hk
    obtain ⟨x, hx, rfl⟩ := List.mem_map.1 hk
    obtain ⟨y, hy, e, _⟩ := doneE_to hs hs' hx
    exact List.mem_map.2 ⟨y, hy, e⟩
  · intro hk
    obtain ⟨y, hy, rfl⟩ := List.mem_map.1 hk
    obtain ⟨x, hx, e⟩ := doneE_from (s := s) hs hs' hy
    exact List.mem_map.2 ⟨x, hx, e⟩
/-- The same keys and values. -/
def Alike (a b : List Ent) : Prop := a.length = b.length ∧ ∀ (i : Nat) (x y : Ent), a[i]? = some x → b[i]? = some y → x.key = y.key ∧ sameV x y = true
theorem doneE_alike (hs : SortE vs) (hs' : SortE ws) : Alike (doneE s vs ws) ws := by
  have hk := doneE_keys (s := s) hs hs'
  have hlen : (doneE s vs ws).length = ws.length := by
    have := congrArg List.length hk
    simpa using this
  refine ⟨hlen, fun i x y hx hy => ?_⟩
  have e : x.key = y.key := by
    have := congrArg (fun l => l[i]?) hk
    simp only [List.getElem?_map, hx, hy, Option.map_some, Option.some.injEq] at this
    exact this
  obtain ⟨z, hz, e2, h3⟩ := doneE_to hs hs' (List.mem_of_getElem? hx)
  have l1 : lookE y.key ws = some y := (lookE_iff hs').2 ⟨List.mem_of_getElem? hy, rfl⟩
  have l2 : lookE y.key ws = some z := (lookE_iff hs').2 ⟨hz, by rw [e2, e]⟩
  rw [l1] at l2
  cases l2
  exact ⟨e, h3⟩
theorem turn_alike {a b : List Ent} (hs : SortE a) (hs' : SortE b) (h : Alike a b) (k : ByteArray) : turnE k a b = none := by
  unfold turnE turnB
  cases h1 : lookE k a with
  | none =>
    have : lookE k b = none := by
      cases h2 : lookE k b with
      | none => rfl
      | some y =>
        obtain ⟨q1, q2⟩ := lookE_key h2
        obtain ⟨i, hi⟩ := List.mem_iff_getElem?.1 q2
        have hlt := (List.getElem?_eq_some_iff.1 hi).1
        obtain ⟨x, hx⟩ : ∃ x, a[i]? = some x := ⟨_, List.getElem?_eq_getElem (by rw [h.1]; exact hlt)⟩
        have := (lookE_iff hs).2 ⟨List.mem_of_getElem? hx, (h.2 i x y hx hi).1.trans q1⟩
        rw [h1] at this
        cases this
    simp [this]
  | some x =>
    obtain ⟨q1, q2⟩ := lookE_key h1
    obtain ⟨i, hi⟩ := List.mem_iff_getElem?.1 q2
    have hlt := (List.getElem?_eq_some_iff.1 hi).1
    obtain ⟨y, hy⟩ : ∃ y, b[i]? = some y := ⟨_, List.getElem?_eq_getElem (by rw [← h.1]; exact hlt)⟩
    obtain ⟨e1, e2⟩ := h.2 i x y hi hy
    have := (lookE_iff hs').2 ⟨List.mem_of_getElem? hy, e1.symm.trans q1⟩
    simp [this, e2]
theorem docW_alike {a b : List Ent} (hs : SortE a) (hs' : SortE b) (h : Alike a b) : docW a b = [] := fm_none fun k => turn_alike hs hs' h k

/-! ## They may be -/
theorem okE_of : ∀ {l : List Ent} {k : Option ByteArray}, SortE l → (∀ x ∈ l, rightE x = true) → (∀ a, k = some a → ∀ x ∈ l, ltT a x.key) → okE k l = true
  | [], k, _, _, _ => rfl
  | x :: l, k, h1, h2, h3 => by
    obtain ⟨a1, a2⟩ := List.pairwise_cons.1 h1
    rw [okE, h2 x (by simp), okE_of a2 (fun y hy => h2 y (by simp [hy])) (fun a ha y hy => by cases ha; exact a1 y hy)]
    cases k with
    | none => rfl
    | some a => simp [prevOk, h3 a rfl x (by simp)]
theorem okW_of : ∀ {l : List Wr} {k : Option ByteArray}, SortW l → (∀ x ∈ l, rightW x = true) → (∀ a, k = some a → ∀ x ∈ l, ltT a x.key) → okW k l = true
  | [], k, _, _, _ => rfl
  | x :: l, k, h1, h2, h3 => by
    obtain ⟨a1, a2⟩ := List.pairwise_cons.1 h1
    rw [okW, h2 x (by simp), okW_of a2 (fun y hy => h2 y (by simp [hy])) (fun a ha y hy => by cases ha; exact a1 y hy)]
    cases k with
    | none => rfl
    | some a => simp [prevOk, h3 a rfl x (by simp)]
theorem okE_right : ∀ {l : List Ent} {k : Option ByteArray}, okE k l = true → ∀ x ∈ l, rightE x = true
  | [], k, _, x, hx => by cases hx
  | y :: l, k, h, x, hx => by
    simp only [okE, Bool.and_eq_true] at h
    rcases List.mem_cons.1 hx with rfl | hx
    · exact h.1.1
    · exact okE_right h.2 x hx
theorem docW_right (h : okE none vs = true) (h' : okE none ws = true) : okW none (docW vs ws) = true := by
  have hs := (okE_srt h).1
  have hs' := (okE_srt h').1
  refine okW_of (docW_sorted hs hs') (fun w hw => ?_) (fun a ha => by cases ha)
  have ht := (docW_mem hs hs').1 hw
  obtain ⟨_, hk⟩ := turn_key ht
  have hkey : keyOk w.key = true := by
    rcases hk with ⟨x, hx, e⟩ | ⟨x, hx, e⟩
    · have := okE_right h x hx
      simp only [rightE, Bool.and_eq_true] at this
      rw [← e]; exact this.1.1
    · have := okE_right h' x hx
      simp only [rightE, Bool.and_eq_true] at this
      rw [← e]; exact this.1.1
  unfold turnE turnB at ht
  cases h3 : lookE w.key ws with
  | none =>
    cases h4 : lookE w.key vs with
    | none => simp [h3, h4] at ht
    | some z =>
      simp [h3, h4] at ht
      have e : rightW w = true := by
        rw [← ht] at hkey ⊢
        simp only at hkey
        simp [rightW, hkey, vright, iszV]
      exact e
  | some y =>
    obtain ⟨q1, q2⟩ := lookE_key h3
    have hr := okE_right h' y q2
    simp only [rightE, Bool.and_eq_true] at hr
    have e : w = ⟨w.key, false, y.num, y.text, y.bits⟩ := by
      cases h4 : lookE w.key vs with
      | none => simp [h3, h4] at ht; exact ht.symm
      | some z => simp [h3, h4] at ht; exact ht.2.symm
    rw [e]
    simp [rightW, hkey, hr.1.2]
theorem doneE_right (h : okE none vs = true) (h' : okE none ws = true) (h1 : 1 ≤ s) : okE none (doneE s vs ws) = true := by
  have hs := (okE_srt h).1
  have hs' := (okE_srt h').1
  refine okE_of (doneE_sorted hs) (fun x hx => ?_) (fun a ha => by cases ha)
  rcases (fold_mem (docW_sorted hs hs')).1 hx with ⟨q1, _⟩ | ⟨w, q1, q2, rfl⟩
  · exact okE_right h x q1
  · obtain ⟨y, hy, e1, e2⟩ := doneE_to hs hs' hx
    have hr := okE_right h' y hy
    simp only [rightE, Bool.and_eq_true] at hr
    simp only [sameV, Bool.and_eq_true, decide_eq_true_eq] at e2
    obtain ⟨⟨e3, e4⟩, e5⟩ := e2
    simp only [rightE, Bool.and_eq_true, decide_eq_true_eq]
    rw [← e1, e3, e4, e5]
    exact ⟨⟨hr.1.1, hr.1.2⟩, h1⟩
end
end Go.Proofs.Ytlldfkapaeidoaa
