/-
  Own work. New rows, copies of slices.
-/
import Derived.Test.YtnlmnejellipdaaGreatXEq
namespace Go.Proofs.YtnlmnejellipdaaGreat.X
open Go
set_option linter.unusedVariables false
set_option linter.unusedSimpArgs false

section
variable {m m' : Mem} {size b : Nat} {v : Value} {rows : List (List Value)}
/-- A new row, and its cells. -/
theorem new_store {z row : List Value} {n : Nat} (hz : z.length = n) (hr : row.length = n) (h0 : 0 < n) :
    ∃ m2, storeE (m.push { cells := z, rw := true, spare := none, kin := [] }) n (.pointer (some ⟨m.next, 0, none⟩)) (.agg ⟨row⟩) = some (.skip m2) ∧ m2.get m.next = some { cells := row, rw := true, spare := none, kin := [] } ∧ Fm (fun _ => False) m m2 ∧ m2.next = m.next + 1 := by
  have hs : setAll z 0 row = row := by
    rw [setAll_eq _ _ _ (by omega)]
    simp only [List.take_zero, List.nil_append, Nat.zero_add]
    rw [List.drop_eq_nil_of_le (by omega), List.append_nil]
  refine ⟨(m.push { cells := z, rw := true, spare := none, kin := [] }).set m.next { cells := row, rw := true, spare := none, kin := [] }, ?_, by rw [Mem.get_set, if_pos rfl], (Fm.push (S := fun _ => False)).comp (Fm.set (S := (· = m.next)) rfl) (fun i hi h => by omega), by simp⟩
  have hc : (Value.agg ⟨row⟩).cells.size = n ∧ noTup (.agg ⟨row⟩) = true := ⟨hr, rfl⟩
  have hl : (Value.agg ⟨row⟩).cells.toList = row := rfl
  simp only [storeE]
  rw [if_pos hc, if_neg (by omega), hl]
  simp only [xstore, push_self]
  rw [if_pos (by simp [hr, hz])]
  simp only [Mem.eraseAll, hs, Option.bind_some]
/-- Other cells in a row of its own. -/
theorem row_store {o : XObj} {row : List Value} {n p : Nat} (hg : m.get p = some o) (hrw : o.rw = true) (hk : o.kin = []) (hz : o.cells.length = n) (hr : row.length = n) (h0 : 0 < n) :
    ∃ m2, storeE m n (.pointer (some ⟨p, 0, none⟩)) (.agg ⟨row⟩) = some (.skip m2) ∧ m2.get p = some { o with cells := row } ∧ Fm (· = p) m m2 ∧ m2.next = m.next := by
  have hs : setAll o.cells 0 row = row := by
    rw [setAll_eq _ _ _ (by omega)]
    simp only [List.take_zero, List.nil_append, Nat.zero_add]
    rw [List.drop_eq_nil_of_le (by omega), List.append_nil]
  obtain ⟨cells, rw_, sp, kin, ex⟩ := o
  simp only at hrw hk hz hs
  subst hrw hk
  refine ⟨m.set p { cells := row, rw := true, spare := sp, kin := [], ext := ex }, ?_, by rw [Mem.get_set, if_pos rfl], Fm.set rfl, by simp⟩
  have hc : (Value.agg ⟨row⟩).cells.size = n ∧ noTup (.agg ⟨row⟩) = true := ⟨hr, rfl⟩
  have hl : (Value.agg ⟨row⟩).cells.toList = row := rfl
  simp only [storeE]
  rw [if_pos hc, if_neg (by omega), hl]
  simp only [xstore, hg]
  rw [if_pos (by simp [hr, hz])]
  simp only [Mem.eraseAll, hs, Option.bind_some]

theorem rows_load {o : XObj} {off : Nat} (hs : 0 < size) (h : ∀ i r, rows[i]? = some r → r.length = size ∧ ∀ j, j < size → o.cells[off + i * size + j]? = r[j]?) :
    ∀ k, k ≤ rows.length → (off + k * size ≤ o.cells.length ∨ k = 0) ∧ (o.cells.drop off).take (k * size) = (rows.take k).flatten
  | 0, _ => ⟨.inr rfl, by simp⟩
  | k + 1, hk => by
    obtain ⟨h1, h2⟩ := rows_load hs h k (by omega)
    obtain ⟨r, hr⟩ : ∃ r, rows[k]? = some r := ⟨_, List.getElem?_eq_getElem (by omega)⟩
    obtain ⟨h3, h4⟩ := h k r hr
    have hle : off + (k + 1) * size ≤ o.cells.length := by
      have h5 := h4 (size - 1) (by omega)
      rw [List.getElem?_eq_getElem (by omega : size - 1 < r.length)] at h5
      have := (List.getElem?_eq_some_iff.1 h5).1
      rw [Nat.add_mul]; omega
    refine ⟨.inl hle, ?_⟩
    rw [List.take_add_one, hr, List.flatten_append, ← h2, Nat.add_mul, Nat.one_mul, List.take_add]
    congr 1
    simp only [Option.toList_some, List.flatten_cons, List.flatten_nil, List.append_nil]
    apply List.ext_getElem?
    intro j
    rw [List.getElem?_take]
    split
    · rename_i hj
      rw [List.drop_drop, List.getElem?_drop, h4 j hj]
    · rename_i hj; rw [List.getElem?_eq_none (by omega)]

theorem RdS.first (h : RdS b m size v rows) (hs : 0 < size) : xlen v = some rows.length ∧ xfirst m size rows.length v = some rows.flatten := by
  obtain ⟨p, c, rfl, hc, h⟩ := h
  refine ⟨rfl, ?_⟩
  by_cases h0 : rows.length = 0
  · have : rows = [] := List.eq_nil_of_length_eq_zero h0
    subst this
    cases p <;> simp [xfirst]
  · obtain ⟨r, hr⟩ : ∃ r, rows[0]? = some r := ⟨_, List.getElem?_eq_getElem (by omega)⟩
    obtain ⟨_, a, o, rfl, h1, h2, _⟩ := h 0 r hr
    have hall : ∀ i r, rows[i]? = some r → r.length = size ∧ ∀ j, j < size → o.cells[a.off + i * size + j]? = r[j]? := fun i r hr => by
      obtain ⟨k1, a', o', k2, k3, k4, k5⟩ := h i r hr
      cases k2
      rw [h2] at k4
      cases k4
      exact ⟨k1, k5⟩
    obtain ⟨k1, k2⟩ := rows_load hs hall rows.length (Nat.le_refl _)
    simp only [xfirst, if_neg h0]
    have := xload_own (m := m) (id := a.block) (off := a.off) (c := rows.length * size) h2 (k1.resolve_right h0)
    obtain ⟨ab, ao, as⟩ := a
    simp only at this
    rw [this, k2, List.take_length]

/-- A slice that the program owns, or one of nothing. -/
def Own2 (size : Nat) (F : List Nat) (m : Mem) (v : Value) (rows : List (List Value)) : Prop :=
  (∀ r ∈ rows, r.length = size) ∧ (OwnS size F m v rows.length rows.flatten ∨ (rows = [] ∧ (∀ i ∈ F, i < m.next) ∧ ∃ id, v = .slice (some ⟨id, 0, none⟩) 0 0))

theorem Own2.lt {F : List Nat} (h : Own2 size F m v rows) : ∀ i ∈ F, i < m.next := by
  obtain ⟨_, h | ⟨_, h, _⟩⟩ := h
  · exact h.lt
  · exact h
theorem Own2.fr {F : List Nat} {S : Nat → Prop} (h : Own2 size F m v rows) (hf : Fm S m m') (hs : ∀ i ∈ F, ¬ S i) : Own2 size F m' v rows := by
  obtain ⟨h0, h | ⟨h1, h2, h3⟩⟩ := h
  · exact ⟨h0, .inl (h.fr hf hs)⟩
  · exact ⟨h0, .inr ⟨h1, fun i hi => Nat.lt_of_lt_of_le (h2 i hi) hf.next, h3⟩⟩
theorem Own2.nil : Own2 size [] m (.slice none 0 0) [] := ⟨by simp, .inl (.nil (by simp))⟩
theorem flat_get : ∀ {rows : List (List Value)} {size i j : Nat} {r : List Value}, (∀ r ∈ rows, r.length = size) → rows[i]? = some r → j < size → rows.flatten[i * size + j]? = r[j]?
  | [], size, i, j, r, h, hi, hj => by simp at hi
  | r0 :: rows, size, 0, j, r, h, hi, hj => by
    simp only [List.getElem?_cons_zero, Option.some.injEq] at hi
    subst hi
    have := h r0 (by simp)
    rw [List.flatten_cons, List.getElem?_append_left (by omega)]
    simp
  | r0 :: rows, size, i + 1, j, r, h, hi, hj => by
    simp only [List.getElem?_cons_succ] at hi
    have h0 := h r0 (by simp)
    rw [List.flatten_cons, List.getElem?_append_right (by rw [Nat.add_mul]; omega), ← flat_get (fun r hr => h r (by simp [hr])) hi hj]
    congr 1
    rw [Nat.add_mul]; omega
theorem Own2.rd {F : List Nat} (h : Own2 size F m v rows) (hs : 0 < size) : RdS m.next m size v rows := by
  obtain ⟨h0, h | ⟨rfl, h2, id, rfl⟩⟩ := h
  · have hh := h
    obtain ⟨h1, h2, ⟨rfl, hn⟩ | ⟨id, o, cap, rest, rfl, h5, h6, h7, h8, h9, h10, h11⟩⟩ := h
    · have : rows = [] := List.eq_nil_of_length_eq_zero hn
      subst this
      exact .nil
    · refine ⟨_, _, rfl, ?_, fun i r hr => ⟨h0 r (List.mem_of_getElem? hr), _, o, rfl, h2 _ h6, h5, fun j hj => ?_⟩⟩
      · have hle : rows.length * size ≤ cap * size := by rw [← h11, h10]; simp [h1]
        exact Nat.le_of_mul_le_mul_right hle hs
      · rw [Nat.zero_add, h10, List.getElem?_append_left, flat_get h0 hr hj]
        rw [h1]
        have hi := (List.getElem?_eq_some_iff.1 hr).1
        have : (i + 1) * size ≤ rows.length * size := Nat.mul_le_mul_right _ hi
        rw [Nat.add_mul] at this
        omega
  · exact .nil

/-- A copy of a slice's elements behind nothing. -/
theorem append_all {bytes : Nat} {zero : List Value} {s vx : Value} (hs0 : s = .slice none 0 0 ∨ ∃ id, s = .slice (some ⟨id, 0, none⟩) 0 0) (hr : RdS b m size vx rows) (hz : zero.length = size) (hs : 0 < size)
    (hb : rows.length * bytes ≤ 140737488355328) (hb2 : rows.length ≤ 9223372036854775807) :
    ∃ v' m' F, appendE m size bytes zero s vx = some (.val v' m') ∧ Own2 size F m' v' rows ∧ Fm (fun _ => False) m m' ∧ ∀ i ∈ F, m.next ≤ i := by
  obtain ⟨hx, hf⟩ := hr.first hs
  have hrl : ∀ r ∈ rows, r.length = size := fun r hr' => by
    obtain ⟨i, hi, rfl⟩ := List.mem_iff_getElem.1 hr'
    obtain ⟨_, _, _, _, h⟩ := hr
    exact (h i _ (List.getElem?_eq_getElem hi)).1
  have hfl : rows.flatten.length = rows.length * size := by
    clear hx hf hr hb hb2
    induction rows with
    | nil => simp
    | cons r l ih =>
      have := ih (fun r hr => hrl r (by simp [hr]))
      have h1 := hrl r (by simp)
      simp only [List.flatten_cons, List.length_append, List.length_cons, this, h1, Nat.add_mul]
      omega
  by_cases h0 : rows.length = 0
  · have : rows = [] := List.eq_nil_of_length_eq_zero h0
    subst this
    refine ⟨s, m, [], ?_, ⟨by simp, ?_⟩, .refl, by simp⟩
    · simp only [appendE, hx, hf, Option.bind_some, if_pos hz]
      rcases hs0 with rfl | ⟨id, rfl⟩ <;> simp [xappend]
    · rcases hs0 with rfl | ⟨id, rfl⟩
      · exact .inl (.nil (by simp))
      · exact .inr ⟨rfl, by simp, id, rfl⟩
  · refine ⟨.slice (some ⟨m.next, 0, some 0⟩) rows.length rows.length, m.push { cells := rows.flatten, rw := true, spare := some size, kin := [] }, [m.next], ?_, ⟨hrl, .inl ⟨hfl, by simp, .inr ⟨m.next, _, rows.length, [], rfl, push_self, by simp, by simp, rfl, rfl, by simp, hfl⟩⟩⟩, .push, by simp⟩
    simp only [appendE, hx, hf, Option.bind_some, if_pos hz]
    rcases hs0 with rfl | ⟨id, rfl⟩
    · simp only [xappend, if_neg h0, if_pos (And.intro hb hb2), Option.bind_some]
    · simp only [xappend, if_neg h0]
      rw [if_neg (by omega), if_pos ⟨by simpa using hb, by simpa using hb2⟩]
      simp

/-- One element more. -/
theorem Own2.append {F : List Nat} {bytes : Nat} {zero new : List Value} {vx : Value} (h : Own2 size F m v rows) (hz : zero.length = size) (hs : 0 < size) (hx : xlen vx = some 1) (hn : xfirst m size 1 vx = some new) (hl : new.length = size)
    (hb : (rows.length + 1) * bytes ≤ 140737488355328) (hb2 : rows.length + 1 ≤ 9223372036854775807) :
    ∃ v' m' F', appendE m size bytes zero v vx = some (.val v' m') ∧ Own2 size F' m' v' (rows ++ [new]) ∧ Fm (· ∈ F) m m' ∧ (∀ i ∈ F, i ∈ F') ∧ ∀ i ∈ F', i ∈ F ∨ m.next ≤ i := by
  obtain ⟨h0, h | ⟨rfl, h2, id, rfl⟩⟩ := h
  · obtain ⟨v', m', F', k1, k2, k3, k4, k5⟩ := h.append (bytes := bytes) hz hs hx hn hl hb hb2
    refine ⟨v', m', F', k1, ⟨fun r hr => ?_, .inl ?_⟩, k3, k4, k5⟩
    · simp only [List.mem_append, List.mem_singleton] at hr
      rcases hr with hr | rfl
      · exact h0 r hr
      · exact hl
    · rw [List.length_append, List.flatten_append]
      simpa using k2
  · refine ⟨.slice (some ⟨m.next, 0, some 0⟩) 1 1, m.push { cells := new, rw := true, spare := some size, kin := [] }, m.next :: F, ?_, ⟨by simp [hl], .inl ⟨by simp [hl], ?_, .inr ⟨m.next, _, 1, [], rfl, push_self, by simp, by simp, rfl, rfl, by simp, by simpa using hl⟩⟩⟩, .push, fun i hi => by simp [hi], fun i hi => ?_⟩
    · simp only [appendE, hx, hn, Option.bind_some, if_pos hz, xappend]
      rw [if_neg (by omega), if_neg (by omega), if_pos ⟨by simpa using hb, by simp⟩]
      simp
    · intro i hi
      simp only [List.mem_cons] at hi
      rw [Mem.next_push]
      rcases hi with rfl | hi
      · omega
      · have := h2 i hi; omega
    · simp only [List.mem_cons] at hi
      rcases hi with rfl | hi
      · exact .inr (Nat.le_refl _)
      · exact .inl hi
end

/-! ## The rest of a slice -/
/-- It may be cut. -/
def CutOk (m : Mem) (size : Nat) (v : Value) : Prop := ∀ a n c, v = .slice (some a) n c → a.spot = none ∨ (a.spot = some 1 ∧ n = 0) ∨ (a.spot = some 0 ∧ ∃ o, m.get a.block = some o ∧ o.spare = some size)
section
variable {m m' : Mem} {size b k : Nat} {v : Value} {rows : List (List Value)} {kd : IntKind}
theorem slice_from (h : RdS b m size v rows) (hc : CutOk m size v) (hk : k ≤ rows.length) : ∃ v', sliceE m size v (some (.int kd (k : Int))) none none = some (.val v' m) ∧ RdS b m size v' (rows.drop k) := by
  obtain ⟨p, c, rfl, hle, h⟩ := h
  have hb : xbounds rows.length c (some (.int kd (k : Int))) none none = some (k, rows.length, c) := by simp [xbounds, asNat_nat, hk]
  have hdrop : ∀ i r, (rows.drop k)[i]? = some r → rows[k + i]? = some r := fun i r hr => by rwa [List.getElem?_drop] at hr
  cases p with
  | none =>
    have h0 : rows = [] := by
      cases rows with
      | nil => rfl
      | cons r l =>
        obtain ⟨_, a, o, h2, _⟩ := h 0 r rfl
        cases h2
    subst h0
    refine ⟨.slice none (0 - k) (c - k), by unfold sliceE; simp only; rw [hb]; rfl, ?_⟩
    have : k = 0 := by simpa using hk
    subst this
    exact .nil
  | some a =>
    rcases hc a _ _ rfl with hs | ⟨hs, hn⟩ | ⟨hs, o, ho, hsp⟩
    · refine ⟨.slice (some (if c = k then a else ⟨a.block, a.off + k * size, none⟩)) (rows.length - k) (c - k), by simp [sliceE, hb, xsliceR, hs], _, _, by rw [List.length_drop], by rw [List.length_drop]; omega, fun i r hr => ?_⟩
      have hr' := hdrop i r hr
      have hlt := (List.getElem?_eq_some_iff.1 hr').1
      obtain ⟨h1, a', o, h2, h3, h4, h5⟩ := h _ r hr'
      cases h2
      refine ⟨h1, ⟨a.block, a.off + k * size, none⟩, o, by rw [if_neg (by omega)], h3, h4, fun j hj => ?_⟩
      rw [← h5 j hj, Nat.add_mul]
      congr 1
      show a.off + k * size + i * size + j = _
      omega
    · have h0 : rows = [] := List.eq_nil_of_length_eq_zero hn
      subst h0
      have : k = 0 := by simpa using hk
      subst this
      exact ⟨.slice (some a) (0 - 0) (c - 0), by simp [sliceE, xbounds, asNat_zero, xsliceR, hs], .nil⟩
    · refine ⟨.slice (some ⟨a.block, a.off + k * size, some 0⟩) (rows.length - k) (c - k), by simp [sliceE, hb, xsliceR, hs, ho, hsp], _, _, by rw [List.length_drop], by rw [List.length_drop]; omega, fun i r hr => ?_⟩
      have hr' := hdrop i r hr
      obtain ⟨h1, a', o', h2, h3, h4, h5⟩ := h _ r hr'
      cases h2
      refine ⟨h1, _, o', rfl, h3, h4, fun j hj => ?_⟩
      rw [← h5 j hj, Nat.add_mul]
      congr 1
      show a.off + k * size + i * size + j = _
      omega
theorem Own2.cut {F : List Nat} (h : Own2 size F m v rows) : CutOk m size v := by
  intro a n c hv
  obtain ⟨_, ⟨_, _, ⟨rfl, _⟩ | ⟨id, o, cap, rest, rfl, h5, _, _, _, h9, _⟩⟩ | ⟨_, _, id, rfl⟩⟩ := h
  · cases hv
  · cases hv
    exact .inr (.inr ⟨rfl, o, h5, h9⟩)
  · cases hv
    exact .inl rfl
end

/-! ## Slices of structs as arguments -/
section
variable {H : Type} {P : Program}
theorem abs_rows {e : TypeId} {Good : List Value → Prop} (hrow : ∀ d : DataW H, wfD P d e → ∃ r, Good r ∧ ∀ m, absD P d e m = (r, m)) :
    ∀ es : List (DataW H), wfAll P es e → ∃ rows : List (List Value), rows.length = es.length ∧ (∀ r ∈ rows, Good r) ∧ ∀ m, absAll P es e m = (rows.flatten, m)
  | [], _ => ⟨[], rfl, by simp, fun m => rfl⟩
  | d :: es, h => by
    simp only [wfAll] at h
    obtain ⟨r, h1, h2⟩ := hrow d h.1
    obtain ⟨rows, h3, h4, h5⟩ := abs_rows hrow es h.2
    refine ⟨r :: rows, by simp [h3], by simpa using ⟨h1, h4⟩, fun m => ?_⟩
    simp only [absAll, h2, h5, List.flatten_cons]

theorem abs_slice_rows {d : DataW H} {t e : TypeId} {size : Nat} {m : Mem} {Good : List Value → Prop} (hs : 0 < size) (hsz : ∀ r, Good r → r.length = size) (hrow : ∀ d : DataW H, wfD P d e → ∃ r, Good r ∧ ∀ m, absD P d e m = (r, m))
    (hu : P.underlying t = some (.slice e)) (h : wfD P d t) :
    ∃ (rows : List (List Value)) (v : Value), (absD P d t m).1 = [v] ∧ (∀ r ∈ rows, Good r) ∧ rows.length ≤ 9223372036854775807 ∧ Fm (fun _ => False) m (absD P d t m).2 ∧ RdS (absD P d t m).2.next (absD P d t m).2 size v rows ∧ ∀ m', CutOk m' size v := by
  rcases wf_slice hu h with rfl | ⟨es, sp, rfl, hl, h1, h2⟩
  · exact ⟨[], .slice none 0 0, by simp only [absD], by simp, by simp, by simp only [absD]; exact .refl, .nil, fun m' a n c h => by cases h⟩
  · obtain ⟨rows, k1, k2, k3⟩ := abs_rows hrow es h1
    obtain ⟨rows', k4, k5, k6⟩ := abs_rows hrow sp h2
    simp only [absD, hu]
    split
    · rename_i h0
      have : rows = [] := List.eq_nil_of_length_eq_zero (by omega)
      subst this
      exact ⟨[], _, rfl, by simp, by simp, .refl, .nil, fun m' a n c h => by cases h; exact .inr (.inl ⟨rfl, by omega⟩)⟩
    · rw [k3, k6]
      refine ⟨rows, _, rfl, k2, by omega, .push, ⟨some ⟨m.next, 0, none⟩, es.length + sp.length, by rw [k1], by omega, fun i r hr => ?_⟩, fun m' a n c h => by cases h; exact .inl rfl⟩
      have hgr := k2 r (List.mem_of_getElem? hr)
      refine ⟨hsz r hgr, _, { cells := rows.flatten ++ rows'.flatten, rw := false, spare := none, kin := [] }, rfl, by simp, push_self, fun j hj => ?_⟩
      have hg := flat_get (fun r hr => hsz r (k2 r hr)) hr hj
      simp only [Nat.zero_add]
      obtain ⟨hlt, _⟩ := List.getElem?_eq_some_iff.1 (show rows.flatten[i * size + j]? = some (r[j]'(by rw [hsz r hgr]; exact hj)) by rw [hg]; exact List.getElem?_eq_getElem _)
      rw [List.getElem?_append_left hlt, hg]
end
end Go.Proofs.YtnlmnejellipdaaGreat.X
