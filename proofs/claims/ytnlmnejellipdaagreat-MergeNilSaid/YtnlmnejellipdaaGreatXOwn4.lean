/-
  Own work. Slices that the program owns, those of a literal among them.
-/
import Derived.Test.YtnlmnejellipdaaGreatXOwn3
namespace Go.Proofs.YtnlmnejellipdaaGreat.X
open Go
set_option linter.unusedVariables false
set_option linter.unusedSimpArgs false

/-- A slice that the program owns, or a literal's. -/
def Own3 (size : Nat) (F : List Nat) (m : Mem) (v : Value) (rows : List (List Value)) : Prop :=
  Own2 size F m v rows ∨ ((∀ r ∈ rows, r.length = size) ∧ (∀ i ∈ F, i < m.next) ∧ ∃ id o, v = .slice (some ⟨id, 0, none⟩) rows.length rows.length ∧ id ∈ F ∧ m.get id = some o ∧ o.cells = rows.flatten)

section
variable {size : Nat} {F : List Nat} {m m' : Mem} {v : Value} {rows : List (List Value)}
theorem Own3.lt (h : Own3 size F m v rows) : ∀ i ∈ F, i < m.next := by
  rcases h with h | ⟨_, h, _⟩
  · exact h.lt
  · exact h
theorem Own3.fr {S : Nat → Prop} (h : Own3 size F m v rows) (hf : Fm S m m') (hs : ∀ i ∈ F, ¬ S i) : Own3 size F m' v rows := by
  rcases h with h | ⟨h0, h1, id, o, h2, h3, h4, h5⟩
  · exact .inl (h.fr hf hs)
  · exact .inr ⟨h0, fun i hi => Nat.lt_of_lt_of_le (h1 i hi) hf.next, id, o, h2, h3, hf.get (h1 id h3) (hs id h3) h4, h5⟩
theorem Own3.rd (h : Own3 size F m v rows) (hs : 0 < size) : RdS m.next m size v rows := by
  rcases h with h | ⟨h0, h1, id, o, rfl, h3, h4, h5⟩
  · exact h.rd hs
  · refine ⟨_, _, rfl, Nat.le_refl _, fun i r hr => ⟨h0 r (List.mem_of_getElem? hr), _, o, rfl, h1 id h3, h4, fun j hj => ?_⟩⟩
    rw [h5]
    simp only [Nat.zero_add]
    exact flat_get h0 hr hj
theorem Own3.append {bytes : Nat} {zero new : List Value} {vx : Value} (h : Own3 size F m v rows) (hz : zero.length = size) (hs : 0 < size) (hx : xlen vx = some 1) (hn : xfirst m size 1 vx = some new) (hl : new.length = size)
    (hb : (rows.length + 1) * bytes ≤ 140737488355328) (hb2 : rows.length + 1 ≤ 9223372036854775807) :
    ∃ v' m' F', appendE m size bytes zero v vx = some (.val v' m') ∧ Own3 size F' m' v' (rows ++ [new]) ∧ Fm (· ∈ F) m m' ∧ (∀ i ∈ F, i ∈ F') ∧ ∀ i ∈ F', i ∈ F ∨ m.next ≤ i := by
  rcases h with h | ⟨h0, h1, id, o, rfl, h3, h4, h5⟩
  · obtain ⟨v', m', F', k1, k2, k3, k4, k5⟩ := h.append (bytes := bytes) hz hs hx hn hl hb hb2
    exact ⟨v', m', F', k1, .inl k2, k3, k4, k5⟩
  · have hlen : rows.flatten.length = rows.length * size := by
      clear hb hb2 h5 h4
      induction rows with
      | nil => simp
      | cons r rows ih => rw [List.flatten_cons, List.length_append, ih (fun r hr => h0 r (by simp [hr])), h0 r (by simp), List.length_cons, Nat.add_mul]; omega
    have hold : (if rows.length = 0 then some [] else xload m ⟨id, 0, none⟩ (rows.length * size)) = some rows.flatten := by
      by_cases hq : rows.length = 0
      · rw [if_pos hq]
        have : rows = [] := List.eq_nil_of_length_eq_zero hq
        subst this; rfl
      · rw [if_neg hq, xload_own h4 (by rw [h5, hlen]; omega), h5, List.drop_zero, List.take_of_length_le (by omega)]
    refine ⟨.slice (some ⟨m.next, 0, some 0⟩) (rows.length + 1) (rows.length + 1), m.push { cells := rows.flatten ++ new, rw := true, spare := some size, kin := [] }, m.next :: F, ?_, .inl ⟨fun r hr => ?_, .inl ⟨?_, ?_, .inr ⟨m.next, { cells := rows.flatten ++ new, rw := true, spare := some size, kin := [] }, rows.length + 1, [], ?_, by rw [Mem.get_push, if_pos rfl], by simp, by simp, rfl, rfl, by simp, ?_⟩⟩⟩, .push, fun i hi => by simp [hi], fun i hi => ?_⟩
    · simp only [appendE, hx, hn, Option.bind_some, if_pos hz, xappend]
      rw [if_neg (by omega), if_neg (by omega), if_pos ⟨hb, hb2⟩, hold]
      rfl
    · rcases List.mem_append.1 hr with hr | hr
      · exact h0 r hr
      · simp at hr; subst hr; exact hl
    · rw [List.flatten_append, List.length_append, hlen, List.length_append]
      simp [hl, Nat.add_mul]
    · intro i hi
      rcases List.mem_cons.1 hi with rfl | hi
      · simp
      · have := h1 i hi; simp; omega
    · simp
    · rw [List.length_append, hlen, hl, Nat.add_mul]; omega
    · rcases List.mem_cons.1 hi with rfl | hi
      · exact .inr (Nat.le_refl _)
      · exact .inl hi
/-- A literal of one element. -/
theorem Own3.one {x : Value} : Own3 1 [m.next] (m.push { cells := [x], rw := true, spare := none, kin := [] }) (.slice (some ⟨m.next, 0, none⟩) 1 1) [[x]] :=
  .inr ⟨by simp, by simp, m.next, _, rfl, by simp, push_self, rfl⟩
/-- One element more, that a literal holds. -/
theorem Own3.app1 {bytes : Nat} {zero x : Value} {vals : List Value} (hx : x.cells = #[x]) (h : Own3 1 F m v (vals.map fun x => [x])) (hb : (vals.length + 1) * bytes ≤ 140737488355328) (hb2 : vals.length + 1 ≤ 9223372036854775807) :
    ∃ m2 v' m3 F', buildSliceE m [zero] 1 1 [(0, x)] = some (.val (.slice (some ⟨m.next, 0, none⟩) 1 1) m2) ∧ appendE m2 1 bytes [zero] v (.slice (some ⟨m.next, 0, none⟩) 1 1) = some (.val v' m3) ∧
      Own3 1 F' m3 v' ((vals ++ [x]).map fun x => [x]) ∧ Fm (· ∈ F) m m3 ∧ (∀ i ∈ F, i ∈ F') ∧ ∀ i ∈ F', i ∈ F ∨ m.next < i := by
  obtain ⟨m2, hm2⟩ : ∃ m2, m.push { cells := [x], rw := true, spare := none, kin := [] } = m2 := ⟨_, rfl⟩
  have f2 : Fm (fun _ => False) m m2 := hm2 ▸ .push
  have hn2 : m2.next = m.next + 1 := by rw [← hm2]; simp
  have g2 : m2.get m.next = some { cells := [x], rw := true, spare := none, kin := [] } := by rw [← hm2, push_self]
  obtain ⟨v', m3, F', a1, a2, a3, a4, a5⟩ := (h.fr f2 (fun _ _ h => h)).append (bytes := bytes) (zero := [zero]) (new := [x]) (vx := .slice (some ⟨m.next, 0, none⟩) 1 1) rfl (by omega) rfl (by simp [xfirst, xload, g2]) rfl (by simpa using hb) (by simpa using hb2)
  refine ⟨m2, v', m3, F', by rw [← hm2]; exact buildSlice_one hx, a1, by rw [List.map_append]; exact a2, (f2.mono fun _ _ h => h.elim).trans a3, a4, fun i hi => ?_⟩
  rcases a5 i hi with h | h
  · exact .inl h
  · exact .inr (by omega)
/-- A part that is read stays where others change. -/
theorem RdS.fr2 {b : Nat} {S : Nat → Prop} (h : RdS b m size v rows) (hf : Fm S m m') (hb : b ≤ m.next) (hs : ∀ a n c, v = .slice (some a) n c → n ≠ 0 → ¬ S a.block) : RdS m'.next m' size v rows := by
  obtain ⟨p, c, rfl, hc, h⟩ := h
  refine ⟨p, c, rfl, hc, fun i r hr => ?_⟩
  obtain ⟨k1, a, o, rfl, k3, k4, k5⟩ := h i r hr
  have hlt := (List.getElem?_eq_some_iff.1 hr).1
  exact ⟨k1, a, o, rfl, Nat.lt_of_lt_of_le k3 (Nat.le_trans hb hf.next), hf.get (Nat.lt_of_lt_of_le k3 hb) (hs a _ _ rfl (by omega)) k4, k5⟩
theorem RdS.block {b : Nat} (h : RdS b m size v rows) {a : Addr} {n c : Nat} (hv : v = .slice (some a) n c) (hn : n ≠ 0) : a.block < b := by
  obtain ⟨p, c', rfl, hc, h⟩ := h
  cases hv
  obtain ⟨r, hr⟩ : ∃ r, rows[0]? = some r := ⟨_, List.getElem?_eq_getElem (by omega)⟩
  obtain ⟨k1, a', o, h1, k3, _⟩ := h 0 r hr
  cases h1
  exact k3
theorem Own3.block (h : Own3 size F m v rows) {a : Addr} {n c : Nat} (hv : v = .slice (some a) n c) (hn : n ≠ 0) : a.block ∈ F := by
  rcases h with ⟨_, h | ⟨rfl, _, id, rfl⟩⟩ | ⟨_, _, id, o, rfl, h3, _⟩
  · obtain ⟨_, _, ⟨rfl, _⟩ | ⟨id, o, cap, rest, rfl, _, h6, _⟩⟩ := h
    · cases hv
    · cases hv; exact h6
  · cases hv; exact absurd rfl hn
  · cases hv; exact h3
theorem RdS.at1 {b : Nat} {vals : List Value} (h : RdS b m 1 v (vals.map fun x => [x])) {i : Nat} {x : Value} (hi : vals[i]? = some x) : ∃ a c o, v = .slice (some a) vals.length c ∧ m.get a.block = some o ∧ o.cells[a.off + i]? = some x := by
  obtain ⟨p, c, rfl, hc, h⟩ := h
  obtain ⟨k1, a, o, rfl, k3, k4, k5⟩ := h i [x] (by simp [hi])
  exact ⟨a, c, o, by simp, k4, by simpa using k5 0 (by omega)⟩
end
end Go.Proofs.YtnlmnejellipdaaGreat.X
