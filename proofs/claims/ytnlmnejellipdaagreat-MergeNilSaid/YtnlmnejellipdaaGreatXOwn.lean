/-
  OwnS work. Slices that a program owns: what append and clear do to them.
-/
import Derived.Test.YtnlmnejellipdaaGreatXLem
namespace Go.Proofs.YtnlmnejellipdaaGreat.X
open Go
set_option linter.unusedVariables false
set_option linter.unusedSimpArgs false

theorem setAll_eq : ∀ (vs l : List Value) (o : Nat), o + vs.length ≤ l.length → setAll l o vs = l.take o ++ vs ++ l.drop (o + vs.length)
  | [], l, o, h => by simp [setAll]
  | v :: vs, l, o, h => by
    simp only [List.length_cons] at h
    rw [setAll, setAll_eq vs (l.set o v) (o + 1) (by simp; omega)]
    have h1 : (l.set o v).take (o + 1) = l.take o ++ [v] := by
      rw [List.set_eq_take_append_cons_drop, if_pos (by omega)]
      rw [List.take_append, List.take_take]
      simp only [List.length_take]
      rw [show min (o + 1) o = o by omega, show o + 1 - min o l.length = 1 by omega]
      simp
    have h2 : (l.set o v).drop (o + 1 + vs.length) = l.drop (o + (v :: vs).length) := by
      rw [List.drop_set_of_lt (by omega)]
      simp only [List.length_cons]
      congr 1; omega
    rw [h1, h2]; simp

/-- A slice of n elements that the program owns; F: the rows that it lies in. -/
def OwnS (size : Nat) (F : List Nat) (m : Mem) (v : Value) (n : Nat) (cs : List Value) : Prop :=
  cs.length = n * size ∧ (∀ i ∈ F, i < m.next) ∧
  ((v = .slice none 0 0 ∧ n = 0) ∨
   ∃ id o cap rest, v = .slice (some ⟨id, 0, some 0⟩) n cap ∧ m.get id = some o ∧ id ∈ F ∧ (∀ i ∈ o.kin, i ∈ F ∧ i ≠ id) ∧ o.rw = true ∧ o.spare = some size ∧ o.cells = cs ++ rest ∧ o.cells.length = cap * size)

section
variable {size : Nat} {F : List Nat} {m m' : Mem} {v : Value} {n : Nat} {cs : List Value}
theorem OwnS.lt (h : OwnS size F m v n cs) : ∀ i ∈ F, i < m.next := h.2.1
theorem OwnS.slice (h : OwnS size F m v n cs) : ∃ p c, v = .slice p n c := by
  obtain ⟨_, _, ⟨rfl, rfl⟩ | ⟨id, o, cap, rest, rfl, _⟩⟩ := h
  · exact ⟨_, _, rfl⟩
  · exact ⟨_, _, rfl⟩
theorem OwnS.nil (hF : ∀ i ∈ F, i < m.next) : OwnS size F m (.slice none 0 0) 0 [] := ⟨by simp, hF, .inl ⟨rfl, rfl⟩⟩
/-- It stays where only other rows change. -/
theorem OwnS.fr {S : Nat → Prop} (h : OwnS size F m v n cs) (hf : Fm S m m') (hs : ∀ i ∈ F, ¬ S i) : OwnS size F m' v n cs := by
  obtain ⟨h1, h2, h3⟩ := h
  refine ⟨h1, fun i hi => Nat.lt_of_lt_of_le (h2 i hi) hf.next, ?_⟩
  rcases h3 with h3 | ⟨id, o, cap, rest, h4, h5, h6, h7⟩
  · exact .inl h3
  · exact .inr ⟨id, o, cap, rest, h4, hf.get (h2 _ h6) (hs _ h6) h5, h6, h7⟩
theorem OwnS.more {F' : List Nat} (h : OwnS size F m v n cs) (hF : ∀ i ∈ F, i ∈ F') (hl : ∀ i ∈ F', i < m.next) : OwnS size F' m v n cs := by
  obtain ⟨h1, h2, h3⟩ := h
  refine ⟨h1, hl, ?_⟩
  rcases h3 with h3 | ⟨id, o, cap, rest, h4, h5, h6, h7, h8⟩
  · exact .inl h3
  · exact .inr ⟨id, o, cap, rest, h4, h5, hF _ h6, fun i hi => ⟨hF _ (h7 i hi).1, (h7 i hi).2⟩, h8⟩

/-- Its cells are read. -/
theorem OwnS.get (h : OwnS size F m v n cs) {i : Nat} (hi : i < n) : ∃ id o cap, v = .slice (some ⟨id, 0, some 0⟩) n cap ∧ m.get id = some o ∧ ∀ j, j < size → o.cells[i * size + j]? = cs[i * size + j]? := by
  obtain ⟨h1, h2, ⟨rfl, rfl⟩ | ⟨id, o, cap, rest, rfl, h5, h6, h7, h8, h9, h10, h11⟩⟩ := h
  · omega
  · refine ⟨id, o, cap, rfl, h5, fun j hj => ?_⟩
    rw [h10, List.getElem?_append_left]
    rw [h1]
    have : (i + 1) * size ≤ n * size := Nat.mul_le_mul_right _ hi
    have h3 : (i + 1) * size = i * size + size := by rw [Nat.add_mul]; omega
    omega

/-- One element more. -/
theorem OwnS.append {bytes : Nat} {zero new : List Value} {vx : Value} (h : OwnS size F m v n cs) (hz : zero.length = size) (hs : 0 < size) (hx : xlen vx = some 1) (hn : xfirst m size 1 vx = some new) (hl : new.length = size)
    (hb : (n + 1) * bytes ≤ 140737488355328) (hb2 : n + 1 ≤ 9223372036854775807) :
    ∃ v' m' F', appendE m size bytes zero v vx = some (.val v' m') ∧ OwnS size F' m' v' (n + 1) (cs ++ new) ∧ Fm (· ∈ F) m m' ∧ (∀ i ∈ F, i ∈ F') ∧ ∀ i ∈ F', i ∈ F ∨ m.next ≤ i := by
  obtain ⟨h1, h2, ⟨rfl, rfl⟩ | ⟨id, o, cap, rest, rfl, h5, h6, h7, h8, h9, h10, h11⟩⟩ := h
  · have : cs = [] := by simpa using h1
    subst this
    refine ⟨.slice (some ⟨m.next, 0, some 0⟩) 1 1, m.push { cells := new, rw := true, spare := some size, kin := [] }, m.next :: F, ?_, ⟨by simpa using hl, ?_, .inr ⟨m.next, { cells := new, rw := true, spare := some size, kin := [] }, 1, [], rfl, by rw [Mem.get_push, if_pos rfl], by simp, by simp, rfl, rfl, by simp, by simpa using hl⟩⟩, .push, fun i hi => by simp [hi], fun i hi => ?_⟩
    · simp only [appendE, hx, hn, Option.bind_some, if_pos hz, xappend]
      rw [if_neg (by omega), if_pos ⟨by omega, by omega⟩]
      rfl
    · intro i hi
      simp only [List.mem_cons] at hi
      rw [Mem.next_push]
      rcases hi with rfl | hi
      · omega
      · have := h2 i hi; omega
    · simp only [List.mem_cons] at hi
      rcases hi with rfl | hi
      · exact .inr (Nat.le_refl _)
      · exact .inl hi
  · by_cases hc : n + 1 ≤ cap
    · -- there is room
      have hrest : n * size + size ≤ o.cells.length := by
        rw [h11]
        have : (n + 1) * size ≤ cap * size := Nat.mul_le_mul_right _ hc
        rw [Nat.add_mul] at this
        omega
      have hset : setAll o.cells (n * size) new = cs ++ new ++ o.cells.drop (n * size + size) := by
        rw [setAll_eq _ _ _ (by omega), hl, h10]
        congr 2
        rw [← h1, List.take_append_of_le_length (Nat.le_refl _), List.take_length]
      refine ⟨.slice (some ⟨id, 0, some 0⟩) (n + 1) cap, (m.eraseAll o.kin).set id { o with cells := cs ++ new ++ o.cells.drop (n * size + size), kin := [] }, F, ?_, ⟨?_, ?_, .inr ⟨id, { o with cells := cs ++ new ++ o.cells.drop (n * size + size), kin := [] }, cap, o.cells.drop (n * size + size), rfl, by rw [Mem.get_set, if_pos rfl], h6, by simp, h8, h9, rfl, ?_⟩⟩, ?_, fun i hi => hi, fun i hi => .inl hi⟩
      · simp only [appendE, hx, hn, Option.bind_some, if_pos hz, xappend]
        rw [if_neg (by omega), if_pos hc, if_neg (by omega)]
        simp only [xstore, h5, Nat.zero_add]
        rw [if_pos ⟨h8, by omega⟩, hset]
        rfl
      · simp [h1, hl, Nat.add_mul]
      · intro i hi; simpa using h2 i hi
      · simp only [List.length_append, List.length_drop, h1, hl]; omega
      · refine Fm.trans (Fm.eraseAll fun i hi => (h7 i hi).1) (Fm.set h6)
    · -- there is none
      have hcap : n = cap := by
        have hle : n * size ≤ cap * size := by rw [← h11, h10]; simp [h1]
        have := Nat.le_of_mul_le_mul_right hle hs
        omega
      subst hcap
      have hre : rest = [] := by
        have := h11
        rw [h10, List.length_append, h1] at this
        exact List.length_eq_zero_iff.1 (by omega)
      subst hre
      rw [List.append_nil] at h10
      refine ⟨.slice (some ⟨m.next, 0, some 0⟩) (n + 1) (n + 1), (m.set id { o with rw := false, kin := [] }).push { cells := o.cells ++ new, rw := true, spare := some size, kin := id :: o.kin }, m.next :: F, ?_, ⟨?_, ?_, .inr ⟨m.next, { cells := o.cells ++ new, rw := true, spare := some size, kin := id :: o.kin }, n + 1, [], rfl, by rw [Mem.get_push]; simp, by simp, ?_, rfl, rfl, by simp [h10], ?_⟩⟩, ?_, fun i hi => by simp [hi], fun i hi => ?_⟩
      · simp only [appendE, hx, hn, Option.bind_some, if_pos hz, xappend]
        rw [if_neg (by omega), if_neg hc, if_pos ⟨hb, hb2⟩]
        simp only [h5]
        rw [if_pos ⟨h8, h9, by omega, by rw [h11]; omega⟩]
        simp
      · simp [h1, hl, Nat.add_mul]
      · intro i hi
        simp only [List.mem_cons] at hi
        rw [Mem.next_push, Mem.next_set]
        rcases hi with rfl | hi
        · omega
        · have := h2 i hi; omega
      · intro i hi
        simp only [List.mem_cons] at hi
        rcases hi with rfl | hi
        · exact ⟨by simp [h6], by have := h2 _ h6; omega⟩
        · exact ⟨by simp [(h7 i hi).1], by have := h2 _ (h7 i hi).1; omega⟩
      · simp [h11, hl, Nat.add_mul]
      · exact Fm.trans (Fm.set h6) .push
      · simp only [List.mem_cons] at hi
        rcases hi with rfl | hi
        · exact .inr (Nat.le_refl _)
        · exact .inl hi

/-! ## Parts of it -/
section
variable {id off cap k a b : Nat} {o : XObj} {kd : IntKind}
theorem slice_hi (hg : m.get id = some o) (hsp : o.spare = some size) (hk : k ≤ cap) : sliceE m size (.slice (some ⟨id, off, some 0⟩) n cap) none (some (.int kd (k : Int))) none = some (.val (.slice (some ⟨id, off, some 0⟩) k cap) m) := by
  simp [sliceE, xbounds, asNat_nat, hk, xsliceR, hg, hsp]
theorem slice_lo (hg : m.get id = some o) (hsp : o.spare = some size) (hk : k ≤ n) : sliceE m size (.slice (some ⟨id, off, some 0⟩) n cap) (some (.int kd (k : Int))) none none = some (.val (.slice (some ⟨id, off + k * size, some 0⟩) (n - k) (cap - k)) m) := by
  simp [sliceE, xbounds, asNat_nat, hk, xsliceR, hg, hsp]
theorem slice_lohi (hg : m.get id = some o) (hsp : o.spare = some size) (ha : a ≤ b) (hb : b ≤ cap) : sliceE m size (.slice (some ⟨id, off, some 0⟩) n cap) (some (.int kd (a : Int))) (some (.int kd (b : Int))) none = some (.val (.slice (some ⟨id, off + a * size, some 0⟩) (b - a) (cap - a)) m) := by
  simp [sliceE, xbounds, asNat_nat, ha, hb, xsliceR, hg, hsp]
theorem slice_three (ha : a ≤ b) (hb : b ≤ k) (hk : k ≤ cap) : ∃ v, sliceE m size (.slice (some ⟨id, off, some 0⟩) n cap) (some (.int kd (a : Int))) (some (.int kd (b : Int))) (some (.int kd (k : Int))) = some (.val v m) := by
  simp [sliceE, xbounds, asNat_nat, ha, hb, hk, xsliceR]
end

theorem xload_own {id off c : Nat} {o : XObj} (hg : m.get id = some o) (hl : off + c ≤ o.cells.length) : xload m ⟨id, off, none⟩ c = some ((o.cells.drop off).take c) := by
  simp [xload, hg, hl]
theorem xstore_own {id off : Nat} {o : XObj} {vs : List Value} (hg : m.get id = some o) (hrw : o.rw = true) (hl : off + vs.length ≤ o.cells.length) : xstore m ⟨id, off, none⟩ vs = some ((m.eraseAll o.kin).set id { o with cells := setAll o.cells off vs, kin := [] }) := by
  simp [xstore, hg, hrw, hl]
theorem zerosOf_len {zero : List Value} : ∀ k, (zerosOf zero k).length = k * zero.length
  | 0 => by simp [zerosOf]
  | k + 1 => by simp [zerosOf, zerosOf_len k, Nat.add_mul]; omega

/-- Elements i to j are deleted. -/
theorem OwnS.delete {bytes i j : Nat} {zero : List Value} (h : OwnS size F m v n cs) (hz : zero.length = size) (hs : 0 < size) (hij : i < j) (hj : j ≤ n) :
    ∃ id o cap m1 o1 m2, v = .slice (some ⟨id, 0, some 0⟩) n cap ∧ n ≤ cap ∧ m.get id = some o ∧ o.spare = some size ∧
      appendE m size bytes zero (.slice (some ⟨id, 0, some 0⟩) i cap) (.slice (some ⟨id, 0 + j * size, some 0⟩) (n - j) (cap - j)) = some (.val (.slice (some ⟨id, 0, some 0⟩) (i + (n - j)) cap) m1) ∧
      m1.get id = some o1 ∧ o1.spare = some size ∧
      clearE m1 zero (.slice (some ⟨id, 0 + (i + (n - j)) * size, some 0⟩) (n - (i + (n - j))) (cap - (i + (n - j)))) = some (.val (.tuple #[]) m2) ∧
      OwnS size F m2 (.slice (some ⟨id, 0, some 0⟩) (i + (n - j)) cap) (i + (n - j)) (cs.take (i * size) ++ cs.drop (j * size)) ∧ Fm (· ∈ F) m m2 := by
  obtain ⟨h1, h2, ⟨rfl, rfl⟩ | ⟨id, o, cap, rest, rfl, h5, h6, h7, h8, h9, h10, h11⟩⟩ := h
  · omega
  have hcap : n ≤ cap := by
    have hle : n * size ≤ cap * size := by rw [← h11, h10]; simp [h1]
    exact Nat.le_of_mul_le_mul_right hle hs
  have e1 : j * size ≤ n * size := Nat.mul_le_mul_right _ hj
  have e2 : i * size + size ≤ j * size := by
    have : (i + 1) * size ≤ j * size := Nat.mul_le_mul_right _ hij
    rw [Nat.add_mul] at this; omega
  have e3 : n * size ≤ cap * size := Nat.mul_le_mul_right _ hcap
  have e4 : (n - j) * size = n * size - j * size := Nat.sub_mul ..
  have e5 : (i + (n - j)) * size = i * size + (n * size - j * size) := by rw [Nat.add_mul, e4]
  have e6 : (n - (i + (n - j))) * size = n * size - (i * size + (n * size - j * size)) := by rw [Nat.sub_mul, e5]
  have hrl : rest.length = cap * size - n * size := by
    have := h11
    rw [h10, List.length_append, h1] at this
    omega
  -- what stands behind the append
  have key : ∃ m1 o1, appendE m size bytes zero (.slice (some ⟨id, 0, some 0⟩) i cap) (.slice (some ⟨id, 0 + j * size, some 0⟩) (n - j) (cap - j)) = some (.val (.slice (some ⟨id, 0, some 0⟩) (i + (n - j)) cap) m1) ∧
      m1.get id = some o1 ∧ o1.spare = some size ∧ o1.rw = true ∧ (∀ x ∈ o1.kin, x ∈ F ∧ x ≠ id) ∧ o1.cells.length = cap * size ∧ o1.cells.take ((i + (n - j)) * size) = cs.take (i * size) ++ cs.drop (j * size) ∧ Fm (· ∈ F) m m1 := by
    by_cases h0 : n - j = 0
    · refine ⟨m, o, ?_, h5, h9, h8, h7, h11, ?_, .refl⟩
      · simp [appendE, xlen, xfirst, h0, hz, xappend]
      · have hjn : n * size - j * size = 0 := by rw [← e4, h0, Nat.zero_mul]
        rw [e5, hjn, h10, List.drop_eq_nil_of_le (by rw [h1]; omega), List.append_nil, Nat.add_zero, List.take_append_of_le_length (by rw [h1]; omega)]
    · have hx : xfirst m size (n - j) (.slice (some ⟨id, 0 + j * size, some 0⟩) (n - j) (cap - j)) = some (cs.drop (j * size)) := by
        simp only [xfirst, if_neg h0, Nat.zero_add]
        rw [xload_own h5 (by rw [h11, e4]; omega), h10, List.drop_append_of_le_length (by rw [h1]; omega), List.take_append_of_le_length (by rw [List.length_drop, h1, e4]; omega), List.take_of_length_le (by rw [List.length_drop, h1, e4]; omega)]
      have hst := xstore_own (off := i * size) (vs := cs.drop (j * size)) h5 h8 (by rw [List.length_drop, h1, h11]; omega)
      refine ⟨_, { o with cells := setAll o.cells (i * size) (cs.drop (j * size)), kin := [] }, ?_, by rw [Mem.get_set, if_pos rfl], h9, h8, by simp, by simp [h11], ?_, Fm.trans (Fm.eraseAll fun x hx => (h7 x hx).1) (Fm.set h6)⟩
      · simp only [appendE, xlen, Option.bind_some, hx, if_pos hz, xappend, if_neg h0]
        rw [if_pos (by omega), if_neg (by omega)]
        simp only [Nat.zero_add, hst, Option.bind_some]
      · rw [setAll_eq _ _ _ (by rw [List.length_drop, h1, h11]; omega), e5, List.take_append_of_le_length (by rw [List.length_append, List.length_take, List.length_drop, h1, h11]; omega), List.take_of_length_le (by rw [List.length_append, List.length_take, List.length_drop, h1, h11]; omega), h10, List.take_append_of_le_length (by rw [h1]; omega)]
  obtain ⟨m1, o1, k1, k2, k3, k4, k5, k6, k7, k8⟩ := key
  have hst := xstore_own (off := (i + (n - j)) * size) (vs := zerosOf zero (n - (i + (n - j)))) k2 k4 (by rw [zerosOf_len, hz, k6, e6, e5]; omega)
  refine ⟨id, o, cap, m1, o1, _, rfl, hcap, h5, h9, k1, k2, k3, ?_, ⟨?_, ?_, .inr ⟨id, { o1 with cells := setAll o1.cells ((i + (n - j)) * size) (zerosOf zero (n - (i + (n - j)))), kin := [] }, cap, (setAll o1.cells ((i + (n - j)) * size) (zerosOf zero (n - (i + (n - j))))).drop ((i + (n - j)) * size), rfl, by rw [Mem.get_set, if_pos rfl], h6, by simp, k4, k3, ?_, by simp [k6]⟩⟩, k8.trans (Fm.trans (Fm.eraseAll fun x hx => (k5 x hx).1) (Fm.set h6))⟩
  · simp only [clearE]
    rw [if_neg (by omega), if_neg (by omega), Nat.zero_add, hst]
    rfl
  · rw [List.length_append, List.length_take, List.length_drop, h1, e5]; omega
  · intro x hx
    have := h2 x hx
    have := k8.next
    simp; omega
  · simp only
    rw [← k7]
    have : (setAll o1.cells ((i + (n - j)) * size) (zerosOf zero (n - (i + (n - j))))).take ((i + (n - j)) * size) = o1.cells.take ((i + (n - j)) * size) := by
      rw [setAll_eq _ _ _ (by rw [zerosOf_len, hz, k6, e6, e5]; omega), List.append_assoc, List.take_append_of_le_length (by rw [List.length_take, k6, e5]; omega), List.take_take]
      simp
    rw [← this, List.take_append_drop]
end
end Go.Proofs.YtnlmnejellipdaaGreat.X
