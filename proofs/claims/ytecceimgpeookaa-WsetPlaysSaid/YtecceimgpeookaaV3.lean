/-
  Own work. Rows of writes that the program owns: one is stored, deleted, put between, and they are cut.
-/
import Derived.Test.YtecceimgpeookaaV2
namespace Go.Proofs.Ytecceimgpeookaa
open Go X
set_option maxRecDepth 100000
attribute [local irreducible] X.Go' X.GoO X.GoR X.GoG X.GoC X.GoF X.GoFV X.GoFG X.Ex X.GoD X.GoDV X.GoDG
set_option linter.unusedVariables false
set_option linter.unusedSimpArgs false

theorem flat_len {size : Nat} : ∀ {rows : List (List Value)}, (∀ r ∈ rows, r.length = size) → rows.flatten.length = rows.length * size
  | [], _ => by simp
  | r :: rows, h => by
    rw [List.flatten_cons, List.length_append, flat_len (fun r hr => h r (by simp [hr])), h r (by simp), List.length_cons, Nat.add_mul]; omega
theorem flat_cut {size : Nat} {rows : List (List Value)} (h : ∀ r ∈ rows, r.length = size) {i : Nat} (hi : i ≤ rows.length) : rows.flatten.take (i * size) = (rows.take i).flatten ∧ rows.flatten.drop (i * size) = (rows.drop i).flatten := by
  have h1 : (rows.take i).flatten.length = i * size := by rw [flat_len (fun r hr => h r (List.mem_of_mem_take hr)), List.length_take, Nat.min_eq_left hi]
  have h2 : rows.flatten = (rows.take i).flatten ++ (rows.drop i).flatten := by rw [← List.flatten_append, List.take_append_drop]
  rw [h2]
  exact ⟨by rw [← h1, List.take_left'] ; rfl, by rw [← h1, List.drop_left']; rfl⟩
theorem mem_set_len {size : Nat} {rows : List (List Value)} {row : List Value} (h : ∀ r ∈ rows, r.length = size) (hr : row.length = size) (i : Nat) : ∀ r ∈ rows.set i row, r.length = size := fun r hm => by
  rcases List.mem_or_eq_of_mem_set hm with h1 | rfl
  · exact h r h1
  · exact hr
theorem flat_set {size : Nat} {rows : List (List Value)} {row : List Value} (h : ∀ r ∈ rows, r.length = size) (hr : row.length = size) {i : Nat} (hi : i < rows.length) : (rows.set i row).flatten = (rows.take i).flatten ++ (row ++ (rows.drop (i + 1)).flatten) := by
  rw [List.set_eq_take_append_cons_drop, if_pos hi, List.flatten_append, List.flatten_cons]

section
variable {F : List Nat} {m m' : Mem} {v : Value} {rows : List (List Value)} {row : List Value}
theorem own_pos {size i : Nat} (h : Own2 size F m v rows) (hi : i < rows.length) : (∀ r ∈ rows, r.length = size) ∧ OwnS size F m v rows.length rows.flatten := by
  obtain ⟨h0, h | ⟨rfl, _⟩⟩ := h
  · exact ⟨h0, h⟩
  · simp at hi
/-- One of its rows is stored. -/
theorem own_set (h : Own2 5 F m v rows) {i : Nat} (hi : i < rows.length) (hr : row.length = 5) (hn : noTup (.agg ⟨row⟩) = true) :
    ∃ id c m', v = .slice (some ⟨id, 0, some 0⟩) rows.length c ∧ storeE m 5 (.pointer (some ⟨id, i * 5, none⟩)) (.agg ⟨row⟩) = some (.skip m') ∧ Own2 5 F m' v (rows.set i row) ∧ Fm (· ∈ F) m m' := by
  obtain ⟨h0, h⟩ := own_pos h hi
  obtain ⟨k1, k2, ⟨rfl, hz⟩ | ⟨id, o, cap, rest, rfl, h5, h6, h7, h8, h9, h10, h11⟩⟩ := h
  · omega
  have hfl := flat_len h0
  have hle : (i + 1) * 5 ≤ rows.length * 5 := Nat.mul_le_mul_right _ hi
  have hol : rows.length * 5 ≤ o.cells.length := by rw [h10, List.length_append, hfl]; omega
  have hst := xstore_own (off := i * 5) (vs := row) h5 h8 (by omega)
  have hcells : setAll o.cells (i * 5) row = (rows.set i row).flatten ++ rest := by
    rw [setAll_eq _ _ _ (by omega), h10, flat_set h0 hr hi, List.take_append_of_le_length (by omega), (flat_cut h0 (by omega)).1, hr]
    rw [show i * 5 + 5 = (i + 1) * 5 by omega, List.drop_append_of_le_length (by omega), (flat_cut h0 (by omega)).2]
    simp
  refine ⟨id, cap, (m.eraseAll o.kin).set id { o with cells := setAll o.cells (i * 5) row, kin := [] }, rfl, ?_, ⟨mem_set_len h0 hr i, .inl ⟨?_, ?_, .inr ⟨id, { o with cells := setAll o.cells (i * 5) row, kin := [] }, cap, rest, by rw [List.length_set], by rw [Mem.get_set, if_pos rfl], h6, by simp, h8, h9, hcells, ?_⟩⟩⟩, Fm.trans (Fm.eraseAll fun y hy => (h7 y hy).1) (Fm.set h6)⟩
  · have hc : (Value.agg ⟨row⟩).cells.size = 5 ∧ noTup (.agg ⟨row⟩) = true := ⟨hr, hn⟩
    have hl : (Value.agg ⟨row⟩).cells.toList = row := rfl
    simp only [storeE]
    rw [if_pos hc, if_neg (by omega), hl, hst]
    rfl
  · rw [flat_len (mem_set_len h0 hr i)]
  · intro y hy; simpa using k2 y hy
  · show (setAll o.cells (i * 5) row).length = _
    rw [setAll_eq _ _ _ (by omega)]
    simp only [List.length_append, List.length_take, List.length_drop]
    omega

/-- One of them is deleted. -/
theorem del_spec (h : Own2 5 F m v rows) {i : Nat} (hi : i < rows.length) (hl : rows.length ≤ 1000000) :
    ∃ v' m', Ca 62 [v, I (i : Int), I ((i + 1 : Nat) : Int)] m v' m' ∧ Own2 5 F m' v' (rows.take i ++ rows.drop (i + 1)) ∧ Fm (· ∈ F) m m' := by
  obtain ⟨h0, h⟩ := own_pos h hi
  obtain ⟨id, o, cap, m1, o1, m2, rfl, hcap, hg, hsp, k1, k2, k3, k4, k5, k6⟩ := OwnS.delete (bytes := 56) (zero := [.string .empty, .bool false, .bool false, .string .empty, U 0]) (i := i) (j := i + 1) h rfl (by omega) (by omega) (by omega)
  have hlen : (rows.take i ++ rows.drop (i + 1)).length = i + (rows.length - (i + 1)) := by simp; omega
  have hmem : ∀ r ∈ rows.take i ++ rows.drop (i + 1), r.length = 5 := fun r hr => by
    rcases List.mem_append.1 hr with hr | hr
    · exact h0 r (List.mem_of_mem_take hr)
    · exact h0 r (List.mem_of_mem_drop hr)
  refine ⟨.slice (some ⟨id, 0, some 0⟩) (i + (rows.length - (i + 1))) cap, m2, ?_, ⟨hmem, .inl ?_⟩, k6⟩
  · refine callX_of (call_go (F := _) rfl rfl fun Q hQ => ?_)
    obtain ⟨v3, hv3⟩ := slice_three (m := m) (size := 5) (n := rows.length) (id := id) (off := 0) (a := i) (b := i + 1) (k := rows.length) (cap := cap) (kd := .i64) (by omega) (by omega) hcap
    have s1 := slice_hi (n := rows.length) (off := 0) (k := i) (cap := cap) (kd := .i64) hg hsp (by omega)
    have s2 := slice_lo (n := rows.length) (off := 0) (k := i + 1) (cap := cap) (kd := .i64) hg hsp (by omega)
    have s3 := slice_lohi (n := i + (rows.length - (i + 1))) (off := 0) (a := i + (rows.length - (i + 1))) (b := rows.length) (cap := cap) (kd := .i64) k2 k3 (by omega) hcap
    have hne : ¬ (i : Int) = ((i + 1 : Nat) : Int) := by omega
    simp only [Nat.zero_add] at hv3 s1 s2 s3 k1 k4
    simp only [symA, go_opsd, symB, wantedX, X.put, X.look, Arg.ev, keepOf, restrict, evs, evO, initEnv, xres, tup, noTup, cls, quiet, Nat.reduceAdd, Nat.reduceEqDiff, ↓reduceIte, reduceCtorEq, goInt, exists_eq_left', eq_self, Int.reduceLT, Int.reduceLE, Int.reduceEq, Int.reduceNeg, Int.reduceAdd, Int.reduceSub, forall_const, ne_eq, undef, Nat.reducePow, Nat.reduceDiv, Nat.reduceMod, hv3, hne, s1, s2, s3, k1, k4]
    exact hQ _ _ _ rfl ⟨rfl, rfl⟩
  · rw [hlen, List.flatten_append, ← (flat_cut h0 (i := i) (by omega)).1, ← (flat_cut h0 (i := i + 1) (by omega)).2]
    exact k5

/-- They are cut. -/
theorem own_cut {size k : Nat} (hs : 0 < size) (h : Own2 size F m v rows) (hk : k ≤ rows.length) : ∃ v', sliceE m size v none (some (I (k : Int))) none = some (.val v' m) ∧ Own2 size F m v' (rows.take k) := by
  have hmem : ∀ r ∈ rows.take k, r.length = size := fun r hr => h.1 r (List.mem_of_mem_take hr)
  obtain ⟨h0, h | ⟨rfl, hF, id, rfl⟩⟩ := h
  · obtain ⟨k1, k2, ⟨rfl, hz⟩ | ⟨id, o, cap, rest, rfl, h5, h6, h7, h8, h9, h10, h11⟩⟩ := h
    · have hr0 : rows = [] := List.eq_nil_of_length_eq_zero hz
      subst hr0
      have hk0 : k = 0 := by simpa using hk
      subst hk0
      exact ⟨.slice none 0 0, rfl, by simp, .inl (.nil k2)⟩
    · have hcap : rows.length ≤ cap := by
        have hle : rows.length * size ≤ cap * size := by rw [← h11, h10, List.length_append, k1]; omega
        exact Nat.le_of_mul_le_mul_right hle hs
      refine ⟨.slice (some ⟨id, 0, some 0⟩) k cap, slice_hi (n := rows.length) h5 h9 (by omega), hmem, .inl ⟨flat_len hmem, k2, .inr ⟨id, o, cap, (rows.drop k).flatten ++ rest, by rw [List.length_take, Nat.min_eq_left hk], h5, h6, h7, h8, h9, ?_, h11⟩⟩⟩
      rw [h10, ← List.append_assoc, ← List.flatten_append, List.take_append_drop]
  · have hk0 : k = 0 := by simpa using hk
    subst hk0
    exact ⟨.slice (some ⟨id, 0, none⟩) 0 0, by simp [sliceE, xbounds, asNat_zero, xsliceR], by simp, .inr ⟨rfl, hF, id, rfl⟩⟩

theorem take_cons_len {size : Nat} (h : ∀ r ∈ rows, r.length = size) (hr : row.length = size) (i : Nat) : ∀ r ∈ rows.take i ++ row :: rows.drop i, r.length = size := fun r hm => by
  simp only [List.mem_append, List.mem_cons] at hm
  rcases hm with hm | rfl | hm
  · exact h r (List.mem_of_mem_take hm)
  · exact hr
  · exact h r (List.mem_of_mem_drop hm)
/-- One is put between. -/
theorem ins_spec {va : Nat} (h : Own2 5 F m v rows) {i : Nat} (hi : i ≤ rows.length) (hl : rows.length ≤ 1000) (hr : row.length = 5) (hg : m.get va = some { cells := row, rw := true, spare := none, kin := [] }) (hva : va ∉ F) :
    ∃ v' m' F', Ca 63 [v, I (i : Int), .slice (some ⟨va, 0, none⟩) 1 1] m v' m' ∧ Own2 5 F' m' v' (rows.take i ++ row :: rows.drop i) ∧ Fm (· ∈ F) m m' ∧ ∀ i ∈ F', i ∈ F ∨ m.next ≤ i := by
  have hmem := take_cons_len h.1 hr i
  have hlen : (rows.take i ++ row :: rows.drop i).length = rows.length + 1 := by simp; omega
  by_cases hlt : i < rows.length
  · obtain ⟨h0, h⟩ := own_pos h hlt
    obtain ⟨k1, k2, ⟨rfl, hz⟩ | ⟨id, o, cap, rest, rfl, h5, h6, h7, h8, h9, h10, h11⟩⟩ := h
    · omega
    have hfl := flat_len h0
    have hcap : rows.length ≤ cap := by
      have hle : rows.length * 5 ≤ cap * 5 := by rw [← h11, h10, List.length_append, hfl]; omega
      omega
    have hid : va ≠ id := fun e => hva (e ▸ h6)
    have hkin : va ∉ o.kin := fun e => hva (h7 va e).1
    have hld : xload m ⟨va, 0, none⟩ 5 = some row := by
      rw [xload_own hg (by show 0 + 5 ≤ row.length; omega)]
      show some ((row.drop 0).take 5) = _
      rw [List.drop_zero, List.take_of_length_le (by omega)]
    have hcond : (some 0 : Option Nat) = some 0 ∧ (none : Option Nat) = none ∧ o.rw = true ∧ true = true ∧ o.spare = some 5 ∧ (5 : Nat) ≠ 0 ∧ (0 : Int) ≤ i ∧ (i : Int) < (rows.length : Nat) ∧ va ≠ id ∧ va ∉ o.kin ∧ rows.length ≤ 1000000 ∧ 0 ≤ o.cells.length ∧ rows.length ≤ cap :=
      ⟨rfl, rfl, h8, rfl, h9, by omega, by omega, by omega, hid, hkin, by omega, by omega, hcap⟩
    have hfm : ∀ x : XObj, Fm (· ∈ F) m ((m.eraseAll (id :: o.kin)).push x) := fun x => Fm.trans (Fm.eraseAll fun y hy => by
      rcases List.mem_cons.1 hy with rfl | hy
      · exact h6
      · exact (h7 y hy).1) .push
    have hins : insC rows.flatten row (i * 5) = (rows.take i ++ row :: rows.drop i).flatten := by
      rw [insC, (flat_cut h0 (by omega)).1, (flat_cut h0 (by omega)).2, List.flatten_append, List.flatten_cons]
    have htk : (o.cells.drop 0).take (rows.length * 5) = rows.flatten := by rw [List.drop_zero, h10, ← hfl, List.take_left']; rfl
    by_cases hroom : rows.length + 1 ≤ cap
    · have hG : insG 5 [.slice (some ⟨id, 0, some 0⟩) rows.length cap, I (i : Int), .slice (some ⟨va, 0, none⟩) 1 1] m = some (.slice (some ⟨m.next, 0, some 0⟩) (rows.length + 1) cap, (m.eraseAll (id :: o.kin)).push { cells := (rows.take i ++ row :: rows.drop i).flatten ++ (o.cells.drop 0).drop ((rows.length + 1) * 5), rw := true, spare := some 5, kin := [] }) := by
        unfold insG
        simp only [h5, hg]
        rw [if_pos (by simpa using hcond), hld]
        simp only [Option.bind_some]
        rw [if_pos hroom, if_pos (by rw [List.length_drop, h11]; omega), htk, Int.toNat_natCast, hins]
      refine ⟨_, _, [m.next], ins_call (F := F63) (size := 5) rfl hG, ⟨hmem, .inl ⟨flat_len hmem, by simp, .inr ⟨m.next, _, cap, (o.cells.drop 0).drop ((rows.length + 1) * 5), by rw [hlen], by rw [← show (m.eraseAll (id :: o.kin)).next = m.next by simp]; exact push_self, by simp, by simp, rfl, rfl, rfl, ?_⟩⟩⟩, hfm _, by simp⟩
      simp only [List.length_append, flat_len hmem, hlen, List.length_drop, h11]
      omega
    · have hcn : cap = rows.length := by omega
      have hG : insG 5 [.slice (some ⟨id, 0, some 0⟩) rows.length cap, I (i : Int), .slice (some ⟨va, 0, none⟩) 1 1] m = some (.slice (some ⟨m.next, 0, some 0⟩) (rows.length + 1) (rows.length + 1), (m.eraseAll (id :: o.kin)).push { cells := (rows.take i ++ row :: rows.drop i).flatten, rw := true, spare := some 5, kin := [] }) := by
        have hall : o.cells.drop 0 = rows.flatten := by rw [← htk, List.take_of_length_le (by rw [List.length_drop, h11]; omega)]
        unfold insG
        simp only [h5, hg]
        rw [if_pos (by simpa using hcond), hld]
        simp only [Option.bind_some]
        rw [if_neg hroom, if_pos (by rw [List.length_drop, h11]; omega), hall, Int.toNat_natCast, hins]
      refine ⟨_, _, [m.next], ins_call (F := F63) (size := 5) rfl hG, ⟨hmem, .inl ⟨flat_len hmem, by simp, .inr ⟨m.next, _, rows.length + 1, [], by rw [hlen], by rw [← show (m.eraseAll (id :: o.kin)).next = m.next by simp]; exact push_self, by simp, by simp, rfl, rfl, by simp, ?_⟩⟩⟩, hfm _, by simp⟩
      show (rows.take i ++ row :: rows.drop i).flatten.length = _
      rw [flat_len hmem, hlen]
  · have hin : i = rows.length := by omega
    subst hin
    have hx : xfirst m 5 1 (.slice (some ⟨va, 0, none⟩) 1 1) = some row := by
      simp only [xfirst]
      rw [if_neg (by omega), xload_own hg (by show 0 + 1 * 5 ≤ row.length; omega)]
      simp [List.take_of_length_le (Nat.le_of_eq hr)]
    obtain ⟨v', m', F', a1, a2, a3, a4, a5⟩ := h.append (bytes := 56) (zero := [.string .empty, .bool false, .bool false, .string .empty, U 0]) (new := row) (vx := .slice (some ⟨va, 0, none⟩) 1 1) rfl (by omega) rfl hx hr (by omega) (by omega)
    obtain ⟨v2, b1, b2⟩ := slice_from (kd := .i64) (h.rd (by omega)) h.cut (Nat.le_refl _)
    have e : rows.take rows.length ++ row :: rows.drop rows.length = rows ++ [row] := by simp
    rw [e]
    refine ⟨v', m', F', ?_, a2, a3, a5⟩
    obtain ⟨p, c, rfl⟩ := (h.rd (by omega)).slice
    have hG : insG 5 [.slice p rows.length c, I (rows.length : Int), .slice (some ⟨va, 0, none⟩) 1 1] m = none := by
      cases p with
      | none => rfl
      | some a =>
        unfold insG
        simp only [hg]
        split
        · rw [if_neg (by omega)]
        · rfl
    refine callX_of (ins_go (F := F63) (size := 5) rfl hG rfl fun Q hQ => ?_)
    obtain ⟨n, hn⟩ : ∃ n, rows.length = n := ⟨_, rfl⟩
    rw [hn] at b1
    rw [hn] at a1
    simp only [F63, x63]
    simp only [symA, go_opsd, symB, wantedX, X.put, X.look, Arg.ev, keepOf, restrict, evs, evO, initEnv, xres, tup, noTup, cls, quiet, Nat.reduceAdd, Nat.reduceEqDiff, ↓reduceIte, reduceCtorEq, goInt, exists_eq_left', eq_self, Int.reduceLT, Int.reduceLE, Int.reduceEq, Int.reduceNeg, Int.reduceAdd, Int.reduceSub, forall_const, ne_eq, undef, Nat.reducePow, Nat.reduceDiv, Nat.reduceMod, hn, b1, a1]
    exact hQ _ _ _ rfl ⟨rfl, rfl⟩
end
end Go.Proofs.Ytecceimgpeookaa
