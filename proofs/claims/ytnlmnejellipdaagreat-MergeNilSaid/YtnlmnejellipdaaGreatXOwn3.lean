/-
  Own work. Single stores into a slice that the program owns; its tail is cut; closures.
-/
import Derived.Test.YtnlmnejellipdaaGreatXOwn2
namespace Go.Proofs.YtnlmnejellipdaaGreat.X
open Go
set_option linter.unusedVariables false
set_option linter.unusedSimpArgs false

section
variable {F : List Nat} {m m' : Mem} {v : Value} {n : Nat} {cs : List Value}
theorem setAll_one {l : List Value} {i : Nat} {x : Value} : setAll l i [x] = l.set i x := (rfl)

/-- One of its cells is read. -/
theorem OwnS.at1 (h : OwnS 1 F m v n cs) {i : Nat} {x : Value} (hx : cs[i]? = some x) : ∃ id o cap, v = .slice (some ⟨id, 0, some 0⟩) n cap ∧ m.get id = some o ∧ o.cells[i]? = some x := by
  have hl : cs.length = n * 1 := h.1
  obtain ⟨id, o, cap, h1, h2, h3⟩ := h.get (i := i) (by have := (List.getElem?_eq_some_iff.1 hx).1; omega)
  refine ⟨id, o, cap, h1, h2, ?_⟩
  have := h3 0 (by omega)
  rw [Nat.mul_one, Nat.add_zero, hx] at this
  exact this

/-- One of its cells is stored. -/
theorem OwnS.set1 (h : OwnS 1 F m v n cs) {i : Nat} (hi : i < n) {x : Value} (h1 : x.cells = #[x]) (h2 : noTup x = true) :
    ∃ id cap m', v = .slice (some ⟨id, 0, some 0⟩) n cap ∧ storeE m 1 (.pointer (some ⟨id, i, none⟩)) x = some (.skip m') ∧ OwnS 1 F m' v n (cs.set i x) ∧ Fm (· ∈ F) m m' := by
  obtain ⟨k1, k2, ⟨rfl, rfl⟩ | ⟨id, o, cap, rest, rfl, h5, h6, h7, h8, h9, h10, h11⟩⟩ := h
  · omega
  have hlen : i + 1 ≤ o.cells.length := by rw [h10, List.length_append]; omega
  have hst := xstore_own (off := i) (vs := [x]) h5 h8 hlen
  refine ⟨id, cap, _, rfl, ?_, ⟨by simpa using k1, ?_, .inr ⟨id, { o with cells := setAll o.cells i [x], kin := [] }, cap, rest, rfl, by rw [Mem.get_set, if_pos rfl], h6, by simp, h8, h9, ?_, ?_⟩⟩, Fm.trans (Fm.eraseAll fun y hy => (h7 y hy).1) (Fm.set h6)⟩
  · have e1 : x.cells.size = 1 := by rw [h1]; rfl
    have e2 : x.cells.toList = [x] := by rw [h1]
    simp only [storeE]
    rw [if_pos ⟨e1, h2⟩, if_neg (by decide), e2, hst]
    rfl
  · intro y hy; simpa using k2 y hy
  · show setAll o.cells i [x] = _
    rw [setAll_one, h10, List.set_append_left _ _ (by omega)]
  · show (setAll o.cells i [x]).length = _
    rw [setAll_one, List.length_set, h11]

/-- Its tail is cleared, and it is cut there. -/
theorem OwnS.cut1 {zero : Value} (h : OwnS 1 F m v n cs) (h0 : 0 < n) {i : Nat} (hi : i ≤ n) :
    ∃ id o cap m2 o2, v = .slice (some ⟨id, 0, some 0⟩) n cap ∧ m.get id = some o ∧ o.spare = some 1 ∧ i ≤ cap ∧
      clearE m [zero] (.slice (some ⟨id, i, some 0⟩) (n - i) (cap - i)) = some (.val (.tuple #[]) m2) ∧ m2.get id = some o2 ∧ o2.spare = some 1 ∧
      OwnS 1 F m2 (.slice (some ⟨id, 0, some 0⟩) i cap) i (cs.take i) ∧ Fm (· ∈ F) m m2 := by
  obtain ⟨k1, k2, ⟨rfl, rfl⟩ | ⟨id, o, cap, rest, rfl, h5, h6, h7, h8, h9, h10, h11⟩⟩ := h
  · omega
  have hcap : n ≤ cap := by
    have := h11
    rw [h10, List.length_append] at this
    omega
  by_cases hn : n - i = 0
  · have : i = n := by omega
    subst this
    refine ⟨id, o, cap, m, o, rfl, h5, h9, hcap, ?_, h5, h9, ⟨by rw [List.length_take]; omega, k2, .inr ⟨id, o, cap, rest, rfl, h5, h6, h7, h8, h9, ?_, h11⟩⟩, .refl⟩
    · simp only [clearE]; rw [if_pos hn]
    · rw [List.take_of_length_le (by omega)]; exact h10
  · have hz : (zerosOf [zero] (n - i)).length = n - i := by rw [zerosOf_len]; simp
    have hst := xstore_own (off := i) (vs := zerosOf [zero] (n - i)) h5 h8 (by rw [hz, h11]; omega)
    refine ⟨id, o, cap, _, { o with cells := setAll o.cells i (zerosOf [zero] (n - i)), kin := [] }, rfl, h5, h9, by omega, ?_, by rw [Mem.get_set, if_pos rfl], h9, ⟨by rw [List.length_take]; omega, ?_, .inr ⟨id, { o with cells := setAll o.cells i (zerosOf [zero] (n - i)), kin := [] }, cap, (setAll o.cells i (zerosOf [zero] (n - i))).drop i, rfl, by rw [Mem.get_set, if_pos rfl], h6, by simp, h8, h9, ?_, ?_⟩⟩, Fm.trans (Fm.eraseAll fun y hy => (h7 y hy).1) (Fm.set h6)⟩
    · simp only [clearE]
      rw [if_neg hn, if_neg (by simp), hst]
      rfl
    · intro y hy; simpa using k2 y hy
    · show setAll o.cells i _ = _
      have e : (setAll o.cells i (zerosOf [zero] (n - i))).take i = cs.take i := by
        rw [setAll_eq _ _ _ (by rw [hz, h11]; omega), List.append_assoc, List.take_append_of_le_length (by rw [List.length_take, h11]; omega), List.take_take, Nat.min_self, h10, List.take_append_of_le_length (by omega)]
      rw [← e, List.take_append_drop]
    · show (setAll o.cells i _).length = _
      rw [setAll_eq _ _ _ (by rw [hz, h11]; omega)]
      simp only [List.length_append, List.length_take, List.length_drop, hz, h11]
      omega
end

section
variable {m : Mem} {f : FuncId} {vs c : List Value} {fn : Fn} {a b d : Option Addr}
theorem call_clo : callE (.func (.func f) #[] ⟨c⟩) vs = some (.call f (vs ++ c)) := by simp [callE]
theorem makeFunc_one : makeFuncE m fn [] [.pointer a] = some (.val (.func fn #[] ⟨[.pointer a]⟩) m) := (rfl)
theorem makeFunc_two : makeFuncE m fn [] [.pointer a, .pointer b] = some (.val (.func fn #[] ⟨[.pointer a, .pointer b]⟩) m) := (rfl)
theorem makeFunc_three : makeFuncE m fn [] [.pointer a, .pointer b, .pointer d] = some (.val (.func fn #[] ⟨[.pointer a, .pointer b, .pointer d]⟩) m) := (rfl)
theorem buildSlice_zero {zero : Value} : buildSliceE m [zero] 1 0 [] = some (.val (.slice (some ⟨m.next, 0, none⟩) 0 0) (m.push { cells := [], rw := true, spare := none, kin := [] })) := (rfl)
end

section
variable {size : Nat} {F : List Nat} {m m' : Mem} {p : Option Addr} {n : Nat} {cs : List Value}
/-- Some elements more, behind a slice that is full. -/
theorem OwnS.appendX {bytes k : Nat} {zero new : List Value} {vx : Value} (h : OwnS size F m (.slice p n n) n cs) (hk : 0 < k) (hz : zero.length = size) (hs : 0 < size) (hx : xlen vx = some k) (hn : xfirst m size k vx = some new) (hl : new.length = k * size)
    (hb : (n + k) * bytes ≤ 140737488355328) (hb2 : n + k ≤ 9223372036854775807) :
    ∃ p' m' F', appendE m size bytes zero (.slice p n n) vx = some (.val (.slice p' (n + k) (n + k)) m') ∧ OwnS size F' m' (.slice p' (n + k) (n + k)) (n + k) (cs ++ new) ∧ Fm (· ∈ F) m m' ∧ (∀ i ∈ F, i ∈ F') ∧ ∀ i ∈ F', i ∈ F ∨ m.next ≤ i := by
  obtain ⟨h1, h2, ⟨hv, rfl⟩ | ⟨id, o, cap, rest, hv, h5, h6, h7, h8, h9, h10, h11⟩⟩ := h
  · cases hv
    have : cs = [] := by simpa using h1
    subst this
    rw [Nat.zero_add] at hb hb2 ⊢
    refine ⟨some ⟨m.next, 0, some 0⟩, m.push { cells := new, rw := true, spare := some size, kin := [] }, m.next :: F, ?_, ⟨by simpa using hl, ?_, .inr ⟨m.next, { cells := new, rw := true, spare := some size, kin := [] }, k, [], rfl, by rw [Mem.get_push, if_pos rfl], by simp, by simp, rfl, rfl, by simp, by simpa using hl⟩⟩, .push, fun i hi => by simp [hi], fun i hi => ?_⟩
    · simp only [appendE, hx, hn, Option.bind_some, if_pos hz, xappend]
      rw [if_neg (by omega), if_pos ⟨hb, hb2⟩]
      rfl
    · intro i hi
      simp only [List.mem_cons] at hi
      rw [Mem.next_push]
      rcases hi with rfl | hi
      · omega
      · have := h2 i hi; omega
    · simp only [List.mem_cons] at hi
      rcases hi with rfl | hi
      · exact .inr (Nat.le_refl _)
      · exact .inl hi
  · cases hv
    have hre : rest = [] := by
      have := h11
      rw [h10, List.length_append, h1] at this
      exact List.length_eq_zero_iff.1 (by omega)
    subst hre
    rw [List.append_nil] at h10
    refine ⟨some ⟨m.next, 0, some 0⟩, (m.set id { o with rw := false, kin := [] }).push { cells := o.cells ++ new, rw := true, spare := some size, kin := id :: o.kin }, m.next :: F, ?_, ⟨?_, ?_, .inr ⟨m.next, { cells := o.cells ++ new, rw := true, spare := some size, kin := id :: o.kin }, n + k, [], rfl, by rw [Mem.get_push]; simp, by simp, ?_, rfl, rfl, by simp [h10], ?_⟩⟩, ?_, fun i hi => by simp [hi], fun i hi => ?_⟩
    · simp only [appendE, hx, hn, Option.bind_some, if_pos hz, xappend]
      rw [if_neg (by omega), if_neg (by omega), if_pos ⟨hb, hb2⟩]
      simp only [h5]
      rw [if_pos ⟨h8, h9, by omega, by rw [h11]; omega⟩]
      simp
    · simp [h1, hl, Nat.add_mul]
    · intro i hi
      simp only [List.mem_cons] at hi
      rw [Mem.next_push, Mem.next_set]
      rcases hi with rfl | hi
      · omega
      · have := h2 i hi; omega
    · intro i hi
      simp only [List.mem_cons] at hi
      rcases hi with rfl | hi
      · exact ⟨by simp [h6], by have := h2 _ h6; omega⟩
      · exact ⟨by simp [(h7 i hi).1], by have := h2 _ (h7 i hi).1; omega⟩
    · simp [h11, hl, Nat.add_mul]
    · exact Fm.trans (Fm.set h6) .push
    · simp only [List.mem_cons] at hi
      rcases hi with rfl | hi
      · exact .inr (Nat.le_refl _)
      · exact .inl hi
end

/-! ## The bits of numbers -/
section
variable {P : Program} {m : Mem} {t : TypeId} {a b : Nat}
theorem bin_and (ha : a < 18446744073709551616) (hb : b < 18446744073709551616) : binE P .and t (.int .u64 (a : Int)) (.int .u64 (b : Int)) m = some (.val (.int .u64 ((a &&& b : Nat) : Int)) m) := by
  have hab : a &&& b ≤ a := Nat.and_le_left
  have e : Op.intBits .and .u64 (a : Int) (b : Int) = pure (.int .u64 ((a &&& b : Nat) : Int)) := by
    show (pure (.int .u64 (IntKind.u64.wrap ((BitVec.ofInt 64 (a : Int) &&& BitVec.ofInt 64 (b : Int)).toNat : Nat))) : Sem Value) = _
    rw [BitVec.ofInt_natCast, BitVec.ofInt_natCast, BitVec.toNat_and, BitVec.toNat_ofNat, BitVec.toNat_ofNat, Nat.mod_eq_of_lt ha, Nat.mod_eq_of_lt hb, wrap_u64 (by omega) (by omega)]
  have key : ans P (do eqGuard .and t (.const (.int .u64 (a : Int))) (.const (.int .u64 (b : Int))) (.int .u64 (a : Int)) (.int .u64 (b : Int)); binOp .and t (.int .u64 (a : Int)) (.int .u64 (b : Int))) = some (.int .u64 ((a &&& b : Nat) : Int)) := by
    rw [ans_bind]
    have hg : ans P (eqGuard .and t (.const (.int .u64 (a : Int))) (.const (.int .u64 (b : Int))) (.int .u64 (a : Int)) (.int .u64 (b : Int))) = some () := (rfl)
    rw [hg]
    show ans P (Op.intBits .and .u64 (a : Int) (b : Int)) = _
    rw [e]
    rfl
  unfold binE
  rw [if_pos (by rfl), key]
  rfl
theorem bin_or (ha : a < 18446744073709551616) (hb : b < 18446744073709551616) : binE P .or t (.int .u64 (a : Int)) (.int .u64 (b : Int)) m = some (.val (.int .u64 ((a ||| b : Nat) : Int)) m) := by
  have hab : a ||| b < 18446744073709551616 := Nat.or_lt_two_pow (n := 64) ha hb
  have e : Op.intBits .or .u64 (a : Int) (b : Int) = pure (.int .u64 ((a ||| b : Nat) : Int)) := by
    show (pure (.int .u64 (IntKind.u64.wrap ((BitVec.ofInt 64 (a : Int) ||| BitVec.ofInt 64 (b : Int)).toNat : Nat))) : Sem Value) = _
    rw [BitVec.ofInt_natCast, BitVec.ofInt_natCast, BitVec.toNat_or, BitVec.toNat_ofNat, BitVec.toNat_ofNat, Nat.mod_eq_of_lt ha, Nat.mod_eq_of_lt hb, wrap_u64 (by omega) (by omega)]
  have key : ans P (do eqGuard .or t (.const (.int .u64 (a : Int))) (.const (.int .u64 (b : Int))) (.int .u64 (a : Int)) (.int .u64 (b : Int)); binOp .or t (.int .u64 (a : Int)) (.int .u64 (b : Int))) = some (.int .u64 ((a ||| b : Nat) : Int)) := by
    rw [ans_bind]
    have hg : ans P (eqGuard .or t (.const (.int .u64 (a : Int))) (.const (.int .u64 (b : Int))) (.int .u64 (a : Int)) (.int .u64 (b : Int))) = some () := (rfl)
    rw [hg]
    show ans P (Op.intBits .or .u64 (a : Int) (b : Int)) = _
    rw [e]
    rfl
  unfold binE
  rw [if_pos (by rfl), key]
  rfl
theorem bin_shl1 {k : Nat} (hk : k < 16) : binE P .shl t (.int .u64 1) (.int .u64 (k : Int)) m = some (.val (.int .u64 ((2 ^ k : Nat) : Int)) m) := by
  rcases (by omega : k = 0 ∨ k = 1 ∨ k = 2 ∨ k = 3 ∨ k = 4 ∨ k = 5 ∨ k = 6 ∨ k = 7 ∨ k = 8 ∨ k = 9 ∨ k = 10 ∨ k = 11 ∨ k = 12 ∨ k = 13 ∨ k = 14 ∨ k = 15) with rfl | rfl | rfl | rfl | rfl | rfl | rfl | rfl | rfl | rfl | rfl | rfl | rfl | rfl | rfl | rfl <;> kernel_rfl
end
end Go.Proofs.YtnlmnejellipdaaGreat.X
