/-
  Own work. Single stores into a slice that the program owns; its tail is cut; closures.
-/
import Derived.Test.YtnlmnejellipdaaXOwn2
namespace Go.Proofs.Ytnlmnejellipdaa.X
open Go
set_option linter.unusedVariables false
set_option linter.unusedSimpArgs false
section
variable {F : List Nat} {m m' : Mem} {v : Value} {n : Nat} {cs : List Value}
theorem setAll_one {l : List Value} {i : Nat} {x : Value} : setAll l i [x] = l.set i x := (rfl)
theorem OwnS.at1 (h : OwnS 1 F m v n cs) {i : Nat} {x : Value} (hx : cs[i]? = some x) : ∃ id o cap, v = .slice (some ⟨id, 0, some 0⟩) n cap ∧ m.get id = some o ∧ o.cells[i]? = some x := by
 have hl : cs.length = n * 1 := h.1
 obtain ⟨id, o, cap, h1, h2, h3⟩ := h.get (i := i) (by have := (List.getElem?_eq_some_iff.1 hx).1; omega)
 refine ⟨id, o, cap, h1, h2, ?_⟩
 have := h3 0 (by omega)
 rw [Nat.mul_one, Nat.add_zero, hx] at this
 exact this
theorem OwnS.set1 (h : OwnS 1 F m v n cs) {i : Nat} (hi : i < n) {x : Value} (h1 : x.cells = #[x]) (h2 : noTup x = true) :
  ∃ id cap m', v = .slice (some ⟨id, 0, some 0⟩) n cap ∧ storeE m 1 (.pointer (some ⟨id, i, none⟩)) x = some (.skip m') ∧ OwnS 1 F m' v n (cs.set i x) ∧ Fm (· ∈ F) m m' := by
 obtain ⟨k1, k2, ⟨rfl, rfl⟩ | ⟨id, o, cap, rest, rfl, h5, h6, h7, h8, h9, h10, h11⟩⟩ := h
 ·omega
 have hlen : i + 1 ≤ o.cells.length := by rw [h10, List.length_append]; omega
 have hst := xstore_own (off := i) (vs := [x]) h5 h8 hlen
 refine ⟨id, cap, _, rfl, ?_, ⟨by simpa using k1, ?_, .inr ⟨id, { o with cells := setAll o.cells i [x], kin := [] }, cap, rest, rfl, by rw [Mem.get_set, if_pos rfl], h6, by simp, h8, h9, ?_, ?_⟩⟩, Fm.trans (Fm.eraseAll fun y hy => (h7 y hy).1) (Fm.set h6)⟩
 ·have e1 : x.cells.size = 1 := by rw [h1]; rfl
  have e2 : x.cells.toList = [x] := by rw [h1]
  simp only [storeE]
  rw [if_pos ⟨e1, h2⟩, if_neg (by decide), e2, hst]
  rfl
 ·intro y hy; simpa using k2 y hy
 ·show setAll o.cells i [x] = _
  rw [setAll_one, h10, List.set_append_left _ _ (by omega)]
 ·show (setAll o.cells i [x]).length = _
  rw [setAll_one, List.length_set, h11]
end
end Go.Proofs.Ytnlmnejellipdaa.X
