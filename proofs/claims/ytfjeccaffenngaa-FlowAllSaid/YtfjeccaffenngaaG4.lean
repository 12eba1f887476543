/-
  Own work. The ways between rooms, one by one and by way of others.
-/
import Derived.Test.YtfjeccaffenngaaG3
namespace Go.Proofs.Ytfjeccaffenngaa
open Go X
set_option maxRecDepth 100000
set_option linter.unusedVariables false
set_option linter.unusedSimpArgs false

/-! ## Rows of truth values -/
def cellsB (n : Nat) (f : Nat → Bool) : List Value := (List.range n).map fun k => .bool (f k)
abbrev rowB (n : Nat) (f : Nat → Bool) : XObj := { cells := cellsB n f, rw := true, spare := none, kin := [] }
abbrev RowV (n id : Nat) : Value := .slice (some ⟨id, 0, none⟩) n n
theorem cellsB_at {n k : Nat} {f : Nat → Bool} (h : k < n) : (cellsB n f)[k]? = some (.bool (f k)) := by simp [cellsB, h]
theorem cellsB_len {n : Nat} {f : Nat → Bool} : (cellsB n f).length = n := by simp [cellsB]
theorem cellsB_congr {n : Nat} {f g : Nat → Bool} (h : ∀ k, k < n → f k = g k) : cellsB n f = cellsB n g := by
  unfold cellsB
  refine List.map_congr_left fun k hk => ?_
  rw [h k (List.mem_range.1 hk)]
theorem cellsB_zero : ∀ n : Nat, zerosOf [.bool false] n = cellsB n fun _ => false := by
  intro n
  apply List.ext_getElem?
  intro k
  have hl : (zerosOf [.bool false] n).length = n := by rw [zerosOf_len]; simp
  by_cases hk : k < n
  · rw [cellsB_at hk]
    have : ∀ n k, k < n → (zerosOf [Value.bool false] n)[k]? = some (.bool false) := by
      intro n
      induction n with
      | zero => intro k hk; omega
      | succ n ih =>
        intro k hk
        show (Value.bool false :: zerosOf [Value.bool false] n)[k]? = _
        cases k with
        | zero => rfl
        | succ k => rw [List.getElem?_cons_succ]; exact ih k (by omega)
    exact this n k hk
  · rw [List.getElem?_eq_none (by omega), List.getElem?_eq_none (by rw [cellsB_len]; omega)]
theorem rowB_store {m : Mem} {id n k : Nat} {f : Nat → Bool} {x : Bool} (hg : m.get id = some (rowB n f)) (hk : k < n) :
    ∃ m', storeE m 1 (.pointer (some ⟨id, k, none⟩)) (.bool x) = some (.skip m') ∧ m'.get id = some (rowB n fun c => if c = k then x else f c) ∧ Fm (· = id) m m' ∧ m'.next = m.next := by
  refine ⟨_, store1 hg rfl rfl (by rw [cellsB_len]; exact hk) rfl rfl, ?_, Fm.set rfl, by simp [put1]⟩
  rw [put1, Mem.get_set, if_pos rfl]
  have : (cellsB n f).set k (.bool x) = cellsB n fun c => if c = k then x else f c := by
    apply List.ext_getElem?
    intro c
    rw [List.getElem?_set]
    by_cases hc : c < n
    · rw [cellsB_at hc, cellsB_at hc, cellsB_len]
      by_cases hck : k = c
      · subst hck; simp [hc]
      · have : ¬ c = k := fun q => hck q.symm
        simp [hck, this]
    · rw [List.getElem?_eq_none (l := cellsB n f) (by rw [cellsB_len]; omega), List.getElem?_eq_none (l := cellsB n _) (by rw [cellsB_len]; omega)]
      have : ¬ k = c := by omega
      simp [this]
  simp only [this]

/-! ## A slice of such rows -/
structure MatAt (m : Mem) (F : List Nat) (ov : Value) (n i lo : Nat) (rids : List Nat) (W : Nat → Nat → Bool) : Prop where
  own : OwnS 1 F m ov i (rids.map (RowV n))
  len : rids.length = i
  nd : ∀ x y id : Nat, rids[x]? = some id → rids[y]? = some id → x = y
  low : ∀ id ∈ rids, lo ≤ id ∧ id < m.next ∧ id ∉ F
  lowF : ∀ x ∈ F, lo ≤ x
  row : ∀ (j id : Nat), rids[j]? = some id → m.get id = some (rowB n (W j))
section
variable {m m' : Mem} {F : List Nat} {ov : Value} {n i lo : Nat} {rids : List Nat} {W : Nat → Nat → Bool}
theorem MatAt.fr {S : Nat → Prop} (h : MatAt m F ov n i lo rids W) (hf : Fm S m m') (hs : ∀ x, S x → x ∉ F ∧ x ∉ rids) : MatAt m' F ov n i lo rids W :=
  ⟨h.own.fr hf (fun x hx hS => (hs x hS).1 hx), h.len, h.nd, fun id hid => ⟨(h.low id hid).1, Nat.lt_of_lt_of_le (h.low id hid).2.1 hf.next, (h.low id hid).2.2⟩, h.lowF,
    fun j id hj => hf.get (h.low id (List.mem_of_getElem? hj)).2.1 (fun hS => (hs id hS).2 (List.mem_of_getElem? hj)) (h.row j id hj)⟩
theorem MatAt.nx (h : MatAt m F ov n i lo rids W) (hf : Nx m m') : MatAt m' F ov n i lo rids W := h.fr hf (fun _ h => h.elim)
theorem MatAt.slice (h : MatAt m F ov n i lo rids W) : ∃ p c, ov = .slice p i c := h.own.slice
theorem MatAt.at (h : MatAt m F ov n i lo rids W) {j : Nat} (hj : j < i) : ∃ oid o cap id, ov = .slice (some ⟨oid, 0, some 0⟩) i cap ∧ m.get oid = some o ∧ o.cells[j]? = some (RowV n id) ∧ rids[j]? = some id ∧ m.get id = some (rowB n (W j)) := by
  have hl := h.len
  obtain ⟨id, hid⟩ : ∃ id, rids[j]? = some id := ⟨_, List.getElem?_eq_getElem (by omega)⟩
  obtain ⟨oid, o, cap, h1, h2, h3⟩ := h.own.at1 (i := j) (x := RowV n id) (by simp [hid])
  exact ⟨oid, o, cap, id, h1, h2, h3, hid, h.row j id hid⟩
def updK (W : Nat → Nat → Bool) (by_ i k : Nat) : Nat → Nat → Bool := fun a c => if a = i ∧ c = k then W i k || (W i by_ && W by_ k) else W a c
theorem MatAt.upd (h : MatAt m F ov n n lo rids W) {by_ i k id : Nat} (hi : rids[i]? = some id) (hk : k < n) : ∃ m', storeE m 1 (.pointer (some ⟨id, k, none⟩)) (.bool (W i k || (W i by_ && W by_ k))) = some (.skip m') ∧ MatAt m' F ov n n lo rids (updK W by_ i k) ∧ Fm (· = id) m m' := by
  obtain ⟨m', s, g, f, nx⟩ := rowB_store (x := W i k || (W i by_ && W by_ k)) (h.row i id hi) hk
  have hlow := h.low id (List.mem_of_getElem? hi)
  refine ⟨m', s, ⟨h.own.fr f (fun x hx (q : x = id) => hlow.2.2 (q ▸ hx)), h.len, h.nd, fun x hx => ⟨(h.low x hx).1, by rw [nx]; exact (h.low x hx).2.1, (h.low x hx).2.2⟩, h.lowF, fun j x hj => ?_⟩, f⟩
  by_cases hji : j = i
  · subst hji
    rw [hi] at hj
    cases hj
    rw [g]
    congr 2
    funext c
    simp only [updK, true_and]
  · have hne : x ≠ id := fun q => hji (h.nd j i x hj (by rw [q]; exact hi))
    rw [f.get (h.low x (List.mem_of_getElem? hj)).2.1 hne (h.row j x hj)]
    congr 2
    funext c
    simp only [updK, hji, false_and, if_false]

def rowU (n : Nat) (W : Nat → Nat → Bool) (by_ i j : Nat) : Nat → Nat → Bool := (List.range j).foldl (fun W k => updK W by_ i k) W
def colU (n : Nat) (W : Nat → Nat → Bool) (by_ j : Nat) : Nat → Nat → Bool := (List.range j).foldl (fun W i => rowU n W by_ i n) W
def allU (n : Nat) (W : Nat → Nat → Bool) (j : Nat) : Nat → Nat → Bool := (List.range j).foldl (fun W b => colU n W b n) W
theorem rowU_succ {b j : Nat} : rowU n W b i (j + 1) = updK (rowU n W b i j) b i j := by simp [rowU, List.range_succ, List.foldl_append]
theorem colU_succ {b j : Nat} : colU n W b (j + 1) = rowU n (colU n W b j) b j n := by simp [colU, List.range_succ, List.foldl_append]
theorem allU_succ {j : Nat} : allU n W (j + 1) = colU n (allU n W j) j n := by simp [allU, List.range_succ, List.foldl_append]
end

/-! ## The ways -/
def way0 (T : Tb) (rooms : List (List Int)) (j k : Nat) : Bool := decide (j = k) || anyT T (rooms[j]?.getD []) (rooms[k]?.getD [])
section
variable {b t r : Nat} {m : Mem} {v : Value} {T : Tb} {rooms : List (List Int)}
theorem flows_bad (h : TabAt m t r T) (hv : RdRooms b m v rooms) (hl : rooms.length ≤ 8) (hw : wrongR rooms = true) : Ca 18 [Pt t, v] m (.tuple #[.slice none 0 0, I 1]) m := by
  refine callX_of (call_go (F := _) rfl rfl fun Q hQ => ?_)
  have k1 := containsW_spec hv hl
  rw [hw] at k1
  obtain ⟨p, c, rfl⟩ := hv.slice
  have h8 : ¬ (8 : Int) < (rooms.length : Int) := by omega
  simp only [symA, go_opsd, symB, wantedX, X.put, X.look, Arg.ev, keepOf, restrict, evs, evO, initEnv, xres, tup, noTup, cls, quiet, Nat.reduceAdd, Nat.reduceEqDiff, ↓reduceIte, reduceCtorEq, goInt, exists_eq_left', eq_self, Int.reduceLT, Int.reduceLE, Int.reduceEq, Int.reduceNeg, Int.reduceAdd, Int.reduceSub, forall_const, ne_eq, undef, Nat.reducePow, Nat.reduceDiv, Nat.reduceMod, h8, goR_call k1]
  exact hQ _ _ _ rfl ⟨rfl, rfl⟩

end

/-! ## Without trust nothing leaks -/
def Keeps (rooms : List (List Int)) (g : Int) (W : Nat → Nat → Bool) : Prop := ∀ i k, W i k = true → hasL (rooms[i]?.getD []) g = true → hasL (rooms[k]?.getD []) g = true
theorem keeps_way {T : Tb} {rooms : List (List Int)} {g : Int} (h : NoDrop T g) : Keeps rooms g (way0 T rooms) := by
  intro i k hw hi
  unfold way0 at hw
  rw [Bool.or_eq_true, decide_eq_true_eq] at hw
  rcases hw with rfl | hw
  · exact hi
  · exact any_keeps h hw hi
theorem keeps_upd {rooms : List (List Int)} {g : Int} {W : Nat → Nat → Bool} {b i k : Nat} (h : Keeps rooms g W) : Keeps rooms g (updK W b i k) := by
  intro x y hw hx
  unfold updK at hw
  split at hw
  · rename_i hxy
    obtain ⟨rfl, rfl⟩ := hxy
    rw [Bool.or_eq_true, Bool.and_eq_true] at hw
    rcases hw with hw | ⟨h1, h2⟩
    · exact h _ _ hw hx
    · exact h _ _ h2 (h _ _ h1 hx)
  · exact h _ _ hw hx
theorem keeps_row {rooms : List (List Int)} {g : Int} {W : Nat → Nat → Bool} {n b i : Nat} (h : Keeps rooms g W) : ∀ j, Keeps rooms g (rowU n W b i j)
  | 0 => h
  | j + 1 => by rw [rowU_succ]; exact keeps_upd (keeps_row h j)
theorem keeps_col {rooms : List (List Int)} {g : Int} {W : Nat → Nat → Bool} {n b : Nat} (h : Keeps rooms g W) : ∀ j, Keeps rooms g (colU n W b j)
  | 0 => h
  | j + 1 => by rw [colU_succ]; exact keeps_row (keeps_col h j) n
theorem keeps_all {rooms : List (List Int)} {g : Int} {W : Nat → Nat → Bool} {n : Nat} (h : Keeps rooms g W) : ∀ j, Keeps rooms g (allU n W j)
  | 0 => h
  | j + 1 => by rw [allU_succ]; exact keeps_col (keeps_all h j) n
end Go.Proofs.Ytfjeccaffenngaa
