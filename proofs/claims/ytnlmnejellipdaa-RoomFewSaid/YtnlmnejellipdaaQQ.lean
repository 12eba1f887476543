/-
  Own work. What the ring's functions come to, whatever the data. What the ring's functions come to: slices, Push, AsOf, Clone. What the ring's functions come to: Push, New, Clone.
-/
import Derived.Test.YtnlmnejellipdaaR0
namespace Go.Proofs.Ytnlmnejellipdaa.Rng
open Go X
set_option maxRecDepth 100000
attribute [local irreducible] X.Go' X.GoO X.GoR X.GoG X.GoC X.GoF X.GoFV X.GoFG X.Ex X.GoD X.GoDV X.GoDG
set_option linter.unusedVariables false
set_option linter.unusedSimpArgs false
theorem conv_iu {m : Mem} {n : Int} : convE Try.prog 3 120 m (I n) = some (.val (U (IntKind.u64.wrap n)) m) := by kernel_rfl
theorem conv_ui {m : Mem} {n : Int} : convE Try.prog 120 3 m (U n) = some (.val (I (IntKind.i64.wrap n)) m) := by kernel_rfl
theorem bin_shr1 {m : Mem} {n : Int} : binE Try.prog .shr 120 (U n) (U 1) m = some (.val (U (n.fdiv 2)) m) := by kernel_rfl
abbrev rowsU (xs : List Int) : List (List Value) := xs.map fun n => [U n]
theorem rd_at {b : Nat} {m : Mem} {v : Value} {xs : List Int} (h : RdS b m 1 v (rowsU xs)) {i : Nat} {x : Int} (hi : xs[i]? = some x) : ∃ a c o, v = .slice (some a) xs.length c ∧ m.get a.block = some o ∧ o.cells[a.off + i]? = some (U x) := by
 obtain ⟨p, c, rfl, hc, h⟩ := h
 obtain ⟨h1, a, o, rfl, h3, h4, h5⟩ := h i [U x] (by simp [hi])
 exact ⟨a, c, o, by simp, h4, by simpa using h5 0 (by omega)⟩
def below (xs : List Int) (t : Int) : Nat := xs.countP (· < t)
theorem pw_lt {xs : List Int} (hs : xs.Pairwise (· < ·)) {i j : Nat} {x y : Int} (h : i < j) (hx : xs[i]? = some x) (hy : xs[j]? = some y) : x < y := by
 obtain ⟨h1, rfl⟩ := List.getElem?_eq_some_iff.1 hx
 obtain ⟨h2, rfl⟩ := List.getElem?_eq_some_iff.1 hy
 exact List.pairwise_iff_getElem.1 hs i j h1 h2 h
theorem below_eq {xs : List Int} {t : Int} (hs : xs.Pairwise (· < ·)) {i : Nat} (hi : i ≤ xs.length) (hlo : ∀ d, d < i → ∀ x, xs[d]? = some x → x < t) (hhi : ∀ d, i ≤ d → ∀ x, xs[d]? = some x → t ≤ x) : below xs t = i := by
 have h1 : xs = xs.take i ++ xs.drop i := (List.take_append_drop i xs).symm
 unfold below
 rw [h1, List.countP_append]
 have h2 : (xs.take i).countP (· < t) = i := by
  rw [List.countP_eq_length.2]
  ·simp [hi]
  ·intro x hx
   obtain ⟨d, hd, rfl⟩ := List.mem_iff_getElem.1 hx
   simp only [List.length_take] at hd
   have := hlo d (by omega) xs[d] (List.getElem?_eq_getElem (by omega))
   simpa using this
 have h3 : (xs.drop i).countP (· < t) = 0 := by
  rw [List.countP_eq_zero]
  intro x hx
  obtain ⟨d, hd, rfl⟩ := List.mem_iff_getElem.1 hx
  simp at hd
  have := hhi (i + d) (by omega) xs[i + d] (List.getElem?_eq_getElem (by omega))
  simp; omega
 omega
abbrev OwnU (F : List Nat) (m : Mem) (v : Value) (xs : List Int) : Prop := OwnS 1 F m v xs.length (xs.map U)
theorem own_rd {F : List Nat} {m : Mem} {v : Value} {xs : List Int} (h : OwnU F m v xs) : RdS m.next m 1 v (rowsU xs) := by
 obtain ⟨h1, h2, ⟨rfl, hn⟩ | ⟨id, o, cap, rest, rfl, h5, h6, h7, h8, h9, h10, h11⟩⟩ := h
 ·have : xs = [] := List.eq_nil_of_length_eq_zero hn
  subst this
  exact .nil
 ·refine ⟨some ⟨id, 0, some 0⟩, cap, by simp, ?_, fun i r hr => ?_⟩
  ·have := h11
   rw [h10] at this
   simp at this ⊢; omega
  ·simp only [List.getElem?_map, Option.map_eq_some_iff] at hr
   obtain ⟨x, hx, rfl⟩ := hr
   refine ⟨rfl, _, o, rfl, h2 _ h6, h5, fun j hj => ?_⟩
   have hj0 : j = 0 := by omega
   subst hj0
   have hi := (List.getElem?_eq_some_iff.1 hx).1
   rw [h10, List.getElem?_append_left (by simp; omega)]
   simp [hx]
theorem drop_map {xs : List Int} {k : Nat} : (xs.map U).take (0 * 1) ++ (xs.map U).drop (k * 1) = (xs.drop k).map U := by simp
theorem delete_spec {F : List Nat} {m : Mem} {v : Value} {xs : List Int} {k : Nat} (h : OwnU F m v xs) (h0 : 0 < k) (hk : k ≤ xs.length) (hl : xs.length ≤ 4611686018427387903) :
  ∃ v' m', Ca 35 [v, I 0, I k] m v' m' ∧ OwnU F m' v' (xs.drop k) ∧ Fm (· ∈ F) m m' := by
 obtain ⟨id, o, cap, m1, o1, m2, rfl, hcap, hg, hsp, k1, k2, k3, k4, k5, k6⟩ := OwnS.delete (bytes := 8) (zero := [U 0]) (i := 0) (j := k) h rfl (by omega) h0 hk
 refine ⟨.slice (some ⟨id, 0, some 0⟩) (xs.length - k) cap, m2, ?_, ?_, k6⟩
 ·refine callX_of (call_go (F := _) rfl rfl fun Q hQ => ?_)
  obtain ⟨v3, hv3⟩ := slice_three (m := m) (size := 1) (n := xs.length) (id := id) (off := 0) (a := 0) (b := k) (k := xs.length) (cap := cap) (kd := .i64) (Nat.zero_le _) hk hcap
  have s1 := slice_hi (n := xs.length) (off := 0) (k := 0) (cap := cap) (kd := .i64) hg hsp (Nat.zero_le _)
  have s2 := slice_lo (n := xs.length) (off := 0) (k := k) (cap := cap) (kd := .i64) hg hsp hk
  have s3 := slice_lohi (n := 0 + (xs.length - k)) (off := 0) (a := 0 + (xs.length - k)) (b := xs.length) (cap := cap) (kd := .i64) k2 k3 (by omega) hcap
  have hne : ¬ (0 : Int) = (k : Int) := by omega
  simp only [Int.ofNat_zero, Nat.zero_add, Nat.mul_one] at hv3 s1 s2 s3 k1 k4
  simp only [symA, go_opsd, symB, X.put, X.look, Arg.ev, keepOf, restrict, evO, initEnv, cls, quiet, Nat.reduceAdd, Nat.reduceEqDiff, ↓reduceIte, reduceCtorEq, goInt, eq_self, Nat.reducePow, Nat.reduceDiv, Nat.reduceMod, hv3, hne, s1, s2, s3, k1, k4]
  exact hQ _ _ _ rfl ⟨rfl, rfl⟩
 ·have := k5
  rw [drop_map, Nat.zero_add] at this
  rw [OwnU, List.length_drop]
  exact this
def RingAt (F : List Nat) (m : Mem) (p : Nat) (size begin seq : Int) (xs : List Int) : Prop :=
 ∃ sl o, m.get p = some o ∧ p < m.next ∧ o.cells = [I size, I begin, I seq, sl] ∧ o.rw = true ∧ o.kin = [] ∧ p ∉ F ∧ OwnU F m sl xs
section
variable {F : List Nat} {m m' : Mem} {p : Nat} {size begin seq : Int} {xs : List Int}
theorem RingAt.fr {S : Nat → Prop} (h : RingAt F m p size begin seq xs) (hf : Fm S m m') (hp : ¬ S p) (hs : ∀ i ∈ F, ¬ S i) : RingAt F m' p size begin seq xs := by
 obtain ⟨sl, o, h1, h2, h3, h4, h5, h6, h7⟩ := h
 exact ⟨sl, o, hf.get h2 hp h1, Nat.lt_of_lt_of_le h2 hf.next, h3, h4, h5, h6, h7.fr hf hs⟩
theorem RingAt.lt (h : RingAt F m p size begin seq xs) : p < m.next ∧ ∀ i ∈ F, i < m.next := by
 obtain ⟨sl, o, h1, h2, h3, h4, h5, h6, h7⟩ := h
 exact ⟨h2, h7.lt⟩
theorem seq_spec (h : RingAt F m p size begin seq xs) : Ca 46 [Pt p] m (I seq) m := by
 obtain ⟨sl, o, h1, h2, h3, h4, h5, h6, h7⟩ := h
 refine callX_of (call_go (F := _) rfl rfl fun Q hQ => ?_)
 simp only [symA, symB, X.put, X.look, Arg.ev, keepOf, restrict, initEnv, ↓reduceIte, reduceCtorEq, eq_self, h1, h3]
 exact hQ _ _ _ rfl ⟨rfl, rfl⟩
def Small (size begin seq : Int) (xs : List Int) : Prop := 1 ≤ size ∧ size ≤ 16 ∧ 0 ≤ begin ∧ begin ≤ seq ∧ seq ≤ 1073741824 ∧ (xs.length : Int) ≤ size ∧ (xs.length : Int) ≤ seq - begin
def floorOf (size begin seq : Int) : Int := max (seq - size + 1) begin
theorem floor_spec (h : RingAt F m p size begin seq xs) (hs : Small size begin seq xs) : Ca 42 [Pt p] m (I (floorOf size begin seq)) m := by
 obtain ⟨sl, o, h1, h2, h3, h4, h5, h6, h7⟩ := h
 obtain ⟨s1, s2, s3, s4, s5, s6, s7⟩ := hs
 refine callX_of (call_go (F := _) rfl rfl fun Q hQ => ?_)
 have w1 : IntKind.i64.wrap (seq - size) = seq - size := wrap_i64 (by omega) (by omega)
 have w2 : IntKind.i64.wrap (seq - size + 1) = seq - size + 1 := wrap_i64 (by omega) (by omega)
 simp only [symA, symB, X.put, X.look, Arg.ev, keepOf, restrict, evs, initEnv, Nat.reduceEqDiff, ↓reduceIte, reduceCtorEq, eq_self, h1, h3, w1, w2]
 exact hQ _ _ _ rfl ⟨rfl, rfl⟩
theorem last_spec (h : RingAt F m p size begin seq xs) (hs : Small size begin seq xs) : Ca 34 [Pt p] m (U (xs.getLast?.getD 0)) m := by
 obtain ⟨sl, o, h1, h2, h3, h4, h5, h6, h7⟩ := h
 obtain ⟨s1, s2, s3, s4, s5, s6, s7⟩ := hs
 obtain ⟨q, c, rfl⟩ := h7.slice
 refine callX_of (call_go (F := _) rfl rfl fun Q hQ => ?_)
 by_cases h0 : xs = []
 ·subst h0
  simp only [symA, symB, X.put, X.look, Arg.ev, keepOf, restrict, initEnv, ↓reduceIte, reduceCtorEq, goInt, eq_self, h1, h3]
  exact hQ _ _ _ rfl ⟨rfl, rfl⟩
 ·have hl : 0 < xs.length := List.length_pos_iff.2 h0
  have hne : ¬ (xs.length : Int) = 0 := by omega
  obtain ⟨x, hx⟩ : ∃ x, xs[xs.length - 1]? = some x := ⟨_, List.getElem?_eq_getElem (by omega)⟩
  obtain ⟨a, c', o', hv, hg, hc⟩ := rd_at (own_rd h7) hx
  cases hv
  have w1 : IntKind.i64.wrap ((xs.length : Int) - 1) = ((xs.length - 1 : Nat) : Int) := by rw [wrap_i64 (by omega) (by omega)]; omega
  have hlt : xs.length - 1 < xs.length := by omega
  rw [List.getLast?_eq_getElem?, hx] at hQ
  simp only [symA, symB, X.put, X.look, Arg.ev, keepOf, restrict, initEnv, Nat.reduceEqDiff, ↓reduceIte, reduceCtorEq, goInt, eq_self, h1, h3, hne, w1, hlt, hg, hc]
  exact hQ _ _ _ rfl ⟨rfl, rfl⟩
def upto (xs : List Int) (t : Int) : Nat := xs.countP (· ≤ t)
theorem upto_eq {xs : List Int} (hs : xs.Pairwise (· < ·)) (t : Int) : upto xs t = below xs t + if t ∈ xs then 1 else 0 := by
 induction xs with
 | nil => simp [upto, below]
 | cons x xs ih =>
  have ih := ih (List.pairwise_cons.1 hs).2
  have hx := (List.pairwise_cons.1 hs).1
  simp only [upto, below, List.countP_cons, List.mem_cons] at ih ⊢
  rcases Int.lt_trichotomy x t with h1 | h1 | h1
  ·have h2 : ¬ t = x := by omega
   have h3 : x ≤ t := by omega
   simp only [h1, h2, h3, decide_true, if_true, false_or]
   omega
  ·subst h1
   have h2 : x ∉ xs := fun h => absurd (hx x h) (by omega)
   have h3 : xs.countP (· < x) = 0 := by rw [List.countP_eq_zero]; intro y hy; have := hx y hy; simp; omega
   have h4 : xs.countP (· ≤ x) = 0 := by rw [List.countP_eq_zero]; intro y hy; have := hx y hy; simp; omega
   simp [h3, h4]
  ·have h2 : t ∉ xs := fun h => absurd (hx t h) (by omega)
   have h3 : xs.countP (· < t) = 0 := by rw [List.countP_eq_zero]; intro y hy; have := hx y hy; simp; omega
   have h4 : xs.countP (· ≤ t) = 0 := by rw [List.countP_eq_zero]; intro y hy; have := hx y hy; simp; omega
   have h5 : ¬ x ≤ t := by omega
   have h6 : ¬ x < t := by omega
   have h7 : ¬ t = x := by omega
   simp [h3, h4, h5, h6, h7, h2]
end
section
variable {F : List Nat} {m : Mem} {p : Nat} {size begin seq : Int} {xs : List Int} {t : Int}
theorem push_low (h : RingAt F m p size begin seq xs) (hs : Small size begin seq xs) (ht : t ≤ xs.getLast?.getD 0) : Ca 15 [Pt p, U t] m (.tuple #[I 0, I 1]) m := by
 have hl := last_spec h hs
 refine callX_of (call_go (F := _) rfl rfl fun Q hQ => ?_)
 simp only [symA, symB, X.put, X.look, Arg.ev, keepOf, restrict, evs, initEnv, Nat.reduceEqDiff, ↓reduceIte, reduceCtorEq, eq_self, goR_call hl, ht]
 exact hQ _ _ _ rfl ⟨rfl, rfl⟩
def pushed (size : Int) (xs : List Int) (t : Int) : List Int := (xs ++ [t]).drop ((xs ++ [t]).length - size.toNat)
theorem get_put1 {m : Mem} {b off : Nat} {o : XObj} {v : Value} : (put1 m b off o v).get b = some { o with cells := o.cells.set off v } := by simp [put1, Mem.get_set]
theorem fm_put1 {m : Mem} {b off : Nat} {o : XObj} {v : Value} : Fm (· = b) m (put1 m b off o v) := Fm.set rfl
theorem push_ok (h : RingAt F m p size begin seq xs) (hs : Small size begin seq xs) (ht : ¬ t ≤ xs.getLast?.getD 0) (hf : ¬ 1073741824 ≤ seq) :
  ∃ m' F', Ca 15 [Pt p, U t] m (.tuple #[I (seq + 1), I 0]) m' ∧ RingAt F' m' p size begin (seq + 1) (pushed size xs t) ∧ Fm (fun i => i = p ∨ i ∈ F) m m' ∧ ∀ i ∈ F', i ∈ F ∨ m.next ≤ i := by
 have hl := last_spec h hs
 obtain ⟨sl, o, h1, h2, h3, h4, h5, h6, h7⟩ := h
 obtain ⟨s1, s2, s3, s4, s5, s6, s7⟩ := hs
 
 have w1 : IntKind.i64.wrap (seq + 1) = seq + 1 := wrap_i64 (by omega) (by omega)
 have st1 : storeE m 1 (.pointer (some ⟨p, 2, none⟩)) (I (seq + 1)) = some (.skip (put1 m p 2 o (I (seq + 1)))) := store1 h1 h4 h5 (by simp [h3]) rfl rfl
 have g1 : (put1 m p 2 o (I (seq + 1))).get p = some { o with cells := [I size, I begin, I (seq + 1), sl] } := by rw [get_put1, h3]; rfl
 generalize hm1 : put1 m p 2 o (I (seq + 1)) = m1 at st1 g1
 have f1 : Fm (· = p) m m1 := hm1 ▸ fm_put1
 have hpF : ∀ i ∈ F, ¬ i = p := fun i hi e => h6 (e ▸ hi)
 
 have b1 := buildSlice_one (m := m1) (zero := U 0) (v := U t) rfl
 generalize hm2 : m1.push { cells := [U t], rw := true, spare := none, kin := [] } = m2 at b1
 have f2 : Fm (fun _ => False) m1 m2 := hm2 ▸ Fm.push
 have g2 : m2.get m1.next = some { cells := [U t], rw := true, spare := none, kin := [] } := by rw [← hm2, push_self]
 have o2 : OwnU F m2 sl xs := (h7.fr f1 hpF).fr f2 (fun _ _ h => h)
 obtain ⟨sl', m3, F', a1, a2, a3, a4, a5⟩ := OwnS.append (bytes := 8) (zero := [U 0]) (new := [U t]) (vx := .slice (some ⟨m1.next, 0, none⟩) 1 1) o2 rfl (by omega) rfl (by simp [xfirst, xload, g2]) rfl (by omega) (by omega)
 have hm1n : m.next ≤ m1.next := f1.next
 have hm2n : m1.next ≤ m2.next := f2.next
 have hp2 : p < m2.next := by omega
 have g3 : m3.get p = some { o with cells := [I size, I begin, I (seq + 1), sl] } := a3.get hp2 h6 (f2.get (by omega) (fun h => h) g1)
 have st2 : storeE m3 1 (.pointer (some ⟨p, 3, none⟩)) sl' = some (.skip (put1 m3 p 3 { o with cells := [I size, I begin, I (seq + 1), sl] } sl')) := by
  obtain ⟨q, c, rfl⟩ := a2.slice
  exact store1 g3 h4 h5 (by simp) rfl rfl
 have g4 : (put1 m3 p 3 { o with cells := [I size, I begin, I (seq + 1), sl] } sl').get p = some { o with cells := [I size, I begin, I (seq + 1), sl'] } := by rw [get_put1]; rfl
 generalize hm4 : put1 m3 p 3 { o with cells := [I size, I begin, I (seq + 1), sl] } sl' = m4 at st2 g4
 have f4 : Fm (· = p) m3 m4 := hm4 ▸ fm_put1
 have hpF' : ∀ i ∈ F', ¬ i = p := fun i hi e => by
  subst e
  rcases a5 _ hi with h | h
  ·exact h6 h
  ·omega
 have o4 : OwnU F' m4 sl' (xs ++ [t]) := by
  have := a2.fr f4 hpF'
  rw [OwnU, List.length_append, List.map_append]
  exact this
 have fall : Fm (fun i => i = p ∨ i ∈ F) m m4 := ((f1.mono fun i _ h => .inl h).comp f2 (fun i _ h => h.elim)).comp ((a3.mono fun i _ h => .inr h).comp f4 fun i _ h => .inl h) (fun i _ h => h)
 have hnew : ∀ i ∈ F', i ∈ F ∨ m.next ≤ i := fun i hi => (a5 i hi).imp id (fun h => by omega)
 have hlen : (xs ++ [t]).length = xs.length + 1 := by simp
 have w2 : IntKind.i64.wrap (((xs.length + 1 : Nat) : Int) - size) = ((xs.length + 1 : Nat) : Int) - size := wrap_i64 (by omega) (by omega)
 have hp4 : p < m4.next := by have := a3.next; have := f4.next; omega
 obtain ⟨q, c, hsl⟩ := h7.slice
 obtain ⟨q', c', hsl'⟩ := o4.slice
 rw [hlen] at hsl'
 by_cases hk : 0 < ((xs.length + 1 : Nat) : Int) - size
 ·
  have hk1 : ((xs.length + 1 : Nat) : Int) - size = ((1 : Nat) : Int) := by omega
  obtain ⟨sl2, m5, d1, d2, d3⟩ := delete_spec (k := 1) o4 (by omega) (by rw [hlen]; omega) (by rw [hlen]; omega)
  have g5 : m5.get p = some { o with cells := [I size, I begin, I (seq + 1), sl'] } := d3.get hp4 (fun h => hpF' p h rfl) g4
  have st3 : storeE m5 1 (.pointer (some ⟨p, 3, none⟩)) sl2 = some (.skip (put1 m5 p 3 { o with cells := [I size, I begin, I (seq + 1), sl'] } sl2)) := by
   obtain ⟨q, c, rfl⟩ := d2.slice
   exact store1 g5 h4 h5 (by simp) rfl rfl
  have g6 : (put1 m5 p 3 { o with cells := [I size, I begin, I (seq + 1), sl'] } sl2).get p = some { o with cells := [I size, I begin, I (seq + 1), sl2] } := by rw [get_put1]; rfl
  generalize hm6 : put1 m5 p 3 { o with cells := [I size, I begin, I (seq + 1), sl'] } sl2 = m6 at st3 g6
  have f6 : Fm (· = p) m5 m6 := hm6 ▸ fm_put1
  refine ⟨m6, F', ?_, ⟨sl2, _, g6, by have := d3.next; have := f6.next; omega, rfl, h4, h5, fun h => hpF' p h rfl, ?_⟩, ?_, hnew⟩
  ·refine callX_of (call_go (F := _) rfl rfl fun Q hQ => ?_)
   have hk' : 0 < ((1 : Nat) : Int) := by omega
   have w3 : IntKind.i64.wrap (((xs.length + 1 : Nat) : Int) - size) = 1 := w2.trans hk1
   have d1' : Ca 35 [sl', I 0, I 1] m4 sl2 m5 := d1
   subst hsl hsl'
   simp only [symA, symB, X.put, X.look, Arg.ev, keepOf, restrict, evs, initEnv, noTup, Nat.reduceEqDiff, ↓reduceIte, reduceCtorEq, goInt, eq_self, Int.reduceLT, goR_call hl, ht, h1, h3, hf, w1, st1, g1, b1, a1, st2, g4, w3, goR_call d1', st3, g6]
   exact hQ _ _ _ rfl ⟨rfl, rfl⟩
  ·have := d2.fr f6 hpF'
   have e : pushed size xs t = (xs ++ [t]).drop 1 := by unfold pushed; rw [hlen]; congr 1; omega
   rw [e]
   exact this
  ·have f46 : Fm (fun i => i = p ∨ i ∈ F') m4 m6 := (d3.mono fun i _ h => .inr h).trans (f6.mono fun i _ h => .inl h)
   refine fall.comp f46 (fun i hi h => ?_)
   rcases h with h | h
   ·exact .inl h
   ·exact (hnew i h).elim .inr (fun h => by omega)
 ·
  refine ⟨m4, F', ?_, ⟨sl', _, g4, hp4, rfl, h4, h5, fun h => hpF' p h rfl, ?_⟩, fall, hnew⟩
  ·refine callX_of (call_go (F := _) rfl rfl fun Q hQ => ?_)
   subst hsl hsl'
   simp only [symA, symB, X.put, X.look, Arg.ev, keepOf, restrict, evs, initEnv, noTup, Nat.reduceEqDiff, ↓reduceIte, reduceCtorEq, goInt, eq_self, goR_call hl, ht, h1, h3, hf, w1, st1, g1, b1, a1, st2, g4, w2, hk]
   exact hQ _ _ _ rfl ⟨rfl, rfl⟩
  ·have e : pushed size xs t = xs ++ [t] := by unfold pushed; rw [hlen, show xs.length + 1 - size.toNat = 0 by omega, List.drop_zero]
   rw [e]
   exact o4
theorem new_ok {m : Mem} {size seq : Int} (a1 : ¬ size < 1) (a2 : ¬ 16 < size) (a3 : ¬ seq < 0) (a4 : ¬ 1073741824 < seq) :
  ∃ m', Ca 27 [I size, I seq] m (.tuple #[Pt m.next, I 0]) m' ∧ RingAt [] m' m.next size seq seq [] ∧ Fm (fun _ => False) m m' := by
 refine ⟨m.push { cells := [I size, I seq, I seq, .slice none 0 0], rw := true, spare := none, kin := [] }, ?_, ⟨.slice none 0 0, _, push_self, by simp, rfl, rfl, rfl, by simp, .nil (by simp)⟩, .push⟩
 refine callX_of (call_go (F := _) rfl rfl fun Q hQ => ?_)
 have b1 : buildE m [I 0, I 0, I 0, .slice none 0 0] [(0, 1), (1, 1), (2, 1), (3, 1)] [(0, I size), (1, I seq), (2, I seq)] = some (.val (.agg #[I size, I seq, I seq, .slice none 0 0]) m) := by kernel_rfl
 simp only [symA, symB, wantedX, X.put, X.look, Arg.ev, keepOf, restrict, initEnv, noTup, Nat.reduceEqDiff, ↓reduceIte, reduceCtorEq, eq_self, a1, a2, a3, a4, b1]; exact hQ _ _ _ rfl ⟨rfl, rfl⟩
end
end Go.Proofs.Ytnlmnejellipdaa.Rng
