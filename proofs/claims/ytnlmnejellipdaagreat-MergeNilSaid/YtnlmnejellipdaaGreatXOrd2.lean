/-
  Own work. Regions whose order the tape draws, with operations that change memory: the text's run, written down.
-/
import Derived.Test.YtnlmnejellipdaaGreatXOrd
namespace Go.Proofs.YtnlmnejellipdaaGreat.X
open Go
set_option linter.unusedVariables false
set_option linter.unusedSimpArgs false

section
variable {P : Program} {ρ : Rho} {N : Nat} {e : Env} {a : Act} {m : Mem} {w : World} {C : FuncId → List Value → Mem → Option (Value × Mem)}

/-- A row that nobody has seen yet. -/
theorem push_none {o : XObj} (hr : Rel ρ m w) : Step ρ m w ρ (m.push o) w := by
  have hf : ρ m.next = none := hr.fresh _ (Nat.le_refl _)
  have hget : ∀ i oi, ρ i ≠ none → (m.push o).get i = some oi → m.get i = some oi := by
    intro i oi hi h
    rw [Mem.get_push] at h
    by_cases hh : m.next = i
    · exact absurd (hh ▸ hf) hi
    · rw [if_neg hh] at h; exact h
  refine ⟨.refl _, ⟨?_, ?_, ?_, ?_⟩, .refl _ _ _, ⟨?_⟩, by simp, ?_, fun _ _ h => h⟩
  · intro i oi ci h1 h2
    exact hr.obj i oi ci (hget i oi (by rw [h2]; simp) h1) h2
  · intro i j oi oj ci cj hij h1 h2 h3 h4
    exact hr.excl i j oi oj ci cj hij (hget i oi (by rw [h3]; simp) h1) (hget j oj (by rw [h4]; simp) h2) h3 h4
  · intro i hi
    simp only [Mem.next_push] at hi
    exact hr.fresh i (by omega)
  · intro i oi h
    simp only [Mem.next_push]
    rw [Mem.get_push] at h
    by_cases hh : m.next = i
    · omega
    · rw [if_neg hh] at h; have := hr.alive i oi h; omega
  · intro i oi ci h1 h2 h3
    exact .inr ⟨i, oi, ci, hget i oi (by rw [h3]; simp) h1, h2, h3, rfl⟩
  · intro i hi _
    rw [Mem.get_push, if_neg (by omega)]

/-- The row that was made by an operation of the text's run is made in the model's. -/
theorem late_step {ρ0 : Rho} {m0 : Mem} {w0 : World} {id : Nat} {cells : List Value} {row : Array Value} {e : TypeId} (hS : Step ρ0 m0 w0 ρ m w) (hid : m0.next ≤ id) (ho : m.get id = some { cells, rw := true, spare := none, kin := [] })
    (hn : ρ id = none) (hv : CsRel ρ cells row.toList) : Step ρ0 m0 w0 (ρ.with id ⟨w.heap.size, 0, row.size, 0⟩) m (w.alloc (.cells row e)) := by
  have hr := hS.rel
  have hx := Rho.with_ext ⟨w.heap.size, 0, row.size, 0⟩ hn
  have hlen : row.size = cells.length := by have := hv.length; simpa using this
  have hblk : ∀ k, k < w.heap.size → (w.alloc (.cells row e)).heap[k]? = w.heap[k]? := fun k hk => heap_alloc_old w _ hk
  have hat : (ρ.with id ⟨w.heap.size, 0, row.size, 0⟩) id = some ⟨w.heap.size, 0, row.size, 0⟩ := by simp [Rho.with]
  have hoff : ∀ i, i ≠ id → (ρ.with id ⟨w.heap.size, 0, row.size, 0⟩) i = ρ i := fun i h => by simp [Rho.with, h]
  have hfr := hS.fr
  refine ⟨hS.ext.trans hx, ⟨?_, ?_, ?_, hr.alive⟩, ⟨by simp; exact Nat.le_succ_of_le hfr.size, ?_, hfr.os, hfr.tape, hfr.output, fun a => by rw [RowKit.frozen?_alloc_cells w row e a]; exact hfr.frozen a⟩, ⟨?_⟩, hS.next, hS.same, ?_⟩
  · intro i oi ci h1 h2
    by_cases hi : i = id
    · subst hi
      rw [hat] at h2
      cases h2
      rw [ho] at h1
      cases h1
      refine ⟨by simp, ?_, fun _ j => by simp, by simp, (fun k hk => by simp at hk), by simp, trivial⟩
      intro j v hj
      obtain ⟨v', k1, k2⟩ := hv.get j v hj
      refine ⟨v', ?_, k2.mono hx⟩
      rw [Nat.zero_add, World.cell?_alloc_new]
      simpa using k1
    · rw [hoff i hi] at h2
      have hO := hr.obj i oi ci h1 h2
      exact hO.later hx (by simp) (hblk _ hO.lt)
  · intro i j oi oj ci cj hij h1 h2 h3 h4 hrw hb
    by_cases hi : i = id
    · subst hi
      rw [hat] at h3
      cases h3
      rw [hoff j (Ne.symm hij)] at h4
      have := (hr.obj j oj cj h2 h4).lt
      simp only at hb; omega
    · rw [hoff i hi] at h3
      by_cases hj : j = id
      · subst hj
        rw [hat] at h4
        cases h4
        have := (hr.obj i oi ci h1 h3).lt
        simp only at hb; omega
      · rw [hoff j hj] at h4
        exact hr.excl i j oi oj ci cj hij h1 h2 h3 h4 hrw hb
  · intro i hi
    have := hr.alive id _ ho
    rw [hoff i (by omega)]
    exact hr.fresh i hi
  · intro b hb hh
    rw [hblk b (Nat.lt_of_lt_of_le hb hfr.size)]
    exact hfr.keep b hb hh
  · intro i oi ci h1 h2 h3
    by_cases hi : i = id
    · subst hi
      rw [hat] at h3
      cases h3
      exact .inl hfr.size
    · rw [hoff i hi] at h3
      exact hS.own.own i oi ci h1 h2 h3
  · intro i hi hh
    rw [hoff i (by omega)]
    exact hS.none_ i hi hh

/-! ## The text's run -/
def lo (l : List (Nat × Nat × XOp)) : List XOp := l.map (·.2.2)
theorem lo_get {l : List (Nat × Nat × XOp)} {k : Nat} {x : Nat × Nat × XOp} (h : l[k]? = some x) : (lo l)[k]? = some x.2.2 := by simp [lo, h]
theorem lo_get' {l : List (Nat × Nat × XOp)} {k : Nat} {o : XOp} (h : (lo l)[k]? = some o) : ∃ x, l[k]? = some x ∧ x.2.2 = o := by
  simp only [lo, List.getElem?_map, Option.map_eq_some_iff] at h
  exact h
@[simp] theorem lo_length (l : List (Nat × Nat × XOp)) : (lo l).length = l.length := by simp [lo]

def stop (l : List (Nat × Nat × XOp)) (g : Nat) : Prop := g = l.length ∨ ∃ x, l[g]? = some x ∧ cls x.2.2.i = 3

structure Trace (P : Program) (C : FuncId → List Value → Mem → Option (Value × Mem)) (l : List (Nat × Nat × XOp)) (vs : List Value) (μ : Nat → Mem) (e : Env) (pend : List Pend) : Prop where
  len : vs.length = l.length
  ops : ∀ (k : Nat) x v, l[k]? = some x → vs[k]? = some v →
    (wantedX (envAt (lo l) vs e k) x.2.2.guard = some false ∧ v = undef ∧ μ (k + 1) = μ k) ∨
    (wantedX (envAt (lo l) vs e k) x.2.2.guard = some true ∧ ∃ r, xi P (envAt (lo l) vs e k) (μ k) x.2.2.i = some r ∧ outOf C (μ k) (some r) = some (v, μ (k + 1)) ∧ (cls x.2.2.i = 2 → ∃ m', r = .val v m'))
  again : ∀ (k : Nat) x v g, l[k]? = some x → vs[k]? = some v → cls x.2.2.i = 1 → wantedX (envAt (lo l) vs e k) x.2.2.guard = some true → k < g → stop l g →
    (∀ y z, k < y → y < g → l[y]? = some z → cls z.2.2.i = 3 → z.2.1.testBit x.1 = false) → ∃ m', xi P (envAt (lo l) vs e k) (μ g) x.2.2.i = some (.val v m')
  pend : ∀ p ∈ pend, ∀ g, stop l g → (∀ y z, y < g → l[y]? = some z → cls z.2.2.i = 3 → z.2.1.testBit p.j = false) → ∃ m', xi P p.e (μ g) p.i = some (.val p.v m')

def consM (m : Mem) (μ : Nat → Mem) : Nat → Mem
  | 0 => m
  | k + 1 => μ k

theorem Trace.cons {x : Nat × Nat × XOp} {l : List (Nat × Nat × XOp)} {v : Value} {vs : List Value} {μ : Nat → Mem} {pend pend' : List Pend} (h : Trace P C l vs μ (put x.2.2.dst v e) pend')
    (hop : (wantedX e x.2.2.guard = some false ∧ v = undef ∧ μ 0 = m) ∨ (wantedX e x.2.2.guard = some true ∧ ∃ r, xi P e m x.2.2.i = some r ∧ outOf C m (some r) = some (v, μ 0) ∧ (cls x.2.2.i = 2 → ∃ m', r = .val v m')))
    (hp : ∀ p ∈ pend, (cls x.2.2.i = 3 → x.2.1.testBit p.j = false → p ∈ pend') ∧ (cls x.2.2.i ≠ 3 → p ∈ pend'))
    (h0 : cls x.2.2.i = 3 → X.again P m pend = true) (hn : cls x.2.2.i = 1 → wantedX e x.2.2.guard = some true → ⟨x.1, e, x.2.2.i, v⟩ ∈ pend') : Trace P C (x :: l) (v :: vs) (consM m μ) e pend := by
  have hstop : ∀ g, stop (x :: l) (g + 1) → stop l g := by
    intro g hg
    rcases hg with hg | ⟨z, h1, h2⟩
    · exact .inl (by simpa using hg)
    · exact .inr ⟨z, by simpa using h1, h2⟩
  have henv : ∀ k, envAt (lo (x :: l)) (v :: vs) e (k + 1) = envAt (lo l) vs (put x.2.2.dst v e) k := fun k => envAt_cons x.2.2 (lo l) v vs e k
  refine ⟨by simp [h.len], ?_, ?_, ?_⟩
  · intro k y u hy hu
    cases k with
    | zero => simp at hy hu; subst hy; subst hu; exact hop
    | succ k => rw [henv]; exact h.ops k y u (by simpa using hy) (by simpa using hu)
  · intro k y u g hy hu hc hw hk hg hb
    obtain ⟨g, rfl⟩ : ∃ g', g = g' + 1 := ⟨g - 1, by omega⟩
    cases k with
    | zero =>
      simp at hy hu
      subst hy
      subst hu
      exact h.pend _ (hn hc hw) g (hstop g hg) (fun y z hy hz hcz => hb (y + 1) z (by omega) (by omega) (by simpa using hz) hcz)
    | succ k =>
      rw [henv] at hw ⊢
      exact h.again k y u g (by simpa using hy) (by simpa using hu) hc hw (by omega) (hstop g hg) (fun y z hy1 hy hz hcz => hb (y + 1) z (by omega) (by omega) (by simpa using hz) hcz)
  · intro p hpm g hg hb
    cases g with
    | zero =>
      rcases hg with hg | ⟨z, h1, h2⟩
      · simp at hg
      · simp at h1
        subst h1
        exact again_spec (h0 h2) p hpm
    | succ g =>
      have hin : p ∈ pend' := by
        by_cases hc : cls x.2.2.i = 3
        · exact (hp p hpm).1 hc (hb 0 x (by omega) rfl hc)
        · exact (hp p hpm).2 hc
      exact h.pend p hin g (hstop g hg) (fun y z hy hz hcz => hb (y + 1) z (by omega) (by simpa using hz) hcz)

theorem xopsD_trace : ∀ (l : List (Nat × Nat × XOp)) (pend : List Pend) (e : Env) (m : Mem) (e' : Env) (m' : Mem), xopsD P C l pend e m = some (e', m') →
    ∃ vs μ, Trace P C l vs μ e pend ∧ μ 0 = m ∧ μ l.length = m' ∧ e' = envAt (lo l) vs e l.length
  | [], pend, e, m, e', m', h => by
    simp only [xopsD] at h
    obtain ⟨ha, h⟩ := ite_some' h
    cases h
    refine ⟨[], fun _ => m, ⟨rfl, fun k x v h => by simp at h, fun k x v g h => by simp at h, ?_⟩, rfl, rfl, rfl⟩
    intro p hp g hg _
    exact again_spec ha p hp
  | (j, pre, o) :: l, pend, e, m, e', m', h => by
    have wrap : ∀ (v : Value) (m1 : Mem) (pend' : List Pend), xopsD P C l pend' (put o.dst v e) m1 = some (e', m') →
        ((wantedX e o.guard = some false ∧ v = undef ∧ m1 = m) ∨ (wantedX e o.guard = some true ∧ ∃ r, xi P e m o.i = some r ∧ outOf C m (some r) = some (v, m1) ∧ (cls o.i = 2 → ∃ m', r = .val v m'))) →
        (∀ p ∈ pend, (cls o.i = 3 → pre.testBit p.j = false → p ∈ pend') ∧ (cls o.i ≠ 3 → p ∈ pend')) →
        (cls o.i = 3 → X.again P m pend = true) → (cls o.i = 1 → wantedX e o.guard = some true → ⟨j, e, o.i, v⟩ ∈ pend') →
        ∃ vs μ, Trace P C ((j, pre, o) :: l) vs μ e pend ∧ μ 0 = m ∧ μ ((j, pre, o) :: l).length = m' ∧ e' = envAt (lo ((j, pre, o) :: l)) vs e ((j, pre, o) :: l).length := by
      intro v m1 pend' h1 h2 h3 h4 h5
      obtain ⟨vs, μ, k1, k2, k3, k4⟩ := xopsD_trace l pend' _ m1 e' m' h1
      subst k2
      exact ⟨v :: vs, consM m μ, Trace.cons (x := (j, pre, o)) k1 h2 h3 h4 h5, rfl, k3, by rw [k4]; exact (envAt_cons o (lo l) v vs e l.length).symm⟩
    simp only [xopsD] at h
    cases ht : wantedX e o.guard with
    | none => rw [ht] at h; cases h
    | some t =>
      rw [ht] at h
      cases t with
      | false =>
        simp only at h
        by_cases hc : cls o.i = 3
        · rw [if_pos hc] at h
          obtain ⟨ha, h⟩ := ite_some' h
          exact wrap undef m _ h (.inl ⟨ht, rfl, rfl⟩) (fun p hp => ⟨fun _ hb => by simp [hp, hb], fun hh => absurd hc hh⟩) (fun _ => ha) (fun h1 => by omega)
        · rw [if_neg hc] at h
          exact wrap undef m _ h (.inl ⟨ht, rfl, rfl⟩) (fun p hp => ⟨fun hh => absurd hh hc, fun _ => hp⟩) (fun hh => absurd hh hc) (fun _ h2 => by rw [ht] at h2; cases h2)
      | true =>
        simp only at h
        split at h
        · rename_i hc
          split at h
          case h_2 => cases h
          rename_i v m1 hxi
          obtain ⟨v', hv⟩ := quiet_spec (cls_quiet (by omega)) hxi
          cases hv
          exact wrap v m _ h (.inr ⟨ht, _, hxi, rfl, fun _ => ⟨_, rfl⟩⟩) (fun p hp => ⟨fun hh => by omega, fun _ => hp⟩) (fun hh => by omega) (fun h1 => by omega)
        · rename_i hc
          split at h
          case h_2 => cases h
          rename_i v m1 hxi
          obtain ⟨v', hv⟩ := quiet_spec (cls_quiet (by omega)) hxi
          cases hv
          exact wrap v m _ h (.inr ⟨ht, _, hxi, rfl, fun _ => ⟨_, rfl⟩⟩) (fun p hp => ⟨fun hh => by omega, fun _ => by simp [hp]⟩) (fun hh => by omega) (fun _ _ => by simp)
        · rename_i hc
          split at h
          case h_2 => cases h
          rename_i v m1 hxi
          exact wrap v m1 _ h (.inr ⟨ht, _, hxi, rfl, fun _ => ⟨_, rfl⟩⟩) (fun p hp => ⟨fun hh => by omega, fun _ => hp⟩) (fun hh => by omega) (fun h1 => by omega)
        · rename_i hc0 hc1 hc2
          obtain ⟨ha, h⟩ := ite_some' h
          split at h
          case h_2 => cases h
          rename_i v m1 hout
          cases hxi : xi P e m o.i with
          | none => rw [hxi] at hout; simp [outOf] at hout
          | some r =>
            rw [hxi] at hout
            have hc : cls o.i = 3 := by
              have h4 : cls o.i < 4 := by cases o.i <;> simp [cls, quiet]
              have h0 : cls o.i ≠ 0 := hc0
              have h1 : cls o.i ≠ 1 := hc1
              have h2 : cls o.i ≠ 2 := hc2
              omega
            exact wrap v m1 _ h (.inr ⟨ht, r, hxi, hout, fun hh => by omega⟩) (fun p hp => ⟨fun _ hb => by simp [hp, hb], fun hh => absurd hc hh⟩) (fun _ => ha) (fun h1 => by omega)

/-! ## The order that was chosen -/
theorem pairsD_spec : ∀ {l : List (Nat × Nat × XOp)}, pairsD l = true → ∀ (p q : Nat) (x y : Nat × Nat × XOp), p < q → l[p]? = some x → l[q]? = some y →
    x.1 ≠ y.1 ∧ x.2.1.testBit y.1 = false ∧ (cls x.2.2.i = 3 → cls y.2.2.i ≠ 0 → y.2.1.testBit x.1 = true)
  | [], _, p, q, x, y, _, h, _ => by simp at h
  | z :: l, h, p, q, x, y, hpq, hx, hy => by
    simp only [pairsD, Bool.and_eq_true] at h
    obtain ⟨q, rfl⟩ : ∃ q', q = q' + 1 := ⟨q - 1, by omega⟩
    cases p with
    | zero =>
      simp at hx
      subst hx
      have hm : y ∈ l := List.mem_of_getElem? (by simpa using hy)
      have := List.all_eq_true.1 h.1 y hm
      simp only [Bool.and_eq_true, bne_iff_ne, Bool.not_eq_true', Bool.or_eq_true, beq_iff_eq] at this
      refine ⟨this.1.1, this.1.2, fun h1 h2 => ?_⟩
      rcases this.2 with (h3 | h3) | h3
      · exact absurd h1 h3
      · exact absurd h3 h2
      · exact h3
    | succ p => exact pairsD_spec h.2 p q x y (by omega) (by simpa using hx) (by simpa using hy)

theorem tagD_get : ∀ {l : List XOp} {ps : List Nat} (i : Nat), ps.length = l.length → (tagD i l ps).length = l.length ∧ ∀ (j : Nat) (x : Nat × Nat × XOp), (tagD i l ps)[j]? = some x → x.1 = i + j ∧ l[j]? = some x.2.2 ∧ ps[j]? = some x.2.1
  | [], ps, i, h => by
    have : ps = [] := List.eq_nil_of_length_eq_zero (by simpa using h)
    subst this
    exact ⟨rfl, fun j x hx => by simp [tagD] at hx⟩
  | o :: l, [], i, h => by simp at h
  | o :: l, p :: ps, i, h => by
    obtain ⟨h1, h2⟩ := tagD_get (l := l) (ps := ps) (i + 1) (by simpa using h)
    refine ⟨by simp [tagD, h1], ?_⟩
    intro j x hx
    cases j with
    | zero => simp [tagD] at hx; subst hx; simp
    | succ j =>
      obtain ⟨k1, k2, k3⟩ := h2 j x (by simpa [tagD] using hx)
      exact ⟨by omega, by simpa using k2, by simpa using k3⟩

theorem filterMap_all {α β : Type} {f : α → Option β} : ∀ {l : List α}, (∀ x ∈ l, (f x).isSome = true) → (l.filterMap f).length = l.length ∧ ∀ (j : Nat) x, l[j]? = some x → (l.filterMap f)[j]? = f x
  | [], _ => ⟨rfl, fun j x h => by simp at h⟩
  | a :: l, h => by
    obtain ⟨b, hb⟩ := Option.isSome_iff_exists.1 (h a (by simp))
    obtain ⟨h1, h2⟩ := filterMap_all (l := l) (fun x hx => h x (by simp [hx]))
    rw [List.filterMap_cons_some hb]
    refine ⟨by simp [h1], fun j x hx => ?_⟩
    cases j with
    | zero => simp at hx; subst hx; simp [hb]
    | succ j => simpa using h2 j x (by simpa using hx)

/-- What an order and the text say: 'ex', 'ey' are in either order. -/
structure OrdE (l : List (Nat × Nat × XOp)) (l0 : List XOp) (ps : List Nat) (ex ey : Nat) : Prop where
  len : l.length = l0.length
  at_ : ∀ (k : Nat) (x : Nat × Nat × XOp), l[k]? = some x → x.1 < l0.length ∧ l0[x.1]? = some x.2.2 ∧ ps[x.1]? = some x.2.1
  sur : ∀ j, j < l0.length → ∃ (k : Nat) (x : Nat × Nat × XOp), l[k]? = some x ∧ x.1 = j
  pair : ∀ (p q : Nat) (x y : Nat × Nat × XOp), p < q → l[p]? = some x → l[q]? = some y → x.1 ≠ y.1 ∧ x.2.1.testBit y.1 = false ∧ (cls x.2.2.i = 3 → cls y.2.2.i ≠ 0 → y.2.1.testBit x.1 = true ∨ (x.1 = ex ∧ y.1 = ey))

theorem ordE_of {l : List (Nat × Nat × XOp)} {l0 : List XOp} {ps : List Nat} {ex ey : Nat} (h1 : (l.all fun x => decide (x.1 < l.length)) = true) (h2 : ((List.range l.length).all fun j => (l.find? fun x => x.1 == j).isSome) = true)
    (hpair : ∀ (p q : Nat) (x y : Nat × Nat × XOp), p < q → l[p]? = some x → l[q]? = some y → x.1 ≠ y.1 ∧ x.2.1.testBit y.1 = false ∧ (cls x.2.2.i = 3 → cls y.2.2.i ≠ 0 → y.2.1.testBit x.1 = true ∨ (x.1 = ex ∧ y.1 = ey)))
    (hs : sortD l = tagD 0 l0 ps) (hps : ps.length = l0.length) : OrdE l l0 ps ex ey := by
  obtain ⟨hl1, hl2⟩ := tagD_get (l := l0) (ps := ps) 0 hps
  obtain ⟨hf1, hf2⟩ := filterMap_all (f := fun j => l.find? fun x => x.1 == j) (l := List.range l.length) (List.all_eq_true.1 h2)
  have hlen : l.length = l0.length := by
    have e1 : (sortD l).length = l.length := by rw [sortD, hf1]; simp
    rw [hs, hl1] at e1
    exact e1.symm
  refine ⟨hlen, ?_, ?_, hpair⟩
  · intro k x hx
    have hxm : x ∈ l := List.mem_of_getElem? hx
    have hxl : x.1 < l.length := of_decide_eq_true (List.all_eq_true.1 h1 x hxm)
    have hfx := hf2 x.1 x.1 (by simp [hxl])
    have hsome := List.all_eq_true.1 h2 x.1 (by simp [hxl])
    obtain ⟨y, hy⟩ := Option.isSome_iff_exists.1 hsome
    have hyx : y = x := by
      have h4 := List.find?_some hy
      have h5 := List.mem_of_find?_eq_some hy
      obtain ⟨k', hk', hyk⟩ := List.mem_iff_getElem.1 h5
      have hyk' : l[k']? = some y := by rw [List.getElem?_eq_getElem hk', hyk]
      have h6 : y.1 = x.1 := by simpa using h4
      rcases Nat.lt_trichotomy k k' with hlt | heq | hgt
      · exact absurd h6.symm (hpair k k' x y hlt hx hyk').1
      · subst heq; rw [hx] at hyk'; cases hyk'; rfl
      · exact absurd h6 (hpair k' k y x hgt hyk' hx).1
    subst hyx
    rw [hy] at hfx
    have hfx' : (sortD l)[y.1]? = some y := hfx
    rw [hs] at hfx'
    obtain ⟨k1, k2, k3⟩ := hl2 y.1 y hfx'
    exact ⟨by rw [← hlen]; exact hxl, k2, k3⟩
  · intro j hj
    have hsome := List.all_eq_true.1 h2 j (by simp; omega)
    obtain ⟨y, hy⟩ := Option.isSome_iff_exists.1 hsome
    have h4 := List.find?_some hy
    obtain ⟨k', hk', hyk⟩ := List.mem_iff_getElem.1 (List.mem_of_find?_eq_some hy)
    exact ⟨k', y, by rw [List.getElem?_eq_getElem hk', hyk], by simpa using h4⟩


/-- What 'okD' and the text say of the order chosen. -/
theorem okD_spec {l : List (Nat × Nat × XOp)} {l0 : List XOp} {ps : List Nat} (ex ey : Nat) (hok : okD l = true) (hs : sortD l = tagD 0 l0 ps) (hps : ps.length = l0.length) : OrdE l l0 ps ex ey := by
  simp only [okD, Bool.and_eq_true] at hok
  obtain ⟨⟨h1, h2⟩, h3⟩ := hok
  exact ordE_of h1 h2 (fun p q x y hpq hx hy => by
    obtain ⟨g1, g2, g3⟩ := pairsD_spec h3 p q x y hpq hx hy
    exact ⟨g1, g2, fun a b => .inl (g3 a b)⟩) hs hps

theorem lastL_spec {α : Type} : ∀ {l : List α} {x y : α}, lastL l = some (x, y) → l = cutL l ++ [x, y] ∧ swapL l = cutL l ++ [y, x]
  | [], x, y, h => by simp [lastL] at h
  | [_], x, y, h => by simp [lastL] at h
  | [a, b], x, y, h => by simp [lastL] at h; obtain ⟨rfl, rfl⟩ := h; exact ⟨rfl, rfl⟩
  | a :: b :: c :: l, x, y, h => by
    simp only [lastL] at h
    obtain ⟨h1, h2⟩ := lastL_spec h
    exact ⟨by simp only [cutL, List.cons_append]; rw [← h1], by simp only [cutL, swapL, List.cons_append]; rw [← h2]⟩

/-- Stores in either order. -/
theorem okC_spec {l : List (Nat × Nat × XOp)} {l0 : List XOp} {ps : List Nat} (hok : okC l = true) (hs : sortD l = tagD 0 l0 ps) (hps : ps.length = l0.length) :
    ∃ x y, lastL l = some (x, y) ∧ storeB x.2.2 = true ∧ storeB y.2.2 = true ∧ x.1 ≠ y.1 ∧ OrdE l l0 ps x.1 y.1 ∧ OrdE (swapL l) l0 ps y.1 x.1 := by
  unfold okC at hok
  split at hok
  case h_2 => cases hok
  rename_i x y hl
  simp only [Bool.and_eq_true, bne_iff_ne, ne_eq, Bool.not_eq_true'] at hok
  obtain ⟨⟨⟨⟨⟨⟨⟨⟨sx, sy⟩, hne⟩, hxy⟩, hyx⟩, px⟩, py⟩, h1⟩, h2⟩ := hok
  obtain ⟨e1, e2⟩ := lastL_spec hl
  have gen : ∀ (A : List (Nat × Nat × XOp)) (x y : Nat × Nat × XOp), x.1 ≠ y.1 → x.2.1.testBit y.1 = false → pairsD (A ++ [x]) = true → pairsD (A ++ [y]) = true →
      ∀ (p q : Nat) (u v : Nat × Nat × XOp), p < q → (A ++ [x, y])[p]? = some u → (A ++ [x, y])[q]? = some v → u.1 ≠ v.1 ∧ u.2.1.testBit v.1 = false ∧ (cls u.2.2.i = 3 → cls v.2.2.i ≠ 0 → v.2.1.testBit u.1 = true ∨ (u.1 = x.1 ∧ v.1 = y.1)) := by
    intro A x y hne hxy px py p q u v hpq hu hv
    have hq : q < A.length + 2 := by have := (List.getElem?_eq_some_iff.1 hv).1; simpa using this
    have inA : ∀ (z : Nat × Nat × XOp) (k : Nat) (w : Nat × Nat × XOp), k < A.length → (A ++ [x, y])[k]? = some w → (A ++ [z])[k]? = some w := fun z k w hk hw => by
      rw [List.getElem?_append_left hk] at hw ⊢; exact hw
    have lastA : ∀ z : Nat × Nat × XOp, (A ++ [z])[A.length]? = some z := fun z => by simp
    by_cases q1 : q < A.length
    · obtain ⟨g1, g2, g3⟩ := pairsD_spec px p q u v hpq (inA x p u (by omega) hu) (inA x q v q1 hv)
      exact ⟨g1, g2, fun a b => .inl (g3 a b)⟩
    · by_cases q2 : q = A.length
      · subst q2
        have : v = x := by simpa using hv.symm
        subst this
        obtain ⟨g1, g2, g3⟩ := pairsD_spec px p A.length u v hpq (inA v p u hpq hu) (lastA v)
        exact ⟨g1, g2, fun a b => .inl (g3 a b)⟩
      · have q3 : q = A.length + 1 := by omega
        subst q3
        have : v = y := by simpa using hv.symm
        subst this
        by_cases p1 : p < A.length
        · obtain ⟨g1, g2, g3⟩ := pairsD_spec py p A.length u v p1 (inA v p u p1 hu) (lastA v)
          exact ⟨g1, g2, fun a b => .inl (g3 a b)⟩
        · have p2 : p = A.length := by omega
          subst p2
          have : u = x := by simpa using hu.symm
          subst this
          exact ⟨hne, hxy, fun _ _ => .inr ⟨rfl, rfl⟩⟩
  have hperm : ∀ z, z ∈ swapL l ↔ z ∈ l := fun z => by
    rw [e2]; conv => rhs; rw [e1]
    simp only [List.mem_append, List.mem_cons, List.not_mem_nil, or_false]
    constructor
    · rintro (h | h | h)
      · exact .inl h
      · exact .inr (.inr h)
      · exact .inr (.inl h)
    · rintro (h | h | h)
      · exact .inl h
      · exact .inr (.inr h)
      · exact .inr (.inl h)
  have hlen : (swapL l).length = l.length := by rw [e2]; conv => rhs; rw [e1]
                                                simp
  have hA : OrdE l l0 ps x.1 y.1 := by
    refine ordE_of h1 h2 ?_ hs hps
    rw [e1]
    exact gen (cutL l) x y hne hxy px py
  have pair2 : ∀ (p q : Nat) (u v : Nat × Nat × XOp), p < q → (swapL l)[p]? = some u → (swapL l)[q]? = some v → u.1 ≠ v.1 ∧ u.2.1.testBit v.1 = false ∧ (cls u.2.2.i = 3 → cls v.2.2.i ≠ 0 → v.2.1.testBit u.1 = true ∨ (u.1 = y.1 ∧ v.1 = x.1)) := by
    rw [e2]
    exact gen (cutL l) y x (Ne.symm hne) hyx py px
  refine ⟨x, y, hl, sx, sy, hne, hA, ⟨hlen.trans hA.len, fun k z hz => ?_, fun j hj => ?_, pair2⟩⟩
  · have hm : z ∈ l := (hperm z).1 (List.mem_of_getElem? hz)
    obtain ⟨k', hk'⟩ := List.mem_iff_getElem?.1 hm
    exact hA.at_ k' z hk'
  · obtain ⟨k, z, hz, hj⟩ := hA.sur j hj
    have hm : z ∈ swapL l := (hperm z).2 (List.mem_of_getElem? hz)
    obtain ⟨k', hk'⟩ := List.mem_iff_getElem?.1 hm
    exact ⟨k', z, hk', hj⟩

end
end Go.Proofs.YtnlmnejellipdaaGreat.X
