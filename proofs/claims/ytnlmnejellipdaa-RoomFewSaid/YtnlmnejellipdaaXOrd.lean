/-
  Own work. Regions whose order the tape draws, with operations that change memory among them: facts about the text's run. Regions whose order the tape draws, with operations that change memory: the text's run, written down. Regions whose order the tape draws, with operations that change memory: every order comes to what the text's run comes to. Regions whose order the tape draws, with operations that change memory: the theorem 'drawn_wp'. Regions whose last two operations are stores in either order, to different rows.
-/
import Derived.Test.YtnlmnejellipdaaXDraw
namespace Go.Proofs.Ytnlmnejellipdaa.X
open Go
set_option linter.unusedVariables false
set_option linter.unusedSimpArgs false
section
variable {P : Program} {ρ : Rho} {N : Nat} {e : Env} {a : Act} {m : Mem} {w : World}
theorem veqA_eq {a b : Addr} (h : veqA a b = true) : a = b := by
 obtain ⟨x, y, s⟩ := a
 obtain ⟨x', y', s'⟩ := b
 cases s <;> cases s' <;> simp [veqA] at h
 ·obtain ⟨rfl, rfl⟩ := h; rfl
 ·obtain ⟨⟨rfl, rfl⟩, rfl⟩ := h; rfl
theorem veqC_eq {a b : Value} (h : veqC a b = true) : a = b := by
 unfold veqC at h
 split at h
 ·simp at h; rw [h]
 ·simp at h; rw [h.1, h.2]
 ·simp at h; rw [h.1, h.2]
 ·simp at h
  rename_i x y
  obtain ⟨x⟩ := x
  obtain ⟨y⟩ := y
  simp at h
  rw [h]
 ·rfl
 ·rw [veqA_eq h]
 ·simp at h; rw [h.1, h.2]
 ·simp at h; rw [veqA_eq h.1.1, h.1.2, h.2]
 ·rfl
 ·simp at h; rw [h]
 ·rfl
 ·rfl
 ·simp at h; rw [h]
 ·cases h
theorem veqL_eq : ∀ {a b : List Value}, veqL a b = true → a = b
 | [], [], _ => rfl
 | a :: l, b :: r, h => by simp only [veqL, Bool.and_eq_true] at h; rw [veqC_eq h.1, veqL_eq h.2]
 | [], _ :: _, h => by simp [veqL] at h
 | _ :: _, [], h => by simp [veqL] at h
theorem veq_eq {a b : Value} (h : veq a b = true) : a = b := by
 unfold veq at h
 split at h
 ·have := veqL_eq h; rw [Array.toList_inj] at this; rw [this]
 ·simp only [Bool.and_eq_true, beq_iff_eq] at h
  have := veqL_eq h.2; rw [Array.toList_inj] at this; rw [this, h.1]
 ·simp only [Bool.and_eq_true, beq_iff_eq] at h
  rw [veqC_eq h.2, h.1]
 ·exact veqC_eq h
theorem again_spec {l : List Pend} (h : again P m l = true) : ∀ p ∈ l, ∃ m', xi P p.e m p.i = some (.val p.v m') := by
 intro p hp
 simp only [again, List.all_eq_true] at h
 have := h p hp
 split at this
 ·rename_i v m' hx
  rw [veq_eq this]; exact ⟨m', hx⟩
 ·cases this
theorem cls_quiet {i : XI} (h : cls i < 2) : quiet i = true := by
 cases i <;> simp_all [cls, quiet]
theorem xi_pure {i : XI} (hc : cls i = 0) {v : Value} {m1 : Mem} (h : xi P e m i = some (.val v m1)) (m' : Mem) : xi P e m' i = some (.val v m') := by
 cases i <;> simp [cls, quiet] at hc <;> simp only [xi] at h ⊢
 all_goals repeat' first
  | (cases h; done)
  | (cases h; rfl)
  | (replace h := bind_some' h; obtain ⟨_, hq, h⟩ := h; rw [hq]; simp only [Option.bind_some])
  | (replace h := ite_some' h; obtain ⟨hq, h⟩ := h; rw [if_pos hq])
  | split at h
def xnew (e : Env) : XI → Option (List Value × Option Nat)
 | .alloc zero => some (zero, none)
 | .box x => (x.ev e).bind fun v => if noTup v then some (v.cells.toList, none) else none
 | .buildSlice zero size len parts => (xparts e parts).bind fun vs =>
  if len * size ≤ 16777216 ∧ zero.length = size then
   (Instr.fill (fun i => some (i * size, size)) (zerosOf zero len).toArray vs).bind fun cs => some (cs.toList, some len)
  else none
 | _ => none
def mkv (id : Nat) : Option Nat → Value
 | none => .pointer (some ⟨id, 0, none⟩)
 | some n => .slice (some ⟨id, 0, none⟩) n n
theorem xi_new {i : XI} (hc : cls i = 2) {v : Value} {m1 : Mem} (h : xi P e m i = some (.val v m1)) :
  ∃ cells len, xnew e i = some (cells, len) ∧ v = mkv m.next len ∧ m1 = m.push { cells, rw := true, spare := none, kin := [] } := by
 cases i <;> simp [cls, quiet] at hc <;> simp only [xi] at h
 ·cases h; exact ⟨_, none, rfl, rfl, rfl⟩
 ·obtain ⟨v, hv, h⟩ := bind_some' h
  obtain ⟨hn, h⟩ := ite_some' h
  cases h
  exact ⟨_, none, by simp [xnew, hv, hn], rfl, rfl⟩
 ·obtain ⟨v, hv, h⟩ := bind_some' h
  obtain ⟨hn, h⟩ := ite_some' h
  obtain ⟨cs, hcs, h⟩ := bind_some' h
  cases h
  exact ⟨_, some _, by simp only [xnew, hv, Option.bind_some, if_pos hn, hcs], rfl, rfl⟩
theorem xnew_uses {e e' : Env} {i : XI} (hc : cls i = 2) (h : ∀ s ∈ uses i, look e s = look e' s) : xnew e i = xnew e' i := by
 cases i <;> simp [cls, quiet] at hc <;> simp only [uses] at h <;> simp only [xnew]
 ·rw [ev_uses h]
 ·rw [xparts_uses h]
theorem op_new {o : Oper} {i : XI} {cells : List Value} {len : Option Nat} (hP : opP P N o = some i) (hc : cls i = 2) (hx : xnew e i = some (cells, len)) (hE : ERel P ρ N e a) (w : World) :
  ∃ row t, (execOp a.eval o).run P w = .ok (.value (mkv w.heap.size len)) (w.alloc (.cells row t)) ∧ CsRel ρ cells row.toList := by
 replace hP : opP0 P N o = some i := by
  unfold opP at hP
  cases h0 : opP0 P N o with
  | none =>
   rw [h0] at hP
   cases hP
   simp [cls, quiet] at hc
  | some j =>
   rw [h0] at hP
   cases hP
   rfl
 unfold opP0 at hP
 split at hP
 case h_4 t ho =>
  obtain ⟨zero, hz, rfl⟩ := map_some' hP
  simp only [xnew, Option.some.injEq, Prod.mk.injEq] at hx
  obtain ⟨rfl, rfl⟩ := hx
  obtain ⟨i, z, hi, hzi, rfl, hp, hs⟩ := zeroP_spec hz
  refine ⟨z.cells, t, ?_, CsRel.flat hp⟩
  rw [show execOp a.eval o = (do pure (Next.value (← Instr.alloc t true (.tuple #[])))) by simp only [execOp, ho]]
  refine run_v ?_
  simp [Instr.alloc, zeroValue, typeInfo, hi, hzi, newVar, newRow, mkv]
 case h_13 sd dd x ho =>
  obtain ⟨g, hg, hP⟩ := map_some' hP
  exfalso
  cases hbs : bytesToStr P sd dd <;> rw [hbs] at hP <;> subst hP <;> simp [cls, quiet] at hc
 case h_5 t x ho =>
  obtain ⟨g, hg, rfl⟩ := map_some' hP
  simp only [xnew] at hx
  obtain ⟨v, hv, hx⟩ := bind_some' hx
  obtain ⟨hn, hx⟩ := ite_some' hx
  simp only [Option.some.injEq, Prod.mk.injEq] at hx
  obtain ⟨rfl, rfl⟩ := hx
  have hvr := arg_rel hg hv hE
  have hcs := hvr.cells (fun c hc => by subst hc; simp [noTup] at hn)
  refine ⟨(a.eval x).cells, t, ?_, hcs⟩
  rw [show execOp a.eval o = (do pure (Next.value (← Instr.box t (a.eval x)))) by simp only [execOp, ho]]
  refine run_v ?_
  simp [Instr.box, newVar, newRow, mkv]
 case h_7 t n parts ho =>
  obtain ⟨el, ht, hP⟩ := bind_some' hP
  obtain ⟨zero, hz, hP⟩ := bind_some' hP
  obtain ⟨size, hs, hP⟩ := bind_some' hP
  obtain ⟨ps, hp, rfl⟩ := map_some' hP
  simp only [xnew] at hx
  obtain ⟨vs, hv, hx⟩ := bind_some' hx
  obtain ⟨⟨hsmall, hzl⟩, hx⟩ := ite_some' hx
  obtain ⟨cs, hf, hx⟩ := bind_some' hx
  simp only [Option.some.injEq, Prod.mk.injEq] at hx
  obtain ⟨rfl, rfl⟩ := hx
  have hu := elemP_spec ht
  obtain ⟨i, z, hi, hzi, rfl, hpz, hsz⟩ := zeroP_spec hz
  have hps := parts_rel hp hv hE
  have hzl' : z.cells.size = size := by simpa using hzl
  obtain ⟨r', hf', hr'⟩ := fill_rel (ρ := ρ) _ hps (cs' := (zerosOf z.cells.toList n).toArray) (by simpa using CsRel.flat (zerosOf_plain hpz n)) hf
  have hl : (parts.map fun (i, x) => (i, a.eval x)).toList = parts.toList.map fun p => (p.1, a.eval p.2) := by simp
  have hzero : ((Array.range (n * size)).map (fun x => (if n * size = 0 then #[] else z.cells)[x % (if n * size = 0 then #[] else z.cells).size]!)) = (zerosOf z.cells.toList n).toArray := by
   by_cases h0 : n * size = 0
   ·rw [if_pos h0, h0]
    have : (zerosOf z.cells.toList n) = [] := List.eq_nil_of_length_eq_zero (by rw [zerosOf_length]; simp [hzl', h0])
    simp [this]
   ·rw [if_neg h0]
    apply Array.ext'
    have := zerosOf_eq z.cells n
    rw [hzl'] at this
    simp only [hzl']
    rw [this]
  refine ⟨r', el, ?_, hr'⟩
  rw [show execOp a.eval o = (do pure (Next.value (← Instr.buildSlice t n (parts.map fun (i, x) => (i, a.eval x))))) by simp only [execOp, ho]]
  refine run_v ?_
  have hsmall' : ¬ (n * size > 2 ^ 24) := by omega
  simp only [Instr.buildSlice, zeroValue, typeInfo, Sem.run_bind, run_program, Result.andThen_ok, hi, hzi, Sem.run_pure, run_underlying hu, run_sizeOf' hs, hl]
  rw [if_neg hsmall']
  by_cases h0 : n * size = 0
  ·rw [if_pos h0] at hzero
   simp only [if_pos h0, Sem.run_bind, Sem.run_pure, Result.andThen_ok, hzero, hf', newRow, run_newObj_alloc, mkv]
  ·rw [if_neg h0] at hzero
   simp only [if_neg h0, Sem.run_bind, run_program, Sem.run_pure, Result.andThen_ok, hi, hzi, hzero, hf', newRow, run_newObj_alloc, mkv]
 all_goals exfalso
 all_goals try unfold callP at hP
 all_goals repeat' first
  | (cases hP; done)
  | (cases hP; simp [cls, quiet] at hc; done)
  | (cases hP; simp [xnew] at hx; done)
  | (replace hP := bind_some' hP; obtain ⟨_, _, hP⟩ := hP)
  | (replace hP := map_some' hP; obtain ⟨_, _, hP⟩ := hP)
  | (replace hP := ite_some' hP; obtain ⟨_, hP⟩ := hP)
  | split at hP
end
section
variable {P : Program} {ρ : Rho} {N : Nat} {e : Env} {a : Act} {m : Mem} {w : World} {C : FuncId → List Value → Mem → Option (Value × Mem)}
theorem push_none {o : XObj} (hr : Rel ρ m w) : Step ρ m w ρ (m.push o) w := by
 have hf : ρ m.next = none := hr.fresh _ (Nat.le_refl _)
 have hget : ∀ i oi, ρ i ≠ none → (m.push o).get i = some oi → m.get i = some oi := by
  intro i oi hi h
  rw [Mem.get_push] at h
  by_cases hh : m.next = i
  ·exact absurd (hh ▸ hf) hi
  ·rw [if_neg hh] at h; exact h
 refine ⟨.refl _, ⟨?_, ?_, ?_, ?_⟩, .refl _ _ _, ⟨?_⟩, by simp, ?_, fun _ _ h => h⟩
 ·intro i oi ci h1 h2
  exact hr.obj i oi ci (hget i oi (by rw [h2]; simp) h1) h2
 ·intro i j oi oj ci cj hij h1 h2 h3 h4
  exact hr.excl i j oi oj ci cj hij (hget i oi (by rw [h3]; simp) h1) (hget j oj (by rw [h4]; simp) h2) h3 h4
 ·intro i hi
  simp only [Mem.next_push] at hi
  exact hr.fresh i (by omega)
 ·intro i oi h
  simp only [Mem.next_push]
  rw [Mem.get_push] at h
  by_cases hh : m.next = i
  ·omega
  ·rw [if_neg hh] at h; have := hr.alive i oi h; omega
 ·intro i oi ci h1 h2 h3
  exact .inr ⟨i, oi, ci, hget i oi (by rw [h3]; simp) h1, h2, h3, rfl⟩
 ·intro i hi _
  rw [Mem.get_push, if_neg (by omega)]
theorem late_step {ρ0 : Rho} {m0 : Mem} {w0 : World} {id : Nat} {cells : List Value} {row : Array Value} {e : TypeId} (hS : Step ρ0 m0 w0 ρ m w) (hid : m0.next ≤ id) (ho : m.get id = some { cells, rw := true, spare := none, kin := [] })
  (hn : ρ id = none) (hv : CsRel ρ cells row.toList) : Step ρ0 m0 w0 (ρ.with id ⟨w.heap.size, 0, row.size, 0⟩) m (w.alloc (.cells row e)) := by
 have hr := hS.rel
 have hx := Rho.with_ext ⟨w.heap.size, 0, row.size, 0⟩ hn
 have hlen : row.size = cells.length := by have := hv.length; simpa using this
 have hblk : ∀ k, k < w.heap.size → (w.alloc (.cells row e)).heap[k]? = w.heap[k]? := fun k hk => heap_alloc_old w _ hk
 have hat : (ρ.with id ⟨w.heap.size, 0, row.size, 0⟩) id = some ⟨w.heap.size, 0, row.size, 0⟩ := by simp [Rho.with]
 have hoff : ∀ i, i ≠ id → (ρ.with id ⟨w.heap.size, 0, row.size, 0⟩) i = ρ i := fun i h => by simp [Rho.with, h]
 have hfr := hS.fr
 refine ⟨hS.ext.trans hx, ⟨?_, ?_, ?_, hr.alive⟩, ⟨by simp; exact Nat.le_succ_of_le hfr.size, ?_, hfr.os, hfr.tape, hfr.output, fun a => by rw [RowKit.frozen?_alloc_cells w row e a]; exact hfr.frozen a⟩, ⟨?_⟩, hS.next, hS.same, ?_⟩
 ·intro i oi ci h1 h2
  by_cases hi : i = id
  ·subst hi
   rw [hat] at h2
   cases h2
   rw [ho] at h1
   cases h1
   refine ⟨by simp, ?_, fun _ j => by simp, by simp, (fun k hk => by simp at hk), by simp, trivial⟩
   intro j v hj
   obtain ⟨v', k1, k2⟩ := hv.get j v hj
   refine ⟨v', ?_, k2.mono hx⟩
   rw [Nat.zero_add, World.cell?_alloc_new]
   simpa using k1
  ·rw [hoff i hi] at h2
   have hO := hr.obj i oi ci h1 h2
   exact hO.later hx (by simp) (hblk _ hO.lt)
 ·intro i j oi oj ci cj hij h1 h2 h3 h4 hrw hb
  by_cases hi : i = id
  ·subst hi
   rw [hat] at h3
   cases h3
   rw [hoff j (Ne.symm hij)] at h4
   have := (hr.obj j oj cj h2 h4).lt
   simp only at hb; omega
  ·rw [hoff i hi] at h3
   by_cases hj : j = id
   ·subst hj
    rw [hat] at h4
    cases h4
    have := (hr.obj i oi ci h1 h3).lt
    simp only at hb; omega
   ·rw [hoff j hj] at h4
    exact hr.excl i j oi oj ci cj hij h1 h2 h3 h4 hrw hb
 ·intro i hi
  have := hr.alive id _ ho
  rw [hoff i (by omega)]
  exact hr.fresh i hi
 ·intro b hb hh
  rw [hblk b (Nat.lt_of_lt_of_le hb hfr.size)]
  exact hfr.keep b hb hh
 ·intro i oi ci h1 h2 h3
  by_cases hi : i = id
  ·subst hi
   rw [hat] at h3
   cases h3
   exact .inl hfr.size
  ·rw [hoff i hi] at h3
   exact hS.own.own i oi ci h1 h2 h3
 ·intro i hi hh
  rw [hoff i (by omega)]
  exact hS.none_ i hi hh
def lo (l : List (Nat × Nat × XOp)) : List XOp := l.map (·.2.2)
theorem lo_get {l : List (Nat × Nat × XOp)} {k : Nat} {x : Nat × Nat × XOp} (h : l[k]? = some x) : (lo l)[k]? = some x.2.2 := by simp [lo, h]
theorem lo_get' {l : List (Nat × Nat × XOp)} {k : Nat} {o : XOp} (h : (lo l)[k]? = some o) : ∃ x, l[k]? = some x ∧ x.2.2 = o := by
 simp only [lo, List.getElem?_map, Option.map_eq_some_iff] at h
 exact h
@[simp] theorem lo_length (l : List (Nat × Nat × XOp)) : (lo l).length = l.length := by simp [lo]
def stop (l : List (Nat × Nat × XOp)) (g : Nat) : Prop := g = l.length ∨ ∃ x, l[g]? = some x ∧ cls x.2.2.i = 3
structure Trace (P : Program) (C : FuncId → List Value → Mem → Option (Value × Mem)) (l : List (Nat × Nat × XOp)) (vs : List Value) (μ : Nat → Mem) (e : Env) (pend : List Pend) : Prop where
 len : vs.length = l.length
 ops : ∀ (k : Nat) x v, l[k]? = some x → vs[k]? = some v →
  (wantedX (envAt (lo l) vs e k) x.2.2.guard = some false ∧ v = undef ∧ μ (k + 1) = μ k) ∨
  (wantedX (envAt (lo l) vs e k) x.2.2.guard = some true ∧ ∃ r, xi P (envAt (lo l) vs e k) (μ k) x.2.2.i = some r ∧ outOf C (μ k) (some r) = some (v, μ (k + 1)) ∧ (cls x.2.2.i = 2 → ∃ m', r = .val v m'))
 again : ∀ (k : Nat) x v g, l[k]? = some x → vs[k]? = some v → cls x.2.2.i = 1 → wantedX (envAt (lo l) vs e k) x.2.2.guard = some true → k < g → stop l g →
  (∀ y z, k < y → y < g → l[y]? = some z → cls z.2.2.i = 3 → z.2.1.testBit x.1 = false) → ∃ m', xi P (envAt (lo l) vs e k) (μ g) x.2.2.i = some (.val v m')
 pend : ∀ p ∈ pend, ∀ g, stop l g → (∀ y z, y < g → l[y]? = some z → cls z.2.2.i = 3 → z.2.1.testBit p.j = false) → ∃ m', xi P p.e (μ g) p.i = some (.val p.v m')
def consM (m : Mem) (μ : Nat → Mem) : Nat → Mem
 | 0 => m
 | k + 1 => μ k
theorem Trace.cons {x : Nat × Nat × XOp} {l : List (Nat × Nat × XOp)} {v : Value} {vs : List Value} {μ : Nat → Mem} {pend pend' : List Pend} (h : Trace P C l vs μ (put x.2.2.dst v e) pend')
  (hop : (wantedX e x.2.2.guard = some false ∧ v = undef ∧ μ 0 = m) ∨ (wantedX e x.2.2.guard = some true ∧ ∃ r, xi P e m x.2.2.i = some r ∧ outOf C m (some r) = some (v, μ 0) ∧ (cls x.2.2.i = 2 → ∃ m', r = .val v m')))
  (hp : ∀ p ∈ pend, (cls x.2.2.i = 3 → x.2.1.testBit p.j = false → p ∈ pend') ∧ (cls x.2.2.i ≠ 3 → p ∈ pend'))
  (h0 : cls x.2.2.i = 3 → X.again P m pend = true) (hn : cls x.2.2.i = 1 → wantedX e x.2.2.guard = some true → ⟨x.1, e, x.2.2.i, v⟩ ∈ pend') : Trace P C (x :: l) (v :: vs) (consM m μ) e pend := by
 have hstop : ∀ g, stop (x :: l) (g + 1) → stop l g := by
  intro g hg
  rcases hg with hg | ⟨z, h1, h2⟩
  ·exact .inl (by simpa using hg)
  ·exact .inr ⟨z, by simpa using h1, h2⟩
 have henv : ∀ k, envAt (lo (x :: l)) (v :: vs) e (k + 1) = envAt (lo l) vs (put x.2.2.dst v e) k := fun k => envAt_cons x.2.2 (lo l) v vs e k
 refine ⟨by simp [h.len], ?_, ?_, ?_⟩
 ·intro k y u hy hu
  cases k with
  | zero => simp at hy hu; subst hy; subst hu; exact hop
  | succ k => rw [henv]; exact h.ops k y u (by simpa using hy) (by simpa using hu)
 ·intro k y u g hy hu hc hw hk hg hb
  obtain ⟨g, rfl⟩ : ∃ g', g = g' + 1 := ⟨g - 1, by omega⟩
  cases k with
  | zero =>
   simp at hy hu
   subst hy
   subst hu
   exact h.pend _ (hn hc hw) g (hstop g hg) (fun y z hy hz hcz => hb (y + 1) z (by omega) (by omega) (by simpa using hz) hcz)
  | succ k =>
   rw [henv] at hw ⊢
   exact h.again k y u g (by simpa using hy) (by simpa using hu) hc hw (by omega) (hstop g hg) (fun y z hy1 hy hz hcz => hb (y + 1) z (by omega) (by omega) (by simpa using hz) hcz)
 ·intro p hpm g hg hb
  cases g with
  | zero =>
   rcases hg with hg | ⟨z, h1, h2⟩
   ·simp at hg
   ·simp at h1
    subst h1
    exact again_spec (h0 h2) p hpm
  | succ g =>
   have hin : p ∈ pend' := by
    by_cases hc : cls x.2.2.i = 3
    ·exact (hp p hpm).1 hc (hb 0 x (by omega) rfl hc)
    ·exact (hp p hpm).2 hc
   exact h.pend p hin g (hstop g hg) (fun y z hy hz hcz => hb (y + 1) z (by omega) (by simpa using hz) hcz)
theorem xopsD_trace : ∀ (l : List (Nat × Nat × XOp)) (pend : List Pend) (e : Env) (m : Mem) (e' : Env) (m' : Mem), xopsD P C l pend e m = some (e', m') →
  ∃ vs μ, Trace P C l vs μ e pend ∧ μ 0 = m ∧ μ l.length = m' ∧ e' = envAt (lo l) vs e l.length
 | [], pend, e, m, e', m', h => by
  simp only [xopsD] at h
  obtain ⟨ha, h⟩ := ite_some' h
  cases h
  refine ⟨[], fun _ => m, ⟨rfl, fun k x v h => by simp at h, fun k x v g h => by simp at h, ?_⟩, rfl, rfl, rfl⟩
  intro p hp g hg _
  exact again_spec ha p hp
 | (j, pre, o) :: l, pend, e, m, e', m', h => by
  have wrap : ∀ (v : Value) (m1 : Mem) (pend' : List Pend), xopsD P C l pend' (put o.dst v e) m1 = some (e', m') →
    ((wantedX e o.guard = some false ∧ v = undef ∧ m1 = m) ∨ (wantedX e o.guard = some true ∧ ∃ r, xi P e m o.i = some r ∧ outOf C m (some r) = some (v, m1) ∧ (cls o.i = 2 → ∃ m', r = .val v m'))) →
    (∀ p ∈ pend, (cls o.i = 3 → pre.testBit p.j = false → p ∈ pend') ∧ (cls o.i ≠ 3 → p ∈ pend')) →
    (cls o.i = 3 → X.again P m pend = true) → (cls o.i = 1 → wantedX e o.guard = some true → ⟨j, e, o.i, v⟩ ∈ pend') →
    ∃ vs μ, Trace P C ((j, pre, o) :: l) vs μ e pend ∧ μ 0 = m ∧ μ ((j, pre, o) :: l).length = m' ∧ e' = envAt (lo ((j, pre, o) :: l)) vs e ((j, pre, o) :: l).length := by
   intro v m1 pend' h1 h2 h3 h4 h5
   obtain ⟨vs, μ, k1, k2, k3, k4⟩ := xopsD_trace l pend' _ m1 e' m' h1
   subst k2
   exact ⟨v :: vs, consM m μ, Trace.cons (x := (j, pre, o)) k1 h2 h3 h4 h5, rfl, k3, by rw [k4]; exact (envAt_cons o (lo l) v vs e l.length).symm⟩
  simp only [xopsD] at h
  cases ht : wantedX e o.guard with
  | none => rw [ht] at h; cases h
  | some t =>
   rw [ht] at h
   cases t with
   | false =>
    simp only at h
    by_cases hc : cls o.i = 3
    ·rw [if_pos hc] at h
     obtain ⟨ha, h⟩ := ite_some' h
     exact wrap undef m _ h (.inl ⟨ht, rfl, rfl⟩) (fun p hp => ⟨fun _ hb => by simp [hp, hb], fun hh => absurd hc hh⟩) (fun _ => ha) (fun h1 => by omega)
    ·rw [if_neg hc] at h
     exact wrap undef m _ h (.inl ⟨ht, rfl, rfl⟩) (fun p hp => ⟨fun hh => absurd hh hc, fun _ => hp⟩) (fun hh => absurd hh hc) (fun _ h2 => by rw [ht] at h2; cases h2)
   | true =>
    simp only at h
    split at h
    ·rename_i hc
     split at h
     case h_2 => cases h
     rename_i v m1 hxi
     obtain ⟨v', hv⟩ := quiet_spec (cls_quiet (by omega)) hxi
     cases hv
     exact wrap v m _ h (.inr ⟨ht, _, hxi, rfl, fun _ => ⟨_, rfl⟩⟩) (fun p hp => ⟨fun hh => by omega, fun _ => hp⟩) (fun hh => by omega) (fun h1 => by omega)
    ·rename_i hc
     split at h
     case h_2 => cases h
     rename_i v m1 hxi
     obtain ⟨v', hv⟩ := quiet_spec (cls_quiet (by omega)) hxi
     cases hv
     exact wrap v m _ h (.inr ⟨ht, _, hxi, rfl, fun _ => ⟨_, rfl⟩⟩) (fun p hp => ⟨fun hh => by omega, fun _ => by simp [hp]⟩) (fun hh => by omega) (fun _ _ => by simp)
    ·rename_i hc
     split at h
     case h_2 => cases h
     rename_i v m1 hxi
     exact wrap v m1 _ h (.inr ⟨ht, _, hxi, rfl, fun _ => ⟨_, rfl⟩⟩) (fun p hp => ⟨fun hh => by omega, fun _ => hp⟩) (fun hh => by omega) (fun h1 => by omega)
    ·rename_i hc0 hc1 hc2
     obtain ⟨ha, h⟩ := ite_some' h
     split at h
     case h_2 => cases h
     rename_i v m1 hout
     cases hxi : xi P e m o.i with
     | none => rw [hxi] at hout; simp [outOf] at hout
     | some r =>
      rw [hxi] at hout
      have hc : cls o.i = 3 := by
       have h4 : cls o.i < 4 := by cases o.i <;> simp [cls, quiet]
       have h0 : cls o.i ≠ 0 := hc0
       have h1 : cls o.i ≠ 1 := hc1
       have h2 : cls o.i ≠ 2 := hc2
       omega
      exact wrap v m1 _ h (.inr ⟨ht, r, hxi, hout, fun hh => by omega⟩) (fun p hp => ⟨fun _ hb => by simp [hp, hb], fun hh => absurd hc hh⟩) (fun _ => ha) (fun h1 => by omega)
theorem pairsD_spec : ∀ {l : List (Nat × Nat × XOp)}, pairsD l = true → ∀ (p q : Nat) (x y : Nat × Nat × XOp), p < q → l[p]? = some x → l[q]? = some y →
  x.1 ≠ y.1 ∧ x.2.1.testBit y.1 = false ∧ (cls x.2.2.i = 3 → cls y.2.2.i ≠ 0 → y.2.1.testBit x.1 = true)
 | [], _, p, q, x, y, _, h, _ => by simp at h
 | z :: l, h, p, q, x, y, hpq, hx, hy => by
  simp only [pairsD, Bool.and_eq_true] at h
  obtain ⟨q, rfl⟩ : ∃ q', q = q' + 1 := ⟨q - 1, by omega⟩
  cases p with
  | zero =>
   simp at hx
   subst hx
   have hm : y ∈ l := List.mem_of_getElem? (by simpa using hy)
   have := List.all_eq_true.1 h.1 y hm
   simp only [Bool.and_eq_true, bne_iff_ne, Bool.not_eq_true', Bool.or_eq_true, beq_iff_eq] at this
   refine ⟨this.1.1, this.1.2, fun h1 h2 => ?_⟩
   rcases this.2 with (h3 | h3) | h3
   ·exact absurd h1 h3
   ·exact absurd h3 h2
   ·exact h3
  | succ p => exact pairsD_spec h.2 p q x y (by omega) (by simpa using hx) (by simpa using hy)
theorem tagD_get : ∀ {l : List XOp} {ps : List Nat} (i : Nat), ps.length = l.length → (tagD i l ps).length = l.length ∧ ∀ (j : Nat) (x : Nat × Nat × XOp), (tagD i l ps)[j]? = some x → x.1 = i + j ∧ l[j]? = some x.2.2 ∧ ps[j]? = some x.2.1
 | [], ps, i, h => by
  have : ps = [] := List.eq_nil_of_length_eq_zero (by simpa using h)
  subst this
  exact ⟨rfl, fun j x hx => by simp [tagD] at hx⟩
 | o :: l, [], i, h => by simp at h
 | o :: l, p :: ps, i, h => by
  obtain ⟨h1, h2⟩ := tagD_get (l := l) (ps := ps) (i + 1) (by simpa using h)
  refine ⟨by simp [tagD, h1], ?_⟩
  intro j x hx
  cases j with
  | zero => simp [tagD] at hx; subst hx; simp
  | succ j =>
   obtain ⟨k1, k2, k3⟩ := h2 j x (by simpa [tagD] using hx)
   exact ⟨by omega, by simpa using k2, by simpa using k3⟩
theorem filterMap_all {α β : Type} {f : α → Option β} : ∀ {l : List α}, (∀ x ∈ l, (f x).isSome = true) → (l.filterMap f).length = l.length ∧ ∀ (j : Nat) x, l[j]? = some x → (l.filterMap f)[j]? = f x
 | [], _ => ⟨rfl, fun j x h => by simp at h⟩
 | a :: l, h => by
  obtain ⟨b, hb⟩ := Option.isSome_iff_exists.1 (h a (by simp))
  obtain ⟨h1, h2⟩ := filterMap_all (l := l) (fun x hx => h x (by simp [hx]))
  rw [List.filterMap_cons_some hb]
  refine ⟨by simp [h1], fun j x hx => ?_⟩
  cases j with
  | zero => simp at hx; subst hx; simp [hb]
  | succ j => simpa using h2 j x (by simpa using hx)
structure OrdE (l : List (Nat × Nat × XOp)) (l0 : List XOp) (ps : List Nat) (ex ey : Nat) : Prop where
 len : l.length = l0.length
 at_ : ∀ (k : Nat) (x : Nat × Nat × XOp), l[k]? = some x → x.1 < l0.length ∧ l0[x.1]? = some x.2.2 ∧ ps[x.1]? = some x.2.1
 sur : ∀ j, j < l0.length → ∃ (k : Nat) (x : Nat × Nat × XOp), l[k]? = some x ∧ x.1 = j
 pair : ∀ (p q : Nat) (x y : Nat × Nat × XOp), p < q → l[p]? = some x → l[q]? = some y → x.1 ≠ y.1 ∧ x.2.1.testBit y.1 = false ∧ (cls x.2.2.i = 3 → cls y.2.2.i ≠ 0 → y.2.1.testBit x.1 = true ∨ (x.1 = ex ∧ y.1 = ey))
theorem ordE_of {l : List (Nat × Nat × XOp)} {l0 : List XOp} {ps : List Nat} {ex ey : Nat} (h1 : (l.all fun x => decide (x.1 < l.length)) = true) (h2 : ((List.range l.length).all fun j => (l.find? fun x => x.1 == j).isSome) = true)
  (hpair : ∀ (p q : Nat) (x y : Nat × Nat × XOp), p < q → l[p]? = some x → l[q]? = some y → x.1 ≠ y.1 ∧ x.2.1.testBit y.1 = false ∧ (cls x.2.2.i = 3 → cls y.2.2.i ≠ 0 → y.2.1.testBit x.1 = true ∨ (x.1 = ex ∧ y.1 = ey)))
  (hs : sortD l = tagD 0 l0 ps) (hps : ps.length = l0.length) : OrdE l l0 ps ex ey := by
 obtain ⟨hl1, hl2⟩ := tagD_get (l := l0) (ps := ps) 0 hps
 obtain ⟨hf1, hf2⟩ := filterMap_all (f := fun j => l.find? fun x => x.1 == j) (l := List.range l.length) (List.all_eq_true.1 h2)
 have hlen : l.length = l0.length := by
  have e1 : (sortD l).length = l.length := by rw [sortD, hf1]; simp
  rw [hs, hl1] at e1
  exact e1.symm
 refine ⟨hlen, ?_, ?_, hpair⟩
 ·intro k x hx
  have hxm : x ∈ l := List.mem_of_getElem? hx
  have hxl : x.1 < l.length := of_decide_eq_true (List.all_eq_true.1 h1 x hxm)
  have hfx := hf2 x.1 x.1 (by simp [hxl])
  have hsome := List.all_eq_true.1 h2 x.1 (by simp [hxl])
  obtain ⟨y, hy⟩ := Option.isSome_iff_exists.1 hsome
  have hyx : y = x := by
   have h4 := List.find?_some hy
   have h5 := List.mem_of_find?_eq_some hy
   obtain ⟨k', hk', hyk⟩ := List.mem_iff_getElem.1 h5
   have hyk' : l[k']? = some y := by rw [List.getElem?_eq_getElem hk', hyk]
   have h6 : y.1 = x.1 := by simpa using h4
   rcases Nat.lt_trichotomy k k' with hlt | heq | hgt
   ·exact absurd h6.symm (hpair k k' x y hlt hx hyk').1
   ·subst heq; rw [hx] at hyk'; cases hyk'; rfl
   ·exact absurd h6 (hpair k' k y x hgt hyk' hx).1
  subst hyx
  rw [hy] at hfx
  have hfx' : (sortD l)[y.1]? = some y := hfx
  rw [hs] at hfx'
  obtain ⟨k1, k2, k3⟩ := hl2 y.1 y hfx'
  exact ⟨by rw [← hlen]; exact hxl, k2, k3⟩
 ·intro j hj
  have hsome := List.all_eq_true.1 h2 j (by simp; omega)
  obtain ⟨y, hy⟩ := Option.isSome_iff_exists.1 hsome
  have h4 := List.find?_some hy
  obtain ⟨k', hk', hyk⟩ := List.mem_iff_getElem.1 (List.mem_of_find?_eq_some hy)
  exact ⟨k', y, by rw [List.getElem?_eq_getElem hk', hyk], by simpa using h4⟩
theorem okD_spec {l : List (Nat × Nat × XOp)} {l0 : List XOp} {ps : List Nat} (ex ey : Nat) (hok : okD l = true) (hs : sortD l = tagD 0 l0 ps) (hps : ps.length = l0.length) : OrdE l l0 ps ex ey := by
 simp only [okD, Bool.and_eq_true] at hok
 obtain ⟨⟨h1, h2⟩, h3⟩ := hok
 exact ordE_of h1 h2 (fun p q x y hpq hx hy => by
  obtain ⟨g1, g2, g3⟩ := pairsD_spec h3 p q x y hpq hx hy
  exact ⟨g1, g2, fun a b => .inl (g3 a b)⟩) hs hps
theorem lastL_spec {α : Type} : ∀ {l : List α} {x y : α}, lastL l = some (x, y) → l = cutL l ++ [x, y] ∧ swapL l = cutL l ++ [y, x]
 | [], x, y, h => by simp [lastL] at h
 | [_], x, y, h => by simp [lastL] at h
 | [a, b], x, y, h => by simp [lastL] at h; obtain ⟨rfl, rfl⟩ := h; exact ⟨rfl, rfl⟩
 | a :: b :: c :: l, x, y, h => by
  simp only [lastL] at h
  obtain ⟨h1, h2⟩ := lastL_spec h
  exact ⟨by simp only [cutL, List.cons_append]; rw [← h1], by simp only [cutL, swapL, List.cons_append]; rw [← h2]⟩
theorem okC_spec {l : List (Nat × Nat × XOp)} {l0 : List XOp} {ps : List Nat} (hok : okC l = true) (hs : sortD l = tagD 0 l0 ps) (hps : ps.length = l0.length) :
    ∃ x y, lastL l = some (x, y) ∧ storeB x.2.2 = true ∧ storeB y.2.2 = true ∧ x.1 ≠ y.1 ∧ OrdE l l0 ps x.1 y.1 ∧ OrdE (swapL l) l0 ps y.1 x.1 := by
  unfold okC at hok
  split at hok
  case h_2 => cases hok
  rename_i x y hl
  simp only [Bool.and_eq_true, bne_iff_ne, ne_eq, Bool.not_eq_true'] at hok
  obtain ⟨⟨⟨⟨⟨⟨⟨⟨sx, sy⟩, hne⟩, hxy⟩, hyx⟩, px⟩, py⟩, h1⟩, h2⟩ := hok
  obtain ⟨e1, e2⟩ := lastL_spec hl
  have gen : ∀ (A : List (Nat × Nat × XOp)) (x y : Nat × Nat × XOp), x.1 ≠ y.1 → x.2.1.testBit y.1 = false → pairsD (A ++ [x]) = true → pairsD (A ++ [y]) = true →
      ∀ (p q : Nat) (u v : Nat × Nat × XOp), p < q → (A ++ [x, y])[p]? = some u → (A ++ [x, y])[q]? = some v → u.1 ≠ v.1 ∧ u.2.1.testBit v.1 = false ∧ (cls u.2.2.i = 3 → cls v.2.2.i ≠ 0 → v.2.1.testBit u.1 = true ∨ (u.1 = x.1 ∧ v.1 = y.1)) := by
    intro A x y hne hxy px py p q u v hpq hu hv
    have hq : q < A.length + 2 := by have := (List.getElem?_eq_some_iff.1 hv).1; simpa using this
    have inA : ∀ (z : Nat × Nat × XOp) (k : Nat) (w : Nat × Nat × XOp), k < A.length → (A ++ [x, y])[k]? = some w → (A ++ [z])[k]? = some w := fun z k w hk hw => by
      rw [List.getElem?_append_left hk] at hw ⊢; exact hw
    have lastA : ∀ z : Nat × Nat × XOp, (A ++ [z])[A.length]? = some z := fun z => by simp
    by_cases q1 : q < A.length
    · obtain ⟨g1, g2, g3⟩ := pairsD_spec px p q u v hpq (inA x p u (by omega) hu) (inA x q v q1 hv)
      exact ⟨g1, g2, fun a b => .inl (g3 a b)⟩
    · by_cases q2 : q = A.length
      · subst q2
        have : v = x := by simpa using hv.symm
        subst this
        obtain ⟨g1, g2, g3⟩ := pairsD_spec px p A.length u v hpq (inA v p u hpq hu) (lastA v)
        exact ⟨g1, g2, fun a b => .inl (g3 a b)⟩
      · have q3 : q = A.length + 1 := by omega
        subst q3
        have : v = y := by simpa using hv.symm
        subst this
        by_cases p1 : p < A.length
        · obtain ⟨g1, g2, g3⟩ := pairsD_spec py p A.length u v p1 (inA v p u p1 hu) (lastA v)
          exact ⟨g1, g2, fun a b => .inl (g3 a b)⟩
        · have p2 : p = A.length := by omega
          subst p2
          have : u = x := by simpa using hu.symm
          subst this
          exact ⟨hne, hxy, fun _ _ => .inr ⟨rfl, rfl⟩⟩
  have hperm : ∀ z, z ∈ swapL l ↔ z ∈ l := fun z => by
    rw [e2]; conv => rhs; rw [e1]
    simp only [List.mem_append, List.mem_cons, List.not_mem_nil, or_false]
    constructor
    · rintro (h | h | h)
      · exact .inl h
      · exact .inr (.inr h)
      · exact .inr (.inl h)
    · rintro (h | h | h)
      · exact .inl h
      · exact .inr (.inr h)
      · exact .inr (.inl h)
  have hlen : (swapL l).length = l.length := by rw [e2]; conv => rhs; rw [e1]
                                                simp
  have hA : OrdE l l0 ps x.1 y.1 := by
    refine ordE_of h1 h2 ?_ hs hps
    rw [e1]
    exact gen (cutL l) x y hne hxy px py
  have pair2 : ∀ (p q : Nat) (u v : Nat × Nat × XOp), p < q → (swapL l)[p]? = some u → (swapL l)[q]? = some v → u.1 ≠ v.1 ∧ u.2.1.testBit v.1 = false ∧ (cls u.2.2.i = 3 → cls v.2.2.i ≠ 0 → v.2.1.testBit u.1 = true ∨ (u.1 = y.1 ∧ v.1 = x.1)) := by
    rw [e2]
    exact gen (cutL l) y x (Ne.symm hne) hyx py px
  refine ⟨x, y, hl, sx, sy, hne, hA, ⟨hlen.trans hA.len, fun k z hz => ?_, fun j hj => ?_, pair2⟩⟩
  · have hm : z ∈ l := (hperm z).1 (List.mem_of_getElem? hz)
    obtain ⟨k', hk'⟩ := List.mem_iff_getElem?.1 hm
    exact hA.at_ k' z hk'
  · obtain ⟨k, z, hz, hj⟩ := hA.sur j hj
    have hm : z ∈ swapL l := (hperm z).2 (List.mem_of_getElem? hz)
    obtain ⟨k', hk'⟩ := List.mem_iff_getElem?.1 hm
    exact ⟨k', z, hk', hj⟩
end
section
variable {P : Program} {ρ : Rho} {N : Nat} {e : Env} {a : Act} {m : Mem} {w : World} {C : FuncId → List Value → Mem → Option (Value × Mem)}
structure PInv (l : List (Nat × Nat × XOp)) (vs : List Value) (μ : Nat → Mem) (e : Env) (ρ : Rho) (m : Mem) (w : World) (L : Nat → Bool) (p : Nat) (ρ1 : Rho) (w1 : World) : Prop where
 le : p ≤ l.length
 done : ∀ (k : Nat) (x : Nat × Nat × XOp), k < p → l[k]? = some x → cls x.2.2.i = 3 → L x.1 = true
 undone : ∀ (k : Nat) (x : Nat × Nat × XOp), p ≤ k → l[k]? = some x → cls x.2.2.i ≠ 0 → L x.1 = false
 step : Step ρ m w ρ1 (μ p) w1
 nexts : ∀ k k', k ≤ k' → k' ≤ p → (μ k).next ≤ (μ k').next
 news : ∀ (k : Nat) (x : Nat × Nat × XOp), k < p → l[k]? = some x → cls x.2.2.i = 2 → wantedX (envAt (lo l) vs e k) x.2.2.guard = some true → (μ (k + 1)).next = (μ k).next + 1
 late : ∀ (k : Nat) (x : Nat × Nat × XOp) v, k < p → l[k]? = some x → vs[k]? = some v → cls x.2.2.i = 2 → wantedX (envAt (lo l) vs e k) x.2.2.guard = some true → L x.1 = false →
  ρ1 (μ k).next = none ∧ ∃ cells len, (μ p).get (μ k).next = some { cells, rw := true, spare := none, kin := [] } ∧ xnew (envAt (lo l) vs e k) x.2.2.i = some (cells, len) ∧ v = mkv (μ k).next len
theorem PInv.adv {l : List (Nat × Nat × XOp)} {vs : List Value} {μ : Nat → Mem} {pend : List Pend} {L : Nat → Bool} {ρ1 : Rho} {w1 : World} (hT : Trace P C l vs μ e pend) :
  ∀ (d p : Nat), p + d = l.length → PInv l vs μ e ρ m w L p ρ1 w1 → ∃ g, PInv l vs μ e ρ m w L g ρ1 w1 ∧ stop l g := by
 intro d
 induction d with
 | zero => intro p hp h; exact ⟨p, h, .inl (by omega)⟩
 | succ d ih =>
  intro p hp h
  have hpl : p < l.length := by omega
  have hx : l[p]? = some l[p] := by rw [List.getElem?_eq_getElem]
  have hv : vs[p]? = some (vs[p]'(by rw [hT.len]; exact hpl)) := by rw [List.getElem?_eq_getElem]
  generalize l[p] = x at hx
  generalize vs[p]'(by rw [hT.len]; exact hpl) = v at hv
  by_cases hc : cls x.2.2.i = 3
  ·exact ⟨p, h, .inr ⟨x, hx, hc⟩⟩
  ·have hkey : (μ (p + 1) = μ p ∧ ¬ (cls x.2.2.i = 2 ∧ wantedX (envAt (lo l) vs e p) x.2.2.guard = some true)) ∨
     (∃ cells len, μ (p + 1) = (μ p).push { cells, rw := true, spare := none, kin := [] } ∧ xnew (envAt (lo l) vs e p) x.2.2.i = some (cells, len) ∧ v = mkv (μ p).next len ∧ cls x.2.2.i = 2) := by
    rcases hT.ops p x v hx hv with ⟨h1, _, h2⟩ | ⟨h1, r, h2, h3, h4⟩
    ·exact .inl ⟨h2, fun hh => by rw [h1] at hh; simp at hh⟩
    ·have hlt : cls x.2.2.i < 4 := by cases x.2.2.i <;> simp [cls, quiet]
     by_cases h2c : cls x.2.2.i = 2
     ·obtain ⟨m', rfl⟩ := h4 h2c
      simp only [outOf, Option.some.injEq, Prod.mk.injEq, true_and] at h3
      obtain ⟨cells, len, k1, k2, k3⟩ := xi_new h2c h2
      exact .inr ⟨cells, len, by rw [← h3, k3], k1, k2, h2c⟩
     ·obtain ⟨u, rfl⟩ := quiet_spec (cls_quiet (by omega)) h2
      simp only [outOf, Option.some.injEq, Prod.mk.injEq] at h3
      exact .inl ⟨h3.2.symm, fun hh => h2c hh.1⟩
   refine ih (p + 1) (by omega) ?_
   have hdone : ∀ (k : Nat) (y : Nat × Nat × XOp), k < p + 1 → l[k]? = some y → cls y.2.2.i = 3 → L y.1 = true := by
    intro k y hk hy hcy
    rcases Nat.lt_or_ge k p with h1 | h1
    ·exact h.done k y h1 hy hcy
    ·obtain rfl : k = p := by omega
     rw [hx] at hy
     cases hy
     exact absurd hcy hc
   have hundone : ∀ (k : Nat) (y : Nat × Nat × XOp), p + 1 ≤ k → l[k]? = some y → cls y.2.2.i ≠ 0 → L y.1 = false := fun k y hk => h.undone k y (by omega)
   rcases hkey with ⟨hm, hno⟩ | ⟨cells, len, hm, hxn, hval, hc2⟩
   ·refine ⟨by omega, hdone, hundone, by rw [hm]; exact h.step, ?_, ?_, ?_⟩
    ·intro k k' h1 h2
     rcases Nat.lt_or_ge p k' with h3 | h3
     ·obtain rfl : k' = p + 1 := by omega
      rcases Nat.lt_or_ge p k with h4 | h4
      ·obtain rfl : k = p + 1 := by omega
       exact Nat.le_refl _
      ·rw [hm]; exact h.nexts k p h4 (Nat.le_refl _)
     ·exact h.nexts k k' h1 h3
    ·intro k y hk hy hcy hw
     rcases Nat.lt_or_ge k p with h1 | h1
     ·exact h.news k y h1 hy hcy hw
     ·obtain rfl : k = p := by omega
      rw [hx] at hy
      cases hy
      exact absurd ⟨hcy, hw⟩ hno
    ·intro k y u hk hy hu hcy hw hL
     rcases Nat.lt_or_ge k p with h1 | h1
     ·rw [hm]; exact h.late k y u h1 hy hu hcy hw hL
     ·obtain rfl : k = p := by omega
      rw [hx] at hy
      cases hy
      exact absurd ⟨hcy, hw⟩ hno
   ·have hr := h.step.rel
    refine ⟨by omega, hdone, hundone, by rw [hm]; exact h.step.trans (push_none hr), ?_, ?_, ?_⟩
    ·intro k k' h1 h2
     rcases Nat.lt_or_ge p k' with h3 | h3
     ·obtain rfl : k' = p + 1 := by omega
      rcases Nat.lt_or_ge p k with h4 | h4
      ·obtain rfl : k = p + 1 := by omega
       exact Nat.le_refl _
      ·rw [hm, Mem.next_push]; exact Nat.le_succ_of_le (h.nexts k p h4 (Nat.le_refl _))
     ·exact h.nexts k k' h1 h3
    ·intro k y hk hy hcy hw
     rcases Nat.lt_or_ge k p with h1 | h1
     ·exact h.news k y h1 hy hcy hw
     ·obtain rfl : k = p := by omega
      rw [hm, Mem.next_push]
    ·intro k y u hk hy hu hcy hw hL
     rcases Nat.lt_or_ge k p with h1 | h1
     ·obtain ⟨k1, cells', len', k2, k3, k4⟩ := h.late k y u h1 hy hu hcy hw hL
      refine ⟨k1, cells', len', ?_, k3, k4⟩
      have := hr.alive _ _ k2
      rw [hm, Mem.get_push, if_neg (by omega)]; exact k2
     ·obtain rfl : k = p := by omega
      rw [hx] at hy
      cases hy
      rw [hv] at hu
      cases hu
      exact ⟨hr.fresh _ (Nat.le_refl _), cells, len, by rw [hm, Mem.get_push, if_pos rfl], hxn, hval⟩
section
variable {l : List (Nat × Nat × XOp)} {vs : List Value} {μ : Nat → Mem} {L L' : Nat → Bool} {ρ1 ρ2 : Rho} {w1 w2 : World} {p k : Nat} {x : Nat × Nat × XOp}
theorem PInv.move (h : PInv l vs μ e ρ m w L p ρ1 w1) (hdis : ∀ (p q : Nat) (x y : Nat × Nat × XOp), p ≠ q → l[p]? = some x → l[q]? = some y → x.1 ≠ y.1) (hx : l[k]? = some x)
  (hk : cls x.2.2.i ≠ 0 → k < p) (hL : ∀ j, L' j = if j = x.1 then true else L j) (hS : Step ρ1 (μ p) w1 ρ2 (μ p) w2) : PInv l vs μ e ρ m w L' p ρ2 w2 := by
 refine ⟨h.le, ?_, ?_, h.step.trans hS, h.nexts, h.news, ?_⟩
 ·intro k' y h1 h2 h3
  rw [hL]; split
  ·rfl
  ·exact h.done k' y h1 h2 h3
 ·intro k' y h1 h2 h3
  rw [hL, if_neg]
  ·exact h.undone k' y h1 h2 h3
  ·intro he
   by_cases hkk : k' = k
   ·subst hkk
    rw [hx] at h2
    cases h2
    have := hk h3; omega
   ·exact hdis k' k y x hkk h2 hx he
 ·intro k' y u h1 h2 h3 h4 h5 h6
  have h7 : L y.1 = false := by
   rw [hL] at h6
   split at h6
   ·cases h6
   ·exact h6
  obtain ⟨g1, cells, len, g2, g3, g4⟩ := h.late k' y u h1 h2 h3 h4 h5 h7
  exact ⟨hS.none_ _ (h.step.rel.alive _ _ g2) g1, cells, len, g2, g3, g4⟩
theorem PInv.eff (h : PInv l vs μ e ρ m w L p ρ1 w1) (hdis : ∀ (p q : Nat) (x y : Nat × Nat × XOp), p ≠ q → l[p]? = some x → l[q]? = some y → x.1 ≠ y.1) (hx : l[p]? = some x)
  (hc : cls x.2.2.i = 3) (hL : ∀ j, L' j = if j = x.1 then true else L j) (hS : Step ρ1 (μ p) w1 ρ2 (μ (p + 1)) w2) : PInv l vs μ e ρ m w L' (p + 1) ρ2 w2 := by
 have hpl : p < l.length := (List.getElem?_eq_some_iff.1 hx).1
 refine ⟨by omega, ?_, ?_, h.step.trans hS, ?_, ?_, ?_⟩
 ·intro k' y h1 h2 h3
  rw [hL]
  split
  ·rfl
  ·rename_i hne
   rcases Nat.lt_or_ge k' p with h4 | h4
   ·exact h.done k' y h4 h2 h3
   ·obtain rfl : k' = p := by omega
    rw [hx] at h2
    cases h2
    exact absurd rfl hne
 ·intro k' y h1 h2 h3
  rw [hL, if_neg (hdis k' p y x (by omega) h2 hx)]
  exact h.undone k' y (by omega) h2 h3
 ·intro a b h1 h2
  rcases Nat.lt_or_ge p b with h3 | h3
  ·obtain rfl : b = p + 1 := by omega
   rcases Nat.lt_or_ge p a with h4 | h4
   ·obtain rfl : a = p + 1 := by omega
    exact Nat.le_refl _
   ·exact Nat.le_trans (h.nexts a p h4 (Nat.le_refl _)) hS.next
  ·exact h.nexts a b h1 h3
 ·intro k' y h1 h2 h3 h4
  rcases Nat.lt_or_ge k' p with h5 | h5
  ·exact h.news k' y h5 h2 h3 h4
  ·obtain rfl : k' = p := by omega
   rw [hx] at h2
   cases h2
   omega
 ·intro k' y u h1 h2 h3 h4 h5 h6
  have hne : k' ≠ p := by
   rintro rfl
   rw [hx] at h2
   cases h2
   omega
  have h7 : L y.1 = false := by
   rw [hL] at h6
   split at h6
   ·cases h6
   ·exact h6
  obtain ⟨g1, cells, len, g2, g3, g4⟩ := h.late k' y u (by omega) h2 h3 h4 h5 h7
  have hal := h.step.rel.alive _ _ g2
  exact ⟨hS.none_ _ hal g1, cells, len, by rw [hS.same _ hal g1]; exact g2, g3, g4⟩
theorem PInv.late' (h : PInv l vs μ e ρ m w L p ρ1 w1) (h0 : μ 0 = m) (hdis : ∀ (p q : Nat) (x y : Nat × Nat × XOp), p ≠ q → l[p]? = some x → l[q]? = some y → x.1 ≠ y.1) (hx : l[k]? = some x)
  (hk : k < p) (hc : cls x.2.2.i = 2) (hw : wantedX (envAt (lo l) vs e k) x.2.2.guard = some true) (hL : ∀ j, L' j = if j = x.1 then true else L j) {cells : List Value} {row : Array Value} {t : TypeId}
  (hn : ρ1 (μ k).next = none) (ho : (μ p).get (μ k).next = some { cells, rw := true, spare := none, kin := [] }) (hv : CsRel ρ1 cells row.toList) :
  PInv l vs μ e ρ m w L' p (ρ1.with (μ k).next ⟨w1.heap.size, 0, row.size, 0⟩) (w1.alloc (.cells row t)) := by
 have hm0 : m.next ≤ (μ k).next := by have := h.nexts 0 k (Nat.zero_le _) (by omega); rw [h0] at this; exact this
 have hS := late_step (e := t) h.step hm0 ho hn hv
 refine ⟨h.le, ?_, ?_, hS, h.nexts, h.news, ?_⟩
 ·intro k' y h1 h2 h3
  rw [hL]; split
  ·rfl
  ·exact h.done k' y h1 h2 h3
 ·intro k' y h1 h2 h3
  rw [hL, if_neg (hdis k' k y x (by omega) h2 hx)]
  exact h.undone k' y h1 h2 h3
 ·intro k' y u h1 h2 h3 h4 h5 h6
  have h7 : L y.1 = false := by
   rw [hL] at h6
   split at h6
   ·cases h6
   ·exact h6
  have hne : k' ≠ k := by
   rintro rfl
   rw [hx] at h2
   cases h2
   rw [hL, if_pos rfl] at h6; cases h6
  obtain ⟨g1, cells', len', g2, g3, g4⟩ := h.late k' y u h1 h2 h3 h4 h5 h7
  refine ⟨?_, cells', len', g2, g3, g4⟩
  have hid : (μ k').next ≠ (μ k).next := by
   rcases Nat.lt_or_ge k' k with hlt | hge
   ·have e1 := h.news k' y h1 h2 h4 h5
    have e2 := h.nexts (k' + 1) k (by omega) (by omega)
    omega
   ·have e1 := h.news k x hk hx hc hw
    have e2 := h.nexts (k + 1) k' (by omega) (by omega)
    omega
  simp only [Rho.with, if_neg hid]; exact g1
end
end
section
variable {P : Program} {ρ : Rho} {N : Nat} {e : Env} {a : Act} {m : Mem} {w : World} {C : FuncId → List Value → Mem → Option (Value × Mem)}
structure OInv (P : Program) (N : Nat) (D : List Deferred) (ops : Array Oper) (l : List (Nat × Nat × XOp)) (vs : List Value) (μ : Nat → Mem) (e : Env) (ρ : Rho) (m : Mem) (w : World) (listed : Array Bool) (a1 : Act) (w1 : World) : Prop where
 size : listed.size = ops.size
 closed : ∀ (i : Nat) o, listed.getD i false = true → ops[i]? = some o → ∀ x ∈ o.after.toList, Region.binds .any x = true → listed.getD x.on false = true
 slots : ∃ ρ1 g, PInv l vs μ e ρ m w (fun j => listed.getD j false) g ρ1 w1 ∧ stop l g ∧ a1.tmps.size = N ∧ a1.defers = D ∧
  (∀ s v, s ≠ slotD → (∀ (k : Nat) (x : Nat × Nat × XOp), l[k]? = some x → x.2.2.dst = some s → listed.getD x.1 false = false) → look e s = some v → ∃ v', a1.tmps[s]? = some v' ∧ VRel ρ1 v v') ∧
  (∀ (k : Nat) (x : Nat × Nat × XOp) v s, l[k]? = some x → vs[k]? = some v → x.2.2.dst = some s → listed.getD x.1 false = true → ∃ v', a1.tmps[s]? = some v' ∧ VRel ρ1 v v')
theorem order_any {D : List Deferred} (hC : CallSound P C) {ops : Array Oper} {l0 : List XOp} {l : List (Nat × Nat × XOp)} {vs : List Value} {μ : Nat → Mem} {Q : Exit → Act → World → Prop} (hxs : xopsP P N ops ops.toList = some l0) (ho : orderOk ops l0 = true)
  {ex ey : Nat} (hspec : OrdE l l0 (preList ops.toList []) ex ey) (hT : Trace P C l vs μ e []) (h0 : μ 0 = m)
  (hfit : N ≤ slotD) (hQ : ∀ a1 w1 ρ1, ERel P ρ1 N (envAt (lo l) vs e l.length) a1 → a1.defers = D → Step ρ m w ρ1 (μ l.length) w1 → Q .normal a1 w1)
  {I : Array Bool → Prop} (hIs : ∀ listed j, I listed → I (listed.setIfInBounds j true))
  (hY : ∀ (fuel : Nat) (U : List Nat) (listed : Array Bool) (a1 : Act) (w1 : World) (k : Nat) (x : Nat × Nat × XOp) (o : Oper) (ρ1 : Rho) (g : Nat), U.Nodup → U.length = fuel + 1 → (∀ i, i < ops.size → (i ∈ U ↔ listed.getD i false = false)) → (∀ i ∈ U, i < ops.size) → I listed →
   listed.size = ops.size → (∀ (i : Nat) o, listed.getD i false = true → ops[i]? = some o → ∀ x ∈ o.after.toList, Region.binds .any x = true → listed.getD x.on false = true) → ey < ops.size →
   l[k]? = some x → x.1 = ey → ops[ey]? = some o → xopP P N ops o = some x.2.2 → listed.getD ey false = false → listed.getD ex false = false → (∀ z ∈ o.after.toList, Region.binds .any z = true → listed.getD z.on false = true) → (∀ i, x.2.1.testBit i = true → listed.getD i false = true) →
   PInv l vs μ e ρ m w (fun j => listed.getD j false) g ρ1 w1 → stop l g → a1.tmps.size = N → a1.defers = D →
   (∀ s v, s ≠ slotD → (∀ (k : Nat) (x : Nat × Nat × XOp), l[k]? = some x → x.2.2.dst = some s → listed.getD x.1 false = false) → look e s = some v → ∃ v', a1.tmps[s]? = some v' ∧ VRel ρ1 v v') →
   (∀ (k : Nat) (x : Nat × Nat × XOp) v s, l[k]? = some x → vs[k]? = some v → x.2.2.dst = some s → listed.getD x.1 false = true → ∃ v', a1.tmps[s]? = some v' ∧ VRel ρ1 v v') →
   ERel P ρ1 N (restrict (envAt (lo l) vs e k) (readsOf x.2.2)) a1 →
   wpOp P ops Q ey (wpAny P .any ops Q fuel (listed.setIfInBounds ey true)) a1 w1) :
  ∀ (fuel : Nat) (U : List Nat) (listed : Array Bool) (a1 : Act) (w1 : World), U.Nodup → U.length = fuel → (∀ i, i < ops.size → (i ∈ U ↔ listed.getD i false = false)) → (∀ i ∈ U, i < ops.size) → I listed →
   OInv P N D ops l vs μ e ρ m w listed a1 w1 → wpAny P .any ops Q fuel listed a1 w1 := by
 obtain ⟨hedge, hord⟩ := orderOk_spec ho
 obtain ⟨hlen0, hget0⟩ := xopsP_get hxs
 have hlen' : l0.length = ops.size := by simpa using hlen0
 obtain ⟨hll, hat, hsur, hpair⟩ := hspec
 have hln : l.length = ops.size := by rw [hll, hlen']
 have hvlen : vs.length = ops.size := by rw [hT.len, hln]
 have hdis : ∀ (p q : Nat) (x y : Nat × Nat × XOp), p ≠ q → l[p]? = some x → l[q]? = some y → x.1 ≠ y.1 := by
  intro p q x y hpq hx hy
  rcases Nat.lt_or_gt_of_ne hpq with h | h
  ·exact (hpair p q x y h hx hy).1
  ·exact (hpair q p y x h hy hx).1.symm
 have hmask : ∀ (k : Nat) (x : Nat × Nat × XOp), l[k]? = some x → (preList ops.toList []).getD x.1 0 = x.2.1 := by
  intro k x hx
  have := (hat k x hx).2.2
  rw [List.getD_eq_getElem?_getD, this]; rfl
 
 have hslot : ∀ (p q : Nat) (x y : Nat × Nat × XOp) (s : Nat), p ≠ q → l[p]? = some x → l[q]? = some y → x.2.2.dst = some s → y.2.2.dst ≠ some s ∧ (s ∈ readsOf y.2.2 → if p < q then y.2.1.testBit x.1 = true else x.2.1.testBit y.1 = true) := by
  intro p q x y s hpq hx hy hd
  obtain ⟨g1, g2⟩ := hord x.1 y.1 x.2.2 y.2.2 s (hdis p q x y hpq hx hy) (hat p x hx).2.1 (hat q y hy).2.1 hd
  refine ⟨g1, fun hr => ?_⟩
  have g3 := g2 hr
  rw [hmask p x hx, hmask q y hy] at g3
  by_cases hlt : p < q
  ·rw [if_pos hlt]
   split at g3
   ·exact g3
   ·rw [(hpair p q x y hlt hx hy).2.1] at g3; cases g3
  ·rw [if_neg hlt]
   split at g3
   ·rw [(hpair q p y x (by omega) hy hx).2.1] at g3; cases g3
   ·exact g3
 
 have hbefore : ∀ (listed : Array Bool), (∀ (i : Nat) o, listed.getD i false = true → ops[i]? = some o → ∀ x ∈ o.after.toList, Region.binds .any x = true → listed.getD x.on false = true) →
   ∀ (j : Nat) (o : Oper), ops[j]? = some o → (∀ x ∈ o.after.toList, Region.binds .any x = true → listed.getD x.on false = true) → ∀ (k : Nat) (y : Nat × Nat × XOp), l[k]? = some y → y.1 = j → ∀ i, y.2.1.testBit i = true → listed.getD i false = true := by
  intro listed hcl j o hoj hje k y hy hyj i hi
  rw [← hmask k y hy, hyj] at hi
  exact pre_closed (D := fun i => listed.getD i false = true) hcl j j o (Nat.le_refl _) hoj hje i hi
 have hop : ∀ (k : Nat) (x : Nat × Nat × XOp), l[k]? = some x → ∃ o, ops[x.1]? = some o ∧ xopP P N ops o = some x.2.2 := by
  intro k x hx
  have hj := (hat k x hx).1
  have hoi : ops[x.1]? = some (ops[x.1]'(by omega)) := by rw [Array.getElem?_eq_getElem]
  obtain ⟨y, h1, h2⟩ := hget0 x.1 _ (by rw [Array.getElem?_toList]; exact hoi)
  rw [(hat k x hx).2.1] at h1
  cases h1
  exact ⟨_, hoi, h2⟩
 
 have hend : ∀ (listed : Array Bool) (a1 : Act) (w1 : World), (∀ i, i < ops.size → listed.getD i false = true) → OInv P N D ops l vs μ e ρ m w listed a1 w1 → Q .normal a1 w1 := by
  intro listed a1 w1 hall hI
  obtain ⟨ρ1, g, hP, hst, hN, hdef, h1, h2⟩ := hI.slots
  have hg : g = l.length := by
   rcases hst with h | ⟨x, hx, hc⟩
   ·exact h
   ·have := hP.undone g x (Nat.le_refl _) hx (by omega)
    have h3 := hall x.1 (by have := (hat g x hx).1; omega)
    rw [this] at h3; cases h3
  subst hg
  refine hQ a1 w1 ρ1 ⟨hN, hfit, ?_⟩ hdef hP.step
  intro s v hne hs
  by_cases hw : ∃ (k : Nat) (x : Nat × Nat × XOp), l[k]? = some x ∧ x.2.2.dst = some s
  ·obtain ⟨k, x, hk, hd⟩ := hw
   have hkl : k < l.length := (List.getElem?_eq_some_iff.1 hk).1
   have hvk : vs[k]? = some (vs[k]'(by omega)) := by rw [List.getElem?_eq_getElem]
   have := envAt_new (e := e) (lo_get hk) hvk hd (fun i' o' hne ho' => by
    obtain ⟨y, hy, rfl⟩ := lo_get' ho'
    exact (hslot k i' x y s (Ne.symm hne) hk hy hd).1) l.length hkl
   rw [this] at hs
   cases hs
   exact h2 k x _ s hk hvk hd (hall x.1 (by have := (hat k x hk).1; omega))
  ·have hno : ∀ (k : Nat) x, l[k]? = some x → x.2.2.dst ≠ some s := fun k x hk hd => hw ⟨k, x, hk, hd⟩
   rw [envAt_old l.length (fun i o _ hi => by obtain ⟨y, hy, rfl⟩ := lo_get' hi; exact hno i y hy)] at hs
   exact h1 s v hne (fun k x hk hd => absurd hd (hno k x hk)) hs
 
 have hready : ∀ (listed : Array Bool) (i : Nat), listed.size = ops.size → i ∈ Region.ready .any ops listed → ∃ o, ops[i]? = some o ∧ listed.getD i false = false ∧ ∀ x ∈ o.after.toList, Region.binds .any x = true → listed.getD x.on false = true := by
  intro listed i hsz hi
  simp only [Region.ready, List.mem_filter, List.mem_range, Bool.and_eq_true, Bool.not_eq_true'] at hi
  obtain ⟨hil, h1, h2⟩ := hi
  have hoi : ops[i]? = some ops[i] := by rw [Array.getElem?_eq_getElem]
  refine ⟨ops[i], hoi, ?_, ?_⟩
  ·have hil' : i < listed.size := by omega
   simpa [Array.getD, hil'] using h1
  ·rw [hoi] at h2
   simp only [Option.map_some, Option.getD_some] at h2
   rw [Array.all_eq_true_iff_forall_mem] at h2
   intro x hxm hb
   have := h2 x (by simpa using hxm)
   simpa [hb] using this
 have hnone : ∀ (listed : Array Bool), listed.size = ops.size → Region.ready .any ops listed = [] → ∀ i, i < ops.size → listed.getD i false = true := by
  intro listed hsz hr i
  induction i using Nat.strongRecOn with
  | _ i ih =>
   intro hi
   rcases Bool.eq_false_or_eq_true (listed.getD i false) with h | h
   ·exact h
   ·exfalso
    have : i ∈ Region.ready .any ops listed := by
     simp only [Region.ready, List.mem_filter, List.mem_range, Bool.and_eq_true, Bool.not_eq_true']
     have hil' : i < listed.size := by omega
     refine ⟨hi, by simpa [Array.getD, hil'] using h, ?_⟩
     have hoi : ops[i]? = some ops[i] := by rw [Array.getElem?_eq_getElem]
     rw [hoi]
     simp only [Option.map_some, Option.getD_some]
     rw [Array.all_eq_true_iff_forall_mem]
     intro x hxm
     by_cases hb : Region.binds .any x = true
     ·have hlt := hedge i _ hoi x (by simpa using hxm) hb
      rw [ih x.on hlt (by omega)]; simp
     ·simp [hb]
    rw [hr] at this
    simp at this
 intro fuel
 induction fuel with
 | zero =>
  intro U listed a1 w1 hnd hUl hU hUb hII hI
  have hU0 : U = [] := List.eq_nil_of_length_eq_zero hUl
  subst hU0
  have hall : ∀ i, i < ops.size → listed.getD i false = true := by
   intro i hi
   rcases Bool.eq_false_or_eq_true (listed.getD i false) with h | h
   ·exact h
   ·have := (hU i hi).2 h; simp at this
  refine ⟨?_, hend listed a1 w1 hall hI⟩
  cases hr : Region.ready .any ops listed with
  | nil => rfl
  | cons i r =>
   exfalso
   obtain ⟨o, ho', hf, _⟩ := hready listed i hI.size (by rw [hr]; simp)
   have := hall i (Array.getElem?_eq_some_iff.1 ho').1
   rw [this] at hf; cases hf
 | succ fuel ih =>
  intro U listed a1 w1 hnd hUl hU hUb hII hI
  refine ⟨fun hr => hend listed a1 w1 (hnone listed hI.size hr) hI, ?_⟩
  intro j hj
  obtain ⟨o, hoj, hjf, hje⟩ := hready listed j hI.size hj
  have hjs : j < ops.size := (Array.getElem?_eq_some_iff.1 hoj).1
  obtain ⟨k, x, hxk, hxj⟩ := hsur j (by omega)
  obtain ⟨o', ho', hxo⟩ := hop k x hxk
  rw [hxj, hoj] at ho'
  cases ho'
  obtain ⟨gd, hg, hd, hopP, hdst, hgx⟩ := xopP_spec hxo
  obtain ⟨ρ1, g, hP, hst, hN, hdef, h1, h2⟩ := hI.slots
  have hkl : k < l.length := (List.getElem?_eq_some_iff.1 hxk).1
  have hvk : vs[k]? = some (vs[k]'(by omega)) := by rw [List.getElem?_eq_getElem]
  generalize hvkk : vs[k]'(by omega) = vk at hvk
  
  have hbj : ∀ i, x.2.1.testBit i = true → listed.getD i false = true := hbefore listed hI.closed j o hoj hje k x hxk hxj
  
  have haj : ∀ (q : Nat) (y : Nat × Nat × XOp), l[q]? = some y → y.2.1.testBit j = true → listed.getD y.1 false = false := by
   intro q y hy hb
   rcases Bool.eq_false_or_eq_true (listed.getD y.1 false) with h | h
   ·exfalso
    obtain ⟨oy, hoy, _⟩ := hop q y hy
    have := hbefore listed hI.closed y.1 oy hoy (fun z hz hb => hI.closed y.1 oy h hoy z hz hb) q y hy rfl j hb
    rw [hjf] at this; cases this
   ·exact h
  
  have hread : ∀ s ∈ readsOf x.2.2, s ≠ slotD → ∀ v, look (envAt (lo l) vs e k) s = some v → ∃ v', a1.tmps[s]? = some v' ∧ VRel ρ1 v v' := by
   intro s hsr hne v hv
   by_cases hw : ∃ (i : Nat) (y : Nat × Nat × XOp), i ≠ k ∧ l[i]? = some y ∧ y.2.2.dst = some s
   ·obtain ⟨i, y, hik, hi, hd'⟩ := hw
    have hothers : ∀ (i' : Nat) (o'' : XOp), i' ≠ i → (lo l)[i']? = some o'' → o''.dst ≠ some s := by
     intro i' o'' hne ho''
     obtain ⟨z, hz, rfl⟩ := lo_get' ho''
     exact (hslot i i' y z s (Ne.symm hne) hi hz hd').1
    have hpre := (hslot i k y x s hik hi hxk hd').2 hsr
    by_cases hlt : i < k
    ·rw [if_pos hlt] at hpre
     have hdone := hbj _ hpre
     have hvi : vs[i]? = some (vs[i]'(by have := (List.getElem?_eq_some_iff.1 hi).1; omega)) := by rw [List.getElem?_eq_getElem]
     rw [envAt_new (lo_get hi) hvi hd' hothers k hlt] at hv
     cases hv
     exact h2 i y _ s hi hvi hd' hdone
    ·rw [if_neg hlt] at hpre
     rw [hxj] at hpre
     have hnot := haj i y hi hpre
     rw [envAt_old k (fun i' o'' hi' ho'' => by
      by_cases hii : i' = i
      ·omega
      ·exact hothers i' o'' hii ho'')] at hv
     refine h1 s v hne (fun i' z hi' hd'' => ?_) hv
     by_cases hii : i' = i
     ·subst hii
      rw [hi] at hi'
      cases hi'
      exact hnot
     ·exact absurd hd'' (hothers i' _ hii (lo_get hi'))
   ·have hno : ∀ (i : Nat) (y : Nat × Nat × XOp), i ≠ k → l[i]? = some y → y.2.2.dst ≠ some s := fun i y hik hi hd' => hw ⟨i, y, hik, hi, hd'⟩
    rw [envAt_old k (fun i o' hik hi => by obtain ⟨z, hz, rfl⟩ := lo_get' hi; exact hno i z (by omega) hz)] at hv
    refine h1 s v hne (fun i z hi hd' => ?_) hv
    by_cases hik : i = k
    ·subst hik
     rw [hxk] at hi
     cases hi
     rw [hxj]; exact hjf
    ·exact absurd hd' (hno i z hik hi)
  have hEr : ERel P ρ1 N (restrict (envAt (lo l) vs e k) (readsOf x.2.2)) a1 := by
   refine ⟨hN, hfit, fun s v hne hs => ?_⟩
   by_cases hm : s ∈ readsOf x.2.2
   ·rw [look_restrict_mem hm] at hs
    exact hread s hm hne v hs
   ·exfalso
    have hno : ∀ (L : List Nat), s ∉ L → look (restrict (envAt (lo l) vs e k) L) s = none := by
     intro L
     induction L with
     | nil => intro _; rfl
     | cons q L ihL =>
      intro hm'
      simp only [List.mem_cons, not_or] at hm'
      simp only [restrict]
      cases hk : look (envAt (lo l) vs e k) q with
      | none => exact ihL hm'.2
      | some u => simp only [look]; rw [if_neg (fun h => hm'.1 h.symm)]; exact ihL hm'.2
    rw [hno _ hm] at hs; cases hs
  by_cases hcase : j = ey ∧ listed.getD ex false = false
  ·obtain ⟨rfl, hex⟩ := hcase
   exact hY fuel U listed a1 w1 k x o ρ1 g hnd hUl hU hUb hII hI.size hI.closed hjs hxk hxj hoj hxo hjf hex hje hbj hP hst hN hdef h1 h2 hEr
  
  have hkg : cls x.2.2.i ≠ 0 → k ≤ g := by
   intro hc
   rcases Nat.lt_or_ge g k with hlt | hge
   ·exfalso
    rcases hst with hgl | ⟨y, hy, hcy⟩
    ·omega
    ·have hf := hP.undone g y (Nat.le_refl _) hy (by omega)
     rcases (hpair g k y x hlt hy hxk).2.2 hcy hc with hb | ⟨hb1, hb2⟩
     ·have ht := hbj _ hb
      rw [ht] at hf; cases hf
     ·rw [hb1] at hf
      exact hcase ⟨by rw [← hxj]; exact hb2, hf⟩
   ·exact hge
  have hkg3 : cls x.2.2.i = 3 → k = g := by
   intro hc
   rcases Nat.lt_or_ge k g with hlt | hge
   ·have := hP.done k x hlt hxk hc
    rw [hxj, hjf] at this; cases this
   ·have := hkg (by omega); omega
  have hkgl : cls x.2.2.i ≠ 0 → cls x.2.2.i ≠ 3 → k < g := by
   intro hc hc3
   have h := hkg hc
   rcases Nat.lt_or_ge k g with hlt | hge
   ·exact hlt
   ·have : k = g := by omega
    subst this
    rcases hst with hgl | ⟨y, hy, hcy⟩
    ·omega
    ·rw [hxk] at hy; cases hy; exact absurd hcy hc3
  have hwant : wantedX (restrict (envAt (lo l) vs e k) (readsOf x.2.2)) x.2.2.guard = wantedX (envAt (lo l) vs e k) x.2.2.guard := by
   cases hgg : x.2.2.guard with
   | none => rfl
   | some p =>
    obtain ⟨s, b⟩ := p
    simp only [wantedX]
    rw [look_restrict_mem (by simp [readsOf, hgg])]
  have huse : ∀ s ∈ uses x.2.2.i, look (restrict (envAt (lo l) vs e k) (readsOf x.2.2)) s = look (envAt (lo l) vs e k) s :=
   fun s hs => look_restrict_mem (by simp only [readsOf, List.mem_append]; exact .inr hs)
  have hxi : ∀ m', xi P (restrict (envAt (lo l) vs e k) (readsOf x.2.2)) m' x.2.2.i = xi P (envAt (lo l) vs e k) m' x.2.2.i := fun m' => xi_uses huse
  have hset : ∀ i, (listed.setIfInBounds j true).getD i false = if i = x.1 then true else listed.getD i false := by
   intro i
   rw [hxj]
   by_cases hij : i = j
   ·subst hij
    have hil' : i < listed.size := by rw [hI.size]; exact hjs
    simp [hil']
   ·rw [if_neg hij]
    simp only [Array.getD_eq_getD_getElem?, Array.getElem?_setIfInBounds_ne (fun h => hij h.symm)]
  
  have hnext : ∀ (ρ2 : Rho) (w2 : World) (v' : Value) (p : Nat), PInv l vs μ e ρ m w (fun i => (listed.setIfInBounds j true).getD i false) p ρ2 w2 → Ext ρ1 ρ2 → VRel ρ2 vk v' →
    wpAny P .any ops Q fuel (listed.setIfInBounds j true) (a1.put o.dst v') w2 := by
   intro ρ2 w2 v' p hP2 hx2 hv'
   obtain ⟨g2, hP3, hst2⟩ := hP2.adv hT (l.length - p) p (by have := hP2.le; omega)
   refine ih (U.erase j) _ _ _ (hnd.erase j) ?_ ?_ ?_ (hIs _ _ hII) ⟨by simp [hI.size], ?_, ⟨ρ2, g2, hP3, hst2, ?_, ?_, ?_, ?_⟩⟩
   ·have hjU : j ∈ U := (hU j hjs).2 hjf
    rw [List.length_erase_of_mem hjU, hUl]; rfl
   ·intro i hi
    rw [hnd.mem_erase_iff, hset, hxj]
    by_cases hij : i = j
    ·subst hij; simp
    ·rw [if_neg hij, ← hU i hi]; simp [hij]
   ·intro i hi
    exact hUb i (List.mem_of_mem_erase hi)
   ·intro i oi hi hoi y hy hb
    rw [hset, hxj] at hi ⊢
    by_cases hij : i = j
    ·subst hij
     rw [hoj] at hoi
     cases hoi
     split
     ·rfl
     ·exact hje y hy hb
    ·rw [if_neg hij] at hi
     split
     ·rfl
     ·exact hI.closed i oi hi hoi y hy hb
   ·cases o.dst <;> simp [Act.put, hN]
   ·cases o.dst <;> exact hdef
   ·intro s v hne hno hs
    have hnj : o.dst ≠ some s := by
     intro hds
     have := hno k x hxk (by rw [hdst]; exact hds)
     rw [hset, if_pos rfl] at this; cases this
    obtain ⟨u, k1, k2⟩ := h1 s v hne (fun i oi hi hdi => by
     have := hno i oi hi hdi
     rw [hset] at this
     by_cases hij : oi.1 = x.1
     ·rw [if_pos hij] at this; cases this
     ·rw [if_neg hij] at this; exact this) hs
    refine ⟨u, ?_, k2.mono hx2⟩
    cases hds : o.dst with
    | none => simpa [Act.put] using k1
    | some d =>
     have : d ≠ s := fun h => hnj (by rw [hds, h])
     simp only [Act.put]
     rw [Array.getElem?_setIfInBounds_ne this]; exact k1
   ·intro i oi v s hi hvi hdi hli
    rw [hset] at hli
    by_cases hij : i = k
    ·subst hij
     rw [hxk] at hi
     cases hi
     rw [hvk] at hvi
     cases hvi
     rw [hdst] at hdi
     refine ⟨v', ?_, hv'⟩
     simp only [hdi, Act.put]
     rw [Array.getElem?_setIfInBounds_self_of_lt (by rw [hN]; exact hd s hdi)]
    ·rw [if_neg (hdis i k oi x hij hi hxk)] at hli
     obtain ⟨u, k1, k2⟩ := h2 i oi v s hi hvi hdi hli
     refine ⟨u, ?_, k2.mono hx2⟩
     cases hds : o.dst with
     | none => simpa [Act.put] using k1
     | some d =>
      have : d ≠ s := by
       intro h
       exact (hslot i k oi x s hij hi hxk hdi).1 (by rw [hdst, hds, h])
      simp only [Act.put]
      rw [Array.getElem?_setIfInBounds_ne this]; exact k1
  
  unfold wpOp
  rw [hoj]
  simp only
  rcases hT.ops k x vk hxk hvk with ⟨hw1, hv1, hm1⟩ | ⟨hw1, r, hxr, hout, hr2⟩
  ·have hwf := wanted_rel (o := o) hg (by rw [← hgx]; exact hwant.trans hw1) hEr
   rw [if_neg (by rw [hwf]; simp)]
   by_cases hc3 : cls x.2.2.i = 3
   ·obtain rfl := hkg3 hc3
    exact hnext ρ1 w1 undef (k + 1) (hP.eff hdis hxk hc3 hset (by rw [hm1]; exact .refl hP.step.rel)) (.refl _) (by rw [hv1]; exact .refl rfl)
   ·exact hnext ρ1 w1 undef g (hP.move hdis hxk (fun hc => hkgl hc hc3) hset (.refl hP.step.rel)) (.refl _) (by rw [hv1]; exact .refl rfl)
  ·have hwt := wanted_rel (o := o) hg (by rw [← hgx]; exact hwant.trans hw1) hEr
   rw [if_pos hwt]
   left
   unfold Oper.wp
   have h4 : cls x.2.2.i < 4 := by cases x.2.2.i <;> simp [cls, quiet]
   by_cases hc3 : cls x.2.2.i = 3
   ·obtain rfl := hkg3 hc3
    have hgood := op_sound hopP ((hxi (μ k)).trans hxr) hEr hP.step.rel
    cases r with
    | val v m1 =>
     simp only [outOf, Option.some.injEq, Prod.mk.injEq] at hout
     obtain ⟨rfl, rfl⟩ := hout
     obtain ⟨ρ2, v', w2, k1, k2, k3⟩ := hgood
     rw [k1]
     exact hnext ρ2 w2 v' (k + 1) (hP.eff hdis hxk hc3 hset k3) k3.ext k2
    | skip m1 =>
     simp only [outOf, Option.some.injEq, Prod.mk.injEq] at hout
     obtain ⟨rfl, rfl⟩ := hout
     obtain ⟨ρ2, w2, k1, k3⟩ := hgood
     rw [k1]
     exact hnext ρ2 w2 undef (k + 1) (hP.eff hdis hxk hc3 hset k3) k3.ext (.refl rfl)
    | call f args =>
     simp only [outOf] at hout
     obtain ⟨args', k1, k2⟩ := hgood
     rw [k1]
     rcases hC f args (μ k) vk (μ (k + 1)) hout ρ1 w1 args' hP.step.rel k2 with ⟨ρ2, v', w2, q1, q2, q3⟩ | ⟨q1, q2⟩
     ·rw [q1]
      exact hnext ρ2 w2 v' (k + 1) (hP.eff hdis hxk hc3 hset q3) q3.ext q2
     ·rw [q1]
      refine Calls.mono q2 ?_
      rintro en w2 ⟨ρ2, v', rfl, z1, z2⟩
      exact hnext ρ2 w2 v' (k + 1) (hP.eff hdis hxk hc3 hset z2) z2.ext z1
   ·by_cases hc2 : cls x.2.2.i = 2
    ·have hlt := hkgl (by omega) hc3
     obtain ⟨hn, cells, len, hob, hxn, hval⟩ := hP.late k x vk hlt hxk hvk hc2 hw1 (by rw [hxj]; exact hjf)
     obtain ⟨row, t, k1, k2⟩ := op_new hopP hc2 ((xnew_uses hc2 huse).trans hxn) hEr w1
     rw [k1]
     have hP2 := hP.late' h0 hdis hxk hlt hc2 hw1 hset (t := t) hn hob k2
     refine hnext _ _ _ g hP2 (Rho.with_ext _ hn) ?_
     rw [hval]
     cases len with
     | none => exact .cell (.ptr (a := ⟨(μ k).next, 0, none⟩) (c := ⟨w1.heap.size, 0, row.size, 0⟩) rfl (by simp [Rho.with]))
     | some n => exact .cell (.slice (a := ⟨(μ k).next, 0, none⟩) (c := ⟨w1.heap.size, 0, row.size, 0⟩) rfl (by simp [Rho.with]) (Nat.le_refl _))
    ·
     have hnow : ∃ m', xi P (envAt (lo l) vs e k) (μ g) x.2.2.i = some (.val vk m') := by
      obtain ⟨u, rfl⟩ := quiet_spec (cls_quiet (by omega)) hxr
      simp only [outOf, Option.some.injEq, Prod.mk.injEq] at hout
      obtain ⟨rfl, _⟩ := hout
      by_cases hc0 : cls x.2.2.i = 0
      ·exact ⟨_, xi_pure hc0 hxr (μ g)⟩
      ·have hlt := hkgl hc0 hc3
       refine hT.again k x u g hxk hvk (by omega) hw1 hlt hst ?_
       intro y z hky hyg hz hcz
       rcases Bool.eq_false_or_eq_true (z.2.1.testBit x.1) with hb | hb
       ·exfalso
        rw [hxj] at hb
        have := haj y z hz hb
        have hd2 := hP.done y z hyg hz hcz
        rw [this] at hd2; cases hd2
       ·exact hb
     obtain ⟨m', hnow⟩ := hnow
     obtain ⟨u, hu⟩ := quiet_spec (cls_quiet (by omega)) hnow
     cases hu
     obtain ⟨ρ2, v', w2, k1, k2, k3⟩ := op_sound hopP ((hxi (μ g)).trans hnow) hEr hP.step.rel
     rw [k1]
     exact hnext ρ2 w2 v' g (hP.move hdis hxk (fun hc => hkgl hc hc3) hset k3) k3.ext k2
theorem drawn_dst {ops : Array Oper} {l0 : List XOp} {l : List (Nat × Nat × XOp)} (hx : xopsP P N ops ops.toList = some l0) (hok : okD l = true) (hs : sortD l = tagD 0 l0 (preList ops.toList [])) :
  ∀ o ∈ l, ∀ d, o.2.2.dst = some d → d < N := by
 obtain ⟨hlen0, _⟩ := xopsP_get hx
 have hlen' : l0.length = ops.size := by simpa using hlen0
 have hpslen : (preList ops.toList []).length = l0.length := by
  obtain ⟨rest, h1, h2, _⟩ := preList_spec ops.toList []
  rw [h1, hlen']; simpa using h2
 obtain ⟨_, hat, _, _⟩ := okD_spec 0 0 hok hs hpslen
 intro o ho d hd
 obtain ⟨k, hk⟩ := List.mem_iff_getElem?.1 ho
 exact xopsP_dst hx o.2.2 (List.mem_of_getElem? (hat k o hk).2.1) d hd
theorem drawn_wp (hC : CallSound P C) {ops : Array Oper} {id : Nat} {l0 : List XOp} {l : List (Nat × Nat × XOp)} {e' : Env} {m' : Mem} {keep : Option (List Nat)} (hmix : P.follows .mixedOrders = true)
  (hx : xopsP P N ops ops.toList = some l0) (ho : orderOk ops l0 = true) (hok : okD l = true) (hs : sortD l = tagD 0 l0 (preList ops.toList [])) (hr : xopsD P C l [] e m = some (e', m')) (hE : ERel P ρ N e a) (hR : Rel ρ m w) :
  (Code.region id ops true).wp P (fun ex a' w' => ex = .normal ∧ ∃ ρ', ERel P ρ' N (keepOf keep e') a' ∧ a'.defers = a.defers ∧ Step ρ m w ρ' m' w') a w := by
 obtain ⟨vs, μ, hT, h0, h1, rfl⟩ := xopsD_trace l [] e m e' m' hr
 subst h1
 have hno : ∀ i, (Array.replicate ops.size false).getD i false = false := by
  intro i
  simp only [Array.getD_eq_getD_getElem?, Array.getElem?_replicate]
  split <;> rfl
 have hP0 : PInv l vs μ e ρ m w (fun j => (Array.replicate ops.size false).getD j false) 0 ρ w.drew := by
  refine ⟨Nat.zero_le _, fun k x h => by omega, fun k x _ _ _ => hno _, by rw [h0]; exact Step.drew hR, ?_, fun k x h => by omega, fun k x v h => by omega⟩
  intro a b h1 h2
  have : a = b := by omega
  subst this; exact Nat.le_refl _
 obtain ⟨g, hPg, hst⟩ := hP0.adv hT l.length 0 (by omega)
 refine wp_region_any hmix ?_
 have hlen0 : l0.length = ops.size := by have := (xopsP_get hx).1; simpa using this
 have hpslen : (preList ops.toList []).length = l0.length := by
  obtain ⟨rest, h1, h2, _⟩ := preList_spec ops.toList []
  rw [h1, hlen0]; simpa using h2
 refine order_any (D := a.defers) (Q := fun ex a' w' => ex = .normal ∧ ∃ ρ', ERel P ρ' N (keepOf keep (envAt (lo l) vs e l.length)) a' ∧ a'.defers = a.defers ∧ Step ρ m w ρ' (μ l.length) w') hC hx ho (okD_spec l0.length l0.length hok hs hpslen) hT h0 hE.fit (fun a1 w1 ρ1 h1 h3 h2 => ⟨rfl, ρ1, h1.keep, h3, h2⟩)
  (I := fun _ => True) (fun _ _ _ => trivial) (fun _ _ _ _ _ k x _ _ _ _ _ _ _ _ _ _ hey hxk hx1 _ _ _ _ _ _ _ _ _ _ _ _ _ => by omega)
  ops.size (List.range ops.size) _ a _ List.nodup_range (by simp) ?_ (by simp) trivial ⟨by simp, ?_, ⟨ρ, g, hPg, hst, hE.size, rfl, ?_, ?_⟩⟩
 ·intro i hi; simp [hi]
 ·intro i o hi
  rw [hno] at hi; cases hi
 ·intro s v hne _ hs; exact hE.slot s v hne hs
 ·intro i o v s _ _ _ hi
  rw [hno] at hi; cases hi
end
section
variable {P : Program} {ρ : Rho} {N : Nat} {e : Env} {a : Act} {m : Mem} {w : World} {C : FuncId → List Value → Mem → Option (Value × Mem)}
theorem Rel.same {m' : Mem} (h : Rel ρ m w) (hg : ∀ i, m'.get i = m.get i) (hn : m'.next = m.next) : Rel ρ m' w :=
 ⟨fun i o c h1 h2 => h.obj i o c (by rw [← hg]; exact h1) h2, fun i j oi oj ci cj hij h1 h2 h3 h4 h5 h6 => h.excl i j oi oj ci cj hij (by rw [← hg]; exact h1) (by rw [← hg]; exact h2) h3 h4 h5 h6,
  fun i hi => h.fresh i (by rw [← hn]; exact hi), fun i o ho => by rw [hn]; exact h.alive i o (by rw [← hg]; exact ho)⟩
theorem Step.same_mem {ρ' : Rho} {m1 m2 : Mem} {w' : World} (h : Step ρ m w ρ' m1 w') (hg : ∀ i, m2.get i = m1.get i) (hn : m2.next = m1.next) : Step ρ m w ρ' m2 w' :=
 ⟨h.ext, h.rel.same hg hn, h.fr, ⟨fun i o c h1 h2 h3 => h.own.own i o c (by rw [← hg]; exact h1) h2 h3⟩, by rw [hn]; exact h.next, fun i hi hn' => by rw [hg]; exact h.same i hi hn', h.none_⟩
theorem storeB_spec {o : XOp} (h : storeB o = true) : o.guard = none ∧ o.dst = none ∧ ∃ s ax vx, o.i = .store s ax vx := by
 unfold storeB at h
 simp only [Bool.and_eq_true, Option.isNone_iff_eq_none] at h
 obtain ⟨⟨h1, h2⟩, h3⟩ := h
 refine ⟨h1, h2, ?_⟩
 split at h3
 ·rename_i s ax vx hi; exact ⟨s, ax, vx, hi⟩
 ·cases h3
theorem store_inv {E : Env} {M : Mem} {s : Nat} {ax vx : Arg} {r : XR} (h : xi P E M (.store s ax vx) = some r) : ∃ p u M', ax.ev E = some (.pointer (some p)) ∧ vx.ev E = some u ∧ r = .skip M' ∧
  (∀ K, xi P E K (.store s ax vx) = if s = 0 then some (.skip K) else (xstore K p u.cells.toList).bind fun K' => some (.skip K')) ∧ (if s = 0 then M' = M else xstore M p u.cells.toList = some M') := by
 simp only [xi] at h
 obtain ⟨va, h1, h⟩ := bind_some' h
 obtain ⟨u, h2, h⟩ := bind_some' h
 cases va with
 | pointer q =>
  cases q with
  | none => cases h
  | some p =>
   simp only at h
   obtain ⟨hc, h⟩ := ite_some' h
   have hgen : ∀ K, xi P E K (.store s ax vx) = if s = 0 then some (.skip K) else (xstore K p u.cells.toList).bind fun K' => some (.skip K') := fun K => by
    simp only [xi, h1, h2, Option.bind_some, if_pos hc]
   by_cases h0 : s = 0
   ·rw [if_pos h0] at h
    cases h
    exact ⟨p, u, M, h1, h2, rfl, hgen, by rw [if_pos h0]⟩
   ·rw [if_neg h0] at h
    obtain ⟨M', h3, h⟩ := bind_some' h
    cases h
    exact ⟨p, u, M', h1, h2, rfl, hgen, by rw [if_neg h0]; exact h3⟩
 | _ => cases h
theorem xstore_inv {M M' : Mem} {p : Addr} {vs : List Value} (h : xstore M p vs = some M') : p.spot = none ∧ ∃ o, M.get p.block = some o ∧ o.rw = true ∧ p.off + vs.length ≤ o.cells.length ∧ M' = (M.eraseAll o.kin).set p.block { o with cells := setAll o.cells p.off vs, kin := [] } := by
 unfold xstore at h
 split at h
 ·cases h
 rename_i hs
 split at h
 ·cases h
 rename_i o ho
 obtain ⟨⟨h1, h2⟩, h⟩ := ite_some' h
 cases h
 exact ⟨hs, o, ho, h1, h2, rfl⟩
theorem xstore_get {M M' : Mem} {p : Addr} {vs : List Value} {o : XObj} (ho : M.get p.block = some o) (h : M' = (M.eraseAll o.kin).set p.block { o with cells := setAll o.cells p.off vs, kin := [] }) (i : Nat) :
  M'.get i = if p.block = i then some { o with cells := setAll o.cells p.off vs, kin := [] } else if i ∈ o.kin then none else M.get i := by
 rw [h, Mem.get_set, Mem.get_eraseAll]
theorem store_comm {M M1 M2 M1' M2' : Mem} {p q : Addr} {vs us : List Value} (hne : p.block ≠ q.block) (h1 : xstore M p vs = some M1) (h2 : xstore M1 q us = some M2) (h3 : xstore M q us = some M1') (h4 : xstore M1' p vs = some M2') :
  (∀ i, M2.get i = M2'.get i) ∧ M2.next = M2'.next := by
 obtain ⟨_, o, ho, _, _, e1⟩ := xstore_inv h1
 obtain ⟨_, o2, ho2, _, _, e2⟩ := xstore_inv h2
 obtain ⟨_, u, hu, _, _, e3⟩ := xstore_inv h3
 obtain ⟨_, u2, hu2, _, _, e4⟩ := xstore_inv h4
 have g1 := xstore_get ho e1
 have g2 := xstore_get ho2 e2
 have g3 := xstore_get hu e3
 have g4 := xstore_get hu2 e4
 have a1 : o2 = u ∧ q.block ∉ o.kin := by
  rw [g1 q.block, if_neg hne] at ho2
  split at ho2
  ·cases ho2
  ·rename_i hk
   rw [hu] at ho2
   cases ho2
   exact ⟨rfl, hk⟩
 have a2 : u2 = o ∧ p.block ∉ u.kin := by
  rw [g3 p.block, if_neg (Ne.symm hne)] at hu2
  split at hu2
  ·cases hu2
  ·rename_i hk
   rw [ho] at hu2
   cases hu2
   exact ⟨rfl, hk⟩
 obtain ⟨rfl, k1⟩ := a1
 obtain ⟨rfl, k2⟩ := a2
 constructor
 ·intro i
  rw [g2 i, g1 i, g4 i, g3 i]
  by_cases b1 : q.block = i
  ·subst b1
   rw [if_pos rfl, if_neg hne, if_neg k1, if_pos rfl]
  ·rw [if_neg b1]
   by_cases b2 : p.block = i
   ·subst b2
    rw [if_neg k2, if_pos rfl, if_pos rfl]
   ·rw [if_neg b2, if_neg b2, if_neg b1]
    by_cases c1 : i ∈ o2.kin <;> by_cases c2 : i ∈ u2.kin <;> simp [c1, c2]
 ·rw [e2, e1, e4, e3]; simp
theorem trace_agree {A B B' : List (Nat × Nat × XOp)} {vs vs2 : List Value} {μ μ2 : Nat → Mem} (hT : Trace P C (A ++ B) vs μ e []) (hT2 : Trace P C (A ++ B') vs2 μ2 e []) (h0 : μ 0 = μ2 0) :
  ∀ k, k ≤ A.length → μ k = μ2 k ∧ envAt (lo (A ++ B)) vs e k = envAt (lo (A ++ B')) vs2 e k ∧ ∀ i, i < k → vs[i]? = vs2[i]?
 | 0, _ => ⟨h0, rfl, fun i hi => by omega⟩
 | k + 1, hk => by
  obtain ⟨i1, i2, i3⟩ := trace_agree hT hT2 h0 k (by omega)
  have hlt : k < A.length := by omega
  obtain ⟨z, hz⟩ : ∃ z, A[k]? = some z := ⟨_, List.getElem?_eq_getElem hlt⟩
  have z1 : (A ++ B)[k]? = some z := by rw [List.getElem?_append_left hlt]; exact hz
  have z2 : (A ++ B')[k]? = some z := by rw [List.getElem?_append_left hlt]; exact hz
  obtain ⟨v, hv⟩ : ∃ v, vs[k]? = some v := ⟨_, List.getElem?_eq_getElem (by rw [hT.len]; simp; omega)⟩
  obtain ⟨v2, hv2⟩ : ∃ v, vs2[k]? = some v := ⟨_, List.getElem?_eq_getElem (by rw [hT2.len]; simp; omega)⟩
  have key : v = v2 ∧ μ (k + 1) = μ2 (k + 1) := by
   have g1 := hT.ops k z v z1 hv
   have g2 := hT2.ops k z v2 z2 hv2
   rw [← i2, ← i1] at g2
   rcases g1 with ⟨a1, a2, a3⟩ | ⟨a1, r, a2, a3, _⟩
   ·rcases g2 with ⟨b1, b2, b3⟩ | ⟨b1, _⟩
    ·exact ⟨by rw [a2, b2], by rw [a3, b3]⟩
    ·rw [a1] at b1; cases b1
   ·rcases g2 with ⟨b1, _⟩ | ⟨b1, r2, b2, b3, _⟩
    ·rw [a1] at b1; cases b1
    ·rw [a2] at b2
     cases b2
     rw [a3] at b3
     simp only [Option.some.injEq, Prod.mk.injEq] at b3
     exact b3
  refine ⟨key.2, ?_, fun i hi => ?_⟩
  ·simp only [envAt, lo_get z1, lo_get z2, hv, hv2]
   rw [i2, key.1]
  ·rcases Nat.lt_or_ge i k with h | h
   ·exact i3 i h
   ·obtain rfl : i = k := by omega
    rw [hv, hv2, key.1]
theorem drawnC_wp (hC : CallSound P C) {ops : Array Oper} {id : Nat} {l0 : List XOp} {l : List (Nat × Nat × XOp)} {e' : Env} {m' : Mem} {keep : Option (List Nat)} (hmix : P.follows .mixedOrders = true)
  (hx : xopsP P N ops ops.toList = some l0) (ho : orderOk ops l0 = true) (hok : okC l = true) (hs : sortD l = tagD 0 l0 (preList ops.toList [])) (hr : xopsD P C l [] e m = some (e', m')) (hr2 : (xopsD P C (swapL l) [] e m).isSome = true)
  (hap : apartC e' l = true) (hE : ERel P ρ N e a) (hR : Rel ρ m w) :
  (Code.region id ops true).wp P (fun ex a' w' => ex = .normal ∧ ∃ ρ', ERel P ρ' N (keepOf keep e') a' ∧ a'.defers = a.defers ∧ Step ρ m w ρ' m' w') a w := by
 have hlen0 : l0.length = ops.size := by have := (xopsP_get hx).1; simpa using this
 have hpslen : (preList ops.toList []).length = l0.length := by
  obtain ⟨rest, h1, h2, _⟩ := preList_spec ops.toList []
  rw [h1, hlen0]; simpa using h2
 obtain ⟨x, y, hl, sx, sy, hne, hO1, hO2⟩ := okC_spec hok hs hpslen
 obtain ⟨q1, q2⟩ := lastL_spec hl
 obtain ⟨⟨e2, m2⟩, hr2⟩ := Option.isSome_iff_exists.1 hr2
 unfold apartC at hap
 rw [hl] at hap
 simp only at hap
 generalize hA : cutL l = A at q1 q2
 rw [q2] at hr2 hO2
 rw [q1] at hr hO1
 obtain ⟨vs, μ, hT, h0, h1, rfl⟩ := xopsD_trace (A ++ [x, y]) [] e m e' m' hr
 obtain ⟨vs2, μ2, hT2, h02, h12, he2⟩ := xopsD_trace (A ++ [y, x]) [] e m e2 m2 hr2
 subst h1
 clear hr hr2 hl hA q1 q2 hok hs
 have hagree := trace_agree hT hT2 (h0.trans h02.symm)
 obtain ⟨n, hn⟩ : ∃ n, A.length = n := ⟨_, rfl⟩
 have hln : (A ++ [x, y]).length = n + 2 := by simp [hn]
 have hln2 : (A ++ [y, x]).length = n + 2 := by simp [hn]
 rw [hn] at hagree
 rw [hln] at hap ⊢
 obtain ⟨gx, dx, sx1, ax, vx, ix⟩ := storeB_spec sx
 obtain ⟨gy, dy, sy1, ay, vy, iy⟩ := storeB_spec sy
 have cx : cls x.2.2.i = 3 := by rw [ix]; rfl
 have cy : cls y.2.2.i = 3 := by rw [iy]; rfl
 
 have px : (A ++ [x, y])[n]? = some x := by rw [← hn]; simp
 have py : (A ++ [x, y])[n + 1]? = some y := by rw [← hn]; simp
 have py2 : (A ++ [y, x])[n]? = some y := by rw [← hn]; simp
 have px2 : (A ++ [y, x])[n + 1]? = some x := by rw [← hn]; simp
 have pA : ∀ (k : Nat) (z : Nat × Nat × XOp), k < n → ((A ++ [x, y])[k]? = some z ↔ (A ++ [y, x])[k]? = some z) := fun k z hk => by
  rw [List.getElem?_append_left (by omega), List.getElem?_append_left (by omega)]
 have vlen : vs.length = n + 2 := by rw [hT.len, hln]
 have vlen2 : vs2.length = n + 2 := by rw [hT2.len, hln2]
 obtain ⟨ux, hux⟩ : ∃ u, vs[n]? = some u := ⟨_, List.getElem?_eq_getElem (by omega)⟩
 obtain ⟨uy, huy⟩ : ∃ u, vs[n + 1]? = some u := ⟨_, List.getElem?_eq_getElem (by omega)⟩
 obtain ⟨ty, hty⟩ : ∃ u, vs2[n]? = some u := ⟨_, List.getElem?_eq_getElem (by omega)⟩
 obtain ⟨tx, htx⟩ : ∃ u, vs2[n + 1]? = some u := ⟨_, List.getElem?_eq_getElem (by omega)⟩
 
 have env1 : envAt (lo (A ++ [x, y])) vs e (n + 1) = envAt (lo (A ++ [x, y])) vs e n := by simp only [envAt, lo_get px, hux, dx, put]
 have env2 : envAt (lo (A ++ [x, y])) vs e (n + 2) = envAt (lo (A ++ [x, y])) vs e n := by
  rw [← env1]; simp only [envAt, lo_get py, huy, dy, put]
 have env1' : envAt (lo (A ++ [y, x])) vs2 e (n + 1) = envAt (lo (A ++ [x, y])) vs e n := by
  rw [(hagree n (Nat.le_refl _)).2.1]; simp only [envAt, lo_get py2, hty, dy, put]
 have env2' : envAt (lo (A ++ [y, x])) vs2 e (n + 2) = envAt (lo (A ++ [x, y])) vs e n := by
  rw [← env1']; simp only [envAt, lo_get px2, htx, dx, put]
 generalize hEn : envAt (lo (A ++ [x, y])) vs e n = En at env1 env2 env1' env2'
 have hμ : μ n = μ2 n := (hagree n (Nat.le_refl _)).1
 have hEn2 : envAt (lo (A ++ [y, x])) vs2 e n = En := by rw [← (hagree n (Nat.le_refl _)).2.1]; exact hEn
 
 have S1 : ∃ r, xi P En (μ n) x.2.2.i = some r ∧ outOf C (μ n) (some r) = some (ux, μ (n + 1)) := by
  rcases hT.ops n x ux px hux with ⟨h, _⟩ | ⟨_, r, h2, h3, _⟩
  ·rw [gx] at h; simp [wantedX] at h
  ·rw [hEn] at h2; exact ⟨r, h2, h3⟩
 have S2 : ∃ r, xi P En (μ (n + 1)) y.2.2.i = some r ∧ outOf C (μ (n + 1)) (some r) = some (uy, μ (n + 2)) := by
  rcases hT.ops (n + 1) y uy py huy with ⟨h, _⟩ | ⟨_, r, h2, h3, _⟩
  ·rw [gy] at h; simp [wantedX] at h
  ·rw [env1] at h2; exact ⟨r, h2, h3⟩
 have S3 : ∃ r, xi P En (μ n) y.2.2.i = some r ∧ outOf C (μ n) (some r) = some (ty, μ2 (n + 1)) := by
  rcases hT2.ops n y ty py2 hty with ⟨h, _⟩ | ⟨_, r, h2, h3, _⟩
  ·rw [gy] at h; simp [wantedX] at h
  ·rw [hEn2, ← hμ] at h2; rw [← hμ] at h3; exact ⟨r, h2, h3⟩
 have S4 : ∃ r, xi P En (μ2 (n + 1)) x.2.2.i = some r ∧ outOf C (μ2 (n + 1)) (some r) = some (tx, μ2 (n + 2)) := by
  rcases hT2.ops (n + 1) x tx px2 htx with ⟨h, _⟩ | ⟨_, r, h2, h3, _⟩
  ·rw [gx] at h; simp [wantedX] at h
  ·rw [env1'] at h2; exact ⟨r, h2, h3⟩
 obtain ⟨r1, s1, o1⟩ := S1
 obtain ⟨r2, s2, o2⟩ := S2
 obtain ⟨r3, s3, o3⟩ := S3
 obtain ⟨r4, s4, o4⟩ := S4
 have s3i := s3
 rw [ix] at s1 s4
 rw [iy] at s2 s3
 obtain ⟨p, u, M1, ep, eu, rfl, k1, f1⟩ := store_inv s1
 obtain ⟨q, t, M2, eq_, et, rfl, k2, f2⟩ := store_inv s2
 obtain ⟨q', t', M3, eq', et', rfl, k3, f3⟩ := store_inv s3
 obtain ⟨p', u', M4, ep', eu', rfl, k4, f4⟩ := store_inv s4
 rw [ep] at ep'; cases ep'
 rw [eu] at eu'; cases eu'
 rw [eq_] at eq'; cases eq'
 rw [et] at et'; cases et'
 simp only [outOf, Option.some.injEq, Prod.mk.injEq] at o1 o2 o3 o4
 obtain ⟨rfl, o1⟩ := o1
 obtain ⟨rfl, o2⟩ := o2
 obtain ⟨rfl, o3⟩ := o3
 obtain ⟨rfl, o4⟩ := o4
 rw [o1] at f1
 rw [o2] at f2
 rw [o3] at f3
 rw [o4] at f4
 have hpq : p.block ≠ q.block := by
  rw [env2] at hap
  unfold storeAt at hap
  rw [ix, iy] at hap
  simp only [ep, eq_] at hap
  simpa using hap
 have hsame : (∀ i, (μ (n + 2)).get i = (μ2 (n + 2)).get i) ∧ (μ (n + 2)).next = (μ2 (n + 2)).next := by
  by_cases a0 : sx1 = 0
  ·rw [if_pos a0] at f1 f4
   by_cases b0 : sy1 = 0
   ·rw [if_pos b0] at f2 f3
    rw [f2, f1, f4, f3]; exact ⟨fun _ => rfl, rfl⟩
   ·rw [if_neg b0] at f2 f3
    rw [f1, f3] at f2
    have f5 := Option.some.inj f2
    rw [f4, f5]; exact ⟨fun _ => rfl, rfl⟩
  ·rw [if_neg a0] at f1 f4
   by_cases b0 : sy1 = 0
   ·rw [if_pos b0] at f2 f3
    rw [f3, f1] at f4
    have f5 := Option.some.inj f4
    rw [f2, f5]; exact ⟨fun _ => rfl, rfl⟩
   ·rw [if_neg b0] at f2 f3
    exact store_comm hpq f1 f2 f3 f4
 rw [env2]
 
 have run2 : ∀ (fuel : Nat) (U : List Nat) (listed : Array Bool) (a1 : Act) (w1 : World), U.Nodup → U.length = fuel → (∀ i, i < ops.size → (i ∈ U ↔ listed.getD i false = false)) → (∀ i ∈ U, i < ops.size) → listed.getD y.1 false = true →
   OInv P N a.defers ops (A ++ [y, x]) vs2 μ2 e ρ m w listed a1 w1 → wpAny P .any ops (fun ex a' w' => ex = .normal ∧ ∃ ρ', ERel P ρ' N (keepOf keep En) a' ∧ a'.defers = a.defers ∧ Step ρ m w ρ' (μ (n + 2)) w') fuel listed a1 w1 :=
  order_any (D := a.defers) hC hx ho hO2 hT2 h02 hE.fit (fun a1 w1 ρ1 g1 g3 g2 => ⟨rfl, ρ1, by rw [hln2, env2'] at g1; exact g1.keep, g3, by rw [hln2] at g2; exact g2.same_mem hsame.1 hsame.2⟩)
   (I := fun listed => listed.getD y.1 false = true)
   (fun listed j hj => by
    by_cases hjy : y.1 = j
    ·subst hjy
     have : y.1 < listed.size := by
      rcases Nat.lt_or_ge y.1 listed.size with h | h
      ·exact h
      ·simp [h] at hj
     simp [this]
    ·simp only [Array.getD_eq_getD_getElem?] at hj ⊢
     rw [Array.getElem?_setIfInBounds_ne (fun h => hjy h.symm)]; exact hj)
   (fun _ _ _ _ _ _ _ _ _ _ _ _ _ _ hI _ _ _ _ _ _ _ _ hex _ _ _ _ _ _ _ _ _ => by rw [hI] at hex; cases hex)
 refine wp_region_any hmix ?_
 have hnoL : ∀ i, (Array.replicate ops.size false).getD i false = false := by
  intro i
  simp only [Array.getD_eq_getD_getElem?, Array.getElem?_replicate]
  split <;> rfl
 have hP0 : PInv (A ++ [x, y]) vs μ e ρ m w (fun j => (Array.replicate ops.size false).getD j false) 0 ρ w.drew := by
  refine ⟨Nat.zero_le _, fun k x h => by omega, fun k x _ _ _ => hnoL _, by rw [h0]; exact Step.drew hR, ?_, fun k x h => by omega, fun k x v h => by omega⟩
  intro a b h1 h2
  have : a = b := by omega
  subst this; exact Nat.le_refl _
 obtain ⟨g0, hPg, hst⟩ := hP0.adv hT (A ++ [x, y]).length 0 (by omega)
 refine order_any (D := a.defers) (ex := x.1) (ey := y.1) hC hx ho hO1 hT h0 hE.fit (fun a1 w1 ρ1 g1 g3 g2 => ⟨rfl, ρ1, by rw [hln, env2] at g1; exact g1.keep, g3, by rw [hln] at g2; exact g2⟩)
  (I := fun _ => True) (fun _ _ _ => trivial) ?_
  ops.size (List.range ops.size) _ a _ List.nodup_range (by simp) ?_ (by simp) trivial ⟨by simp, ?_, ⟨ρ, g0, hPg, hst, hE.size, rfl, ?_, ?_⟩⟩
 ·
  intro fuel U listed a1 w1 k z o ρ1 g hnd hUl hU hUb _ hsz hcl heys hzk hz1 hoy hxo hly hlx hje hbj hP hst hN hdef c1 c2 hEr
  
  have hdis : ∀ (p q : Nat) (u v : Nat × Nat × XOp), p ≠ q → (A ++ [x, y])[p]? = some u → (A ++ [x, y])[q]? = some v → u.1 ≠ v.1 := by
   intro p q u v hpq hu hv
   rcases Nat.lt_or_gt_of_ne hpq with h | h
   ·exact (hO1.pair p q u v h hu hv).1
   ·exact (hO1.pair q p v u h hv hu).1.symm
  have hdis2 : ∀ (p q : Nat) (u v : Nat × Nat × XOp), p ≠ q → (A ++ [y, x])[p]? = some u → (A ++ [y, x])[q]? = some v → u.1 ≠ v.1 := by
   intro p q u v hpq hu hv
   rcases Nat.lt_or_gt_of_ne hpq with h | h
   ·exact (hO2.pair p q u v h hu hv).1
   ·exact (hO2.pair q p v u h hv hu).1.symm
  have hkn : k = n + 1 := by
   rcases Nat.lt_trichotomy k (n + 1) with h | h | h
   ·exact absurd hz1 (hdis k (n + 1) z y (by omega) hzk py)
   ·exact h
   ·exact absurd hz1 (hdis k (n + 1) z y (by omega) hzk py)
  subst hkn
  rw [py] at hzk
  cases hzk
  have hgn : g = n := by
   rcases hst with h | ⟨u, hu, hcu⟩
   ·have := hP.done n x (by omega) px cx
    rw [hlx] at this; cases this
   ·rcases Nat.lt_trichotomy g n with h | h | h
    ·have hf := hP.undone g u (Nat.le_refl _) hu (by omega)
     rcases (hO1.pair g (n + 1) u y (by omega) hu py).2.2 hcu (by rw [cy]; decide) with hb | ⟨hb, _⟩
     ·rw [hbj _ hb] at hf; cases hf
     ·exact absurd hb (hdis g n u x (by omega) hu px)
    ·exact h
    ·have := hP.done n x h px cx
     rw [hlx] at this; cases this
  subst hgn
  
  obtain ⟨gd, hg, hd, hopP, hdst, hgx⟩ := xopP_spec hxo
  have hod : o.dst = none := by rw [← hdst]; exact dy
  have hwt := wanted_rel (o := o) (t := true) hg (by rw [← hgx, gy]; rfl) hEr
  have hnow : xi P (restrict (envAt (lo (A ++ [x, y])) vs e (g + 1)) (readsOf y.2.2)) (μ g) y.2.2.i = some (.skip (μ2 (g + 1))) := by
   rw [xi_uses (e' := En) (fun s hs => by rw [look_restrict_mem (by simp only [readsOf, List.mem_append]; exact .inr hs), env1]), s3i, o3]
  obtain ⟨ρ2, w2, z1, z2⟩ := op_sound hopP hnow hEr hP.step.rel
  unfold wpOp
  rw [hoy]
  simp only
  rw [if_pos hwt]
  left
  unfold Oper.wp
  rw [z1]
  
  have hset : ∀ i, (listed.setIfInBounds y.1 true).getD i false = if i = y.1 then true else listed.getD i false := by
   intro i
   by_cases hij : i = y.1
   ·subst hij
    have hil' : y.1 < listed.size := by rw [hsz]; exact heys
    simp [hil']
   ·rw [if_neg hij]
    simp only [Array.getD_eq_getD_getElem?, Array.getElem?_setIfInBounds_ne (fun h => hij h.symm)]
  have hPt : PInv (A ++ [y, x]) vs2 μ2 e ρ m w (fun j => listed.getD j false) g ρ1 w1 := by
   have hmem : ∀ (k : Nat) (z : Nat × Nat × XOp), g ≤ k → (A ++ [y, x])[k]? = some z → z = y ∨ z = x := fun k z hk hz => by
    rw [List.getElem?_append_right (by omega)] at hz
    have : k - A.length < 2 := by have := (List.getElem?_eq_some_iff.1 hz).1; simpa using this
    rcases (by omega : k - A.length = 0 ∨ k - A.length = 1) with h | h <;> rw [h] at hz <;> simp at hz
    ·exact .inl hz.symm
    ·exact .inr hz.symm
   refine ⟨by omega, fun k z hk hz hc => hP.done k z hk ((pA k z hk).2 hz) hc, fun k z hk hz hc => ?_, by rw [← hμ]; exact hP.step, fun k k' a1 a2 => ?_, fun k z hk hz hc hw => ?_, fun k z v hk hz hv hc hw hL => ?_⟩
   ·rcases hmem k z hk hz with rfl | rfl
    ·exact hly
    ·exact hlx
   ·rw [← (hagree k (by omega)).1, ← (hagree k' a2).1]; exact hP.nexts k k' a1 a2
   ·rw [← (hagree k (by omega)).1, ← (hagree (k + 1) (by omega)).1]
    exact hP.news k z hk ((pA k z hk).2 hz) hc (by rw [(hagree k (by omega)).2.1]; exact hw)
   ·rw [← (hagree k (by omega)).1, ← hμ, ← (hagree k (by omega)).2.1]
    exact hP.late k z v hk ((pA k z hk).2 hz) (by rw [(hagree g (Nat.le_refl _)).2.2 k hk]; exact hv) hc (by rw [(hagree k (by omega)).2.1]; exact hw) hL
  have hPe := hPt.eff (L' := fun j => (listed.setIfInBounds y.1 true).getD j false) hdis2 py2 cy hset (by rw [← hμ]; exact z2)
  have hput : a1.put o.dst undef = a1 := by rw [hod]; rfl
  show wpAny P .any ops _ fuel (listed.setIfInBounds y.1 true) (a1.put o.dst undef) w2
  rw [hput]
  refine run2 fuel (U.erase y.1) _ a1 w2 (hnd.erase _) ?_ ?_ ?_ (by rw [hset, if_pos rfl]) ⟨by simp [hsz], ?_, ⟨ρ2, g + 1, hPe, .inr ⟨x, px2, cx⟩, hN, hdef, ?_, ?_⟩⟩
  ·have hjU : y.1 ∈ U := (hU y.1 heys).2 hly
   rw [List.length_erase_of_mem hjU, hUl]; rfl
  ·intro i hi
   rw [hnd.mem_erase_iff, hset]
   by_cases hij : i = y.1
   ·subst hij; simp
   ·rw [if_neg hij, ← hU i hi]; simp [hij]
  ·intro i hi
   exact hUb i (List.mem_of_mem_erase hi)
  ·intro i oi hi hoi b hb hbb
   rw [hset] at hi ⊢
   by_cases hij : i = y.1
   ·subst hij
    rw [hoy] at hoi
    cases hoi
    split
    ·rfl
    ·exact hje b hb hbb
   ·rw [if_neg hij] at hi
    split
    ·rfl
    ·exact hcl i oi hi hoi b hb hbb
  ·intro s v hne' hno hv
   obtain ⟨u, b1, b2⟩ := c1 s v hne' (fun k z hz hzd => by
    have hm : z ∈ A ++ [y, x] := by
     have := List.mem_of_getElem? hz
     simp only [List.mem_append, List.mem_cons, List.not_mem_nil, or_false] at this ⊢
     rcases this with h | h | h
     ·exact .inl h
     ·exact .inr (.inr h)
     ·exact .inr (.inl h)
    obtain ⟨k', hk'⟩ := List.mem_iff_getElem?.1 hm
    have h3 := hno k' z hk' hzd
    rw [hset] at h3
    split at h3
    ·cases h3
    ·exact h3) hv
   exact ⟨u, b1, b2.mono z2.ext⟩
  ·intro k z v s hz hv hzd hlz
   have hkg : k < g := by
    rcases Nat.lt_or_ge k g with h | h
    ·exact h
    ·exfalso
     rw [List.getElem?_append_right (by omega)] at hz
     have : k - A.length < 2 := by have := (List.getElem?_eq_some_iff.1 hz).1; simpa using this
     rcases (by omega : k - A.length = 0 ∨ k - A.length = 1) with h | h <;> rw [h] at hz <;> simp at hz
     ·subst hz; rw [dy] at hzd; cases hzd
     ·subst hz; rw [dx] at hzd; cases hzd
   have hz' := (pA k z hkg).2 hz
   rw [hset, if_neg (hdis k (g + 1) z y (by omega) hz' py)] at hlz
   obtain ⟨u, b1, b2⟩ := c2 k z v s hz' (by rw [(hagree g (Nat.le_refl _)).2.2 k hkg]; exact hv) hzd hlz
   exact ⟨u, b1, b2.mono z2.ext⟩
 ·intro i hi; simp [hi]
 ·intro i o hi
  rw [hnoL] at hi; cases hi
 ·intro s v hne _ hs; exact hE.slot s v hne hs
 ·intro i o v s _ _ _ hi
  rw [hnoL] at hi; cases hi
theorem drawnC_dst {ops : Array Oper} {l0 : List XOp} {l : List (Nat × Nat × XOp)} (hx : xopsP P N ops ops.toList = some l0) (hok : okC l = true) (hs : sortD l = tagD 0 l0 (preList ops.toList [])) :
  ∀ o ∈ l, ∀ d, o.2.2.dst = some d → d < N := by
 have hlen0 : l0.length = ops.size := by have := (xopsP_get hx).1; simpa using this
 have hpslen : (preList ops.toList []).length = l0.length := by
  obtain ⟨rest, h1, h2, _⟩ := preList_spec ops.toList []
  rw [h1, hlen0]; simpa using h2
 obtain ⟨_, _, _, _, _, _, hO1, _⟩ := okC_spec hok hs hpslen
 intro o ho d hd
 obtain ⟨k, hk⟩ := List.mem_iff_getElem?.1 ho
 exact xopsP_dst hx o.2.2 (List.mem_of_getElem? (hO1.at_ k o hk).2.1) d hd
end
end Go.Proofs.Ytnlmnejellipdaa.X
