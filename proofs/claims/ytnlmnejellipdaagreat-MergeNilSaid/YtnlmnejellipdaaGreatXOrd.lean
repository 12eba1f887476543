/-
  Own work. Regions whose order the tape draws, with operations that change memory among them: facts about the text's run.
-/
import Derived.Test.YtnlmnejellipdaaGreatXDraw
namespace Go.Proofs.YtnlmnejellipdaaGreat.X
open Go
set_option linter.unusedVariables false
set_option linter.unusedSimpArgs false

section
variable {P : Program} {ρ : Rho} {N : Nat} {e : Env} {a : Act} {m : Mem} {w : World}

/-! ## Equal values -/
theorem veqA_eq {a b : Addr} (h : veqA a b = true) : a = b := by
  obtain ⟨x, y, s⟩ := a
  obtain ⟨x', y', s'⟩ := b
  cases s <;> cases s' <;> simp [veqA] at h
  · obtain ⟨rfl, rfl⟩ := h; rfl
  · obtain ⟨⟨rfl, rfl⟩, rfl⟩ := h; rfl
theorem veqC_eq {a b : Value} (h : veqC a b = true) : a = b := by
  unfold veqC at h
  split at h
  · simp at h; rw [h]
  · simp at h; rw [h.1, h.2]
  · simp at h; rw [h.1, h.2]
  · simp at h
    rename_i x y
    obtain ⟨x⟩ := x
    obtain ⟨y⟩ := y
    simp at h
    rw [h]
  · rfl
  · rw [veqA_eq h]
  · simp at h; rw [h.1, h.2]
  · simp at h; rw [veqA_eq h.1.1, h.1.2, h.2]
  · rfl
  · simp at h; rw [h]
  · rfl
  · rfl
  · simp at h; rw [h]
  · cases h
theorem veqL_eq : ∀ {a b : List Value}, veqL a b = true → a = b
  | [], [], _ => rfl
  | a :: l, b :: r, h => by simp only [veqL, Bool.and_eq_true] at h; rw [veqC_eq h.1, veqL_eq h.2]
  | [], _ :: _, h => by simp [veqL] at h
  | _ :: _, [], h => by simp [veqL] at h
theorem veq_eq {a b : Value} (h : veq a b = true) : a = b := by
  unfold veq at h
  split at h
  · have := veqL_eq h; rw [Array.toList_inj] at this; rw [this]
  · simp only [Bool.and_eq_true, beq_iff_eq] at h
    have := veqL_eq h.2; rw [Array.toList_inj] at this; rw [this, h.1]
  · simp only [Bool.and_eq_true, beq_iff_eq] at h
    rw [veqC_eq h.2, h.1]
  · exact veqC_eq h

theorem again_spec {l : List Pend} (h : again P m l = true) : ∀ p ∈ l, ∃ m', xi P p.e m p.i = some (.val p.v m') := by
  intro p hp
  simp only [again, List.all_eq_true] at h
  have := h p hp
  split at this
  · rename_i v m' hx
    rw [veq_eq this]; exact ⟨m', hx⟩
  · cases this

theorem cls_quiet {i : XI} (h : cls i < 2) : quiet i = true := by
  cases i <;> simp_all [cls, quiet]

/-- Class 0 asks nothing of memory. -/
theorem xi_pure {i : XI} (hc : cls i = 0) {v : Value} {m1 : Mem} (h : xi P e m i = some (.val v m1)) (m' : Mem) : xi P e m' i = some (.val v m') := by
  cases i <;> simp [cls, quiet] at hc <;> simp only [xi] at h ⊢
  all_goals repeat' first
    | (cases h; done)
    | (cases h; rfl)
    | (replace h := bind_some' h; obtain ⟨_, hq, h⟩ := h; rw [hq]; simp only [Option.bind_some])
    | (replace h := ite_some' h; obtain ⟨hq, h⟩ := h; rw [if_pos hq])
    | split at h

/-! ## New rows -/
def xnew (e : Env) : XI → Option (List Value × Option Nat)
  | .alloc zero => some (zero, none)
  | .box x => (x.ev e).bind fun v => if noTup v then some (v.cells.toList, none) else none
  | .buildSlice zero size len parts => (xparts e parts).bind fun vs =>
    if len * size ≤ 16777216 ∧ zero.length = size then
      (Instr.fill (fun i => some (i * size, size)) (zerosOf zero len).toArray vs).bind fun cs => some (cs.toList, some len)
    else none
  | _ => none
def mkv (id : Nat) : Option Nat → Value
  | none => .pointer (some ⟨id, 0, none⟩)
  | some n => .slice (some ⟨id, 0, none⟩) n n

theorem xi_new {i : XI} (hc : cls i = 2) {v : Value} {m1 : Mem} (h : xi P e m i = some (.val v m1)) :
    ∃ cells len, xnew e i = some (cells, len) ∧ v = mkv m.next len ∧ m1 = m.push { cells, rw := true, spare := none, kin := [] } := by
  cases i <;> simp [cls, quiet] at hc <;> simp only [xi] at h
  · cases h; exact ⟨_, none, rfl, rfl, rfl⟩
  · obtain ⟨v, hv, h⟩ := bind_some' h
    obtain ⟨hn, h⟩ := ite_some' h
    cases h
    exact ⟨_, none, by simp [xnew, hv, hn], rfl, rfl⟩
  · obtain ⟨v, hv, h⟩ := bind_some' h
    obtain ⟨hn, h⟩ := ite_some' h
    obtain ⟨cs, hcs, h⟩ := bind_some' h
    cases h
    exact ⟨_, some _, by simp only [xnew, hv, Option.bind_some, if_pos hn, hcs], rfl, rfl⟩

theorem xnew_uses {e e' : Env} {i : XI} (hc : cls i = 2) (h : ∀ s ∈ uses i, look e s = look e' s) : xnew e i = xnew e' i := by
  cases i <;> simp [cls, quiet] at hc <;> simp only [uses] at h <;> simp only [xnew]
  · rw [ev_uses h]
  · rw [xparts_uses h]

theorem op_new {o : Oper} {i : XI} {cells : List Value} {len : Option Nat} (hP : opP P N o = some i) (hc : cls i = 2) (hx : xnew e i = some (cells, len)) (hE : ERel P ρ N e a) (w : World) :
    ∃ row t, (execOp a.eval o).run P w = .ok (.value (mkv w.heap.size len)) (w.alloc (.cells row t)) ∧ CsRel ρ cells row.toList := by
  replace hP : opP0 P N o = some i := by
    unfold opP at hP
    cases h0 : opP0 P N o with
    | none =>
      rw [h0] at hP
      cases hP
      simp [cls, quiet] at hc
    | some j =>
      rw [h0] at hP
      cases hP
      rfl
  unfold opP0 at hP
  split at hP
  case h_4 t ho =>
    obtain ⟨zero, hz, rfl⟩ := map_some' hP
    simp only [xnew, Option.some.injEq, Prod.mk.injEq] at hx
    obtain ⟨rfl, rfl⟩ := hx
    obtain ⟨i, z, hi, hzi, rfl, hp, hs⟩ := zeroP_spec hz
    refine ⟨z.cells, t, ?_, CsRel.flat hp⟩
    rw [show execOp a.eval o = (do pure (Next.value (← Instr.alloc t true (.tuple #[])))) by simp only [execOp, ho]]
    refine run_v ?_
    simp [Instr.alloc, zeroValue, typeInfo, hi, hzi, newVar, newRow, mkv]
  case h_13 sd dd x ho =>
    obtain ⟨g, hg, hP⟩ := map_some' hP
    exfalso
    cases hbs : bytesToStr P sd dd <;> rw [hbs] at hP <;> subst hP <;> simp [cls, quiet] at hc
  case h_5 t x ho =>
    obtain ⟨g, hg, rfl⟩ := map_some' hP
    simp only [xnew] at hx
    obtain ⟨v, hv, hx⟩ := bind_some' hx
    obtain ⟨hn, hx⟩ := ite_some' hx
    simp only [Option.some.injEq, Prod.mk.injEq] at hx
    obtain ⟨rfl, rfl⟩ := hx
    have hvr := arg_rel hg hv hE
    have hcs := hvr.cells (fun c hc => by subst hc; simp [noTup] at hn)
    refine ⟨(a.eval x).cells, t, ?_, hcs⟩
    rw [show execOp a.eval o = (do pure (Next.value (← Instr.box t (a.eval x)))) by simp only [execOp, ho]]
    refine run_v ?_
    simp [Instr.box, newVar, newRow, mkv]
  case h_7 t n parts ho =>
    obtain ⟨el, ht, hP⟩ := bind_some' hP
    obtain ⟨zero, hz, hP⟩ := bind_some' hP
    obtain ⟨size, hs, hP⟩ := bind_some' hP
    obtain ⟨ps, hp, rfl⟩ := map_some' hP
    simp only [xnew] at hx
    obtain ⟨vs, hv, hx⟩ := bind_some' hx
    obtain ⟨⟨hsmall, hzl⟩, hx⟩ := ite_some' hx
    obtain ⟨cs, hf, hx⟩ := bind_some' hx
    simp only [Option.some.injEq, Prod.mk.injEq] at hx
    obtain ⟨rfl, rfl⟩ := hx
    have hu := elemP_spec ht
    obtain ⟨i, z, hi, hzi, rfl, hpz, hsz⟩ := zeroP_spec hz
    have hps := parts_rel hp hv hE
    have hzl' : z.cells.size = size := by simpa using hzl
    obtain ⟨r', hf', hr'⟩ := fill_rel (ρ := ρ) _ hps (cs' := (zerosOf z.cells.toList n).toArray) (by simpa using CsRel.flat (zerosOf_plain hpz n)) hf
    have hl : (parts.map fun (i, x) => (i, a.eval x)).toList = parts.toList.map fun p => (p.1, a.eval p.2) := by simp
    have hzero : ((Array.range (n * size)).map (fun x => (if n * size = 0 then #[] else z.cells)[x % (if n * size = 0 then #[] else z.cells).size]!)) = (zerosOf z.cells.toList n).toArray := by
      by_cases h0 : n * size = 0
      · rw [if_pos h0, h0]
        have : (zerosOf z.cells.toList n) = [] := List.eq_nil_of_length_eq_zero (by rw [zerosOf_length]; simp [hzl', h0])
        simp [this]
      · rw [if_neg h0]
        apply Array.ext'
        have := zerosOf_eq z.cells n
        rw [hzl'] at this
        simp only [hzl']
        rw [this]
    refine ⟨r', el, ?_, hr'⟩
    rw [show execOp a.eval o = (do pure (Next.value (← Instr.buildSlice t n (parts.map fun (i, x) => (i, a.eval x))))) by simp only [execOp, ho]]
    refine run_v ?_
    have hsmall' : ¬ (n * size > 2 ^ 24) := by omega
    simp only [Instr.buildSlice, zeroValue, typeInfo, Sem.run_bind, run_program, Result.andThen_ok, hi, hzi, Sem.run_pure, run_underlying hu, run_sizeOf' hs, hl]
    rw [if_neg hsmall']
    by_cases h0 : n * size = 0
    · rw [if_pos h0] at hzero
      simp only [if_pos h0, Sem.run_bind, Sem.run_pure, Result.andThen_ok, hzero, hf', newRow, run_newObj_alloc, mkv]
    · rw [if_neg h0] at hzero
      simp only [if_neg h0, Sem.run_bind, run_program, Sem.run_pure, Result.andThen_ok, hi, hzi, hzero, hf', newRow, run_newObj_alloc, mkv]
  all_goals exfalso
  all_goals try unfold callP at hP
  all_goals repeat' first
    | (cases hP; done)
    | (cases hP; simp [cls, quiet] at hc; done)
    | (cases hP; simp [xnew] at hx; done)
    | (replace hP := bind_some' hP; obtain ⟨_, _, hP⟩ := hP)
    | (replace hP := map_some' hP; obtain ⟨_, _, hP⟩ := hP)
    | (replace hP := ite_some' hP; obtain ⟨_, hP⟩ := hP)
    | split at hP

end
end Go.Proofs.YtnlmnejellipdaaGreat.X
