/-
  Own work. Each operation of the abstract run is the model's.
-/
import Derived.Test.YtnlmnejellipdaaGreatXAppend
namespace Go.Proofs.YtnlmnejellipdaaGreat.X
open Go
set_option linter.unusedVariables false
set_option linter.unusedSimpArgs false

/-- A deferred call that does nothing where nothing panics. -/
def QuietD (P : Program) (d : Deferred) : Prop := ∃ f, d.target = .fn (.func f) #[] ∧ caughtB P f = true
/-- Slots. -/
structure ERel (P : Program) (ρ : Rho) (N : Nat) (e : Env) (a : Act) : Prop where
  size : a.tmps.size = N
  fit : N ≤ slotD
  slot : ∀ s v, s ≠ slotD → look e s = some v → ∃ v', a.tmps[s]? = some v' ∧ VRel ρ v v'

section
variable {P : Program} {ρ : Rho} {N : Nat} {e : Env} {a : Act} {m : Mem} {w : World}

theorem ERel.mono {ρ' : Rho} (h : ERel P ρ N e a) (hx : Ext ρ ρ') : ERel P ρ' N e a :=
  ⟨h.size, h.fit, fun s v hne hs => let ⟨v', h1, h2⟩ := h.slot s v hne hs; ⟨v', h1, h2.mono hx⟩⟩

theorem arg_rel {x : Operand} {g : Arg} {v : Value} (h : argOf N x = some g) (hv : g.ev e = some v) (hE : ERel P ρ N e a) : VRel ρ v (a.eval x) := by
  cases x with
  | tmp t =>
    simp only [argOf] at h
    by_cases hlt : t < N
    · rw [if_pos hlt] at h
      cases h
      obtain ⟨v', h1, h2⟩ := hE.slot t v (Nat.ne_of_lt (Nat.lt_of_lt_of_le hlt hE.fit)) hv
      simpa [Act.eval, h1] using h2
    · rw [if_neg hlt] at h; cases h
  | const c =>
    simp only [argOf] at h
    split at h
    · cases h; cases hv; exact .cell .nilI
    · split at h
      · rename_i hp; cases h; cases hv; exact .refl hp
      · cases h
  | global g => simp [argOf] at h
  | func f =>
    simp only [argOf] at h
    cases h; cases hv
    exact .refl rfl

theorem args_rel : ∀ {xs : List Operand} {gs : List Arg} {vs : List Value}, argsOf N xs = some gs → evs e gs = some vs → ERel P ρ N e a → VsRel ρ vs (xs.map a.eval)
  | [], gs, vs, h, hv, hE => by simp [argsOf] at h; subst h; simp [evs] at hv; subst hv; exact .nil
  | x :: xs, gs, vs, h, hv, hE => by
    simp only [argsOf] at h
    cases hx : argOf N x with
    | none => simp [hx] at h
    | some g =>
      cases hxs : argsOf N xs with
      | none => simp [hx, hxs] at h
      | some gs' =>
        simp [hx, hxs] at h
        subst h
        simp only [evs] at hv
        cases h1 : g.ev e with
        | none => simp [h1] at hv
        | some v =>
          cases h2 : evs e gs' with
          | none => simp [h1, h2] at hv
          | some vs' =>
            simp [h1, h2] at hv
            subst hv
            exact .cons (arg_rel hx h1 hE) (args_rel hxs h2 hE)

theorem argO_rel {x : Option Operand} {g : Option Arg} {v : Option Value} (h : argO N x = some g) (hv : evO e g = some v) (hE : ERel P ρ N e a) :
    (v = none ∧ x.map a.eval = none ∧ x = none) ∨ ∃ u u', v = some u ∧ x.map a.eval = some u' ∧ VRel ρ u u' := by
  cases x with
  | none => simp [argO] at h; subst h; simp [evO] at hv; exact .inl ⟨hv.symm, rfl, rfl⟩
  | some x =>
    simp only [argO] at h
    cases hx : argOf N x with
    | none => simp [hx] at h
    | some g' =>
      simp [hx] at h
      subst h
      simp only [evO] at hv
      cases h1 : g'.ev e with
      | none => simp [h1] at hv
      | some u => simp [h1] at hv; subst hv; exact .inr ⟨u, _, rfl, rfl, arg_rel hx h1 hE⟩

/-! ## Small runs -/
theorem run_sizeOf' {t : TypeId} {s : Nat} (h : sizeP P t = some s) (w : World) : (sizeOf t).run P w = .ok s w := by
  obtain ⟨i, hi, rfl⟩ := sizeP_spec h
  simp [sizeOf, typeInfo, hi]

theorem run_isAgg' {t : TypeId} {g : Bool} (h : aggP P t = some g) (w : World) : (isAgg t).run P w = .ok g w := by
  unfold aggP at h
  cases hu : P.underlying t with
  | none => simp [hu] at h
  | some d => cases d <;> simp [hu] at h <;> subst h <;> simp [isAgg, run_underlying hu]

theorem asNat_rel {v v' : Value} {n : Nat} (h : asNat v = some n) (hv : VRel ρ v v') : ∃ k, v' = .int k n ∧ v = .int k n := by
  cases v <;> simp [asNat] at h
  rename_i k i
  obtain ⟨h0, rfl⟩ := h
  have := hv.eq rfl
  subst this
  exact ⟨k, by rw [Int.toNat_of_nonneg h0], by rw [Int.toNat_of_nonneg h0]⟩

theorem ptr_rel {a' : Addr} {v' : Value} (hv : VRel ρ (.pointer (some a')) v') : ∃ c, a'.spot = none ∧ ρ a'.block = some c ∧ v' = .pointer (some ⟨c.blk, c.off + a'.off, none⟩) := by
  cases hv with
  | cell h =>
    cases h with
    | plain h => simp [plainV] at h
    | ptr hs h => exact ⟨_, hs, h, rfl⟩

/-! ## Filling -/
theorem CsRel.set {l l' : List Value} (h : CsRel ρ l l') {v v' : Value} (hv : CRel ρ v v') (i : Nat) : CsRel ρ (l.set i v) (l'.set i v') := by
  induction i generalizing l l' with
  | zero => cases h with | nil => exact .nil | cons _ t => exact .cons hv t
  | succ i ih => cases h with | nil => exact .nil | cons h t => exact .cons h (ih t)

theorem fold_rel : ∀ {l l' : List Value} (k off : Nat) {cs cs' : Array Value}, CsRel ρ l l' → CsRel ρ cs.toList cs'.toList →
    CsRel ρ ((l.zipIdx k).foldl (fun cs (p : Value × Nat) => cs.setIfInBounds (off + p.2) p.1) cs).toList ((l'.zipIdx k).foldl (fun cs (p : Value × Nat) => cs.setIfInBounds (off + p.2) p.1) cs').toList
  | [], _, k, off, cs, cs', h, hc => by cases h; exact hc
  | v :: l, _, k, off, cs, cs', h, hc => by
    cases h with
    | cons h t =>
      simp only [List.zipIdx_cons, List.foldl_cons]
      refine fold_rel (k + 1) off t ?_
      simpa using hc.set h (off + k)

/-- Parts of a value. -/
inductive PsRel (ρ : Rho) : List (Nat × Value) → List (Nat × Value) → Prop where
  | nil : PsRel ρ [] []
  | cons {i : Nat} {v v' : Value} {l l' : List (Nat × Value)} (h : CsRel ρ v.cells.toList v'.cells.toList) (t : PsRel ρ l l') : PsRel ρ ((i, v) :: l) ((i, v') :: l')

theorem parts_rel : ∀ {xs : List (Nat × Operand)} {gs : List (Nat × Arg)} {vs : List (Nat × Value)}, partsOf N xs = some gs → xparts e gs = some vs → ERel P ρ N e a →
    PsRel ρ vs (xs.map fun p => (p.1, a.eval p.2))
  | [], gs, vs, h, hv, hE => by simp [partsOf] at h; subst h; simp [xparts] at hv; subst hv; exact .nil
  | (i, x) :: xs, gs, vs, h, hv, hE => by
    simp only [partsOf] at h
    cases hx : argOf N x with
    | none => simp [hx] at h
    | some g =>
      cases hxs : partsOf N xs with
      | none => simp [hx, hxs] at h
      | some gs' =>
        simp [hx, hxs] at h
        subst h
        simp only [xparts] at hv
        cases h1 : g.ev e with
        | none => simp [h1] at hv
        | some v =>
          simp only [h1, Option.bind_some] at hv
          split at hv
          case isFalse => simp at hv
          rename_i hnt
          cases h2 : xparts e gs' with
          | none => simp [h2] at hv
          | some vs' =>
            simp [h2] at hv
            subst hv
            exact .cons ((arg_rel hx h1 hE).cells (fun c hc => by subst hc; simp [noTup] at hnt)) (parts_rel hxs h2 hE)

theorem fill_rel (place : Nat → Option (Nat × Nat)) : ∀ {vs vs' : List (Nat × Value)} {cs cs' r : Array Value}, PsRel ρ vs vs' → CsRel ρ cs.toList cs'.toList → Instr.fill place cs vs = some r →
    ∃ r', Instr.fill place cs' vs' = some r' ∧ CsRel ρ r.toList r'.toList
  | [], _, cs, cs', r, h, hc, hf => by cases h; simp [Instr.fill] at hf; subst hf; exact ⟨cs', rfl, hc⟩
  | (i, v) :: vs, _, cs, cs', r, h, hc, hf => by
    cases h with
    | cons h t =>
      rename_i v' l'
      have hl := h.length
      have hcl := hc.length
      simp only [Array.length_toList] at hl hcl
      simp only [Instr.fill] at hf ⊢
      cases hp : place i with
      | none => simp [hp] at hf
      | some q =>
        obtain ⟨off, size⟩ := q
        simp only [hp] at hf ⊢
        rw [hl, hcl]
        split at hf
        · simp at hf
        · rename_i hcond
          rw [if_neg hcond]
          refine fill_rel place t ?_ hf
          have := fold_rel (ρ := ρ) 0 off h hc
          rw [← Array.foldl_toList, ← Array.foldl_toList, Array.toList_zipIdx, Array.toList_zipIdx]
          exact this

end
end Go.Proofs.YtnlmnejellipdaaGreat.X
