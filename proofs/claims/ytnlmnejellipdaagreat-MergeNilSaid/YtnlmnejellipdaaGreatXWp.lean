/-
  Own work. A calculus for the abstract run over data that is not known: what a run comes to, told by its code.
-/
import Derived.Test.YtnlmnejellipdaaGreatXLaw
namespace Go.Proofs.YtnlmnejellipdaaGreat.X
open Go
set_option linter.unusedVariables false
set_option linter.unusedSimpArgs false

/-- A call answers so. -/
def CallX (P : Program) (X : FuncId → Option XDecl) (f : FuncId) (args : List Value) (m : Mem) (v : Value) (m' : Mem) : Prop := ∃ n, xcall P X n f args m = some (v, m')
def wpCall (P : Program) (X : FuncId → Option XDecl) (f : FuncId) (args : List Value) (m : Mem) (K : Value → Mem → Prop) : Prop := ∃ v m', CallX P X f args m v m' ∧ K v m'

section
variable (P : Program) (X : FuncId → Option XDecl)

def wpR (r : Option XR) (m : Mem) (K : Value → Mem → Prop) : Prop :=
  match r with
  | none => False
  | some (.val v m') => K v m'
  | some (.skip m') => K undef m'
  | some (.call f args) => wpCall P X f args m K

def wpO : List XOp → Env → Mem → (Env → Mem → Prop) → Prop
  | [], e, m, Q => Q e m
  | o :: os, e, m, Q => match wantedX e o.guard with
    | none => False
    | some false => wpO os (put o.dst undef e) m Q
    | some true => wpR P X (xi P e m o.i) m fun v m' => wpO os (put o.dst v e) m' Q

def wpD : List (Nat × Nat × XOp) → List Pend → Env → Mem → (Env → Mem → Prop) → Prop
  | [], pend, e, m, Q => again P m pend = true ∧ Q e m
  | (j, pre, o) :: os, pend, e, m, Q => match wantedX e o.guard with
    | none => False
    | some false =>
      if cls o.i = 3 then again P m pend = true ∧ wpD os (pend.filter fun p => !pre.testBit p.j) (put o.dst undef e) m Q
      else wpD os pend (put o.dst undef e) m Q
    | some true => match cls o.i with
      | 0 => wpR P X (xi P e m o.i) m fun v _ => wpD os pend (put o.dst v e) m Q
      | 1 => wpR P X (xi P e m o.i) m fun v _ => wpD os (⟨j, e, o.i, v⟩ :: pend) (put o.dst v e) m Q
      | 2 => wpR P X (xi P e m o.i) m fun v m' => wpD os pend (put o.dst v e) m' Q
      | _ => again P m pend = true ∧ wpR P X (xi P e m o.i) m fun v m' => wpD os (pend.filter fun p => !pre.testBit p.j) (put o.dst v e) m' Q

def iter (F : (Env → Mem → Prop) → Env → Mem → Prop) : Nat → Env → Mem → Prop
  | 0 => fun _ _ => False
  | j + 1 => F (iter F j)

def wpC : XCode → Env → Mem → (Env → Mem → Prop) → (Nat → Env → Mem → Prop) → (Env → Mem → Prop) → Prop
  | .skip, e, m, N, _, _ => N e m
  | .ops l keep, e, m, N, _, _ => wpO P X l e m fun e m => N (keepOf keep e) m
  | .opsr l keep, e, m, N, _, _ => wpO P X l e m fun e m => N (keepOf keep e) m
  | .opsd l keep, e, m, N, _, _ => wpD P X l [] e m fun e m => N (keepOf keep e) m
  | .opsc _ _, _, _, _, _, _ => False
  | .seq a b, e, m, N, B, R => wpC a e m (fun e m => wpC b e m N B R) B R
  | .cond c a b, e, m, N, B, R => match c.ev e with
    | some (.bool t) => (t = true → wpC a e m N B R) ∧ (t = false → wpC b e m N B R)
    | _ => False
  | .block id c, e, m, N, B, R => wpC c e m N (fun i => if i = id then N else B i) R
  | .loop c, e, m, _, B, R => ∃ j, iter (fun N e m => wpC c e m N B R) j e m
  | .exit id, e, m, _, B, _ => B id e m
  | .ret, e, m, _, _, R => R e m
end

section
variable {P : Program} {X : FuncId → Option XDecl}

/-! ## More steps do no harm -/
def CLe (C C' : FuncId → List Value → Mem → Option (Value × Mem)) : Prop := ∀ f args m r, C f args m = some r → C' f args m = some r

theorem xops_le {C C' : FuncId → List Value → Mem → Option (Value × Mem)} (h : CLe C C') : ∀ (l : List XOp) (e : Env) (m : Mem) r, xops P C l e m = some r → xops P C' l e m = some r
  | [], e, m, r, hr => hr
  | o :: l, e, m, r, hr => by
    simp only [xops] at hr ⊢
    cases ht : wantedX e o.guard with
    | none => rw [ht] at hr; cases hr
    | some t =>
      rw [ht] at hr
      cases t with
      | false => exact xops_le h l _ m r hr
      | true =>
        simp only at hr ⊢
        cases hx : xi P e m o.i with
        | none =>
          rw [hx] at hr
          simp only at hr ⊢
          split at hr
          · rename_i as _
            cases hv : evs e as with
            | none => rw [hv] at hr; cases hr
            | some vs => rw [hv] at hr; exact xops_le h l _ m r hr
          · rename_i x' _
            split at hr
            · rename_i v hv hsl
              obtain ⟨hcl, hr⟩ := ite_some' hr
              simp only [hv, hsl, if_pos hcl]
              exact xops_le h l _ m r hr
            · cases hr
          · cases hr
        | some q =>
          rw [hx] at hr
          cases q with
          | val v m1 => exact xops_le h l _ m1 r hr
          | skip m1 => exact xops_le h l _ m1 r hr
          | call f args =>
            simp only at hr ⊢
            cases hc : C f args m with
            | none => rw [hc] at hr; cases hr
            | some p =>
              rw [hc] at hr
              rw [h f args m p hc]
              exact xops_le h l _ p.2 r hr

theorem outOf_le {C C' : FuncId → List Value → Mem → Option (Value × Mem)} (h : CLe C C') {m : Mem} {x : Option XR} {r : Value × Mem} (hr : outOf C m x = some r) : outOf C' m x = some r := by
  cases x with
  | none => cases hr
  | some q => cases q with
    | val v m1 => exact hr
    | skip m1 => exact hr
    | call f args => exact h f args m r hr

theorem xopsD_le {C C' : FuncId → List Value → Mem → Option (Value × Mem)} (h : CLe C C') : ∀ (l : List (Nat × Nat × XOp)) (pend : List Pend) (e : Env) (m : Mem) r, xopsD P C l pend e m = some r → xopsD P C' l pend e m = some r
  | [], pend, e, m, r, hr => hr
  | (j, pre, o) :: l, pend, e, m, r, hr => by
    simp only [xopsD] at hr ⊢
    cases ht : wantedX e o.guard with
    | none => rw [ht] at hr; cases hr
    | some t =>
      rw [ht] at hr
      cases t with
      | false =>
        simp only at hr ⊢
        by_cases hc : cls o.i = 3
        · rw [if_pos hc] at hr ⊢
          by_cases ha : again P m pend = true
          · rw [if_pos ha] at hr ⊢; exact xopsD_le h l _ _ m r hr
          · rw [if_neg ha] at hr; cases hr
        · rw [if_neg hc] at hr ⊢; exact xopsD_le h l _ _ m r hr
      | true =>
        simp only at hr ⊢
        split at hr
        · split at hr
          · exact xopsD_le h l _ _ m r hr
          · cases hr
        · split at hr
          · exact xopsD_le h l _ _ m r hr
          · cases hr
        · split at hr
          · exact xopsD_le h l _ _ _ r hr
          · cases hr
        · by_cases ha : again P m pend = true
          · rw [if_pos ha] at hr ⊢
            split at hr
            · rename_i v m1 ho
              rw [outOf_le h ho]
              exact xopsD_le h l _ _ m1 r hr
            · cases hr
          · rw [if_neg ha] at hr; cases hr

theorem xgo_step {n : Nat} {k : List XItem} {e : Env} {m : Mem} : xgo P X (n + 1) k e m = (match k with
    | [] => some (e, m)
    | .inBlock _ :: k => xgo P X n k e m
    | .inLoop c :: k => xgo P X n (.code c :: .inLoop c :: k) e m
    | .code .skip :: k => xgo P X n k e m
    | .code (.seq a b) :: k => xgo P X n (.code a :: .code b :: k) e m
    | .code (.cond c a b) :: k => match c.ev e with
      | some (.bool t) => xgo P X n (.code (bif t then a else b) :: k) e m
      | _ => none
    | .code (.block id c) :: k => xgo P X n (.code c :: .inBlock id :: k) e m
    | .code (.loop c) :: k => xgo P X n (.code c :: .inLoop c :: k) e m
    | .code (.exit id) :: k => match xexit id k with
      | some k' => xgo P X n k' e m
      | none => none
    | .code .ret :: _ => some (e, m)
    | .code (.ops l keep) :: k => match xops P (xcall P X n) l e m with
      | some (e', m') => xgo P X n k (keepOf keep e') m'
      | none => none
    | .code (.opsr l keep) :: k => match xops P (xcall P X n) l e m with
      | some (e', m') => xgo P X n k (keepOf keep e') m'
      | none => none
    | .code (.opsd l keep) :: k => match xopsD P (xcall P X n) l [] e m with
      | some (e', m') => xgo P X n k (keepOf keep e') m'
      | none => none
    | .code (.opsc l keep) :: k => match xopsD P (xcall P X n) l [] e m with
      | some (e', m') => if (xopsD P (xcall P X n) (swapL l) [] e m).isSome && apartC e' l then xgo P X n k (keepOf keep e') m' else none
      | none => none) := by
  have hC : (fun (f : FuncId) (args : List Value) (m : Mem) => xcall P X n f args m) = xcall P X n := rfl
  rw [xgo.eq_def]
  cases k with
  | nil => rfl
  | cons it k => cases it with
    | inBlock _ => rfl
    | inLoop _ => rfl
    | code c => cases c <;> rfl

theorem xfin_le {run run' : XCode → Env → Mem → Option (Env × Mem)} (h : ∀ c e m r, run c e m = some r → run' c e m = some r) {F : XFunc} {e : Env} {m : Mem} {r : Value × Mem} (hr : xfin X run F e m = some r) : xfin X run' F e m = some r := by
  unfold xfin at hr ⊢
  split at hr
  · exact hr
  · split at hr
    case h_2 => cases hr
    rename_i G _
    obtain ⟨hc, hr⟩ := ite_some' hr
    rw [if_pos hc]
    split at hr
    · cases hr
    · rename_i e2 m2 h2
      rw [h _ _ _ _ h2]
      exact hr
  · cases hr
theorem xcall_of {n n' : Nat} (ih : ∀ (k : List XItem) (e : Env) (m : Mem) r, xgo P X n k e m = some r → xgo P X n' k e m = some r) : CLe (xcall P X n) (xcall P X n') := by
  intro f args m r hr
  unfold xcall at hr ⊢
  cases hX : X f with
  | none => rw [hX] at hr; cases hr
  | some d =>
    rw [hX] at hr
    cases d with
    | known u => exact hr
    | ext g => exact hr
    | code F =>
      simp only at hr ⊢
      obtain ⟨hl, hr⟩ := ite_some' hr
      rw [if_pos hl]
      cases hg : xgo P X n [.code F.body] (initEnv 0 args) m with
      | none => rw [hg] at hr; cases hr
      | some p => rw [hg] at hr; rw [ih _ _ _ _ hg]; exact hr
    | ins F size =>
      simp only at hr ⊢
      cases hi : insG size args m with
      | some q => rw [hi] at hr; exact hr
      | none =>
        rw [hi] at hr
        simp only at hr ⊢
        obtain ⟨hl, hr⟩ := ite_some' hr
        rw [if_pos hl]
        cases hg : xgo P X n [.code F.body] (initEnv 0 args) m with
        | none => rw [hg] at hr; cases hr
        | some p => rw [hg] at hr; rw [ih _ _ _ _ hg]; exact hr
    | codeD F =>
      simp only at hr ⊢
      obtain ⟨hl, hr⟩ := ite_some' hr
      rw [if_pos hl]
      cases hg : xgo P X n [.code F.body] ((slotD, .nilFunc) :: initEnv 0 args) m with
      | none => rw [hg] at hr; cases hr
      | some p =>
        rw [hg] at hr
        rw [ih _ _ _ _ hg]
        exact xfin_le (fun c e m r h => ih _ _ _ _ h) hr

theorem xgo_succ (n : Nat) : ∀ (k : List XItem) (e : Env) (m : Mem) r, xgo P X n k e m = some r → xgo P X (n + 1) k e m = some r := by
  induction n with
  | zero => intro k e m r h; simp [xgo] at h
  | succ n ih =>
    intro k e m r h
    have hC := xcall_of ih
    rw [xgo_step] at h ⊢
    cases k with
    | nil => exact h
    | cons it k =>
      cases it with
      | inBlock id => exact ih _ _ _ _ h
      | inLoop c => exact ih _ _ _ _ h
      | code c =>
        cases c with
        | skip => exact ih _ _ _ _ h
        | seq a b => exact ih _ _ _ _ h
        | block id c => exact ih _ _ _ _ h
        | loop c => exact ih _ _ _ _ h
        | ret => exact h
        | cond c a b =>
          simp only at h ⊢
          split at h
          · exact ih _ _ _ _ h
          · cases h
        | exit id =>
          simp only at h ⊢
          split at h
          · exact ih _ _ _ _ h
          · cases h
        | ops l keep =>
          simp only at h ⊢
          split at h
          · rename_i e1 m1 h1
            rw [xops_le hC _ _ _ _ h1]; exact ih _ _ _ _ h
          · cases h
        | opsr l keep =>
          simp only at h ⊢
          split at h
          · rename_i e1 m1 h1
            rw [xops_le hC _ _ _ _ h1]; exact ih _ _ _ _ h
          · cases h
        | opsd l keep =>
          simp only at h ⊢
          split at h
          · rename_i e1 m1 h1
            rw [xopsD_le hC _ _ _ _ _ h1]; exact ih _ _ _ _ h
          · cases h
        | opsc l keep =>
          simp only at h ⊢
          split at h
          · rename_i e1 m1 h1
            rw [xopsD_le hC _ _ _ _ _ h1]
            obtain ⟨hc, h⟩ := ite_some' h
            simp only [Bool.and_eq_true] at hc
            obtain ⟨q, hq⟩ := Option.isSome_iff_exists.1 hc.1
            simp only [xopsD_le hC _ _ _ _ _ hq, hc.2, Option.isSome_some, Bool.and_self, if_true]
            exact ih _ _ _ _ h
          · cases h

theorem xgo_le {n n' : Nat} (h : n ≤ n') : ∀ {k : List XItem} {e : Env} {m : Mem} {r : Env × Mem}, xgo P X n k e m = some r → xgo P X n' k e m = some r := by
  induction h with
  | refl => exact fun hr => hr
  | step _ ih => exact fun hr => xgo_succ _ _ _ _ _ (ih hr)

theorem xcall_le {n n' : Nat} (h : n ≤ n') {f : FuncId} {args : List Value} {m : Mem} {r : Value × Mem} (hr : xcall P X n f args m = some r) : xcall P X n' f args m = some r :=
  xcall_of (fun _ _ _ _ hr => xgo_le h hr) _ _ _ _ hr

/-! ## The calculus is right -/
def Runs (P : Program) (X : FuncId → Option XDecl) (k : List XItem) (e : Env) (m : Mem) (Q : Env → Mem → Prop) : Prop := ∃ n e' m', xgo P X n k e m = some (e', m') ∧ Q e' m'

theorem CLe_call {n n' : Nat} (h : n ≤ n') : CLe (xcall P X n) (xcall P X n') := fun _ _ _ _ hr => xcall_le h hr

theorem wpO_runs : ∀ (l : List XOp) (e : Env) (m : Mem) (Q : Env → Mem → Prop), wpO P X l e m Q → ∃ n e' m', xops P (xcall P X n) l e m = some (e', m') ∧ Q e' m'
  | [], e, m, Q, h => ⟨0, e, m, rfl, h⟩
  | o :: l, e, m, Q, h => by
    simp only [wpO] at h
    simp only [xops]
    cases ht : wantedX e o.guard with
    | none => rw [ht] at h; cases h
    | some t =>
      rw [ht] at h
      cases t with
      | false => exact wpO_runs l _ m Q h
      | true =>
        simp only [wpR] at h
        cases hx : xi P e m o.i with
        | none => rw [hx] at h; cases h
        | some q =>
          rw [hx] at h
          cases q with
          | val v m1 => exact wpO_runs l _ m1 Q h
          | skip m1 => exact wpO_runs l _ m1 Q h
          | call f args =>
            obtain ⟨v, m1, ⟨n1, hc⟩, h⟩ := h
            obtain ⟨n2, e', m', h1, h2⟩ := wpO_runs l _ m1 Q h
            refine ⟨n1 + n2, e', m', ?_, h2⟩
            simp only
            rw [xcall_le (Nat.le_add_right _ _) hc]
            exact xops_le (CLe_call (Nat.le_add_left _ _)) _ _ _ _ h1

theorem wpR_out {r : Option XR} {m : Mem} {K : Value → Mem → Prop} (h : wpR P X r m K) : ∃ n v m', outOf (xcall P X n) m r = some (v, m') ∧ K v m' := by
  unfold wpR at h
  cases r with
  | none => cases h
  | some q => cases q with
    | val v m1 => exact ⟨0, v, m1, rfl, h⟩
    | skip m1 => exact ⟨0, undef, m1, rfl, h⟩
    | call f args =>
      obtain ⟨v, m1, ⟨n1, hc⟩, h⟩ := h
      exact ⟨n1, v, m1, hc, h⟩

theorem wpR_quiet {i : XI} {e : Env} {m : Mem} {K : Value → Mem → Prop} (hq : quiet i = true ∨ cls i = 2) (h : wpR P X (xi P e m i) m K) : ∃ v m', xi P e m i = some (.val v m') ∧ K v m' := by
  cases hx : xi P e m i with
  | none => rw [hx] at h; cases h
  | some q =>
    rw [hx] at h
    have : ∃ v m', q = .val v m' := by
      rcases hq with hq | hq
      · obtain ⟨v, rfl⟩ := quiet_spec hq hx; exact ⟨v, m, rfl⟩
      · cases i <;> simp [cls, quiet] at hq <;> simp only [xi] at hx
        all_goals repeat' first
          | (cases hx; done)
          | (cases hx; exact ⟨_, _, rfl⟩)
          | (replace hx := bind_some' hx; obtain ⟨_, _, hx⟩ := hx)
          | (replace hx := ite_some' hx; obtain ⟨_, hx⟩ := hx)
    obtain ⟨v, m', rfl⟩ := this
    exact ⟨v, m', rfl, h⟩

theorem wpD_runs : ∀ (l : List (Nat × Nat × XOp)) (pend : List Pend) (e : Env) (m : Mem) (Q : Env → Mem → Prop), wpD P X l pend e m Q → ∃ n e' m', xopsD P (xcall P X n) l pend e m = some (e', m') ∧ Q e' m'
  | [], pend, e, m, Q, h => ⟨0, e, m, by simp only [wpD] at h; simp only [xopsD, h.1, if_true], h.2⟩
  | (j, pre, o) :: l, pend, e, m, Q, h => by
    simp only [wpD] at h
    simp only [xopsD]
    cases ht : wantedX e o.guard with
    | none => rw [ht] at h; cases h
    | some t =>
      rw [ht] at h
      cases t with
      | false =>
        simp only at h ⊢
        by_cases hc : cls o.i = 3
        · rw [if_pos hc] at h
          simp only [if_pos hc, if_pos h.1]
          exact wpD_runs l _ _ m Q h.2
        · rw [if_neg hc] at h
          simp only [if_neg hc]
          exact wpD_runs l _ _ m Q h
      | true =>
        simp only at h ⊢
        split at h
        · rename_i hc
          obtain ⟨v, m1, h1, h⟩ := wpR_quiet (.inl (cls_quiet (by omega))) h
          simp only [hc, h1]
          exact wpD_runs l _ _ m Q h
        · rename_i hc
          obtain ⟨v, m1, h1, h⟩ := wpR_quiet (.inl (cls_quiet (by omega))) h
          simp only [hc, h1]
          exact wpD_runs l _ _ m Q h
        · rename_i hc
          obtain ⟨v, m1, h1, h⟩ := wpR_quiet (.inr hc) h
          simp only [hc, h1]
          exact wpD_runs l _ _ m1 Q h
        · rename_i hc0 hc1 hc2
          have hc : cls o.i = 3 := by
            have h4 : cls o.i < 4 := by cases o.i <;> simp [cls, quiet]
            have h0 : cls o.i ≠ 0 := hc0
            have h1 : cls o.i ≠ 1 := hc1
            have h2 : cls o.i ≠ 2 := hc2
            omega
          obtain ⟨ha, h⟩ := h
          obtain ⟨n1, v, m1, h1, h⟩ := wpR_out h
          obtain ⟨n2, e', m', h2, h3⟩ := wpD_runs l _ _ m1 Q h
          refine ⟨n1 + n2, e', m', ?_, h3⟩
          simp only [hc, if_pos ha, outOf_le (CLe_call (Nat.le_add_right n1 n2)) h1]
          exact xopsD_le (CLe_call (Nat.le_add_left _ _)) _ _ _ _ _ h2

theorem Runs.ops {l : List XOp} {keep : Option (List Nat)} {k : List XItem} {e : Env} {m : Mem} {Q : Env → Mem → Prop} (h : wpO P X l e m fun e m => Runs P X k (keepOf keep e) m Q) : Runs P X (.code (.ops l keep) :: k) e m Q := by
  obtain ⟨n1, e1, m1, h1, n2, e2, m2, h2, hq⟩ := wpO_runs l e m _ h
  refine ⟨n1 + n2 + 1, e2, m2, ?_, hq⟩
  rw [xgo_step]
  simp only
  rw [xops_le (CLe_call (Nat.le_add_right _ _)) _ _ _ _ h1]
  exact xgo_le (Nat.le_add_left _ _) h2

theorem wpC_runs : ∀ (c : XCode) (e : Env) (m : Mem) (N : Env → Mem → Prop) (B : Nat → Env → Mem → Prop) (R : Env → Mem → Prop), wpC P X c e m N B R →
    ∀ (k : List XItem) (Q : Env → Mem → Prop), (∀ e m, N e m → Runs P X k e m Q) → (∀ i e m, B i e m → ∃ k', xexit i k = some k' ∧ Runs P X k' e m Q) → (∀ e m, R e m → Q e m) → Runs P X (.code c :: k) e m Q
  | .skip, e, m, N, B, R, h, k, Q, hN, hB, hR => by
    obtain ⟨n, e', m', h1, h2⟩ := hN e m h
    exact ⟨n + 1, e', m', by rw [xgo_step]; exact h1, h2⟩
  | .ops l keep, e, m, N, B, R, h, k, Q, hN, hB, hR => by
    simp only [wpC] at h
    obtain ⟨n1, e1, m1, h1, hn⟩ := wpO_runs l e m _ h
    obtain ⟨n2, e2, m2, h2, hq⟩ := hN _ _ hn
    refine ⟨n1 + n2 + 1, e2, m2, ?_, hq⟩
    rw [xgo_step]
    simp only
    rw [xops_le (CLe_call (Nat.le_add_right _ _)) _ _ _ _ h1]
    exact xgo_le (Nat.le_add_left _ _) h2
  | .opsr l keep, e, m, N, B, R, h, k, Q, hN, hB, hR => by
    simp only [wpC] at h
    obtain ⟨n1, e1, m1, h1, hn⟩ := wpO_runs l e m _ h
    obtain ⟨n2, e2, m2, h2, hq⟩ := hN _ _ hn
    refine ⟨n1 + n2 + 1, e2, m2, ?_, hq⟩
    rw [xgo_step]
    simp only
    rw [xops_le (CLe_call (Nat.le_add_right _ _)) _ _ _ _ h1]
    exact xgo_le (Nat.le_add_left _ _) h2
  | .opsd l keep, e, m, N, B, R, h, k, Q, hN, hB, hR => by
    simp only [wpC] at h
    obtain ⟨n1, e1, m1, h1, hn⟩ := wpD_runs l [] e m _ h
    obtain ⟨n2, e2, m2, h2, hq⟩ := hN _ _ hn
    refine ⟨n1 + n2 + 1, e2, m2, ?_, hq⟩
    rw [xgo_step]
    simp only
    rw [xopsD_le (CLe_call (Nat.le_add_right _ _)) _ _ _ _ _ h1]
    exact xgo_le (Nat.le_add_left _ _) h2
  | .opsc l keep, e, m, N, B, R, h, k, Q, hN, hB, hR => by simp only [wpC] at h
  | .seq a b, e, m, N, B, R, h, k, Q, hN, hB, hR => by
    simp only [wpC] at h
    obtain ⟨n, e', m', h1, h2⟩ := wpC_runs a e m _ B R h (.code b :: k) Q (fun e m hb => wpC_runs b e m N B R hb k Q hN hB hR)
      (fun i e m hb => by obtain ⟨k', h1, h2⟩ := hB i e m hb; exact ⟨k', by simpa [xexit] using h1, h2⟩) hR
    exact ⟨n + 1, e', m', by rw [xgo_step]; exact h1, h2⟩
  | .cond c a b, e, m, N, B, R, h, k, Q, hN, hB, hR => by
    simp only [wpC] at h
    split at h
    case h_2 => cases h
    rename_i t ht
    have : Runs P X (.code (bif t then a else b) :: k) e m Q := by
      cases t with
      | true => exact wpC_runs a e m N B R (h.1 rfl) k Q hN hB hR
      | false => exact wpC_runs b e m N B R (h.2 rfl) k Q hN hB hR
    obtain ⟨n, e', m', h1, h2⟩ := this
    exact ⟨n + 1, e', m', by rw [xgo_step]; simp only [ht]; exact h1, h2⟩
  | .block id c, e, m, N, B, R, h, k, Q, hN, hB, hR => by
    simp only [wpC] at h
    have hk : ∀ e m, N e m → Runs P X (.inBlock id :: k) e m Q := by
      intro e m hn
      obtain ⟨n, e', m', h1, h2⟩ := hN e m hn
      exact ⟨n + 1, e', m', by rw [xgo_step]; exact h1, h2⟩
    obtain ⟨n, e', m', h1, h2⟩ := wpC_runs c e m N _ R h (.inBlock id :: k) Q hk (fun i e m hb => by
      by_cases hi : i = id
      · simp only [if_pos hi] at hb
        exact ⟨k, by simp [xexit, hi], hN e m hb⟩
      · simp only [if_neg hi] at hb
        obtain ⟨k', h1, h2⟩ := hB i e m hb
        exact ⟨k', by simp only [xexit]; rw [if_neg (fun h => hi h.symm)]; exact h1, h2⟩) hR
    exact ⟨n + 1, e', m', by rw [xgo_step]; exact h1, h2⟩
  | .loop c, e, m, N, B, R, h, k, Q, hN, hB, hR => by
    simp only [wpC] at h
    obtain ⟨j, h⟩ := h
    have key : ∀ j e m, iter (fun N e m => wpC P X c e m N B R) j e m → Runs P X (.code c :: .inLoop c :: k) e m Q := by
      intro j
      induction j with
      | zero => intro e m h; cases h
      | succ j ih =>
        intro e m h
        refine wpC_runs c e m _ B R h (.inLoop c :: k) Q (fun e m hn => ?_) (fun i e m hb => ?_) hR
        · obtain ⟨n, e', m', h1, h2⟩ := ih e m hn
          exact ⟨n + 1, e', m', by rw [xgo_step]; exact h1, h2⟩
        · obtain ⟨k', h1, h2⟩ := hB i e m hb
          exact ⟨k', by simpa [xexit] using h1, h2⟩
    obtain ⟨n, e', m', h1, h2⟩ := key j e m h
    exact ⟨n + 1, e', m', by rw [xgo_step]; exact h1, h2⟩
  | .exit id, e, m, N, B, R, h, k, Q, hN, hB, hR => by
    simp only [wpC] at h
    obtain ⟨k', h1, n, e', m', h2, h3⟩ := hB id e m h
    exact ⟨n + 1, e', m', by rw [xgo_step]; simp only [h1]; exact h2, h3⟩
  | .ret, e, m, N, B, R, h, k, Q, hN, hB, hR => ⟨1, e, m, by rw [xgo_step], hR e m h⟩

/-- A function's call, by its code. -/
theorem call_intro {f : FuncId} {F : XFunc} {args : List Value} {m : Mem} {K : Value → Mem → Prop} (hf : X f = some (.code F)) (hl : args.length = F.nargs)
    (h : wpC P X F.body (initEnv 0 args) m (fun e m => ∃ vs, xres e m F.res = some vs ∧ K (tup vs) m) (fun _ _ _ => False) (fun e m => ∃ vs, xres e m F.res = some vs ∧ K (tup vs) m)) : wpCall P X f args m K := by
  obtain ⟨n, e', m', h1, vs, h2, h3⟩ := wpC_runs F.body _ m _ _ _ h [] (fun e m => ∃ vs, xres e m F.res = some vs ∧ K (tup vs) m)
    (fun e m hn => ⟨1, e, m, by rw [xgo_step], hn⟩) (fun i e m hb => by cases hb) (fun e m hr => hr)
  refine ⟨tup vs, m', ⟨n, ?_⟩, h3⟩
  unfold xcall
  rw [hf]
  simp only [if_pos hl, h1, h2, Option.bind_some]

/-- slices.Insert ahead of the end. -/
theorem ins_call {f : FuncId} {F : XFunc} {size : Nat} {args : List Value} {m m' : Mem} {v : Value} (hf : X f = some (.ins F size)) (h : insG size args m = some (v, m')) : CallX P X f args m v m' :=
  ⟨0, by unfold xcall; rw [hf]; simp only [h]⟩
theorem ins_intro {f : FuncId} {F : XFunc} {size : Nat} {args : List Value} {m : Mem} {K : Value → Mem → Prop} (hf : X f = some (.ins F size)) (hg : insG size args m = none) (hl : args.length = F.nargs)
    (h : wpC P X F.body (initEnv 0 args) m (fun e m => ∃ vs, xres e m F.res = some vs ∧ K (tup vs) m) (fun _ _ _ => False) (fun e m => ∃ vs, xres e m F.res = some vs ∧ K (tup vs) m)) : wpCall P X f args m K := by
  obtain ⟨n, e', m', h1, vs, h2, h3⟩ := wpC_runs F.body _ m _ _ _ h [] (fun e m => ∃ vs, xres e m F.res = some vs ∧ K (tup vs) m)
    (fun e m hn => ⟨1, e, m, by rw [xgo_step], hn⟩) (fun i e m hb => by cases hb) (fun e m hr => hr)
  refine ⟨tup vs, m', ⟨n, ?_⟩, h3⟩
  unfold xcall
  rw [hf]
  simp only [hg, if_pos hl, h1, h2, Option.bind_some]

/-! ## Weaker is enough -/
theorem wpR_mono {r : Option XR} {m : Mem} {K K' : Value → Mem → Prop} (hk : ∀ v m, K v m → K' v m) (h : wpR P X r m K) : wpR P X r m K' := by
  unfold wpR at h ⊢
  cases r with
  | none => exact h
  | some q => cases q with
    | val v m1 => exact hk _ _ h
    | skip m1 => exact hk _ _ h
    | call f args => obtain ⟨v, m1, h1, h2⟩ := h; exact ⟨v, m1, h1, hk _ _ h2⟩

theorem wpO_mono : ∀ (l : List XOp) {e : Env} {m : Mem} {Q Q' : Env → Mem → Prop}, (∀ e m, Q e m → Q' e m) → wpO P X l e m Q → wpO P X l e m Q'
  | [], e, m, Q, Q', hq, h => hq _ _ h
  | o :: l, e, m, Q, Q', hq, h => by
    simp only [wpO] at h ⊢
    cases ht : wantedX e o.guard with
    | none => rw [ht] at h; exact h
    | some t =>
      rw [ht] at h
      cases t with
      | false => exact wpO_mono l hq h
      | true => exact wpR_mono (fun v m h => wpO_mono l hq h) h

theorem wpD_mono : ∀ (l : List (Nat × Nat × XOp)) {pend : List Pend} {e : Env} {m : Mem} {Q Q' : Env → Mem → Prop}, (∀ e m, Q e m → Q' e m) → wpD P X l pend e m Q → wpD P X l pend e m Q'
  | [], pend, e, m, Q, Q', hq, h => ⟨h.1, hq _ _ h.2⟩
  | (j, pre, o) :: l, pend, e, m, Q, Q', hq, h => by
    simp only [wpD] at h ⊢
    cases ht : wantedX e o.guard with
    | none => rw [ht] at h; exact h
    | some t =>
      rw [ht] at h
      cases t with
      | false =>
        simp only at h ⊢
        split
        · rename_i hc
          rw [if_pos hc] at h
          exact ⟨h.1, wpD_mono l hq h.2⟩
        · rename_i hc
          rw [if_neg hc] at h
          exact wpD_mono l hq h
      | true =>
        simp only at h ⊢
        split at h
        · exact wpR_mono (fun v m h => wpD_mono l hq h) h
        · exact wpR_mono (fun v m h => wpD_mono l hq h) h
        · exact wpR_mono (fun v m h => wpD_mono l hq h) h
        · exact ⟨h.1, wpR_mono (fun v m h => wpD_mono l hq h) h.2⟩

theorem wpC_mono : ∀ (c : XCode) {e : Env} {m : Mem} {N N' : Env → Mem → Prop} {B B' : Nat → Env → Mem → Prop} {R R' : Env → Mem → Prop}, (∀ e m, N e m → N' e m) → (∀ i e m, B i e m → B' i e m) → (∀ e m, R e m → R' e m) →
    wpC P X c e m N B R → wpC P X c e m N' B' R'
  | .skip, e, m, N, N', B, B', R, R', hN, hB, hR, h => hN _ _ h
  | .ops l keep, e, m, N, N', B, B', R, R', hN, hB, hR, h => wpO_mono l (fun e m h => hN _ _ h) h
  | .opsr l keep, e, m, N, N', B, B', R, R', hN, hB, hR, h => wpO_mono l (fun e m h => hN _ _ h) h
  | .opsd l keep, e, m, N, N', B, B', R, R', hN, hB, hR, h => wpD_mono l (fun e m h => hN _ _ h) h
  | .opsc l keep, e, m, N, N', B, B', R, R', hN, hB, hR, h => by simp only [wpC] at h
  | .seq a b, e, m, N, N', B, B', R, R', hN, hB, hR, h => wpC_mono a (fun e m h => wpC_mono b hN hB hR h) hB hR h
  | .cond c a b, e, m, N, N', B, B', R, R', hN, hB, hR, h => by
    simp only [wpC] at h ⊢
    split at h
    · exact ⟨fun ht => wpC_mono a hN hB hR (h.1 ht), fun ht => wpC_mono b hN hB hR (h.2 ht)⟩
    · exact h
  | .block id c, e, m, N, N', B, B', R, R', hN, hB, hR, h => by
    refine wpC_mono c hN (fun i e m h => ?_) hR h
    by_cases hi : i = id
    · simp only [if_pos hi] at h ⊢; exact hN _ _ h
    · simp only [if_neg hi] at h ⊢; exact hB _ _ _ h
  | .loop c, e, m, N, N', B, B', R, R', hN, hB, hR, h => by
    simp only [wpC] at h ⊢
    obtain ⟨j, h⟩ := h
    refine ⟨j, ?_⟩
    induction j generalizing e m with
    | zero => exact h
    | succ j ih => exact wpC_mono c (fun e m h => ih e m h) hB hR h
  | .exit id, e, m, N, N', B, B', R, R', hN, hB, hR, h => hB _ _ _ h
  | .ret, e, m, N, N', B, B', R, R', hN, hB, hR, h => hR _ _ h

/-- A loop whose measure falls. -/
theorem loop_intro {c : XCode} {e : Env} {m : Mem} {N : Env → Mem → Prop} {B : Nat → Env → Mem → Prop} {R : Env → Mem → Prop} (inv : Nat → Env → Mem → Prop) (j : Nat) (h0 : inv j e m)
    (hs : ∀ j e m, inv j e m → wpC P X c e m (fun e m => ∃ j', j' < j ∧ inv j' e m) B R) : wpC P X (.loop c) e m N B R := by
  simp only [wpC]
  have key : ∀ j e m, inv j e m → ∀ i, j < i → iter (fun N e m => wpC P X c e m N B R) i e m := by
    intro j
    induction j using Nat.strongRecOn with
    | _ j ih =>
      intro e m h i hi
      cases i with
      | zero => omega
      | succ i => exact wpC_mono c (fun e m ⟨j', h1, h2⟩ => ih j' h1 e m h2 i (by omega)) (fun _ _ _ h => h) (fun _ _ h => h) (hs j e m h)
  exact ⟨j + 1, key j e m h0 (j + 1) (Nat.lt_succ_self j)⟩

theorem wpCall_mono {f : FuncId} {args : List Value} {m : Mem} {K K' : Value → Mem → Prop} (hk : ∀ v m, K v m → K' v m) (h : wpCall P X f args m K) : wpCall P X f args m K' := by
  obtain ⟨v, m1, h1, h2⟩ := h; exact ⟨v, m1, h1, hk _ _ h2⟩
theorem CallX.wp {f : FuncId} {args : List Value} {m m' : Mem} {v : Value} {K : Value → Mem → Prop} (h : CallX P X f args m v m') (hk : K v m') : wpCall P X f args m K := ⟨v, m', h, hk⟩

/-- A call answers once. -/
theorem CallX.eq {f : FuncId} {args : List Value} {m m1 m2 : Mem} {v1 v2 : Value} (h1 : CallX P X f args m v1 m1) (h2 : CallX P X f args m v2 m2) : v1 = v2 ∧ m1 = m2 := by
  obtain ⟨n1, h1⟩ := h1
  obtain ⟨n2, h2⟩ := h2
  have h3 := xcall_le (Nat.le_add_right n1 n2) h1
  have h4 := xcall_le (Nat.le_add_left n2 n1) h2
  rw [h3] at h4
  cases h4
  exact ⟨rfl, rfl⟩
theorem CallX.iff {f : FuncId} {args : List Value} {m m' : Mem} {v : Value} (h : CallX P X f args m v m') (K : Value → Mem → Prop) : wpCall P X f args m K = K v m' := by
  apply propext
  constructor
  · rintro ⟨v1, m1, h1, h2⟩
    obtain ⟨rfl, rfl⟩ := h.eq h1
    exact h2
  · intro hk; exact h.wp hk
theorem callX_of {f : FuncId} {args : List Value} {m m' : Mem} {v : Value} (h : wpCall P X f args m fun v1 m1 => v1 = v ∧ m1 = m') : CallX P X f args m v m' := by
  obtain ⟨v1, m1, h1, rfl, rfl⟩ := h; exact h1

section
variable {e : Env} {m : Mem} {N : Env → Mem → Prop} {B : Nat → Env → Mem → Prop} {R : Env → Mem → Prop}
theorem wpC_skip : wpC P X .skip e m N B R = N e m := (rfl)
theorem wpC_ops {l : List XOp} {keep : Option (List Nat)} : wpC P X (.ops l keep) e m N B R = wpO P X l e m fun e m => N (keepOf keep e) m := (rfl)
theorem wpC_opsr {l : List XOp} {keep : Option (List Nat)} : wpC P X (.opsr l keep) e m N B R = wpO P X l e m fun e m => N (keepOf keep e) m := (rfl)
theorem wpC_opsd {l : List (Nat × Nat × XOp)} {keep : Option (List Nat)} : wpC P X (.opsd l keep) e m N B R = wpD P X l [] e m fun e m => N (keepOf keep e) m := (rfl)
theorem wpC_seq {a b : XCode} : wpC P X (.seq a b) e m N B R = wpC P X a e m (fun e m => wpC P X b e m N B R) B R := (rfl)
theorem wpC_block {id : Nat} {c : XCode} : wpC P X (.block id c) e m N B R = wpC P X c e m N (fun i => if i = id then N else B i) R := (rfl)
theorem wpC_exit {id : Nat} : wpC P X (.exit id) e m N B R = B id e m := (rfl)
theorem wpC_ret : wpC P X .ret e m N B R = R e m := (rfl)
def condW (v : Option Value) (p q : Prop) : Prop :=
  match v with
  | some (.bool t) => (t = true → p) ∧ (t = false → q)
  | _ => False
theorem wpC_cond {c : Arg} {a b : XCode} : wpC P X (.cond c a b) e m N B R = condW (c.ev e) (wpC P X a e m N B R) (wpC P X b e m N B R) := by
  simp only [wpC, condW]
theorem condW_bool {t : Bool} {p q : Prop} : condW (some (.bool t)) p q = ((t = true → p) ∧ (t = false → q)) := (rfl)
theorem wpO_nil {Q : Env → Mem → Prop} : wpO P X [] e m Q = Q e m := (rfl)
def guardW (g : Option Bool) (p q : Prop) : Prop :=
  match g with
  | none => False
  | some false => q
  | some true => p
theorem wpO_cons {o : XOp} {os : List XOp} {Q : Env → Mem → Prop} : wpO P X (o :: os) e m Q = guardW (wantedX e o.guard) (wpR P X (xi P e m o.i) m fun v m' => wpO P X os (put o.dst v e) m' Q) (wpO P X os (put o.dst undef e) m Q) := by
  simp only [wpO, guardW]
theorem guardW_true {p q : Prop} : guardW (some true) p q = p := (rfl)
theorem guardW_false {p q : Prop} : guardW (some false) p q = q := (rfl)
theorem guardW_some {t : Bool} {p q : Prop} : guardW (some t) p q = ((t = true → p) ∧ (t = false → q)) := by cases t <;> simp [guardW]
theorem wpR_val {v : Value} {m' : Mem} {K : Value → Mem → Prop} : wpR P X (some (.val v m')) m K = K v m' := (rfl)
theorem wpR_skip {m' : Mem} {K : Value → Mem → Prop} : wpR P X (some (.skip m')) m K = K undef m' := (rfl)
theorem wpR_call {f : FuncId} {args : List Value} {K : Value → Mem → Prop} : wpR P X (some (.call f args)) m K = wpCall P X f args m K := (rfl)
theorem look_hit {k : Nat} {v : Value} {r : Env} : look ((k, v) :: r) k = some v := by simp [look]
end

end
end Go.Proofs.YtnlmnejellipdaaGreat.X
