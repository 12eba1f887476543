/-
  Own work. Regions of operations in a drawn order: reads that no effect parts from where they are checked need no second look.
-/
import Derived.Test.YtnlmnejellipdaaGreatXLem
namespace Go.Proofs.YtnlmnejellipdaaGreat.X
open Go
set_option linter.unusedVariables false
set_option linter.unusedSimpArgs false

section
variable (P : Program) (X : FuncId → Option XDecl)

/-- As wpD; 'S': the places of the reads since the last effect. -/
def wpF : List (Nat × Nat × XOp) → Nat → Env → Mem → (Env → Mem → Prop) → Prop
  | [], _, e, m, Q => Q e m
  | (j, pre, o) :: os, S, e, m, Q => match wantedX e o.guard with
    | none => False
    | some false =>
      if cls o.i = 3 then pre &&& S = S ∧ wpF os 0 (put o.dst undef e) m Q
      else wpF os S (put o.dst undef e) m Q
    | some true => match cls o.i with
      | 0 => wpR P X (xi P e m o.i) m fun v _ => wpF os S (put o.dst v e) m Q
      | 1 => wpR P X (xi P e m o.i) m fun v _ => veq v v = true ∧ wpF os (S ||| 1 <<< j) (put o.dst v e) m Q
      | 2 => S = 0 ∧ wpR P X (xi P e m o.i) m fun v m' => wpF os S (put o.dst v e) m' Q
      | _ => pre &&& S = S ∧ wpR P X (xi P e m o.i) m fun v m' => wpF os 0 (put o.dst v e) m' Q
end

section
variable {P : Program} {X : FuncId → Option XDecl}

theorem filter_none {S pre : Nat} {pend : List Pend} (h : pre &&& S = S) (hp : ∀ p ∈ pend, S.testBit p.j = true) : (pend.filter fun p => !pre.testBit p.j) = [] := by
  rw [List.filter_eq_nil_iff]
  intro p hm
  have h1 := hp p hm
  rw [← h, Nat.testBit_and, Bool.and_eq_true] at h1
  simp [h1.1]

theorem wpF_wpD : ∀ (l : List (Nat × Nat × XOp)) {S : Nat} {pend : List Pend} {e : Env} {m : Mem} {Q : Env → Mem → Prop}, wpF P X l S e m Q → again P m pend = true → (∀ p ∈ pend, S.testBit p.j = true) → wpD P X l pend e m Q
  | [], S, pend, e, m, Q, h, ha, hp => ⟨ha, h⟩
  | (j, pre, o) :: l, S, pend, e, m, Q, h, ha, hp => by
    simp only [wpF] at h
    simp only [wpD]
    cases ht : wantedX e o.guard with
    | none => rw [ht] at h; exact h
    | some t =>
      rw [ht] at h
      cases t with
      | false =>
        simp only at h ⊢
        split
        · rename_i hc
          rw [if_pos hc] at h
          refine ⟨ha, ?_⟩
          rw [filter_none h.1 hp]
          exact wpF_wpD l h.2 rfl (fun p hm => by cases hm)
        · rename_i hc
          rw [if_neg hc] at h
          exact wpF_wpD l h ha hp
      | true =>
        simp only at h ⊢
        generalize hc : cls o.i = c at h ⊢
        rcases c with _ | _ | _ | c
        · exact wpR_mono (fun v m' h => wpF_wpD l h ha hp) h
        · have hq := wpR_quiet (.inl (cls_quiet (by omega))) h
          obtain ⟨v, m1, h1, h2, h3⟩ := hq
          rw [h1]
          refine wpF_wpD l h3 ?_ ?_
          · rw [again_cons, h1, againE_val, h2, ha]; rfl
          · intro p hm
            rw [Nat.testBit_or]
            rcases List.mem_cons.1 hm with rfl | hm
            · simp [Nat.testBit_shiftLeft]
            · rw [hp p hm]; rfl
        · obtain ⟨h0, h⟩ := h
          subst h0
          have : pend = [] := by
            cases pend with
            | nil => rfl
            | cons p r => have := hp p (by simp); simp at this
          subst this
          exact wpR_mono (fun v m' h => wpF_wpD l h rfl (fun p hm => nomatch hm)) h
        · refine ⟨ha, ?_⟩
          have h1 := h.1
          refine wpR_mono (fun v m' h' => ?_) h.2
          rw [filter_none h1 hp]
          exact wpF_wpD l h' rfl (fun p hm => nomatch hm)
end

section
variable (P : Program) (X : FuncId → Option XDecl)
def GoF (l : List (Nat × Nat × XOp)) (S : Nat) (keep : Option (List Nat)) (k : List XItem) (e : Env) (m : Mem) (Q N : Post) (B : Nat → Post) : Prop := wpF P X l S e m fun e m => Go' P X k (keepOf keep e) m Q N B
def GoFV (c : Nat) (r : Option XR) (j pre : Nat) (d : Option Nat) (l : List (Nat × Nat × XOp)) (S : Nat) (keep : Option (List Nat)) (k : List XItem) (e : Env) (m : Mem) (Q N : Post) (B : Nat → Post) : Prop :=
  match c with
  | 0 => wpR P X r m fun v _ => GoF P X l S keep k (put d v e) m Q N B
  | 1 => wpR P X r m fun v _ => veq v v = true ∧ GoF P X l (S ||| 1 <<< j) keep k (put d v e) m Q N B
  | 2 => S = 0 ∧ wpR P X r m fun v m' => GoF P X l S keep k (put d v e) m' Q N B
  | _ => pre &&& S = S ∧ wpR P X r m fun v m' => GoF P X l 0 keep k (put d v e) m' Q N B
def GoFG (g : Option Bool) (j pre : Nat) (i : XI) (d : Option Nat) (l : List (Nat × Nat × XOp)) (S : Nat) (keep : Option (List Nat)) (k : List XItem) (e : Env) (m : Mem) (Q N : Post) (B : Nat → Post) : Prop :=
  match g with
  | none => False
  | some true => GoFV P X (cls i) (xi P e m i) j pre d l S keep k e m Q N B
  | some false => if cls i = 3 then pre &&& S = S ∧ GoF P X l 0 keep k (put d undef e) m Q N B else GoF P X l S keep k (put d undef e) m Q N B
end

section
variable {P : Program} {X : FuncId → Option XDecl} {e : Env} {m m' : Mem} {k : List XItem} {Q N : Post} {B : Nat → Post} {keep : Option (List Nat)} {j pre c S : Nat} {d : Option Nat} {i : XI} {l : List (Nat × Nat × XOp)} {v : Value}
theorem goF_of (h : GoF P X l 0 keep k e m Q N B) : Go' P X (.code (.opsd l keep) :: k) e m Q N B := wpF_wpD l h rfl (fun p hm => by cases hm)
theorem goF_nil : GoF P X [] S keep k e m Q N B = Go' P X k (keepOf keep e) m Q N B := (rfl)
theorem goF_cons : GoF P X ((j, pre, ⟨d, none, i⟩) :: l) S keep k e m Q N B = GoFV P X (cls i) (xi P e m i) j pre d l S keep k e m Q N B := by
  show wpF P X _ _ e m _ = _
  simp only [wpF, wantedX]
  unfold GoFV GoF
  generalize cls i = c
  rcases c with _ | _ | _ | c <;> rfl
theorem goF_guard {s : Nat} {w : Bool} : GoF P X ((j, pre, ⟨d, some (s, w), i⟩) :: l) S keep k e m Q N B = GoFG P X (wantedX e (some (s, w))) j pre i d l S keep k e m Q N B := by
  show wpF P X _ _ e m _ = _
  simp only [wpF]
  unfold GoFG
  cases wantedX e (some (s, w)) with
  | none => rfl
  | some t =>
    cases t with
    | false => rfl
    | true =>
      show _ = GoFV P X (cls i) (xi P e m i) j pre d l S keep k e m Q N B
      unfold GoFV GoF
      generalize cls i = c
      rcases c with _ | _ | _ | c <;> rfl
theorem goFG_true : GoFG P X (some true) j pre i d l S keep k e m Q N B = GoFV P X (cls i) (xi P e m i) j pre d l S keep k e m Q N B := (rfl)
theorem goFG_false : GoFG P X (some false) j pre i d l S keep k e m Q N B = if cls i = 3 then pre &&& S = S ∧ GoF P X l 0 keep k (put d undef e) m Q N B else GoF P X l S keep k (put d undef e) m Q N B := (rfl)
theorem goFV0 : GoFV P X 0 (some (.val v m')) j pre d l S keep k e m Q N B = GoF P X l S keep k (put d v e) m Q N B := (rfl)
theorem goFV1 : GoFV P X 1 (some (.val v m')) j pre d l S keep k e m Q N B = (veq v v = true ∧ GoF P X l (S ||| 1 <<< j) keep k (put d v e) m Q N B) := (rfl)
theorem goFV2 : GoFV P X 2 (some (.val v m')) j pre d l S keep k e m Q N B = (S = 0 ∧ GoF P X l S keep k (put d v e) m' Q N B) := (rfl)
theorem goFV3 : GoFV P X 3 (some (.val v m')) j pre d l S keep k e m Q N B = (pre &&& S = S ∧ GoF P X l 0 keep k (put d v e) m' Q N B) := (rfl)
theorem goFV3s : GoFV P X 3 (some (.skip m')) j pre d l S keep k e m Q N B = (pre &&& S = S ∧ GoF P X l 0 keep k (put d undef e) m' Q N B) := (rfl)
theorem goFV3c {f : FuncId} {args : List Value} (h : CallX P X f args m v m') : GoFV P X 3 (some (.call f args)) j pre d l S keep k e m Q N B = (pre &&& S = S ∧ GoF P X l 0 keep k (put d v e) m' Q N B) := by
  show (_ ∧ wpCall P X f args m _) = _
  rw [h.iff]
end
end Go.Proofs.YtnlmnejellipdaaGreat.X
