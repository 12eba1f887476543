/-
  Own work. Deferred calls of functions that only ask whether something panicked: where nothing did they do nothing.
-/
import Derived.Test.YtnlmnejellipdaaGreatXOrd5
import Derived.Recover
namespace Go.Proofs.YtnlmnejellipdaaGreat.X
open Go
set_option linter.unusedVariables false
set_option linter.unusedSimpArgs false

section
variable {P : Program} {N : Nat} {e e' : Env} {a : Act} {w : World} {cs : List Frame}

/-- Slots that hold what is told. -/
structure QRel (N : Nat) (e : Env) (ds : List Deferred) (a : Act) : Prop where
  size : N ≤ a.tmps.size
  defers : a.defers = ds
  slot : ∀ s v, look e s = some v → a.tmps[s]? = some v
theorem QRel.put {ds : List Deferred} {d : Nat} {v : Value} (h : QRel N e ds a) (hd : d < N) : QRel N ((d, v) :: e) ds (a.put (some d) v) := by
  have hs := h.size
  refine ⟨by simpa [Act.put] using h.size, h.defers, fun s u hu => ?_⟩
  simp only [look] at hu
  simp only [Act.put]
  by_cases hds : d = s
  · rw [if_pos hds] at hu
    cases hu
    subst hds
    rw [Array.getElem?_setIfInBounds_self_of_lt (by omega)]
  · rw [if_neg hds] at hu
    rw [Array.getElem?_setIfInBounds_ne hds]
    exact h.slot s u hu

abbrev QPost (N : Nat) (e' : Env) (ds : List Deferred) (cs : List Frame) (w : World) : Exit → Act → List Frame → World → Prop := fun ex a' cs' w' => ex = .normal ∧ cs' = cs ∧ w' = w ∧ QRel N e' ds a'

theorem qop_spec {o : Oper} (h : qop P N o e = some e') {ds : List Deferred} (hE : QRel N e ds a) (hcs : recoverD cs = none) {ops : Array Oper} {i : Nat} (ho : ops[i]? = some o) {rest : List Nat} {Q : Exit → Act → List Frame → World → Prop}
    (hk : ∀ a', QRel N e' ds a' → wpOpsS P ops Q rest a' cs w) : wpOpsS P ops Q (i :: rest) a cs w := by
  unfold qop at h
  split at h
  · cases h
  rename_i hg
  have hg' : o.guard = none := by simpa using hg
  split at h
  · cases h
  rename_i d hd
  split at h
  · cases h
  rename_i hlt
  have hdN : d < N := Nat.lt_of_not_le hlt
  have hw : Region.wanted o (yielded ops a.tmps) = true := by simp [Region.wanted, hg']
  simp only [wpOpsS, ho]
  rw [if_pos hw]
  have hval : ∀ v, (execOp a.eval o).run P w = .ok (.value v) w → QRel N e' ds (a.put (some d) v) → (match (execOp a.eval o).run P w with
      | .ok .recover w' => (match recoverD cs with
          | some (v, cs') => wpOpsS P ops Q rest (a.put o.dst v) cs' w'
          | none => wpOpsS P ops Q rest (a.put o.dst .nilIface) cs w')
      | r => o.upon P a (fun a' w' => wpOpsS P ops Q rest a' cs w') (fun e a' w' => Q e a' cs w') r) := by
    intro v hv hq
    rw [hv]
    show wpOpsS P ops Q rest (a.put o.dst v) cs w
    rw [hd]
    exact hk _ hq
  split at h
  · -- recover
    rename_i c hop
    split at h
    case h_2 => cases h
    rename_i hcb
    obtain ⟨hargs, h⟩ := ite_some' h
    cases h
    have hrun : (execOp a.eval o).run P w = .ok .recover w := by
      rw [exec_builtin hop hcb]
      rfl
    rw [hrun]
    show (match recoverD cs with
          | some (v, cs') => wpOpsS P ops Q rest (a.put o.dst v) cs' w
          | none => wpOpsS P ops Q rest (a.put o.dst .nilIface) cs w)
    rw [hcs, hd]
    exact hk _ (hE.put hdN)
  · rename_i t hop
    split at h
    case h_2 => cases h
    rename_i hl
    cases h
    have hev : a.eval (.tmp t) = .nilIface := by simp [Act.eval, hE.slot t _ hl]
    exact hval .nilIface (by simp only [execOp, hop, hev]; rfl) (hE.put hdN)
  · rename_i t hop
    split at h
    case h_2 => cases h
    rename_i hl
    cases h
    have hev : a.eval (.tmp t) = .nilIface := by simp [Act.eval, hE.slot t _ hl]
    exact hval .nilIface (by simp only [execOp, hop, hev]; rfl) (hE.put hdN)
  · rename_i op ty t yt hop
    split at h
    case h_2 => cases h
    rename_i ms hu hl
    have hev : a.eval (.tmp t) = .nilIface := by simp [Act.eval, hE.slot t _ hl]
    have hev2 : a.eval (.const .nilIface) = .nilIface := rfl
    have he' : (Op.equal ty .nilIface .nilIface).run P w = .ok true w := eq_iface_nil 9999 hu w
    split at h
    · cases h
      refine hval (.bool true) ?_ (hE.put hdN)
      simp only [execOp, hop, hev, hev2]
      refine run_v ?_
      rw [Sem.run_bind, run_eqGuard_nil, Result.andThen_ok]
      simp [binOp, he']
    · cases h
      refine hval (.bool false) ?_ (hE.put hdN)
      simp only [execOp, hop, hev, hev2]
      refine run_v ?_
      rw [Sem.run_bind, run_eqGuard_nil, Result.andThen_ok]
      simp [binOp, he']
    · cases h
  · cases h

theorem qops_spec {ops : Array Oper} {ds : List Deferred} (hcs : recoverD cs = none) : ∀ (l : List Oper) (i : Nat) (e e' : Env) (a : Act), (∀ j, l[j]? = ops[i + j]?) → qops P N l e = some e' → QRel N e ds a → wpOpsS P ops (QPost N e' ds cs w) (List.range' i l.length) a cs w
  | [], i, e, e', a, hl, h, hE => by
    simp only [qops, Option.some.injEq] at h
    subst h
    exact ⟨rfl, rfl, rfl, hE⟩
  | o :: l, i, e, e', a, hl, h, hE => by
    simp only [qops] at h
    obtain ⟨e1, h1, h2⟩ := bind_some' h
    have ho : ops[i]? = some o := by have := hl 0; simpa using this.symm
    have hl' : ∀ j, l[j]? = ops[i + 1 + j]? := fun j => by have := hl (j + 1); rw [show i + 1 + j = i + (j + 1) by omega, ← this]; simp
    simp only [List.length_cons, List.range'_succ]
    exact qop_spec h1 hE hcs ho fun a' hE' => qops_spec hcs l (i + 1) e1 e' a' hl' h2 hE'

theorem wpS_mono {c : Code} {Q Q' : Exit → Act → List Frame → World → Prop} (h : c.wpS P Q a cs w) (hm : ∀ e a cs w, Q e a cs w → Q' e a cs w) : c.wpS P Q' a cs w :=
  fun b k hb hr => let ⟨e, a', cs', w', q, r⟩ := h b k hb hr; ⟨e, a', cs', w', hm _ _ _ _ q, r⟩
theorem wpS_block {id : Nat} {c : Code} {Q : Act → List Frame → World → Prop} (h : c.wpS P (fun ex a' cs' w' => ex = .normal ∧ Q a' cs' w') a cs w) : (Code.block id c).wpS P (fun ex a' cs' w' => ex = .normal ∧ Q a' cs' w') a cs w := by
  intro b k hb hr
  obtain ⟨e, a1, cs1, w1, ⟨rfl, hq⟩, harr⟩ := h b (.inBlock id :: k) hb hr
  exact ⟨.normal, a1, cs1, w1, ⟨rfl, hq⟩, .head step_block (Steps.trans harr (.one step_inBlock))⟩

theorem qcode_spec {ds : List Deferred} (hcs : recoverD cs = none) : ∀ (c : Code) (e e' : Env) (a : Act), qcode P N c e = some e' → QRel N e ds a → c.wpS P (QPost N e' ds cs w) a cs w
  | .skip, e, e', a, h, hE => by
    simp only [qcode, Option.some.injEq] at h
    subst h
    exact wpS_of_wp (wp_skip ⟨rfl, rfl, rfl, hE⟩)
  | .region id ops draw, e, e', a, h, hE => by
    cases draw with
    | true => simp [qcode] at h
    | false =>
      simp only [qcode] at h
      refine wpS_region ?_
      have := qops_spec (P := P) (N := N) (w := w) (ops := ops) hcs ops.toList 0 e e' a (fun j => by simp) h hE
      rw [List.range_eq_range']
      simpa using this
  | .seq x y, e, e', a, h, hE => by
    simp only [qcode] at h
    obtain ⟨e1, h1, h2⟩ := bind_some' h
    refine wpS_seq (wpS_mono (qcode_spec hcs x e e1 a h1 hE) ?_)
    rintro ex a1 cs1 w1 ⟨rfl, q1, q2, hE1⟩
    rw [q1, q2]
    exact qcode_spec hcs y e1 e' a1 h2 hE1
  | .block id c, e, e', a, h, hE => by
    simp only [qcode] at h
    exact wpS_block (qcode_spec hcs c e e' a h hE)
  | .cond c x y, e, e', a, h, hE => by
    cases c with
    | tmp t =>
      simp only [qcode] at h
      split at h
      · rename_i hl
        exact wpS_cond (t := true) (by simp [Act.eval, hE.slot t _ hl]) (qcode_spec hcs x e e' a h hE)
      · rename_i hl
        exact wpS_cond (t := false) (by simp [Act.eval, hE.slot t _ hl]) (qcode_spec hcs y e e' a h hE)
      · cases h
    | _ => simp [qcode] at h
  | .loop _, _, _, _, h, _ => by simp [qcode] at h
  | .exit _, _, _, _, h, _ => by simp [qcode] at h
  | .ret, _, _, _, h, _ => by simp [qcode] at h
  | .scope _, _, _, _, h, _ => by simp [qcode] at h
  | .label _, _, _, _, h, _ => by simp [qcode] at h
  | .goto _, _, _, _, h, _ => by simp [qcode] at h
  | .refuse _, _, _, _, h, _ => by simp [qcode] at h
  | .rangeFunc _ _ _ _, _, _, _, h, _ => by simp [qcode] at h

/-- Such a call does nothing. -/
theorem caught_calls {f : FuncId} {args : Array Value} (h : caughtB P f = true) : (invoke (.fn (.func f) #[]) args).run P w = .ok (.enter f args) w ∧ CallsD P f args .returning w fun e u' w' => (∃ v, e = .returned v) ∧ u' = .returning ∧ w' = w := by
  unfold caughtB at h
  split at h
  case h_2 => cases h
  rename_i fn hf
  split at h
  case h_2 => cases h
  rename_i c hb
  simp only [Bool.and_eq_true, Bool.not_eq_true'] at h
  obtain ⟨⟨hres, hn⟩, hq⟩ := h
  obtain ⟨e', hq⟩ := Option.isSome_iff_exists.1 hq
  have hres' : fn.results = #[] := by simpa using hres
  refine ⟨?_, ?_⟩
  · have := callFunc_enter (w := w) hf hn hb args
    simpa [invoke] using this
  · refine callsD_of_wpS hf hb fun c₀ cs hu => ?_
    refine wpS_mono (qcode_spec (ds := []) ?_ c [] e' _ hq ⟨?_, rfl, fun s v hs => by simp [look] at hs⟩) ?_
    · simp [recoverD, hu]
    · simp; omega
    · rintro ex a1 cs1 w1 ⟨rfl, rfl, rfl, hE1⟩
      refine ⟨hE1.defers, .returning, by rw [← hu], .tuple #[], ?_, ⟨_, rfl⟩, rfl, rfl⟩
      simp [results, hres']

theorem frame_ret (fr : Frame) (ds : List Deferred) (hm : fr.mode = .returning) :
    ({ { { fr with defers := ds } with mode := FrameMode.returning } with mode := settle FrameMode.returning } : Frame) = { fr with defers := ds } := by
  cases fr
  simp only at hm
  subst hm
  rfl
/-- What is deferred does nothing at the end. -/
theorem quiet_steps {cs : List Frame} : ∀ (ds rest : List Deferred) (fr : Frame), fr.mode = .returning → fr.defers = ds ++ rest → (∀ d ∈ ds, QuietD P d) → Steps P (lone fr cs w) (lone { fr with defers := rest } cs w)
  | [], rest, fr, hm, hd, hq => by
    have : ({ fr with defers := rest } : Frame) = fr := by cases fr; simp at hd; simp [hd]
    rw [this]
    exact Steps.refl P _
  | d :: ds, rest, fr, hm, hd, hq => by
    obtain ⟨f, ht, hc⟩ := hq d (by simp)
    obtain ⟨h1, h2⟩ := caught_calls (w := w) (args := d.args) hc
    have s1 := step_defer (P := P) (fr := fr) (cs := cs) (w := w) (d := d) (ds := ds ++ rest) (by rw [hm]; simp) hd ht (by rw [ht]; exact h1)
    obtain ⟨e, u', w', frX, ⟨⟨v, he⟩, hu, hw⟩, hsteps, hk, hgo⟩ := h2 { fr with defers := ds ++ rest } cs hm
    rw [he, hu, hw] at hsteps
    rw [he, hw] at hgo
    have s2 := step_going_returned (cs := cs) (c := { { fr with defers := ds ++ rest } with mode := .returning }) hk hgo
    rw [frame_ret fr (ds ++ rest) hm] at s2
    have ih := quiet_steps (cs := cs) ds rest { fr with defers := ds ++ rest } hm rfl (fun x hx => hq x (by simp [hx]))
    exact Steps.trans (.head s1 (Steps.trans hsteps (.one s2))) ih
end
end Go.Proofs.YtnlmnejellipdaaGreat.X
