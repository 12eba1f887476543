/-
  Own work. 'xcall_sound': whatever the abstract run of a function answers, every run of the model answers.
-/
import Derived.Test.YtnlmnejellipdaaGreatXSound
namespace Go.Proofs.YtnlmnejellipdaaGreat.X
open Go
set_option linter.unusedVariables false
set_option linter.unusedSimpArgs false

/-- What a call comes to. -/
def CallGood (P : Program) (ρ : Rho) (m : Mem) (w : World) (f : FuncId) (args' : Array Value) (v : Value) (m' : Mem) : Prop :=
  (∃ ρ' v' w', (callFunc f args').run P w = .ok (.value v') w' ∧ VRel ρ' v v' ∧ Step ρ m w ρ' m' w') ∨
  ((callFunc f args').run P w = .ok (.enter f args') w ∧ Calls P f args' w fun e w' => ∃ ρ' v', e = .returned v' ∧ VRel ρ' v v' ∧ Step ρ m w ρ' m' w')

def CallSound (P : Program) (C : FuncId → List Value → Mem → Option (Value × Mem)) : Prop :=
  ∀ f args m v m', C f args m = some (v, m') → ∀ ρ w args', Rel ρ m w → VsRel ρ args args'.toList → CallGood P ρ m w f args' v m'

section
variable {P : Program} {ρ : Rho} {N : Nat} {e : Env} {a : Act} {m : Mem} {w : World}

theorem ERel.put {dst : Option Nat} {v v' : Value} (hE : ERel P ρ N e a) (hd : ∀ d, dst = some d → d < N) (hv : VRel ρ v v') : ERel P ρ N (put dst v e) (a.put dst v') := by
  cases dst with
  | none => exact hE
  | some d =>
    have hdN := hd d rfl
    refine ⟨by simp [Act.put, hE.size], hE.fit, ?_⟩
    intro s u hne hs
    simp only [X.put, look] at hs
    simp only [Act.put]
    by_cases hds : d = s
    · rw [if_pos hds] at hs
      cases hs
      subst hds
      exact ⟨v', by rw [Array.getElem?_setIfInBounds_self_of_lt (by rw [hE.size]; exact hdN)], hv⟩
    · rw [if_neg hds] at hs
      obtain ⟨u', h1, h2⟩ := hE.slot s u hne hs
      exact ⟨u', by rw [Array.getElem?_setIfInBounds_ne hds]; exact h1, h2⟩

theorem look_restrict : ∀ (l : List Nat) (s : Nat) (v : Value), look (restrict e l) s = some v → look e s = some v
  | [], s, v, h => by simp [restrict, look] at h
  | k :: l, s, v, h => by
    simp only [restrict] at h
    cases hk : look e k with
    | none => rw [hk] at h; exact look_restrict l s v h
    | some u =>
      rw [hk] at h
      simp only [look] at h
      by_cases hks : k = s
      · rw [if_pos hks] at h; cases h; rw [← hks]; exact hk
      · rw [if_neg hks] at h; exact look_restrict l s v h

theorem ERel.keep {k : Option (List Nat)} (hE : ERel P ρ N e a) : ERel P ρ N (keepOf k e) a := by
  cases k with
  | none => exact hE
  | some l => exact ⟨hE.size, hE.fit, fun s v hne h => hE.slot s v hne (look_restrict l s v h)⟩

theorem xopsP_cons {ops : Array Oper} {o : Oper} {l : List Oper} {xl : List XOp} (h : xopsP P N ops (o :: l) = some xl) : ∃ x xs, xl = x :: xs ∧ xopP P N ops o = some x ∧ xopsP P N ops l = some xs := by
  simp only [xopsP] at h
  obtain ⟨x, h1, h⟩ := bind_some' h
  obtain ⟨xs, h2, h⟩ := map_some' h
  exact ⟨x, xs, h.symm, h1, h2⟩

theorem xopP_spec {ops : Array Oper} {o : Oper} {x : XOp} (h : xopP P N ops o = some x) : ∃ g, guardP ops o.guard = some g ∧ (∀ d, o.dst = some d → d < N) ∧ opP P N o = some x.i ∧ x.dst = o.dst ∧ x.guard = g := by
  simp only [xopP] at h
  obtain ⟨g, h1, h⟩ := bind_some' h
  obtain ⟨h2, h⟩ := ite_some' h
  obtain ⟨i, h3, rfl⟩ := map_some' h
  refine ⟨g, h1, ?_, h3, rfl, rfl⟩
  intro d hd
  rw [hd] at h2
  simpa using h2

def boolOf : Value → Option Bool
  | .bool b => some b
  | _ => none

theorem wanted_rel {ops : Array Oper} {o : Oper} {g : Option (Nat × Bool)} {t : Bool} (hg : guardP ops o.guard = some g) (ht : wantedX e g = some t) (hE : ERel P ρ N e a) : Region.wanted o (yielded ops a.tmps) = t := by
  unfold guardP at hg
  unfold Region.wanted
  cases hgo : o.guard with
  | none => rw [hgo] at hg; cases hg; simp only [wantedX, Option.some.injEq] at ht; exact ht
  | some p =>
    obtain ⟨j, want⟩ := p
    rw [hgo] at hg
    simp only at hg ⊢
    cases hs : (ops[j]?).bind (·.dst) with
    | none => rw [hs] at hg; cases hg
    | some s =>
      rw [hs] at hg
      simp only at hg
      split at hg
      · cases hg
      rename_i hsne
      cases hg
      simp only [wantedX] at ht
      cases hl : look e s with
      | none => rw [hl] at ht; cases ht
      | some v =>
        obtain ⟨v', h1, h2⟩ := hE.slot s v hsne hl
        rw [hl] at ht
        have hy : yielded ops a.tmps j = boolOf v' := by
          simp only [yielded, hs, Option.bind_some, h1]
          cases v' <;> rfl
        cases v with
        | bool b =>
          simp only at ht
          cases ht
          have := h2.eq rfl
          subst this
          rw [hy]
          cases b <;> cases want <;> rfl
        | tuple vs =>
          simp only at ht
          split at ht
          case isFalse => cases ht
          cases ht
          have : ∃ vs', v' = .tuple vs' := by
            cases h2 with
            | cell h => cases h with | plain h => simp [plainV] at h
            | tuple _ => exact ⟨_, rfl⟩
          obtain ⟨vs', rfl⟩ := this
          rw [hy]
          cases want <;> rfl
        | _ => cases ht

/-! ## What is deferred -/
def CloD (ρ : Rho) (v : Value) (d : Deferred) : Prop := ∃ g c c', v = .func (.func g) #[] c ∧ d.target = .fn (.func g) c' ∧ d.args = #[] ∧ VsRel ρ c.toList c'.toList
/-- 'b': the function may defer one closure; the slot 'slotD' tells it. -/
def DRel (P : Program) (ρ : Rho) (b : Bool) (N : Nat) (e : Env) (ds : List Deferred) : Prop :=
  match b with
  | false => (N ≤ slotD → look e slotD = none) ∧ ∀ d ∈ ds, QuietD P d
  | true => N ≤ slotD ∧ ∀ v, look e slotD = some v → (v = .nilFunc ∧ ∀ d ∈ ds, QuietD P d) ∨ ∃ pre d post, ds = pre ++ d :: post ∧ (∀ x ∈ pre, QuietD P x) ∧ (∀ x ∈ post, QuietD P x) ∧ CloD ρ v d
theorem VsRel.mono' {ρ ρ' : Rho} (hx : Ext ρ ρ') {l l' : List Value} (h : VsRel ρ l l') : VsRel ρ' l l' := VsRel.mono hx h
theorem DRel.mono {ρ' : Rho} {b : Bool} {ds : List Deferred} (h : DRel P ρ b N e ds) (hx : Ext ρ ρ') : DRel P ρ' b N e ds := by
  cases b with
  | false => exact h
  | true =>
    refine ⟨h.1, fun v hv => ?_⟩
    rcases h.2 v hv with h1 | ⟨pre, d, post, h1, h2, h3, g, c, c', k1, k2, k3, k4⟩
    · exact .inl h1
    · exact .inr ⟨pre, d, post, h1, h2, h3, g, c, c', k1, k2, k3, k4.mono' hx⟩
/-- What the slot tells is what counts. -/
theorem DRel.env {e' : Env} {b : Bool} {ds : List Deferred} (h : DRel P ρ b N e ds) (hs : N ≤ slotD → look e' slotD = look e slotD ∨ look e' slotD = none) : DRel P ρ b N e' ds := by
  cases b with
  | false =>
    refine ⟨fun hN => ?_, h.2⟩
    rcases hs hN with h1 | h1
    · rw [h1]; exact h.1 hN
    · exact h1
  | true =>
    refine ⟨h.1, fun v hv => ?_⟩
    rcases hs h.1 with h1 | h1
    · exact h.2 v (by rw [← h1]; exact hv)
    · rw [h1] at hv; cases hv
theorem look_put {dst : Option Nat} {v : Value} {e : Env} {s : Nat} (hd : ∀ d, dst = some d → d < s) : look (put dst v e) s = look e s := by
  cases dst with
  | none => rfl
  | some d =>
    have := hd d rfl
    simp only [X.put, look]
    rw [if_neg (by omega)]
theorem DRel.put {dst : Option Nat} {v : Value} {b : Bool} {ds : List Deferred} (h : DRel P ρ b N e ds) (hd : ∀ d, dst = some d → d < N) : DRel P ρ b N (put dst v e) ds :=
  h.env fun hN => .inl (look_put fun d h => Nat.lt_of_lt_of_le (hd d h) hN)
theorem look_keep {k : Option (List Nat)} {e : Env} {s : Nat} : look (keepOf k e) s = look e s ∨ look (keepOf k e) s = none := by
  cases k with
  | none => exact .inl rfl
  | some l =>
    cases h : look (restrict e l) s with
    | none => exact .inr h
    | some v => exact .inl (by rw [look_restrict l s v h]; exact h)
theorem DRel.keep {k : Option (List Nat)} {b : Bool} {ds : List Deferred} (h : DRel P ρ b N e ds) : DRel P ρ b N (keepOf k e) ds := h.env fun _ => look_keep
theorem DRel.quiet {b : Bool} {ds : List Deferred} {d : Deferred} (h : DRel P ρ b N e ds) (hd : QuietD P d) : DRel P ρ b N e (d :: ds) := by
  cases b with
  | false => exact ⟨h.1, fun x hx => by rcases List.mem_cons.1 hx with rfl | hx; exact hd; exact h.2 x hx⟩
  | true =>
    refine ⟨h.1, fun v hv => ?_⟩
    rcases h.2 v hv with ⟨h1, h2⟩ | ⟨pre, d', post, h1, h2, h3, h4⟩
    · exact .inl ⟨h1, fun x hx => by rcases List.mem_cons.1 hx with rfl | hx; exact hd; exact h2 x hx⟩
    · exact .inr ⟨d :: pre, d', post, by rw [h1]; rfl, fun x hx => by rcases List.mem_cons.1 hx with rfl | hx; exact hd; exact h2 x hx, h3, h4⟩

theorem dfr_sound {o : Oper} {as : List Arg} (h : opP P N o = some (.dfr as)) : ∃ d, (execOp a.eval o).run P w = .ok (.defer d) w ∧ QuietD P d := by
  unfold opP at h
  cases h0 : opP0 P N o with
  | none => rw [h0] at h; cases h
  | some j =>
    rw [h0] at h
    cases h
    have : ∃ c f, o.op = .defer c ∧ c.callee = .value (.func f) ∧ caughtB P f = true := by
      unfold opP0 at h0
      cases ho : o.op with
      | defer c =>
        rw [ho] at h0
        simp only at h0
        split at h0
        · rename_i f hcb
          obtain ⟨hc, _⟩ := ite_some' h0
          exact ⟨c, f, rfl, hcb, hc⟩
        · obtain ⟨_, h0⟩ := ite_some' h0
          obtain ⟨_, _, h0⟩ := map_some' h0
          cases h0
        · cases h0
      | call c =>
        rw [ho] at h0
        simp only [callP] at h0
        repeat' first
          | (cases h0; done)
          | (replace h0 := bind_some' h0; obtain ⟨_, _, h0⟩ := h0)
          | (replace h0 := map_some' h0; obtain ⟨_, _, h0⟩ := h0)
          | split at h0
      | convert src dst x =>
        rw [ho] at h0
        simp only at h0
        obtain ⟨_, _, h0⟩ := map_some' h0
        generalize bytesToStr P src dst = b at h0
        cases b <;> cases h0
      | _ =>
        rw [ho] at h0
        simp only at h0
        repeat' first
          | (cases h0; done)
          | (replace h0 := bind_some' h0; obtain ⟨_, _, h0⟩ := h0)
          | (replace h0 := map_some' h0; obtain ⟨_, _, h0⟩ := h0)
          | (replace h0 := ite_some' h0; obtain ⟨_, h0⟩ := h0)
          | split at h0
    obtain ⟨c, f, ho, hcb, hc⟩ := this
    refine ⟨{ target := .fn (.func f) #[], args := c.args.map a.eval }, ?_, f, rfl, hc⟩
    simp only [execOp, ho, resolve, hcb, Act.eval, Deferred.ofValue]
    simp

/-- A closure is deferred. -/
theorem dfrc_sound {o : Oper} {x : Arg} {v : Value} (h : opP P N o = some (.dfrc x)) (hv : x.ev e = some v) (hcl : cloB v = true) (hE : ERel P ρ N e a) : N ≤ slotD ∧ ∃ d, (execOp a.eval o).run P w = .ok (.defer d) w ∧ CloD ρ v d := by
  unfold opP at h
  cases h0 : opP0 P N o with
  | none => rw [h0] at h; cases h
  | some j =>
    rw [h0] at h
    cases h
    have : ∃ c t, o.op = .defer c ∧ c.callee = .value (.tmp t) ∧ c.args = #[] ∧ N ≤ slotD ∧ argOf N (.tmp t) = some x := by
      unfold opP0 at h0
      cases ho : o.op with
      | defer c =>
        rw [ho] at h0
        simp only at h0
        split at h0
        · obtain ⟨_, h0⟩ := ite_some' h0
          obtain ⟨_, _, h0⟩ := map_some' h0
          cases h0
        · rename_i t hcb
          obtain ⟨⟨h1, h2⟩, h0⟩ := ite_some' h0
          obtain ⟨g, h3, h0⟩ := map_some' h0
          cases h0
          exact ⟨c, t, rfl, hcb, h1, h2, h3⟩
        · cases h0
      | call c =>
        rw [ho] at h0
        simp only [callP] at h0
        repeat' first
          | (cases h0; done)
          | (replace h0 := bind_some' h0; obtain ⟨_, _, h0⟩ := h0)
          | (replace h0 := map_some' h0; obtain ⟨_, _, h0⟩ := h0)
          | split at h0
      | convert src dst x =>
        rw [ho] at h0
        simp only at h0
        obtain ⟨_, _, h0⟩ := map_some' h0
        generalize bytesToStr P src dst = b at h0
        cases b <;> cases h0
      | _ =>
        rw [ho] at h0
        simp only at h0
        repeat' first
          | (cases h0; done)
          | (replace h0 := bind_some' h0; obtain ⟨_, _, h0⟩ := h0)
          | (replace h0 := map_some' h0; obtain ⟨_, _, h0⟩ := h0)
          | (replace h0 := ite_some' h0; obtain ⟨_, h0⟩ := h0)
          | split at h0
    obtain ⟨c, t, ho, hcb, hargs, hN, ht⟩ := this
    refine ⟨hN, ?_⟩
    have hrel := arg_rel ht hv hE
    obtain ⟨g, cs, rfl⟩ : ∃ g cs, v = .func (.func g) #[] cs := by
      unfold cloB at hcl
      split at hcl
      · exact ⟨_, _, rfl⟩
      · cases hcl
    have hev : ∃ c', a.eval (.tmp t) = .func (.func g) #[] c' ∧ VsRel ρ cs.toList c'.toList := by
      generalize a.eval (.tmp t) = u at hrel
      cases hrel with
      | cell h => cases h with
        | plain h => simp [plainV] at h
        | func hf hc =>
          rename_i f' c'
          have h1 : f'.toList = [] := by have := hf.length; simpa using this
          obtain ⟨rfl⟩ : f' = #[] := by simpa using h1
          exact ⟨c', rfl, hc.toVs⟩
    obtain ⟨c', he, hvs⟩ := hev
    refine ⟨{ target := .fn (.func g) c', args := #[] }, ?_, g, cs, c', rfl, rfl, rfl, hvs⟩
    simp only [execOp, ho, resolve, hcb, he, hargs, Deferred.ofValue]
    simp

theorem defers_put {a : Act} {dst : Option Nat} {v : Value} : (a.put dst v).defers = a.defers := by cases dst <;> rfl
theorem xops_wp {C : FuncId → List Value → Mem → Option (Value × Mem)} (hC : CallSound P C) {ops : Array Oper} {Q : Exit → Act → World → Prop} :
    ∀ (l : List Oper) (i : Nat) (xl : List XOp) (e e' : Env) (m m' : Mem) (ρ : Rho) (a : Act) (w : World) (b : Bool), (∀ j, l[j]? = ops[i + j]?) → xopsP P N ops l = some xl → xops P C xl e m = some (e', m') →
      ERel P ρ N e a → DRel P ρ b N e a.defers → Rel ρ m w → (∀ ρ' a' w', ERel P ρ' N e' a' → DRel P ρ' b N e' a'.defers → Step ρ m w ρ' m' w' → Q .normal a' w') → wpOps P ops Q (List.range' i l.length) a w
  | [], i, xl, e, e', m, m', ρ, a, w, b, _, hx, hr, hE, hD, hR, hQ => by
    simp [xopsP] at hx
    subst hx
    simp [xops] at hr
    obtain ⟨rfl, rfl⟩ := hr
    exact hQ ρ a w hE hD (.refl hR)
  | o :: l, i, xl, e, e', m, m', ρ, a, w, b, hl, hx, hr, hE, hD, hR, hQ => by
    obtain ⟨x, xs, rfl, hxo, hxs⟩ := xopsP_cons hx
    obtain ⟨g, hg, hd, hop, hdst, hgx⟩ := xopP_spec hxo
    have ho : ops[i]? = some o := by have := hl 0; simpa using this.symm
    have hl' : ∀ j, l[j]? = ops[i + 1 + j]? := fun j => by have := hl (j + 1); rw [show i + 1 + j = i + (j + 1) by omega, ← this]; simp
    simp only [List.length_cons, List.range'_succ, wpOps, ho]
    simp only [xops, hgx, hdst] at hr
    cases ht : wantedX e g with
    | none => rw [ht] at hr; cases hr
    | some t =>
      rw [ht] at hr
      have hw := wanted_rel hg ht hE
      cases t with
      | false =>
        rw [if_neg (by rw [hw]; simp)]
        exact xops_wp hC l (i + 1) xs _ e' m m' ρ _ w b hl' hxs hr (hE.put hd (.refl rfl)) (by rw [defers_put]; exact hD.put hd) hR hQ
      | true =>
        rw [if_pos hw]
        simp only at hr
        cases hxi : xi P e m x.i with
        | none =>
          rw [hxi] at hr
          simp only at hr
          split at hr
          · rename_i as hdf
            split at hr
            case h_2 => cases hr
            rw [hdf] at hop
            obtain ⟨d, h1, h2⟩ := dfr_sound (a := a) (w := w) hop
            left
            unfold Oper.wp
            rw [h1]
            exact xops_wp hC l (i + 1) xs _ e' m m' ρ _ w b hl' hxs hr (ERel.put (a := { a with defers := d :: a.defers }) ⟨hE.size, hE.fit, hE.slot⟩ hd (.refl rfl)) (by rw [defers_put]; exact (hD.quiet h2).put hd) hR hQ
          · rename_i x' hdf
            split at hr
            case h_2 => cases hr
            rename_i v hv hsl
            obtain ⟨hcl, hr⟩ := ite_some' hr
            rw [hdf] at hop
            obtain ⟨hN, d, h1, h2⟩ := dfrc_sound (w := w) hop hv hcl hE
            left
            unfold Oper.wp
            rw [h1]
            have hE' : ERel P ρ N ((slotD, v) :: e) { a with defers := d :: a.defers } := by
              refine ⟨hE.size, hE.fit, fun s u hne hu => ?_⟩
              simp only [look] at hu
              rw [if_neg (fun h => hne h.symm)] at hu
              exact hE.slot s u hne hu
            have hD' : DRel P ρ b N ((slotD, v) :: e) (d :: a.defers) := by
              cases b with
              | false => have := hD.1 hN; rw [hsl] at this; cases this
              | true =>
                refine ⟨hN, fun u hu => ?_⟩
                simp only [look, if_true, Option.some.injEq] at hu
                subst hu
                rcases hD.2 _ hsl with ⟨_, g2⟩ | ⟨_, _, _, _, _, _, g, c, c', q, _⟩
                · exact .inr ⟨[], d, a.defers, rfl, by simp, g2, h2⟩
                · cases q
            exact xops_wp hC l (i + 1) xs _ e' m m' ρ _ w b hl' hxs hr (hE'.put hd (.refl rfl)) (by rw [defers_put]; exact hD'.put hd) hR hQ
          · cases hr
        | some r =>
          rw [hxi] at hr
          have hgood := op_sound hop hxi hE hR
          left
          unfold Oper.wp
          cases r with
          | val v m1 =>
            simp only at hr
            obtain ⟨ρ1, v', w1, h1, h2, h3⟩ := hgood
            rw [h1]
            exact xops_wp hC l (i + 1) xs _ e' m1 m' ρ1 _ w1 b hl' hxs hr ((hE.mono h3.ext).put hd h2) (by rw [defers_put]; exact (hD.mono h3.ext).put hd) h3.rel (fun ρ' a' w' hE' hD' hS => hQ ρ' a' w' hE' hD' (h3.trans hS))
          | skip m1 =>
            simp only at hr
            obtain ⟨ρ1, w1, h1, h3⟩ := hgood
            rw [h1]
            exact xops_wp hC l (i + 1) xs _ e' m1 m' ρ1 _ w1 b hl' hxs hr ((hE.mono h3.ext).put hd (.refl rfl)) (by rw [defers_put]; exact (hD.mono h3.ext).put hd) h3.rel (fun ρ' a' w' hE' hD' hS => hQ ρ' a' w' hE' hD' (h3.trans hS))
          | call f args =>
            simp only at hr
            obtain ⟨args', h1, h2⟩ := hgood
            rw [h1]
            cases hcall : C f args m with
            | none => rw [hcall] at hr; cases hr
            | some p =>
              obtain ⟨v, m1⟩ := p
              rw [hcall] at hr
              simp only at hr
              rcases hC f args m v m1 hcall ρ w args' hR h2 with ⟨ρ1, v', w1, k1, k2, k3⟩ | ⟨k1, k2⟩
              · rw [k1]
                exact xops_wp hC l (i + 1) xs _ e' m1 m' ρ1 _ w1 b hl' hxs hr ((hE.mono k3.ext).put hd k2) (by rw [defers_put]; exact (hD.mono k3.ext).put hd) k3.rel (fun ρ' a' w' hE' hD' hS => hQ ρ' a' w' hE' hD' (k3.trans hS))
              · rw [k1]
                refine Calls.mono k2 ?_
                rintro en w1 ⟨ρ1, v', rfl, q1, q2⟩
                exact xops_wp hC l (i + 1) xs _ e' m1 m' ρ1 _ w1 b hl' hxs hr ((hE.mono q2.ext).put hd q1) (by rw [defers_put]; exact (hD.mono q2.ext).put hd) q2.rel (fun ρ' a' w' hE' hD' hS => hQ ρ' a' w' hE' hD' (q2.trans hS))

theorem ops_wp {C : FuncId → List Value → Mem → Option (Value × Mem)} (hC : CallSound P C) {ops : Array Oper} {id : Nat} {xl : List XOp} {e e' : Env} {m m' : Mem} {ρ : Rho} {a : Act} {w : World} {b : Bool} {keep : Option (List Nat)}
    (hx : xopsP P N ops ops.toList = some xl) (hr : xops P C xl e m = some (e', m')) (hE : ERel P ρ N e a) (hD : DRel P ρ b N e a.defers) (hR : Rel ρ m w) :
    (Code.region id ops false).wp P (fun ex a' w' => ex = .normal ∧ ∃ ρ', ERel P ρ' N (keepOf keep e') a' ∧ DRel P ρ' b N (keepOf keep e') a'.defers ∧ Step ρ m w ρ' m' w') a w := by
  refine wp_region ?_
  have := xops_wp hC (Q := fun ex a' w' => ex = .normal ∧ ∃ ρ', ERel P ρ' N (keepOf keep e') a' ∧ DRel P ρ' b N (keepOf keep e') a'.defers ∧ Step ρ m w ρ' m' w') ops.toList 0 xl e e' m m' ρ a w b (fun j => by simp) hx hr hE hD hR
    (fun ρ' a' w' h1 h3 h2 => ⟨rfl, ρ', h1.keep, h3.keep, h2⟩)
  rw [List.range_eq_range']
  simpa using this

/-- Drawn regions leave the slot of what is deferred alone. -/
theorem xopsP_dst {ops : Array Oper} : ∀ {l : List Oper} {xl : List XOp}, xopsP P N ops l = some xl → ∀ o ∈ xl, ∀ d, o.dst = some d → d < N
  | [], xl, h, o, ho, d, hd => by simp [xopsP] at h; subst h; simp at ho
  | x :: l, xl, h, o, ho, d, hd => by
    obtain ⟨y, ys, rfl, h1, h2⟩ := xopsP_cons h
    obtain ⟨_, _, hlt, _, hdst, _⟩ := xopP_spec h1
    rcases List.mem_cons.1 ho with rfl | ho
    · exact hlt d (by rw [← hdst]; exact hd)
    · exact xopsP_dst h2 o ho d hd
theorem xops_slot {C : FuncId → List Value → Mem → Option (Value × Mem)} : ∀ {l : List XOp} {e e' : Env} {m m' : Mem}, xops P C l e m = some (e', m') → (∀ o ∈ l, ∀ d, o.dst = some d → d < slotD) → (∀ o ∈ l, quiet o.i = true) → look e' slotD = look e slotD
  | [], e, e', m, m', h, _, _ => by simp [xops] at h; rw [h.1]
  | o :: l, e, e', m, m', h, hd, hq => by
    have hd1 := hd o (by simp)
    have hq1 := hq o (by simp)
    have ih : ∀ {e1 m1}, xops P C l e1 m1 = some (e', m') → look e' slotD = look e1 slotD := fun h1 => xops_slot h1 (fun x hx => hd x (by simp [hx])) (fun x hx => hq x (by simp [hx]))
    simp only [xops] at h
    cases ht : wantedX e o.guard with
    | none => rw [ht] at h; cases h
    | some t =>
      rw [ht] at h
      cases t with
      | false => rw [ih h, look_put hd1]
      | true =>
        simp only at h
        cases hx : xi P e m o.i with
        | none =>
          rw [hx] at h
          simp only at h
          split at h
          · rename_i hi; rw [hi] at hq1; cases hq1
          · rename_i hi; rw [hi] at hq1; cases hq1
          · cases h
        | some r =>
          rw [hx] at h
          cases r with
          | val v m1 => rw [ih h, look_put hd1]
          | skip m1 => rw [ih h, look_put hd1]
          | call f args =>
            simp only at h
            split at h
            · cases h
            · rw [ih h, look_put hd1]
theorem xopsD_slot {C : FuncId → List Value → Mem → Option (Value × Mem)} : ∀ {l : List (Nat × Nat × XOp)} {pend : List Pend} {e e' : Env} {m m' : Mem}, xopsD P C l pend e m = some (e', m') → (∀ o ∈ l, ∀ d, o.2.2.dst = some d → d < slotD) → look e' slotD = look e slotD
  | [], pend, e, e', m, m', h, _ => by
    simp only [xopsD] at h
    obtain ⟨_, h⟩ := ite_some' h
    cases h; rfl
  | (j, pre, o) :: l, pend, e, e', m, m', h, hd => by
    have hd1 : ∀ d, o.dst = some d → d < slotD := hd (j, pre, o) (by simp)
    have ih : ∀ {p1 e1 m1}, xopsD P C l p1 e1 m1 = some (e', m') → look e' slotD = look e1 slotD := fun h1 => xopsD_slot h1 (fun x hx => hd x (by simp [hx]))
    simp only [xopsD] at h
    split at h
    · cases h
    · split at h
      · obtain ⟨_, h⟩ := ite_some' h
        rw [ih h, look_put hd1]
      · rw [ih h, look_put hd1]
    · split at h
      · split at h
        · rw [ih h, look_put hd1]
        · cases h
      · split at h
        · rw [ih h, look_put hd1]
        · cases h
      · split at h
        · rw [ih h, look_put hd1]
        · cases h
      · obtain ⟨_, h⟩ := ite_some' h
        split at h
        · rw [ih h, look_put hd1]
        · cases h

/-! ## Code -/
inductive KRel (P : Program) (N : Nat) : List XItem → List Item → Prop where
  | nil : KRel P N [] []
  | code {xc : XCode} {c : Code} {k : List XItem} {k' : List Item} (h : comp P N c = some (strip xc)) (t : KRel P N k k') : KRel P N (.code xc :: k) (.code c :: k')
  | block {id : Nat} {k : List XItem} {k' : List Item} (t : KRel P N k k') : KRel P N (.inBlock id :: k) (.inBlock id :: k')
  | loop {xc : XCode} {c : Code} {k : List XItem} {k' : List Item} (h : comp P N c = some (strip xc)) (t : KRel P N k k') : KRel P N (.inLoop xc :: k) (.inLoop c :: k')

theorem exit_rel {id : Nat} : ∀ {k k1 : List XItem} {k' : List Item}, KRel P N k k' → xexit id k = some k1 → ∃ k1', exitTo id k' = some k1' ∧ KRel P N k1 k1'
  | [], k1, k', h, hx => by simp [xexit] at hx
  | .code xc :: k, k1, k', h, hx => by
    cases h with
    | code h t => simp only [xexit] at hx; obtain ⟨k1', h1, h2⟩ := exit_rel t hx; exact ⟨k1', by simpa [exitTo] using h1, h2⟩
  | .inLoop xc :: k, k1, k', h, hx => by
    cases h with
    | loop h t => simp only [xexit] at hx; obtain ⟨k1', h1, h2⟩ := exit_rel t hx; exact ⟨k1', by simpa [exitTo] using h1, h2⟩
  | .inBlock i :: k, k1, k', h, hx => by
    cases h with
    | block t =>
      simp only [xexit] at hx
      by_cases hi : i = id
      · rw [if_pos hi] at hx; cases hx; exact ⟨_, by simp [exitTo, hi], t⟩
      · rw [if_neg hi] at hx
        obtain ⟨k1', h1, h2⟩ := exit_rel t hx
        exact ⟨k1', by simp [exitTo, hi, h1], h2⟩

def readRes (tmps : Array Value) : ResultVar → Sem Value
  | .tmp t => pure (tmps.getD t undef)
  | .cell b t => do loadVar t (← asAddr (tmps.getD b undef))

theorem results_eq (fn : Func) (tmps : Array Value) : results fn tmps = (do
    let vs ← fn.results.mapM (readRes tmps)
    pure (if h : vs.size = 1 then vs[0] else .tuple vs)) := by
  unfold results
  congr 2

theorem res_rel : ∀ {rs : List ResultVar} {xr : List XRes} {vs : List Value}, resP P N rs = some xr → xres e m xr = some vs → ERel P ρ N e a → Rel ρ m w →
    ∃ vs', (rs.mapM (readRes a.tmps) : Sem (List Value)).run P w = .ok vs' w ∧ VsRel ρ vs vs'
  | [], xr, vs, h, hv, hE, hR => by simp [resP] at h; subst h; simp [xres] at hv; subst hv; exact ⟨[], by simp, .nil⟩
  | .tmp t :: rs, xr, vs, h, hv, hE, hR => by
    simp only [resP] at h
    obtain ⟨ht, h⟩ := ite_some' h
    obtain ⟨xr', h1, rfl⟩ := map_some' h
    simp only [xres] at hv
    obtain ⟨v, h2, hv⟩ := bind_some' hv
    obtain ⟨vs1, h3, hv⟩ := bind_some' hv
    cases hv
    obtain ⟨vs', h4, h5⟩ := res_rel h1 h3 hE hR
    obtain ⟨v', h6, h7⟩ := hE.slot t v (Nat.ne_of_lt (Nat.lt_of_lt_of_le ht hE.fit)) h2
    refine ⟨v' :: vs', ?_, .cons h7 h5⟩
    have e1 : a.tmps.getD t undef = v' := by simp [h6]
    simp only [List.mapM_cons, readRes, e1, Sem.run_bind, Sem.run_pure, Result.andThen_ok, h4]
  | .cell b t :: rs, xr, vs, h, hv, hE, hR => by
    simp only [resP] at h
    obtain ⟨ht, h⟩ := ite_some' h
    obtain ⟨g, hg, h⟩ := bind_some' h
    have hcase : ∃ size xr', xr = .cell g size b :: xr' ∧ resP P N rs = some xr' ∧ (g = true → sizeP P t = some size) ∧ (g = false → size = 1) := by
      cases g with
      | true => obtain ⟨s, hs, h⟩ := bind_some' h; obtain ⟨l, hl, rfl⟩ := map_some' h; exact ⟨s, l, rfl, hl, fun _ => hs, (fun h => by cases h)⟩
      | false => obtain ⟨l, hl, rfl⟩ := map_some' h; exact ⟨1, l, rfl, hl, (fun h => by cases h), fun _ => rfl⟩
    obtain ⟨size, xr', rfl, h1, hs1, hs2⟩ := hcase
    simp only [xres] at hv
    cases hl : look e b with
    | none => rw [hl] at hv; cases hv
    | some u =>
      rw [hl] at hv
      obtain ⟨p, rfl⟩ : ∃ p, u = .pointer (some p) := by
        cases u with
        | pointer p => cases p with
          | some p => exact ⟨p, rfl⟩
          | none => cases hv
        | _ => cases hv
      simp only at hv
      obtain ⟨cs, h2, hv⟩ := bind_some' hv
      obtain ⟨u', h6, h7⟩ := hE.slot b _ (Nat.ne_of_lt (Nat.lt_of_lt_of_le ht hE.fit)) hl
      obtain ⟨c, hsp, hc, rfl⟩ := ptr_rel h7
      have hr : ∃ y vs1, vs = y :: vs1 ∧ loadRes g cs = some y ∧ xres e m xr' = some vs1 := by
        cases g with
        | true => obtain ⟨vs1, h3, hv⟩ := bind_some' hv; cases hv; exact ⟨_, vs1, rfl, rfl, h3⟩
        | false =>
          cases cs with
          | nil => cases hv
          | cons y l => cases l with
            | nil => obtain ⟨vs1, h3, hv⟩ := bind_some' hv; cases hv; exact ⟨_, vs1, rfl, rfl, h3⟩
            | cons _ _ => cases hv
      obtain ⟨y, vs1, rfl, hy, h3⟩ := hr
      obtain ⟨vs', h4, h5⟩ := res_rel h1 h3 hE hR
      obtain ⟨y', k1, k2⟩ := load_sound (P := P) hg hs1 hs2 hR hc h2 hy
      refine ⟨y' :: vs', ?_, .cons k2 h5⟩
      have e1 : a.tmps.getD b undef = .pointer (some ⟨c.blk, c.off + p.off, none⟩) := by simp [h6]
      have hq : (readRes a.tmps (.cell b t)).run P w = .ok y' w := by
        show (do loadVar t (← asAddr (a.tmps.getD b undef)) : Sem Value).run P w = _
        rw [e1, Sem.run_bind]
        exact k1
      rw [List.mapM_cons, Sem.run_bind, hq]
      simp only [Sem.run_bind, Sem.run_pure, Result.andThen_ok, h4]

theorem results_rel {fn : Func} {xr : List XRes} {vs : List Value} (h : resP P N fn.results.toList = some xr) (hv : xres e m xr = some vs) (hE : ERel P ρ N e a) (hR : Rel ρ m w) :
    ∃ v', (results fn a.tmps).run P w = .ok v' w ∧ VRel ρ (tup vs) v' := by
  obtain ⟨vs', h1, h2⟩ := res_rel h hv hE hR
  have hm : (fn.results.mapM (readRes a.tmps) : Sem (Array Value)).run P w = .ok vs'.toArray w := by
    rw [← Array.toArray_toList (xs := fn.results), List.mapM_toArray]
    simp only [Sem.run_map, h1, Result.andThen_ok]
  have hl := h2.length
  refine ⟨if h : vs'.toArray.size = 1 then vs'.toArray[0] else .tuple vs'.toArray, ?_, ?_⟩
  · rw [results_eq, Sem.run_bind, hm]
    rfl
  · match vs, vs', h2 with
    | [v], [v'], .cons h .nil => simpa [tup] using h
    | [], [], .nil => exact .tuple .nil
    | v1 :: v2 :: vs, v1' :: v2' :: vs', h2 =>
      simp only [tup]
      rw [dif_neg (by simp)]
      exact .tuple h2

theorem initEnv_rel : ∀ {l l' : List Value} (i : Nat), VsRel ρ l l' → ∀ s v, look (initEnv i l) s = some v → ∃ v', i ≤ s ∧ l'[s - i]? = some v' ∧ VRel ρ v v'
  | [], _, i, h, s, v, hs => by simp [initEnv, look] at hs
  | x :: l, _, i, h, s, v, hs => by
    cases h with
    | cons h t =>
      rename_i x' l'
      simp only [initEnv, look] at hs
      by_cases hi : i = s
      · rw [if_pos hi] at hs; cases hs; subst hi; exact ⟨x', Nat.le_refl _, by simp, h⟩
      · rw [if_neg hi] at hs
        obtain ⟨v', h1, h2, h3⟩ := initEnv_rel (i + 1) t s v hs
        exact ⟨v', by omega, by rw [show s - i = (s - (i + 1)) + 1 by omega]; simpa using h2, h3⟩

theorem callFunc_enter {f : FuncId} {fn : Func} {c : Code} (hf : P.funcs[f]? = some fn) (hn : (fn.name == "runtime.NumGoroutine") = false) (hb : fn.body = some c) (args : Array Value) : (callFunc f args).run P w = .ok (.enter f args) w := by
  have hn' : fn.name ≠ "runtime.NumGoroutine" := by simpa using hn
  simp [callFunc, hf, hn', hb]

end

/-- What 'insG' answers every run answers. -/
def InsOk (P : Program) (f : FuncId) (size : Nat) : Prop :=
  ∀ (ρ : Rho) (m : Mem) (w : World) (args : List Value) (args' : Array Value) (v : Value) (m' : Mem), Rel ρ m w → VsRel ρ args args'.toList → insG size args m = some (v, m') →
    Calls P f args' w fun e w' => ∃ ρ' v', e = .returned v' ∧ VRel ρ' v v' ∧ Step ρ m w ρ' m' w'

/-- Is this the function's code? -/
def FnIs (P : Program) (f : FuncId) : XDecl → Prop
  | .ext g => g = f
  | .known v => plain v = true ∧ (∃ fn c, P.funcs[f]? = some fn ∧ (fn.name == "runtime.NumGoroutine") = false ∧ fn.body = some c) ∧
      ∀ w : World, Calls P f #[] w fun e w' => e = .returned v ∧ w.heap.size ≤ w'.heap.size ∧ (∀ b, b < w.heap.size → w'.heap[b]? = w.heap[b]?) ∧ w'.os = w.os ∧ w'.tape = w.tape ∧ w'.output = w.output ∧ ∀ a, w'.frozen? a = w.frozen? a
  | .code F => ∃ fn c, P.funcs[f]? = some fn ∧ (fn.name == "runtime.NumGoroutine") = false ∧ fn.body = some c ∧ comp P fn.ntmps c = some (strip F.body) ∧
      (F.nargs ≤ fn.ntmps ∧ fn.ntmps ≤ slotD) ∧ resP P fn.ntmps fn.results.toList = some F.res
  | .ins F size => (∃ fn c, P.funcs[f]? = some fn ∧ (fn.name == "runtime.NumGoroutine") = false ∧ fn.body = some c ∧ comp P fn.ntmps c = some (strip F.body) ∧
      (F.nargs ≤ fn.ntmps ∧ fn.ntmps ≤ slotD) ∧ resP P fn.ntmps fn.results.toList = some F.res) ∧ InsOk P f size
  | .codeD F => ∃ fn c, P.funcs[f]? = some fn ∧ (fn.name == "runtime.NumGoroutine") = false ∧ fn.body = some c ∧ comp P fn.ntmps c = some (strip F.body) ∧
      (F.nargs ≤ fn.ntmps ∧ fn.ntmps ≤ slotD) ∧ resP P fn.ntmps fn.results.toList = some F.res

end Go.Proofs.YtnlmnejellipdaaGreat.X
