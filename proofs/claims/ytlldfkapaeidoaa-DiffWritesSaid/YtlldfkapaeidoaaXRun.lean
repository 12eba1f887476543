/-
  Own work. 'xcall_sound': whatever the abstract run of a function answers, every run of the model answers.
-/
import Derived.Test.YtlldfkapaeidoaaXCaught
namespace Go.Proofs.Ytlldfkapaeidoaa.X
open Go
set_option linter.unusedVariables false
set_option linter.unusedSimpArgs false

section
variable {P : Program} {ρ : Rho} {N : Nat} {e : Env} {a : Act} {m : Mem} {w : World}

theorem strip_inv {xc : XCode} {c : Code} (h : comp P N c = some (strip xc)) :
    match xc with
    | .skip => c = .skip
    | .ops l _ => ∃ id ops, c = .region id ops false ∧ xopsP P N ops ops.toList = some l
    | .opsr l _ => ∃ id ops, c = .region id ops true ∧ xopsP P N ops ops.toList = some l ∧ l.all (fun o => quiet o.i) = true ∧ orderOk ops l = true
    | .opsd l _ => ∃ id ops l0, c = .region id ops true ∧ xopsP P N ops ops.toList = some l0 ∧ orderOk ops l0 = true ∧ okD l = true ∧ sortD l = tagD 0 l0 (preList ops.toList [])
    | .seq x y => ∃ cx cy, c = .seq cx cy ∧ comp P N cx = some (strip x) ∧ comp P N cy = some (strip y)
    | .cond g x y => ∃ o cx cy, c = .cond o cx cy ∧ argOf N o = some g ∧ comp P N cx = some (strip x) ∧ comp P N cy = some (strip y)
    | .block id x => ∃ cx, c = .block id cx ∧ comp P N cx = some (strip x)
    | .loop x => ∃ cx, c = .loop cx ∧ comp P N cx = some (strip x)
    | .exit id => c = .exit id
    | .ret => c = .ret := by
  have hd : ∀ (l : List (Nat × Nat × XOp)) (keep : Option (List Nat)) (y : XCode), y = strip (.opsd l keep) → (∀ k, y ≠ .ops k (some [])) → okD l = true ∧ y = .opsd (sortD l) none := by
    intro l keep y h1 h2
    by_cases hk : okD l = true
    · exact ⟨hk, by rw [h1]; simp [strip, hk]⟩
    · exact absurd (by rw [h1]; simp [strip, hk]) (h2 [])
  by_cases hopsd : ∃ l k, xc = .opsd l k
  · obtain ⟨l, k, rfl⟩ := hopsd
    obtain ⟨y, hy⟩ : ∃ y, comp P N c = some y := ⟨_, h⟩
    have hyy : y = strip (.opsd l k) := by rw [hy] at h; exact Option.some.inj h
    have hno : ∀ k, y ≠ .ops k (some []) := by
      rintro k rfl
      cases c <;> simp only [comp] at hy
      all_goals repeat' first
        | (cases hy; done)
        | (replace hy := bind_some' hy; obtain ⟨_, _, hy⟩ := hy)
        | (replace hy := map_some' hy; obtain ⟨_, _, hy⟩ := hy)
        | (replace hy := ite_some' hy; obtain ⟨_, hy⟩ := hy)
        | split at hy
    obtain ⟨hok, rfl⟩ := hd l k y hyy hno
    cases c <;> simp only [comp] at hy
    case region id ops draw =>
      obtain ⟨l0, h1, hy⟩ := bind_some' hy
      cases draw
      · cases hy
      · simp only at hy
        obtain ⟨ho, hy⟩ := ite_some' hy
        split at hy
        · cases hy
        · simp only [Option.some.injEq, XCode.opsd.injEq, and_true] at hy
          exact ⟨_, _, _, rfl, h1, ho, hok, hy.symm⟩
    all_goals repeat' first
      | (cases hy; done)
      | (replace hy := bind_some' hy; obtain ⟨_, _, hy⟩ := hy)
      | (replace hy := map_some' hy; obtain ⟨_, _, hy⟩ := hy)
      | (replace hy := ite_some' hy; obtain ⟨_, hy⟩ := hy)
      | split at hy
  replace hopsd : ∀ l k, xc ≠ .opsd l k := fun l k h => hopsd ⟨l, k, h⟩
  cases c with
  | skip => simp only [comp, Option.some.injEq] at h; cases xc <;> (first | exact absurd rfl (hopsd _ _) | simp [strip] at h); rfl
  | region id ops draw =>
    simp only [comp] at h
    obtain ⟨l, h1, h⟩ := bind_some' h
    cases draw
    · cases xc <;> (first | exact absurd rfl (hopsd _ _) | simp [strip] at h)
      subst h; exact ⟨_, _, rfl, h1⟩
    · simp only at h
      obtain ⟨ho, h⟩ := ite_some' h
      split at h
      · rename_i hq
        cases xc <;> (first | exact absurd rfl (hopsd _ _) | simp [strip] at h)
        subst h; exact ⟨_, _, rfl, h1, hq, ho⟩
      · cases xc <;> (first | exact absurd rfl (hopsd _ _) | simp [strip] at h)
  | seq a b =>
    simp only [comp] at h
    obtain ⟨x, h1, h⟩ := bind_some' h
    obtain ⟨y, h2, h⟩ := map_some' h
    cases xc <;> (first | exact absurd rfl (hopsd _ _) | simp [strip] at h)
    obtain ⟨rfl, rfl⟩ := h
    exact ⟨_, _, rfl, h1, h2⟩
  | cond o a b =>
    simp only [comp] at h
    obtain ⟨g, h0, h⟩ := bind_some' h
    obtain ⟨x, h1, h⟩ := bind_some' h
    obtain ⟨y, h2, h⟩ := map_some' h
    cases xc <;> (first | exact absurd rfl (hopsd _ _) | simp [strip] at h)
    obtain ⟨rfl, rfl, rfl⟩ := h
    exact ⟨_, _, _, rfl, h0, h1, h2⟩
  | block id a =>
    simp only [comp] at h
    obtain ⟨x, h1, h⟩ := map_some' h
    cases xc <;> (first | exact absurd rfl (hopsd _ _) | simp [strip] at h)
    obtain ⟨rfl, rfl⟩ := h
    exact ⟨_, rfl, h1⟩
  | loop a =>
    simp only [comp] at h
    obtain ⟨x, h1, h⟩ := map_some' h
    cases xc <;> (first | exact absurd rfl (hopsd _ _) | simp [strip] at h)
    subst h
    exact ⟨_, rfl, h1⟩
  | exit id => simp only [comp, Option.some.injEq] at h; cases xc <;> (first | exact absurd rfl (hopsd _ _) | simp [strip] at h); subst h; rfl
  | ret => simp only [comp, Option.some.injEq] at h; cases xc <;> (first | exact absurd rfl (hopsd _ _) | simp [strip] at h); rfl
  | rangeFunc f p x y => simp [comp] at h
  | scope c => simp [comp] at h
  | label l => simp [comp] at h
  | goto l => simp [comp] at h
  | refuse w => simp [comp] at h

/-- What the abstract run's end is in the model. -/
def Ends (P : Program) (N : Nat) (b : Frame) (items : List Item) (cs : List Frame) (ρ : Rho) (m : Mem) (a : Act) (w : World) (e' : Env) (m' : Mem) : Prop :=
  ∃ ρ' a' w' todo, Steps P (lone (b.at a items) cs w) (lone { b.at a' todo with mode := .returning } cs w') ∧ ERel P ρ' N e' a' ∧ Step ρ m w ρ' m' w'

theorem Ends.of {b : Frame} {items items1 : List Item} {cs : List Frame} {ρ1 : Rho} {m1 : Mem} {a1 : Act} {w1 : World} {e' : Env} {m' : Mem}
    (hs : Steps P (lone (b.at a items) cs w) (lone (b.at a1 items1) cs w1)) (hS : Step ρ m w ρ1 m1 w1) (h : Ends P N b items1 cs ρ1 m1 a1 w1 e' m') : Ends P N b items cs ρ m a w e' m' := by
  obtain ⟨ρ', a', w', todo, h1, h2, h3⟩ := h
  exact ⟨ρ', a', w', todo, hs.trans h1, h2, hS.trans h3⟩

theorem calls_of_ends {f : FuncId} {fn : Func} {c : Code} {F : XFunc} {args : List Value} {args' : Array Value} {e1 : Env} {m1 : Mem} {vs : List Value}
    (hf : P.funcs[f]? = some fn) (hb : fn.body = some c) (hc : comp P fn.ntmps c = some (strip F.body)) (hn : F.nargs ≤ fn.ntmps) (hres : resP P fn.ntmps fn.results.toList = some F.res)
    (hlen : args.length = F.nargs) (hargs : VsRel ρ args args'.toList) (hR : Rel ρ m w)
    (hgo : ∀ (b : Frame) (cs : List Frame) (a : Act), ERel P ρ fn.ntmps (initEnv 0 args) a → Ends P fn.ntmps b [.code c] cs ρ m a w e1 m1) (hv : xres e1 m1 F.res = some vs) :
    Calls P f args' w fun e w' => ∃ ρ' v', e = .returned v' ∧ VRel ρ' (tup vs) v' ∧ Step ρ m w ρ' m1 w' := by
  intro cs
  let b : Frame := { (default : Frame) with fn := f, kind := .normal }
  have henter : Frame.enter P f args' .normal = b.at { tmps := args' ++ Array.replicate (fn.ntmps - args'.size) undef, defers := [] } [.code c] := by
    simp [Frame.enter, Frame.at, hf, hb, b]
  have hsz : args'.size = F.nargs := by have := hargs.length; simp at this; omega
  have hE : ERel P ρ fn.ntmps (initEnv 0 args) { tmps := args' ++ Array.replicate (fn.ntmps - args'.size) undef, defers := [] } := by
    refine ⟨by simp; omega, fun d hd => by simp at hd, ?_⟩
    intro s v hs
    obtain ⟨v', _, h2, h3⟩ := initEnv_rel 0 hargs s v hs
    refine ⟨v', ?_, h3⟩
    have hlt : s < args'.size := by
      have := (List.getElem?_eq_some_iff.1 h2).1
      simpa using this
    rw [Array.getElem?_append_left hlt]
    simpa using h2
  obtain ⟨ρ', a', w', todo, h1, h2, h3⟩ := hgo b cs _ hE
  obtain ⟨v', h4, h5⟩ := results_rel hres hv h2 h3.rel
  obtain ⟨en, w2, fr, k1, k2, k3, k4⟩ := leaves_steps (R := fun e w' => ∃ ρ' v', e = .returned v' ∧ VRel ρ' (tup vs) v' ∧ Step ρ m w ρ' m1 w') a'.defers .returning w' { b.at a' todo with mode := .returning } cs rfl rfl rfl hf rfl (leaves_quiet h4 ⟨ρ', v', rfl, h5, h3⟩ _ h2.defers)
  exact ⟨en, w2, fr, k1, by rw [henter]; exact Comes.of_steps h1 k2, k3, k4⟩

/-- A function that is known to answer so. -/
theorem known_good {f : FuncId} {v : Value} {args : List Value} {args' : Array Value} (hd : FnIs P f (.known v)) (h0 : args.length = 0) (hR : Rel ρ m w) (hargs : VsRel ρ args args'.toList) :
    (callFunc f args').run P w = .ok (.enter f args') w ∧ Calls P f args' w fun e w' => ∃ ρ' v', e = .returned v' ∧ VRel ρ' v v' ∧ Step ρ m w ρ' m w' := by
  obtain ⟨hp, ⟨fn, c, h1, h2, h3⟩, h⟩ := hd
  have : args' = #[] := by
    have := hargs.length
    rw [h0] at this
    simpa using this
  subst this
  refine ⟨callFunc_enter h1 h2 h3 _, (h w).mono ?_⟩
  rintro e w' ⟨rfl, g1, g2, g3, g4, g5, g6⟩
  refine ⟨ρ, v, rfl, .refl hp, ⟨.refl _, ⟨?_, hR.excl, hR.fresh, hR.alive⟩, ⟨g1, fun b hb _ => g2 b hb, g3, g4, g5, g6⟩, .refl _ _ _, Nat.le_refl _, fun _ _ _ => rfl, fun _ _ h => h⟩⟩
  intro i o c hi hc
  have hO := hR.obj i o c hi hc
  exact hO.later (.refl _) g1 (g2 _ hO.lt)

theorem xgo_sound {X : FuncId → Option XDecl} (hmix : P.follows .mixedOrders = true) (hX : ∀ f d, X f = some d → FnIs P f d) : ∀ (n : Nat) (k : List XItem) (e : Env) (m : Mem) (e' : Env) (m' : Mem), xgo P X n k e m = some (e', m') →
    ∀ (N : Nat) (items : List Item) (ρ : Rho) (a : Act) (w : World) (b : Frame) (cs : List Frame), KRel P N k items → ERel P ρ N e a → Rel ρ m w → Ends P N b items cs ρ m a w e' m' := by
  intro n
  induction n with
  | zero => intro k e m e' m' h; simp [xgo] at h
  | succ n ih =>
    intro k e m e' m' h N items ρ a w b cs hK hE hR
    have hC : CallSound P (fun f args m => match X f with
        | none => none
        | some (.known v) => if args.length = 0 then some (v, m) else none
        | some (.ext f) => if args.all plain then (ans P (callFunc f args.toArray)).bind fun nx => match nx with
            | .value v => if plain v then some (v, m) else none
            | _ => none
          else none
        | some (.code F) => if args.length = F.nargs then
            match xgo P X n [.code F.body] (initEnv 0 args) m with
            | none => none
            | some (e', m') => (xres e' m' F.res).bind fun vs => some (tup vs, m')
          else none) := by
      intro f args m v m1 hc ρ w args' hR hargs
      simp only at hc
      cases hXf : X f with
      | none => rw [hXf] at hc; cases hc
      | some d =>
        rw [hXf] at hc
        have hd := hX f d hXf
        cases d with
        | known u =>
          simp only at hc
          obtain ⟨h0, hc⟩ := ite_some' hc
          cases hc
          exact .inr (known_good hd h0 hR hargs)
        | ext g =>
          simp only at hc
          have hg : g = f := hd
          subst hg
          obtain ⟨hp, hc⟩ := ite_some' hc
          obtain ⟨nx, h1, hc⟩ := bind_some' hc
          cases nx <;> simp only [reduceCtorEq] at hc
          obtain ⟨hpv, hc⟩ := ite_some' hc
          cases hc
          have hargs' := hargs.eq hp
          have : args' = args.toArray := by rw [← hargs']
          subst this
          exact .inl ⟨ρ, _, w, ans_run h1 w, .refl hpv, .refl hR⟩
        | code F =>
          simp only at hc
          obtain ⟨fn, c, hf, hname, hb, hcomp, hnargs, hres⟩ := hd
          obtain ⟨hlen, hc⟩ := ite_some' hc
          cases hgo : xgo P X n [.code F.body] (initEnv 0 args) m with
          | none => rw [hgo] at hc; cases hc
          | some p =>
            obtain ⟨e1, m2⟩ := p
            rw [hgo] at hc
            simp only at hc
            obtain ⟨vs, hvs, hc⟩ := bind_some' hc
            cases hc
            refine .inr ⟨callFunc_enter hf hname hb args', ?_⟩
            exact calls_of_ends hf hb hcomp hnargs hres hlen hargs hR (fun b cs a hE => ih _ _ _ _ _ hgo fn.ntmps [.code c] ρ a w b cs (.code hcomp .nil) hE hR) hvs
    cases hK with
    | nil =>
      simp only [xgo, Option.some.injEq, Prod.mk.injEq] at h
      obtain ⟨rfl, rfl⟩ := h
      exact ⟨ρ, a, w, [], .one step_end, hE, .refl hR⟩
    | block t =>
      simp only [xgo] at h
      exact Ends.of (.one step_inBlock) (.refl hR) (ih _ _ _ _ _ h N _ ρ a w b cs t hE hR)
    | loop hl t =>
      simp only [xgo] at h
      exact Ends.of (.one step_inLoop) (.refl hR) (ih _ _ _ _ _ h N _ ρ a w b cs (.code hl (.loop hl t)) hE hR)
    | code hl t =>
      rename_i xc c k k'
      have hinv := strip_inv hl
      cases xc with
      | skip =>
        simp only at hinv
        subst hinv
        simp only [xgo] at h
        exact Ends.of (.one step_skip) (.refl hR) (ih _ _ _ _ _ h N _ ρ a w b cs t hE hR)
      | ops l keep =>
        obtain ⟨id, ops, rfl, hx⟩ := hinv
        simp only [xgo] at h
        split at h
        case h_2 => cases h
        rename_i e1 m1 hrun
        obtain ⟨en, a1, w1, ⟨rfl, ρ1, hE1, hS1⟩, harr⟩ := ops_wp (id := id) (keep := keep) hC hx hrun hE hR b k' cs
        exact Ends.of harr hS1 (ih _ _ _ _ _ h N _ ρ1 a1 w1 b cs t hE1 hS1.rel)
      | opsr l keep =>
        obtain ⟨id, ops, rfl, hx, hq, ho⟩ := hinv
        simp only [xgo] at h
        split at h
        case h_2 => cases h
        rename_i e1 m1 hrun
        obtain ⟨en, a1, w1, ⟨rfl, ρ1, hE1, hS1⟩, harr⟩ := quiet_wp (id := id) (keep := keep) hmix hx hq ho hrun hE hR b k' cs
        exact Ends.of harr hS1 (ih _ _ _ _ _ h N _ ρ1 a1 w1 b cs t hE1 hS1.rel)
      | opsd l keep =>
        obtain ⟨id, ops, l0, rfl, hx, ho, hok, hs⟩ := hinv
        simp only [xgo] at h
        split at h
        case h_2 => cases h
        rename_i e1 m1 hrun
        obtain ⟨en, a1, w1, ⟨rfl, ρ1, hE1, hS1⟩, harr⟩ := drawn_wp (id := id) (keep := keep) hC hmix hx ho hok hs hrun hE hR b k' cs
        exact Ends.of harr hS1 (ih _ _ _ _ _ h N _ ρ1 a1 w1 b cs t hE1 hS1.rel)
      | seq x y =>
        obtain ⟨cx, cy, rfl, h1, h2⟩ := hinv
        simp only [xgo] at h
        exact Ends.of (.one step_seq) (.refl hR) (ih _ _ _ _ _ h N _ ρ a w b cs (.code h1 (.code h2 t)) hE hR)
      | cond g x y =>
        obtain ⟨o, cx, cy, rfl, h0, h1, h2⟩ := hinv
        simp only [xgo] at h
        split at h
        case h_2 => cases h
        rename_i tt hg
        have he := (arg_rel h0 hg hE).eq rfl
        refine Ends.of (.one (step_cond he)) (.refl hR) (ih _ _ _ _ _ h N _ ρ a w b cs ?_ hE hR)
        cases tt
        · exact .code h2 t
        · exact .code h1 t
      | block id x =>
        obtain ⟨cx, rfl, h1⟩ := hinv
        simp only [xgo] at h
        exact Ends.of (.one step_block) (.refl hR) (ih _ _ _ _ _ h N _ ρ a w b cs (.code h1 (.block t)) hE hR)
      | loop x =>
        obtain ⟨cx, rfl, h1⟩ := hinv
        simp only [xgo] at h
        exact Ends.of (.one step_loop) (.refl hR) (ih _ _ _ _ _ h N _ ρ a w b cs (.code h1 (.loop h1 t)) hE hR)
      | exit id =>
        simp only at hinv
        subst hinv
        simp only [xgo] at h
        split at h
        case h_2 => cases h
        rename_i k1 hk1
        obtain ⟨k1', h1, h2⟩ := exit_rel t hk1
        exact Ends.of (.one (step_exit h1)) (.refl hR) (ih _ _ _ _ _ h N _ ρ a w b cs h2 hE hR)
      | ret =>
        simp only at hinv
        subst hinv
        simp only [xgo, Option.some.injEq, Prod.mk.injEq] at h
        obtain ⟨rfl, rfl⟩ := h
        exact ⟨ρ, a, w, _, .one step_ret, hE, .refl hR⟩

theorem xcall_sound {X : FuncId → Option XDecl} (hmix : P.follows .mixedOrders = true) (hX : ∀ f d, X f = some d → FnIs P f d) {n : Nat} {f : FuncId} {F : XFunc} {args : List Value} {v : Value} {m' : Mem} (hf : X f = some (.code F))
    (h : xcall P X n f args m = some (v, m')) {args' : Array Value} (hR : Rel ρ m w) (hargs : VsRel ρ args args'.toList) :
    Calls P f args' w fun e w' => ∃ ρ' v', e = .returned v' ∧ VRel ρ' v v' ∧ Step ρ m w ρ' m' w' := by
  unfold xcall at h
  rw [hf] at h
  simp only at h
  obtain ⟨fn, c, hfn, hname, hb, hcomp, hnargs, hres⟩ := hX f _ hf
  obtain ⟨hlen, h⟩ := ite_some' h
  cases hgo : xgo P X n [.code F.body] (initEnv 0 args) m with
  | none => rw [hgo] at h; cases h
  | some p =>
    obtain ⟨e1, m2⟩ := p
    rw [hgo] at h
    simp only at h
    obtain ⟨vs, hvs, h⟩ := bind_some' h
    cases h
    exact calls_of_ends hfn hb hcomp hnargs hres hlen hargs hR (fun b cs a hE => xgo_sound hmix hX n _ _ _ _ _ hgo fn.ntmps [.code c] ρ a w b cs (.code hcomp .nil) hE hR) hvs

/-- What is known of a call from no memory is known of it from any. -/
theorem known_of {X : FuncId → Option XDecl} (hmix : P.follows .mixedOrders = true) (hX : ∀ f d, X f = some d → FnIs P f d) {n : Nat} {f : FuncId} {F : XFunc} {v : Value} (hf : X f = some (.code F))
    (h : (xcall P X n f [] Mem.empty).map (·.1) = some v) (hp : plain v = true) : FnIs P f (.known v) := by
  obtain ⟨⟨v1, m'⟩, h1, h2⟩ := map_some' h
  simp only at h2
  subst h2
  obtain ⟨fn, c, g1, g2, g3, _⟩ := hX f _ hf
  refine ⟨hp, ⟨fn, c, g1, g2, g3⟩, fun w => ?_⟩
  have hR0 : Rel (fun _ => none) Mem.empty w := ⟨fun i o c h => by simp [Mem.get, Mem.empty, Tr.get] at h, fun i j o oj c cj _ h => by simp [Mem.get, Mem.empty, Tr.get] at h, fun _ _ => rfl, fun i o h => by simp [Mem.get, Mem.empty, Tr.get] at h⟩
  refine (xcall_sound hmix hX hf h1 (args' := #[]) hR0 .nil).mono ?_
  rintro e w' ⟨ρ', v', rfl, hv, hS⟩
  have := hv.eq hp
  subst this
  exact ⟨rfl, hS.fr.size, fun b hb => hS.fr.keep b hb (fun i o c h1 _ _ => by simp [Mem.get, Mem.empty, Tr.get] at h1), hS.fr.os, hS.fr.tape, hS.fr.output, hS.fr.frozen⟩

end
end Go.Proofs.Ytlldfkapaeidoaa.X
