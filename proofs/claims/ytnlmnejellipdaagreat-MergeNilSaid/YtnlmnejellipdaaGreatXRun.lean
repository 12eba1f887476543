/-
  Own work. 'xcall_sound': whatever the abstract run of a function answers, every run of the model answers.
-/
import Derived.Test.YtnlmnejellipdaaGreatXCaught
namespace Go.Proofs.YtnlmnejellipdaaGreat.X
open Go
set_option linter.unusedVariables false
set_option linter.unusedSimpArgs false

section
variable {P : Program} {ρ : Rho} {N : Nat} {e : Env} {a : Act} {m : Mem} {w : World}

theorem comp_not {c : Code} {k : List XOp} {y : XCode} (hy : comp P N c = some y) : y ≠ .ops k (some []) := by
  rintro rfl
  cases c <;> simp only [comp] at hy
  all_goals repeat' first
    | (cases hy; done)
    | (replace hy := bind_some' hy; obtain ⟨_, _, hy⟩ := hy)
    | (replace hy := map_some' hy; obtain ⟨_, _, hy⟩ := hy)
    | (replace hy := ite_some' hy; obtain ⟨_, hy⟩ := hy)
    | split at hy
theorem strip_drawn {c : Code} {l : List (Nat × Nat × XOp)} (hy : comp P N c = some (.opsd l none)) :
    ∃ id ops l0, c = .region id ops true ∧ xopsP P N ops ops.toList = some l0 ∧ orderOk ops l0 = true ∧ l = tagD 0 l0 (preList ops.toList []) := by
  cases c <;> simp only [comp] at hy
  case region id ops draw =>
    obtain ⟨l0, h1, hy⟩ := bind_some' hy
    cases draw
    · cases hy
    · simp only at hy
      obtain ⟨ho, hy⟩ := ite_some' hy
      split at hy
      · cases hy
      · simp only [Option.some.injEq, XCode.opsd.injEq, and_true] at hy
        exact ⟨_, _, _, rfl, h1, ho, hy.symm⟩
  all_goals repeat' first
    | (cases hy; done)
    | (replace hy := bind_some' hy; obtain ⟨_, _, hy⟩ := hy)
    | (replace hy := map_some' hy; obtain ⟨_, _, hy⟩ := hy)
    | (replace hy := ite_some' hy; obtain ⟨_, hy⟩ := hy)
    | split at hy

theorem strip_inv {xc : XCode} {c : Code} (h : comp P N c = some (strip xc)) :
    match xc with
    | .skip => c = .skip
    | .ops l _ => ∃ id ops, c = .region id ops false ∧ xopsP P N ops ops.toList = some l
    | .opsr l _ => ∃ id ops, c = .region id ops true ∧ xopsP P N ops ops.toList = some l ∧ l.all (fun o => quiet o.i) = true ∧ orderOk ops l = true
    | .opsd l _ => ∃ id ops l0, c = .region id ops true ∧ xopsP P N ops ops.toList = some l0 ∧ orderOk ops l0 = true ∧ okD l = true ∧ sortD l = tagD 0 l0 (preList ops.toList [])
    | .opsc l _ => ∃ id ops l0, c = .region id ops true ∧ xopsP P N ops ops.toList = some l0 ∧ orderOk ops l0 = true ∧ okC l = true ∧ sortD l = tagD 0 l0 (preList ops.toList [])
    | .seq x y => ∃ cx cy, c = .seq cx cy ∧ comp P N cx = some (strip x) ∧ comp P N cy = some (strip y)
    | .cond g x y => ∃ o cx cy, c = .cond o cx cy ∧ argOf N o = some g ∧ comp P N cx = some (strip x) ∧ comp P N cy = some (strip y)
    | .block id x => ∃ cx, c = .block id cx ∧ comp P N cx = some (strip x)
    | .loop x => ∃ cx, c = .loop cx ∧ comp P N cx = some (strip x)
    | .exit id => c = .exit id
    | .ret => c = .ret := by
  by_cases hopsd : ∃ l k, xc = .opsd l k
  · obtain ⟨l, k, rfl⟩ := hopsd
    by_cases hk : okD l = true
    · rw [show strip (.opsd l k) = .opsd (sortD l) none from by simp [strip, hk]] at h
      obtain ⟨id, ops, l0, h1, h2, h3, h4⟩ := strip_drawn h
      exact ⟨id, ops, l0, h1, h2, h3, hk, h4⟩
    · exact absurd (by simp [strip, hk]) (comp_not (k := []) h)
  by_cases hopsc : ∃ l k, xc = .opsc l k
  · obtain ⟨l, k, rfl⟩ := hopsc
    by_cases hk : okC l = true
    · rw [show strip (.opsc l k) = .opsd (sortD l) none from by simp [strip, hk]] at h
      obtain ⟨id, ops, l0, h1, h2, h3, h4⟩ := strip_drawn h
      exact ⟨id, ops, l0, h1, h2, h3, hk, h4⟩
    · exact absurd (by simp [strip, hk]) (comp_not (k := []) h)
  replace hopsd : ∀ l k, xc ≠ .opsd l k := fun l k h => hopsd ⟨l, k, h⟩
  replace hopsc : ∀ l k, xc ≠ .opsc l k := fun l k h => hopsc ⟨l, k, h⟩
  cases c with
  | skip => simp only [comp, Option.some.injEq] at h; cases xc <;> (first | exact absurd rfl (hopsd _ _) | exact absurd rfl (hopsc _ _) | simp [strip] at h); rfl
  | region id ops draw =>
    simp only [comp] at h
    obtain ⟨l, h1, h⟩ := bind_some' h
    cases draw
    · cases xc <;> (first | exact absurd rfl (hopsd _ _) | exact absurd rfl (hopsc _ _) | simp [strip] at h)
      subst h; exact ⟨_, _, rfl, h1⟩
    · simp only at h
      obtain ⟨ho, h⟩ := ite_some' h
      split at h
      · rename_i hq
        cases xc <;> (first | exact absurd rfl (hopsd _ _) | exact absurd rfl (hopsc _ _) | simp [strip] at h)
        subst h; exact ⟨_, _, rfl, h1, hq, ho⟩
      · cases xc <;> (first | exact absurd rfl (hopsd _ _) | exact absurd rfl (hopsc _ _) | simp [strip] at h)
  | seq a b =>
    simp only [comp] at h
    obtain ⟨x, h1, h⟩ := bind_some' h
    obtain ⟨y, h2, h⟩ := map_some' h
    cases xc <;> (first | exact absurd rfl (hopsd _ _) | exact absurd rfl (hopsc _ _) | simp [strip] at h)
    obtain ⟨rfl, rfl⟩ := h
    exact ⟨_, _, rfl, h1, h2⟩
  | cond o a b =>
    simp only [comp] at h
    obtain ⟨g, h0, h⟩ := bind_some' h
    obtain ⟨x, h1, h⟩ := bind_some' h
    obtain ⟨y, h2, h⟩ := map_some' h
    cases xc <;> (first | exact absurd rfl (hopsd _ _) | exact absurd rfl (hopsc _ _) | simp [strip] at h)
    obtain ⟨rfl, rfl, rfl⟩ := h
    exact ⟨_, _, _, rfl, h0, h1, h2⟩
  | block id a =>
    simp only [comp] at h
    obtain ⟨x, h1, h⟩ := map_some' h
    cases xc <;> (first | exact absurd rfl (hopsd _ _) | exact absurd rfl (hopsc _ _) | simp [strip] at h)
    obtain ⟨rfl, rfl⟩ := h
    exact ⟨_, rfl, h1⟩
  | loop a =>
    simp only [comp] at h
    obtain ⟨x, h1, h⟩ := map_some' h
    cases xc <;> (first | exact absurd rfl (hopsd _ _) | exact absurd rfl (hopsc _ _) | simp [strip] at h)
    subst h
    exact ⟨_, rfl, h1⟩
  | exit id => simp only [comp, Option.some.injEq] at h; cases xc <;> (first | exact absurd rfl (hopsd _ _) | exact absurd rfl (hopsc _ _) | simp [strip] at h); subst h; rfl
  | ret => simp only [comp, Option.some.injEq] at h; cases xc <;> (first | exact absurd rfl (hopsd _ _) | exact absurd rfl (hopsc _ _) | simp [strip] at h); rfl
  | rangeFunc f p x y => simp [comp] at h
  | scope c => simp [comp] at h
  | label l => simp [comp] at h
  | goto l => simp [comp] at h
  | refuse w => simp [comp] at h

/-- What the abstract run's end is in the model. -/
def Ends (P : Program) (N : Nat) (bb : Bool) (b : Frame) (items : List Item) (cs : List Frame) (ρ : Rho) (m : Mem) (a : Act) (w : World) (e' : Env) (m' : Mem) : Prop :=
  ∃ ρ' a' w' todo, Steps P (lone (b.at a items) cs w) (lone { b.at a' todo with mode := .returning } cs w') ∧ ERel P ρ' N e' a' ∧ DRel P ρ' bb N e' a'.defers ∧ Step ρ m w ρ' m' w'

theorem Ends.of {bb : Bool} {b : Frame} {items items1 : List Item} {cs : List Frame} {ρ1 : Rho} {m1 : Mem} {a1 : Act} {w1 : World} {e' : Env} {m' : Mem}
    (hs : Steps P (lone (b.at a items) cs w) (lone (b.at a1 items1) cs w1)) (hS : Step ρ m w ρ1 m1 w1) (h : Ends P N bb b items1 cs ρ1 m1 a1 w1 e' m') : Ends P N bb b items cs ρ m a w e' m' := by
  obtain ⟨ρ', a', w', todo, h1, h2, h4, h3⟩ := h
  exact ⟨ρ', a', w', todo, hs.trans h1, h2, h4, hS.trans h3⟩

/-- A function's slots at its begin. -/
theorem enter_rel {args : List Value} {args' : Array Value} {n : Nat} (hn : args.length ≤ n) (hfit : n ≤ slotD) (hargs : VsRel ρ args args'.toList) : ERel P ρ n (initEnv 0 args) { tmps := args' ++ Array.replicate (n - args'.size) undef, defers := [] } := by
  have hsz : args'.size = args.length := by have := hargs.length; simpa using this
  refine ⟨by simp; omega, hfit, ?_⟩
  intro s v _ hs
  obtain ⟨v', _, h2, h3⟩ := initEnv_rel 0 hargs s v hs
  refine ⟨v', ?_, h3⟩
  have hlt : s < args'.size := by
    have := (List.getElem?_eq_some_iff.1 h2).1
    simpa using this
  rw [Array.getElem?_append_left hlt]
  simpa using h2
theorem look_initEnv : ∀ (l : List Value) (i s : Nat), i + l.length ≤ s → look (initEnv i l) s = none
  | [], i, s, h => rfl
  | v :: l, i, s, h => by
    simp only [List.length_cons] at h
    simp only [initEnv, look]
    rw [if_neg (by omega), look_initEnv l (i + 1) s (by omega)]

theorem calls_of_ends {f : FuncId} {fn : Func} {c : Code} {F : XFunc} {args : List Value} {args' : Array Value} {e1 : Env} {m1 : Mem} {vs : List Value}
    (hf : P.funcs[f]? = some fn) (hb : fn.body = some c) (hn : F.nargs ≤ fn.ntmps) (hfit : fn.ntmps ≤ slotD) (hres : resP P fn.ntmps fn.results.toList = some F.res)
    (hlen : args.length = F.nargs) (hargs : VsRel ρ args args'.toList)
    (hgo : ∀ (b : Frame) (cs : List Frame) (a : Act), ERel P ρ fn.ntmps (initEnv 0 args) a → DRel P ρ false fn.ntmps (initEnv 0 args) a.defers → Ends P fn.ntmps false b [.code c] cs ρ m a w e1 m1) (hv : xres e1 m1 F.res = some vs) :
    Calls P f args' w fun e w' => ∃ ρ' v', e = .returned v' ∧ VRel ρ' (tup vs) v' ∧ Step ρ m w ρ' m1 w' := by
  intro cs
  let b : Frame := { (default : Frame) with fn := f, kind := .normal }
  have henter : Frame.enter P f args' .normal = b.at { tmps := args' ++ Array.replicate (fn.ntmps - args'.size) undef, defers := [] } [.code c] := by
    simp [Frame.enter, Frame.at, hf, hb, b]
  obtain ⟨ρ', a', w', todo, h1, h2, hD, h3⟩ := hgo b cs _ (enter_rel (by omega) hfit hargs) ⟨fun h => look_initEnv _ _ _ (by omega), fun d hd => by simp at hd⟩
  obtain ⟨v', h4, h5⟩ := results_rel hres hv h2 h3.rel
  have hq := quiet_steps (P := P) (w := w') (cs := cs) a'.defers [] { b.at a' todo with mode := .returning } rfl (by simp [Frame.at]) hD.2
  exact ⟨.returned v', w', _, ⟨ρ', v', rfl, h5, h3⟩, by rw [henter]; exact Steps.trans h1 hq, rfl, rfl, rfl, rfl, fn, hf, h4⟩

/-- A function that is left by way of a closure. -/
theorem calls_of_fin {X : FuncId → Option XDecl} {run : XCode → Env → Mem → Option (Env × Mem)} {f : FuncId} {fn : Func} {c : Code} {F : XFunc} {args : List Value} {args' : Array Value} {e1 : Env} {m1 m2 : Mem} {v : Value}
    (hX : ∀ f d, X f = some d → FnIs P f d)
    (hf : P.funcs[f]? = some fn) (hb : fn.body = some c) (hn : F.nargs ≤ fn.ntmps) (hfit : fn.ntmps ≤ slotD) (hres : resP P fn.ntmps fn.results.toList = some F.res)
    (hlen : args.length = F.nargs) (hargs : VsRel ρ args args'.toList)
    (hgo : ∀ (b : Frame) (cs : List Frame) (a : Act), ERel P ρ fn.ntmps ((slotD, .nilFunc) :: initEnv 0 args) a → DRel P ρ true fn.ntmps ((slotD, .nilFunc) :: initEnv 0 args) a.defers → Ends P fn.ntmps true b [.code c] cs ρ m a w e1 m1)
    (hrun : ∀ (N : Nat) (x : XCode) (cx : Code) (e e' : Env) (m m' : Mem) (ρ : Rho) (w : World) (b : Frame) (cs : List Frame) (a : Act), run x e m = some (e', m') → comp P N cx = some (strip x) → Rel ρ m w → ERel P ρ N e a → DRel P ρ false N e a.defers → Ends P N false b [.code cx] cs ρ m a w e' m')
    (hv : xfin X run F e1 m1 = some (v, m2)) :
    Calls P f args' w fun e w' => ∃ ρ' v', e = .returned v' ∧ VRel ρ' v v' ∧ Step ρ m w ρ' m2 w' := by
  intro cs
  let b : Frame := { (default : Frame) with fn := f, kind := .normal }
  have henter : Frame.enter P f args' .normal = b.at { tmps := args' ++ Array.replicate (fn.ntmps - args'.size) undef, defers := [] } [.code c] := by
    simp [Frame.enter, Frame.at, hf, hb, b]
  have hE0 : ERel P ρ fn.ntmps ((slotD, .nilFunc) :: initEnv 0 args) { tmps := args' ++ Array.replicate (fn.ntmps - args'.size) undef, defers := [] } := by
    have h0 := enter_rel (P := P) (n := fn.ntmps) (by omega) hfit hargs
    refine ⟨h0.size, hfit, fun s v hne hs => ?_⟩
    simp only [look] at hs
    rw [if_neg (fun h => hne h.symm)] at hs
    exact h0.slot s v hne hs
  obtain ⟨ρ', a', w', todo, h1, h2, hD, h3⟩ := hgo b cs _ hE0 ⟨hfit, fun v hv => by
    simp only [look, if_true, Option.some.injEq] at hv
    exact .inl ⟨hv.symm, fun d hd => by simp at hd⟩⟩
  unfold xfin at hv
  split at hv
  · -- none was deferred
    rename_i hl
    obtain ⟨vs, h4, hv⟩ := bind_some' hv
    cases hv
    obtain ⟨v', h5, h6⟩ := results_rel hres h4 h2 h3.rel
    have hqd : ∀ d ∈ a'.defers, QuietD P d := by
      rcases hD.2 _ hl with ⟨_, q⟩ | ⟨_, _, _, _, _, _, g, c0, c0', q, _⟩
      · exact q
      · cases q
    have hq := quiet_steps (P := P) (w := w') (cs := cs) a'.defers [] { b.at a' todo with mode := .returning } rfl (by simp [Frame.at]) hqd
    exact ⟨.returned v', w', _, ⟨ρ', v', rfl, h6, h3⟩, by rw [henter]; exact Steps.trans h1 hq, rfl, rfl, rfl, rfl, fn, hf, h5⟩
  · rename_i g cc hl
    split at hv
    case h_2 => cases hv
    rename_i G hXg
    obtain ⟨⟨hcl, hre⟩, hv⟩ := ite_some' hv
    split at hv
    · cases hv
    rename_i e2 m2' hr2
    obtain ⟨vs, h4, hv⟩ := bind_some' hv
    cases hv
    obtain ⟨gn, gc, hgf, hgname, hgb, hgcomp, ⟨hgN, hgfit⟩, hgres⟩ := hX g _ hXg
    rcases hD.2 _ hl with ⟨q, _⟩ | ⟨pre, d, post, hds, hpre, hpost, g0, c0, c', q1, q2, q3, q4⟩
    · cases q
    cases q1
    -- what stands ahead of the closure
    have s1 := quiet_steps (P := P) (w := w') (cs := cs) pre (d :: post) { b.at a' todo with mode := .returning } rfl (by simp [Frame.at, hds]) hpre
    -- the closure
    have hinv : (invoke d.target d.args).run P w' = .ok (.enter g c') w' := by
      rw [q2, q3]
      have := callFunc_enter (w := w') hgf hgname hgb c'
      simpa [invoke] using this
    have s2 := step_defer (P := P) (fr := { { b.at a' todo with mode := .returning } with defers := d :: post }) (cs := cs) (w := w') (d := d) (ds := post) (by simp) rfl q2 hinv
    let bg : Frame := { (default : Frame) with fn := g, kind := .deferred }
    have hent2 : Frame.enter P g c' .deferred = bg.at { tmps := c' ++ Array.replicate (gn.ntmps - c'.size) undef, defers := [] } [.code gc] := by
      simp [Frame.enter, Frame.at, hgf, hgb, bg]
    obtain ⟨ρ2, a2, w2, todo2, k1, k2, kD, k3⟩ := hrun gn.ntmps G.body gc (initEnv 0 cc.toList) e2 m1 m2 ρ' w' bg ({ { { b.at a' todo with mode := .returning } with defers := d :: post } with defers := post } :: cs) _ hr2 hgcomp h3.rel (enter_rel (by omega) hgfit q4) ⟨fun h => look_initEnv _ _ _ (by omega), fun d hd => by simp at hd⟩
    have hre' : G.res = [] := by simpa using hre
    obtain ⟨gv, kr, _⟩ := results_rel (vs := []) hgres (by rw [hre']; rfl) k2 k3.rel
    have s3 := quiet_steps (P := P) (w := w2) (cs := { { { b.at a' todo with mode := .returning } with defers := d :: post } with defers := post } :: cs) a2.defers [] { bg.at a2 todo2 with mode := .returning } rfl (by simp [Frame.at]) kD.2
    have s4 := step_going_returned (P := P) (w := w2) (fr := { { bg.at a2 todo2 with mode := .returning } with defers := [] }) (c := { { { b.at a' todo with mode := .returning } with defers := d :: post } with defers := post }) (cs := cs) (v := gv) rfl ⟨rfl, rfl, gn, hgf, kr⟩
    have s5 := quiet_steps (P := P) (w := w2) (cs := cs) post [] { { b.at a' todo with mode := .returning } with defers := post } rfl (by simp) hpost
    obtain ⟨v', h5, h6⟩ := results_rel hres h4 (h2.mono k3.ext) k3.rel
    refine ⟨.returned v', w2, { { { b.at a' todo with mode := .returning } with defers := post } with defers := [] }, ⟨ρ2, v', rfl, h6, h3.trans k3⟩, ?_, rfl, rfl, rfl, rfl, fn, hf, h5⟩
    rw [henter]
    rw [hent2] at s2
    exact Steps.trans h1 (Steps.trans s1 (.head s2 (Steps.trans k1 (Steps.trans s3 (.head s4 s5)))))
  · cases hv

/-- A function that is known to answer so. -/
theorem known_good {f : FuncId} {v : Value} {args : List Value} {args' : Array Value} (hd : FnIs P f (.known v)) (h0 : args.length = 0) (hR : Rel ρ m w) (hargs : VsRel ρ args args'.toList) :
    (callFunc f args').run P w = .ok (.enter f args') w ∧ Calls P f args' w fun e w' => ∃ ρ' v', e = .returned v' ∧ VRel ρ' v v' ∧ Step ρ m w ρ' m w' := by
  obtain ⟨hp, ⟨fn, c, h1, h2, h3⟩, h⟩ := hd
  have : args' = #[] := by
    have := hargs.length
    rw [h0] at this
    simpa using this
  subst this
  refine ⟨callFunc_enter h1 h2 h3 _, (h w).mono ?_⟩
  rintro e w' ⟨rfl, g1, g2, g3, g4, g5, g6⟩
  refine ⟨ρ, v, rfl, .refl hp, ⟨.refl _, ⟨?_, hR.excl, hR.fresh, hR.alive⟩, ⟨g1, fun b hb _ => g2 b hb, g3, g4, g5, g6⟩, .refl _ _ _, Nat.le_refl _, fun _ _ _ => rfl, fun _ _ h => h⟩⟩
  intro i o c hi hc
  have hO := hR.obj i o c hi hc
  exact hO.later (.refl _) g1 (g2 _ hO.lt)

theorem xgo_sound {X : FuncId → Option XDecl} (hmix : P.follows .mixedOrders = true) (hX : ∀ f d, X f = some d → FnIs P f d) : ∀ (n : Nat) (k : List XItem) (e : Env) (m : Mem) (e' : Env) (m' : Mem), xgo P X n k e m = some (e', m') →
    ∀ (N : Nat) (items : List Item) (ρ : Rho) (a : Act) (w : World) (bb : Bool) (b : Frame) (cs : List Frame), KRel P N k items → ERel P ρ N e a → DRel P ρ bb N e a.defers → Rel ρ m w → Ends P N bb b items cs ρ m a w e' m' := by
  intro n
  induction n with
  | zero => intro k e m e' m' h; simp [xgo] at h
  | succ n ih =>
    intro k e m e' m' h N items ρ a w bb b cs hK hE hD hR
    have hC : CallSound P (fun f args m => match X f with
        | none => none
        | some (.known v) => if args.length = 0 then some (v, m) else none
        | some (.ext f) => if args.all plain then (ans P (callFunc f args.toArray)).bind fun nx => match nx with
            | .value v => if plain v then some (v, m) else none
            | _ => none
          else none
        | some (.code F) => if args.length = F.nargs then
            match xgo P X n [.code F.body] (initEnv 0 args) m with
            | none => none
            | some (e', m') => (xres e' m' F.res).bind fun vs => some (tup vs, m')
          else none
        | some (.ins F size) => match insG size args m with
          | some r => some r
          | none => if args.length = F.nargs then
            match xgo P X n [.code F.body] (initEnv 0 args) m with
            | none => none
            | some (e', m') => (xres e' m' F.res).bind fun vs => some (tup vs, m')
            else none
        | some (.codeD F) => if args.length = F.nargs then
            match xgo P X n [.code F.body] ((slotD, .nilFunc) :: initEnv 0 args) m with
            | none => none
            | some (e', m') => xfin X (fun c e m => xgo P X n [.code c] e m) F e' m'
          else none) := by
      intro f args m v m1 hc ρ w args' hR hargs
      simp only at hc
      cases hXf : X f with
      | none => rw [hXf] at hc; cases hc
      | some d =>
        rw [hXf] at hc
        have hd := hX f d hXf
        cases d with
        | known u =>
          simp only at hc
          obtain ⟨h0, hc⟩ := ite_some' hc
          cases hc
          exact .inr (known_good hd h0 hR hargs)
        | ext g =>
          simp only at hc
          have hg : g = f := hd
          subst hg
          obtain ⟨hp, hc⟩ := ite_some' hc
          obtain ⟨nx, h1, hc⟩ := bind_some' hc
          cases nx <;> simp only [reduceCtorEq] at hc
          obtain ⟨hpv, hc⟩ := ite_some' hc
          cases hc
          have hargs' := hargs.eq hp
          have : args' = args.toArray := by rw [← hargs']
          subst this
          exact .inl ⟨ρ, _, w, ans_run h1 w, .refl hpv, .refl hR⟩
        | code F =>
          simp only at hc
          obtain ⟨fn, c, hf, hname, hb, hcomp, hnargs, hres⟩ := hd
          obtain ⟨hlen, hc⟩ := ite_some' hc
          cases hgo : xgo P X n [.code F.body] (initEnv 0 args) m with
          | none => rw [hgo] at hc; cases hc
          | some p =>
            obtain ⟨e1, m2⟩ := p
            rw [hgo] at hc
            simp only at hc
            obtain ⟨vs, hvs, hc⟩ := bind_some' hc
            cases hc
            refine .inr ⟨callFunc_enter hf hname hb args', ?_⟩
            exact calls_of_ends hf hb hnargs.1 hnargs.2 hres hlen hargs (fun b cs a hE hD => ih _ _ _ _ _ hgo fn.ntmps [.code c] ρ a w false b cs (.code hcomp .nil) hE hD hR) hvs
        | ins F size =>
          simp only at hc
          obtain ⟨⟨fn, c, hf, hname, hb, hcomp, hnargs, hres⟩, hins⟩ := hd
          refine .inr ⟨callFunc_enter hf hname hb args', ?_⟩
          split at hc
          · rename_i r hg
            cases hc
            exact hins ρ m w args args' v m1 hR hargs hg
          obtain ⟨hlen, hc⟩ := ite_some' hc
          cases hgo : xgo P X n [.code F.body] (initEnv 0 args) m with
          | none => rw [hgo] at hc; cases hc
          | some p =>
            obtain ⟨e1, m2⟩ := p
            rw [hgo] at hc
            simp only at hc
            obtain ⟨vs, hvs, hc⟩ := bind_some' hc
            cases hc
            exact calls_of_ends hf hb hnargs.1 hnargs.2 hres hlen hargs (fun b cs a hE hD => ih _ _ _ _ _ hgo fn.ntmps [.code c] ρ a w false b cs (.code hcomp .nil) hE hD hR) hvs
        | codeD F =>
          simp only at hc
          obtain ⟨fn, c, hf, hname, hb, hcomp, hnargs, hres⟩ := hd
          obtain ⟨hlen, hc⟩ := ite_some' hc
          cases hgo : xgo P X n [.code F.body] ((slotD, .nilFunc) :: initEnv 0 args) m with
          | none => rw [hgo] at hc; cases hc
          | some p =>
            obtain ⟨e1, m2⟩ := p
            rw [hgo] at hc
            simp only at hc
            refine .inr ⟨callFunc_enter hf hname hb args', ?_⟩
            exact calls_of_fin hX hf hb hnargs.1 hnargs.2 hres hlen hargs (fun b cs a hE hD => ih _ _ _ _ _ hgo fn.ntmps [.code c] ρ a w true b cs (.code hcomp .nil) hE hD hR)
              (fun N x cx e e' m m' ρ w b cs a hr hcx hR hE hD => ih _ _ _ _ _ hr N [.code cx] ρ a w false b cs (.code hcx .nil) hE hD hR) hc
    cases hK with
    | nil =>
      simp only [xgo, Option.some.injEq, Prod.mk.injEq] at h
      obtain ⟨rfl, rfl⟩ := h
      exact ⟨ρ, a, w, [], .one step_end, hE, hD, .refl hR⟩
    | block t =>
      simp only [xgo] at h
      exact Ends.of (.one step_inBlock) (.refl hR) (ih _ _ _ _ _ h N _ ρ a w bb b cs t hE hD hR)
    | loop hl t =>
      simp only [xgo] at h
      exact Ends.of (.one step_inLoop) (.refl hR) (ih _ _ _ _ _ h N _ ρ a w bb b cs (.code hl (.loop hl t)) hE hD hR)
    | code hl t =>
      rename_i xc c k k'
      have hinv := strip_inv hl
      cases xc with
      | skip =>
        simp only at hinv
        subst hinv
        simp only [xgo] at h
        exact Ends.of (.one step_skip) (.refl hR) (ih _ _ _ _ _ h N _ ρ a w bb b cs t hE hD hR)
      | ops l keep =>
        obtain ⟨id, ops, rfl, hx⟩ := hinv
        simp only [xgo] at h
        split at h
        case h_2 => cases h
        rename_i e1 m1 hrun
        obtain ⟨en, a1, w1, ⟨rfl, ρ1, hE1, hD1, hS1⟩, harr⟩ := ops_wp (id := id) (keep := keep) hC hx hrun hE hD hR b k' cs
        exact Ends.of harr hS1 (ih _ _ _ _ _ h N _ ρ1 a1 w1 bb b cs t hE1 hD1 hS1.rel)
      | opsr l keep =>
        obtain ⟨id, ops, rfl, hx, hq, ho⟩ := hinv
        simp only [xgo] at h
        split at h
        case h_2 => cases h
        rename_i e1 m1 hrun
        obtain ⟨en, a1, w1, ⟨rfl, ρ1, hE1, hd1, hS1⟩, harr⟩ := quiet_wp (id := id) (keep := keep) hmix hx hq ho hrun hE hR b k' cs
        have hsl := xops_slot hrun (fun o ho d hd => Nat.lt_of_lt_of_le (xopsP_dst hx o ho d hd) hE.fit) (fun o ho => List.all_eq_true.1 hq o ho)
        have hD1 : DRel P ρ1 bb N (keepOf keep e1) a1.defers := by
          rw [hd1]
          exact ((hD.mono hS1.ext).env (e' := e1) fun _ => .inl hsl).keep
        exact Ends.of harr hS1 (ih _ _ _ _ _ h N _ ρ1 a1 w1 bb b cs t hE1 hD1 hS1.rel)
      | opsd l keep =>
        obtain ⟨id, ops, l0, rfl, hx, ho, hok, hs⟩ := hinv
        simp only [xgo] at h
        split at h
        case h_2 => cases h
        rename_i e1 m1 hrun
        obtain ⟨en, a1, w1, ⟨rfl, ρ1, hE1, hd1, hS1⟩, harr⟩ := drawn_wp (id := id) (keep := keep) hC hmix hx ho hok hs hrun hE hR b k' cs
        have hsl := xopsD_slot hrun (fun o ho d hd => Nat.lt_of_lt_of_le (drawn_dst hx hok hs o ho d hd) hE.fit)
        have hD1 : DRel P ρ1 bb N (keepOf keep e1) a1.defers := by
          rw [hd1]
          exact ((hD.mono hS1.ext).env (e' := e1) fun _ => .inl hsl).keep
        exact Ends.of harr hS1 (ih _ _ _ _ _ h N _ ρ1 a1 w1 bb b cs t hE1 hD1 hS1.rel)
      | opsc l keep =>
        obtain ⟨id, ops, l0, rfl, hx, ho, hok, hs⟩ := hinv
        simp only [xgo] at h
        split at h
        case h_2 => cases h
        rename_i e1 m1 hrun
        obtain ⟨hcc, h⟩ := ite_some' h
        simp only [Bool.and_eq_true] at hcc
        obtain ⟨en, a1, w1, ⟨rfl, ρ1, hE1, hd1, hS1⟩, harr⟩ := drawnC_wp (id := id) (keep := keep) hC hmix hx ho hok hs hrun hcc.1 hcc.2 hE hR b k' cs
        have hsl := xopsD_slot hrun (fun o ho d hd => Nat.lt_of_lt_of_le (drawnC_dst hx hok hs o ho d hd) hE.fit)
        have hD1 : DRel P ρ1 bb N (keepOf keep e1) a1.defers := by
          rw [hd1]
          exact ((hD.mono hS1.ext).env (e' := e1) fun _ => .inl hsl).keep
        exact Ends.of harr hS1 (ih _ _ _ _ _ h N _ ρ1 a1 w1 bb b cs t hE1 hD1 hS1.rel)
      | seq x y =>
        obtain ⟨cx, cy, rfl, h1, h2⟩ := hinv
        simp only [xgo] at h
        exact Ends.of (.one step_seq) (.refl hR) (ih _ _ _ _ _ h N _ ρ a w bb b cs (.code h1 (.code h2 t)) hE hD hR)
      | cond g x y =>
        obtain ⟨o, cx, cy, rfl, h0, h1, h2⟩ := hinv
        simp only [xgo] at h
        split at h
        case h_2 => cases h
        rename_i tt hg
        have he := (arg_rel h0 hg hE).eq rfl
        refine Ends.of (.one (step_cond he)) (.refl hR) (ih _ _ _ _ _ h N _ ρ a w bb b cs ?_ hE hD hR)
        cases tt
        · exact .code h2 t
        · exact .code h1 t
      | block id x =>
        obtain ⟨cx, rfl, h1⟩ := hinv
        simp only [xgo] at h
        exact Ends.of (.one step_block) (.refl hR) (ih _ _ _ _ _ h N _ ρ a w bb b cs (.code h1 (.block t)) hE hD hR)
      | loop x =>
        obtain ⟨cx, rfl, h1⟩ := hinv
        simp only [xgo] at h
        exact Ends.of (.one step_loop) (.refl hR) (ih _ _ _ _ _ h N _ ρ a w bb b cs (.code h1 (.loop h1 t)) hE hD hR)
      | exit id =>
        simp only at hinv
        subst hinv
        simp only [xgo] at h
        split at h
        case h_2 => cases h
        rename_i k1 hk1
        obtain ⟨k1', h1, h2⟩ := exit_rel t hk1
        exact Ends.of (.one (step_exit h1)) (.refl hR) (ih _ _ _ _ _ h N _ ρ a w bb b cs h2 hE hD hR)
      | ret =>
        simp only at hinv
        subst hinv
        simp only [xgo, Option.some.injEq, Prod.mk.injEq] at h
        obtain ⟨rfl, rfl⟩ := h
        exact ⟨ρ, a, w, _, .one step_ret, hE, hD, .refl hR⟩

theorem xcall_sound {X : FuncId → Option XDecl} (hmix : P.follows .mixedOrders = true) (hX : ∀ f d, X f = some d → FnIs P f d) {n : Nat} {f : FuncId} {F : XFunc} {args : List Value} {v : Value} {m' : Mem} (hf : X f = some (.code F))
    (h : xcall P X n f args m = some (v, m')) {args' : Array Value} (hR : Rel ρ m w) (hargs : VsRel ρ args args'.toList) :
    Calls P f args' w fun e w' => ∃ ρ' v', e = .returned v' ∧ VRel ρ' v v' ∧ Step ρ m w ρ' m' w' := by
  unfold xcall at h
  rw [hf] at h
  simp only at h
  obtain ⟨fn, c, hfn, hname, hb, hcomp, hnargs, hres⟩ := hX f _ hf
  obtain ⟨hlen, h⟩ := ite_some' h
  cases hgo : xgo P X n [.code F.body] (initEnv 0 args) m with
  | none => rw [hgo] at h; cases h
  | some p =>
    obtain ⟨e1, m2⟩ := p
    rw [hgo] at h
    simp only at h
    obtain ⟨vs, hvs, h⟩ := bind_some' h
    cases h
    exact calls_of_ends hfn hb hnargs.1 hnargs.2 hres hlen hargs (fun b cs a hE hD => xgo_sound hmix hX n _ _ _ _ _ hgo fn.ntmps [.code c] ρ a w false b cs (.code hcomp .nil) hE hD hR) hvs

/-- What is known of a call from no memory is known of it from any. -/
theorem known_of {X : FuncId → Option XDecl} (hmix : P.follows .mixedOrders = true) (hX : ∀ f d, X f = some d → FnIs P f d) {n : Nat} {f : FuncId} {F : XFunc} {v : Value} (hf : X f = some (.code F))
    (h : (xcall P X n f [] Mem.empty).map (·.1) = some v) (hp : plain v = true) : FnIs P f (.known v) := by
  obtain ⟨⟨v1, m'⟩, h1, h2⟩ := map_some' h
  simp only at h2
  subst h2
  obtain ⟨fn, c, g1, g2, g3, _⟩ := hX f _ hf
  refine ⟨hp, ⟨fn, c, g1, g2, g3⟩, fun w => ?_⟩
  have hR0 : Rel (fun _ => none) Mem.empty w := ⟨fun i o c h => by simp [Mem.get, Mem.empty, Tr.get] at h, fun i j o oj c cj _ h => by simp [Mem.get, Mem.empty, Tr.get] at h, fun _ _ => rfl, fun i o h => by simp [Mem.get, Mem.empty, Tr.get] at h⟩
  refine (xcall_sound hmix hX hf h1 (args' := #[]) hR0 .nil).mono ?_
  rintro e w' ⟨ρ', v', rfl, hv, hS⟩
  have := hv.eq hp
  subst this
  exact ⟨rfl, hS.fr.size, fun b hb => hS.fr.keep b hb (fun i o c h1 _ _ => by simp [Mem.get, Mem.empty, Tr.get] at h1), hS.fr.os, hS.fr.tape, hS.fr.output, hS.fr.frozen⟩

end
end Go.Proofs.YtnlmnejellipdaaGreat.X
