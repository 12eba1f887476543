/-
  Own work. Regions whose order the tape draws: where all operations leave memory alone, every order comes to what the text's order comes to.
-/
import Derived.Test.YtnlmnejellipdaaGreatXGo
import Derived.Orders
namespace Go.Proofs.YtnlmnejellipdaaGreat.X
open Go
set_option linter.unusedVariables false
set_option linter.unusedSimpArgs false

section
variable {P : Program} {ρ : Rho} {N : Nat} {e : Env} {a : Act} {m : Mem} {w : World}

/-! ## What an operation reads -/
theorem ev_uses {e e' : Env} {x : Arg} (h : ∀ s ∈ argU x, look e s = look e' s) : x.ev e = x.ev e' := by
  cases x with
  | t s => exact h s (by simp [argU])
  | c v => rfl
theorem evs_uses {e e' : Env} : ∀ {l : List Arg}, (∀ s ∈ argsU l, look e s = look e' s) → evs e l = evs e' l
  | [], _ => rfl
  | x :: l, h => by
    simp only [evs]
    rw [ev_uses (fun s hs => h s (by simp [argsU, hs])), evs_uses (fun s hs => h s (by simp [argsU, hs]))]
theorem xparts_uses {e e' : Env} : ∀ {l : List (Nat × Arg)}, (∀ s ∈ partsU l, look e s = look e' s) → xparts e l = xparts e' l
  | [], _ => rfl
  | (i, x) :: l, h => by
    simp only [xparts]
    rw [ev_uses (fun s hs => h s (by simp [partsU, hs])), xparts_uses (fun s hs => h s (by simp [partsU, hs]))]
theorem evO_uses {e e' : Env} {x : Option Arg} (h : ∀ s ∈ oU x, look e s = look e' s) : evO e x = evO e' x := by
  cases x with
  | none => rfl
  | some x => simp only [evO]; rw [ev_uses (fun s hs => h s (by simpa [oU] using hs))]

theorem xi_uses {e e' : Env} {i : XI} (h : ∀ s ∈ uses i, look e s = look e' s) : xi P e m i = xi P e' m i := by
  cases i <;> simp only [uses, List.mem_append] at h <;> simp only [xi]
  case move x => rw [ev_uses h]
  case pick c x y => rw [ev_uses (x := c) (fun s hs => h s (.inl hs)), ev_uses (x := x) (fun s hs => h s (.inr (.inl hs))), ev_uses (x := y) (fun s hs => h s (.inr (.inr hs)))]
  case box x => rw [ev_uses h]
  case build z pl ps => rw [xparts_uses h]
  case buildArr z sz ps => rw [xparts_uses h]
  case buildSlice z sz n ps => rw [xparts_uses h]
  case load g s x => rw [ev_uses h]
  case store n x y => rw [ev_uses (x := x) (fun s hs => h s (.inl hs)), ev_uses (x := y) (fun s hs => h s (.inr hs))]
  case nilCheck x => rw [ev_uses h]
  case bin op t x y => rw [ev_uses (x := x) (fun s hs => h s (.inl hs)), ev_uses (x := y) (fun s hs => h s (.inr hs))]
  case isNil k n x => rw [ev_uses h]
  case un op x => rw [ev_uses h]
  case conv s d x => rw [ev_uses h]
  case fieldAddr o x => rw [ev_uses h]
  case field g o s x => rw [ev_uses h]
  case indexAddr n x y => rw [ev_uses (x := x) (fun s hs => h s (.inl hs)), ev_uses (x := y) (fun s hs => h s (.inr hs))]
  case indexAddrArr n k x y => rw [ev_uses (x := x) (fun s hs => h s (.inl hs)), ev_uses (x := y) (fun s hs => h s (.inr hs))]
  case index t x y => rw [ev_uses (x := x) (fun s hs => h s (.inl hs)), ev_uses (x := y) (fun s hs => h s (.inr hs))]
  case slice n x lo hi mx => rw [ev_uses (x := x) (fun s hs => h s (.inl hs)), evO_uses (x := lo) (fun s hs => h s (.inr (.inl hs))), evO_uses (x := hi) (fun s hs => h s (.inr (.inr (.inl hs)))), evO_uses (x := mx) (fun s hs => h s (.inr (.inr (.inr hs))))]
  case substr t x lo hi => rw [ev_uses (x := x) (fun s hs => h s (.inl hs)), evO_uses (x := lo) (fun s hs => h s (.inr (.inl hs))), evO_uses (x := hi) (fun s hs => h s (.inr (.inr hs)))]
  case makeSlice z b x y => rw [ev_uses (x := x) (fun s hs => h s (.inl hs)), ev_uses (x := y) (fun s hs => h s (.inr hs))]
  case makeFunc fn x y => rw [evs_uses (l := x) (fun s hs => h s (.inl hs)), evs_uses (l := y) (fun s hs => h s (.inr hs))]
  case extract x i => rw [ev_uses h]
  case call f as => rw [ev_uses (x := f) (fun s hs => h s (.inl hs)), evs_uses (l := as) (fun s hs => h s (.inr hs))]
  case append n b z x y => rw [ev_uses (x := x) (fun s hs => h s (.inl hs)), ev_uses (x := y) (fun s hs => h s (.inr hs))]
  case appendZeros n b z x y => rw [ev_uses (x := x) (fun s hs => h s (.inl hs)), ev_uses (x := y) (fun s hs => h s (.inr hs))]
  case copy n x y => rw [ev_uses (x := x) (fun s hs => h s (.inl hs)), ev_uses (x := y) (fun s hs => h s (.inr hs))]
  case clear z x => rw [ev_uses h]
  case len x => rw [ev_uses h]
  case bstr x => rw [ev_uses h]
  case arrSlice n x => rw [ev_uses h]
  case cap x => rw [ev_uses h]
  case calcB b ts t as => rw [evs_uses h]
  case lookup k z ok x y => rw [ev_uses (x := x) (fun s hs => h s (.inl hs)), ev_uses (x := y) (fun s hs => h s (.inr hs))]
  case mapUpdate k x y v => rw [ev_uses (x := x) (fun s hs => h s (.inl hs)), ev_uses (x := y) (fun s hs => h s (.inr (.inl hs))), ev_uses (x := v) (fun s hs => h s (.inr (.inr hs)))]
  case mapDel k x y => rw [ev_uses (x := x) (fun s hs => h s (.inl hs)), ev_uses (x := y) (fun s hs => h s (.inr hs))]
  case mapClear x => rw [ev_uses h]
  case mapLen x => rw [ev_uses h]
  case mapRange x => rw [ev_uses h]
  case mapNext x => rw [ev_uses h]
  case mapEntry x => rw [ev_uses h]
  case makeIface t x => rw [ev_uses h]
  case invoke tab f as => rw [ev_uses (x := f) (fun s hs => h s (.inl hs)), evs_uses (l := as) (fun s hs => h s (.inr hs))]

theorem look_restrict_mem {e : Env} : ∀ {l : List Nat} {s : Nat}, s ∈ l → look (restrict e l) s = look e s
  | [], s, h => by simp at h
  | k :: l, s, h => by
    simp only [restrict]
    by_cases hks : k = s
    · subst hks
      cases hk : look e k with
      | none =>
        by_cases hm : k ∈ l
        · simp only; rw [look_restrict_mem hm]; exact hk
        · simp only
          cases hl : look (restrict e l) k with
          | none => rfl
          | some v => have := look_restrict l k v hl; rw [hk] at this; cases this
      | some v => simp [look]
    · have hm : s ∈ l := by
        rcases List.mem_cons.1 h with h | h
        · exact absurd h.symm hks
        · exact h
      cases hk : look e k with
      | none => simp only; exact look_restrict_mem hm
      | some v => simp only [look, if_neg hks]; exact look_restrict_mem hm

theorem quiet_spec {i : XI} {r : XR} (hq : quiet i = true) (h : xi P e m i = some r) : ∃ v, r = .val v m := by
  cases i <;> simp only [quiet, Bool.false_eq_true] at hq <;> simp only [xi] at h
  all_goals repeat' first
    | (cases h; done)
    | (cases h; exact ⟨_, rfl⟩)
    | (replace h := bind_some' h; obtain ⟨_, _, h⟩ := h)
    | (replace h := ite_some' h; obtain ⟨_, h⟩ := h)
    | split at h
/-! ## The text's order -/
/-- The slots behind the first j operations. -/
def envAt (l : List XOp) (vs : List Value) (e : Env) : Nat → Env
  | 0 => e
  | j + 1 => match l[j]?, vs[j]? with
    | some o, some v => put o.dst v (envAt l vs e j)
    | _, _ => envAt l vs e j

theorem envAt_cons (o : XOp) (l : List XOp) (v : Value) (vs : List Value) (e : Env) : ∀ j, envAt (o :: l) (v :: vs) e (j + 1) = envAt l vs (put o.dst v e) j
  | 0 => rfl
  | j + 1 => by
    have ih := envAt_cons o l v vs e j
    conv => lhs; unfold envAt
    conv => rhs; unfold envAt
    rw [ih]
    simp only [List.getElem?_cons_succ]

/-- What each operation came to. -/
def Came (P : Program) (m : Mem) (l : List XOp) (vs : List Value) (e : Env) : Prop :=
  vs.length = l.length ∧ ∀ (j : Nat) o v, l[j]? = some o → vs[j]? = some v →
    (wantedX (envAt l vs e j) o.guard = some false ∧ v = undef) ∨ (wantedX (envAt l vs e j) o.guard = some true ∧ xi P (envAt l vs e j) m o.i = some (.val v m))

theorem xops_came {C : FuncId → List Value → Mem → Option (Value × Mem)} : ∀ (l : List XOp) (e e' : Env) (m m' : Mem), l.all (fun o => quiet o.i) = true → xops P C l e m = some (e', m') →
    m' = m ∧ ∃ vs, Came P m l vs e ∧ e' = envAt l vs e l.length
  | [], e, e', m, m', _, h => by
    simp [xops] at h
    obtain ⟨rfl, rfl⟩ := h
    exact ⟨rfl, [], ⟨rfl, fun j o v h => by simp at h⟩, rfl⟩
  | o :: l, e, e', m, m', hq, h => by
    simp only [List.all_cons, Bool.and_eq_true] at hq
    simp only [xops] at h
    cases ht : wantedX e o.guard with
    | none => rw [ht] at h; cases h
    | some t =>
      rw [ht] at h
      have key : ∀ v, xops P C l (put o.dst v e) m = some (e', m') → ((wantedX e o.guard = some false ∧ v = undef) ∨ (wantedX e o.guard = some true ∧ xi P e m o.i = some (.val v m))) →
          m' = m ∧ ∃ vs, Came P m (o :: l) vs e ∧ e' = envAt (o :: l) vs e (o :: l).length := by
        intro v h1 h2
        obtain ⟨h3, vs, h4, h5⟩ := xops_came l _ e' m m' hq.2 h1
        refine ⟨h3, v :: vs, ⟨by simp [h4.1], ?_⟩, by rw [List.length_cons, envAt_cons]; exact h5⟩
        intro j o' v' ho hv
        cases j with
        | zero => simp at ho hv; subst ho; subst hv; exact h2
        | succ j => rw [envAt_cons]; exact h4.2 j o' v' (by simpa using ho) (by simpa using hv)
      cases t with
      | false => exact key undef h (.inl ⟨ht, rfl⟩)
      | true =>
        simp only at h
        cases hx : xi P e m o.i with
        | none =>
          rw [hx] at h
          simp only at h
          split at h
          · rename_i hd; rw [hd] at hq; cases hq.1
          · rename_i hd; rw [hd] at hq; cases hq.1
          · cases h
        | some r =>
          obtain ⟨v, rfl⟩ := quiet_spec hq.1 hx
          rw [hx] at h
          exact key v h (.inr ⟨ht, hx⟩)

theorem look_put_ne {dst : Option Nat} {v : Value} {e : Env} {s : Nat} (h : dst ≠ some s) : look (put dst v e) s = look e s := by
  cases dst with
  | none => rfl
  | some d => simp only [X.put, look]; rw [if_neg (fun h' => h (by rw [h']))]

theorem look_put_eq {v : Value} {e : Env} {s : Nat} : look (put (some s) v e) s = some v := by simp [X.put, look]

/-- Nobody has written the slot yet. -/
theorem envAt_old {l : List XOp} {vs : List Value} {e : Env} {s : Nat} : ∀ j, (∀ i o, i < j → l[i]? = some o → o.dst ≠ some s) → look (envAt l vs e j) s = look e s
  | 0, _ => rfl
  | j + 1, h => by
    have ih := envAt_old (l := l) (vs := vs) (e := e) j (fun i o hi => h i o (by omega))
    simp only [envAt]
    split
    · rename_i o v ho hv
      rw [look_put_ne (h j o (by omega) ho)]; exact ih
    · exact ih

/-- One operation has. -/
theorem envAt_new {l : List XOp} {vs : List Value} {e : Env} {s i : Nat} {o : XOp} {v : Value} (ho : l[i]? = some o) (hv : vs[i]? = some v) (hd : o.dst = some s) (hone : ∀ i' o', i' ≠ i → l[i']? = some o' → o'.dst ≠ some s) :
    ∀ j, i < j → look (envAt l vs e j) s = some v
  | 0, h => by omega
  | j + 1, h => by
    simp only [envAt]
    by_cases hij : i = j
    · subst hij
      rw [ho, hv]
      simp only [hd]
      exact look_put_eq
    · have ih := envAt_new ho hv hd hone j (by omega) (e := e)
      split
      · rename_i o' v' ho' hv'
        rw [look_put_ne (hone j o' (fun e => hij e.symm) ho')]; exact ih
      · exact ih

/-! ## What comes before -/
theorem preList_spec : ∀ (l : List Oper) (acc : List Nat), ∃ rest, preList l acc = acc ++ rest ∧ rest.length = l.length ∧ ∀ (j : Nat) o, l[j]? = some o → rest[j]? = some (preMask (acc ++ rest.take j) o)
  | [], acc => ⟨[], by simp [preList], rfl, fun j o h => by simp at h⟩
  | o :: l, acc => by
    obtain ⟨rest, h1, h2, h3⟩ := preList_spec l (acc ++ [preMask acc o])
    refine ⟨preMask acc o :: rest, by simp [preList, h1], by simp [h2], ?_⟩
    intro j o' hj
    cases j with
    | zero => simp at hj; subst hj; simp
    | succ j =>
      have := h3 j o' (by simpa using hj)
      simp only [List.getElem?_cons_succ, List.take_succ_cons]
      rw [this]; simp

theorem fold_bits {acc : List Nat} {i : Nat} : ∀ (es : List Edge) (s : Nat), (es.foldl (fun s e => if Region.binds .any e then s ||| 2 ^ e.on ||| acc.getD e.on 0 else s) s).testBit i = true →
    s.testBit i = true ∨ ∃ e ∈ es, Region.binds .any e = true ∧ (i = e.on ∨ (acc.getD e.on 0).testBit i = true)
  | [], s, h => .inl h
  | x :: es, s, h => by
    simp only [List.foldl_cons] at h
    rcases fold_bits es _ h with h1 | ⟨y, hy, h2, h3⟩
    · by_cases hb : Region.binds .any x = true
      · rw [if_pos hb] at h1
        simp only [Nat.testBit_or, Bool.or_eq_true] at h1
        rcases h1 with (h1 | h1) | h1
        · exact .inl h1
        · exact .inr ⟨x, by simp, hb, .inl (by rw [Nat.testBit_two_pow] at h1; have := of_decide_eq_true h1; omega)⟩
        · exact .inr ⟨x, by simp, hb, .inr h1⟩
      · rw [if_neg hb] at h1; exact .inl h1
    · exact .inr ⟨y, by simp [hy], h2, h3⟩

/-- What is closed under a region's edges is closed under all that comes before. -/
theorem pre_closed {ops : Array Oper} {D : Nat → Prop} (hD : ∀ (i : Nat) o, D i → ops[i]? = some o → ∀ e ∈ o.after.toList, Region.binds .any e = true → D e.on) :
    ∀ (n j : Nat) (o : Oper), j ≤ n → ops[j]? = some o → (∀ e ∈ o.after.toList, Region.binds .any e = true → D e.on) → ∀ i, ((preList ops.toList []).getD j 0).testBit i = true → D i := by
  intro n
  obtain ⟨rest, h1, h2, h3⟩ := preList_spec ops.toList []
  simp only [List.nil_append] at h1 h3
  rw [h1]
  induction n with
  | zero =>
    intro j o hj ho hE i hi
    have hj0 : j = 0 := by omega
    subst hj0
    have := h3 0 o (by simpa using ho)
    rw [List.getD_eq_getElem?_getD, this] at hi
    simp only [List.take_zero, Option.getD_some, preMask] at hi
    rcases fold_bits _ _ hi with h | ⟨x, hx, hb, rfl | h⟩
    · simp at h
    · exact hE x hx hb
    · simp at h
  | succ n ih =>
    intro j o hj ho hE i hi
    have := h3 j o (by simpa using ho)
    rw [List.getD_eq_getElem?_getD, this] at hi
    simp only [Option.getD_some, preMask] at hi
    rcases fold_bits _ _ hi with h | ⟨x, hx, hb, rfl | h⟩
    · simp at h
    · exact hE x hx hb
    · -- beyond an edge
      have hDx := hE x hx hb
      have hlt : x.on < j := by
        rcases Nat.lt_or_ge x.on j with hl | hl
        · exact hl
        · exfalso
          rw [List.getD_eq_getElem?_getD, List.getElem?_eq_none (by simp; omega)] at h
          simp at h
      have hox : ∃ ox, ops[x.on]? = some ox := by
        have hjs : j < ops.size := (Array.getElem?_eq_some_iff.1 ho).1
        exact ⟨ops[x.on], by rw [Array.getElem?_eq_getElem]⟩
      obtain ⟨ox, hox⟩ := hox
      refine ih x.on ox (by omega) hox (fun e he hbe => hD x.on ox hDx hox e he hbe) i ?_
      rw [List.getD_eq_getElem?_getD] at h ⊢
      rw [List.getElem?_take, if_pos hlt] at h
      exact h

theorem edgesFrom_spec : ∀ (l : List Oper) (k : Nat), edgesFrom k l = true → ∀ (j : Nat) o, l[j]? = some o → ∀ e ∈ o.after.toList, Region.binds .any e = true → e.on < k + j
  | [], k, _, j, o, h => by simp at h
  | x :: l, k, hk, j, o, h => by
    simp only [edgesFrom, Bool.and_eq_true] at hk
    cases j with
    | zero =>
      simp at h
      subst h
      intro e he hb
      have := hk.1
      rw [Array.all_eq_true_iff_forall_mem] at this
      have := this e (by simpa using he)
      simp [hb] at this
      omega
    | succ j =>
      intro e he hb
      have := edgesFrom_spec l (k + 1) hk.2 j o (by simpa using h) e he hb
      omega

/-- What 'orderOk' says. -/
theorem orderOk_spec {ops : Array Oper} {l : List XOp} (h : orderOk ops l = true) :
    (∀ (j : Nat) o, ops[j]? = some o → ∀ e ∈ o.after.toList, Region.binds .any e = true → e.on < j) ∧
    (∀ (i j : Nat) oi oj d, i ≠ j → l[i]? = some oi → l[j]? = some oj → oi.dst = some d → oj.dst ≠ some d ∧
      (d ∈ readsOf oj → if i < j then ((preList ops.toList []).getD j 0).testBit i = true else ((preList ops.toList []).getD i 0).testBit j = true)) := by
  simp only [orderOk, Bool.and_eq_true] at h
  refine ⟨fun j o ho e he hb => by have := edgesFrom_spec _ 0 h.1 j o (by simpa using ho) e he hb; omega, ?_⟩
  intro i j oi oj d hij hi hj hd
  have h2 := h.2
  rw [List.all_eq_true] at h2
  have hil : i < l.length := (List.getElem?_eq_some_iff.1 hi).1
  have hjl : j < l.length := (List.getElem?_eq_some_iff.1 hj).1
  have h3 := h2 i (by simp [hil])
  rw [List.all_eq_true] at h3
  have h4 := h3 j (by simp [hjl])
  simp only [hi, hj, Option.bind_some, hd, Bool.or_eq_true, beq_iff_eq, Bool.and_eq_true, bne_iff_ne, Bool.not_eq_true'] at h4
  rcases h4 with h4 | h4
  · exact absurd h4 hij
  · refine ⟨h4.1, fun hm => ?_⟩
    rcases h4.2 with h5 | h5
    · simp at h5; exact absurd hm h5
    · split
      · rename_i hlt; rw [if_pos hlt] at h5; exact h5
      · rename_i hlt; rw [if_neg hlt] at h5; exact h5

/-! ## Any order -/
theorem xopsP_get {ops : Array Oper} : ∀ {l : List Oper} {xl : List XOp}, xopsP P N ops l = some xl → xl.length = l.length ∧ ∀ (j : Nat) o, l[j]? = some o → ∃ x, xl[j]? = some x ∧ xopP P N ops o = some x
  | [], xl, h => by simp [xopsP] at h; subst h; exact ⟨rfl, fun j o h => by simp at h⟩
  | o :: l, xl, h => by
    obtain ⟨x, xs, rfl, h1, h2⟩ := xopsP_cons h
    obtain ⟨h3, h4⟩ := xopsP_get h2
    refine ⟨by simp [h3], fun j o' hj => ?_⟩
    cases j with
    | zero => simp at hj; subst hj; exact ⟨x, rfl, h1⟩
    | succ j => obtain ⟨y, g1, g2⟩ := h4 j o' (by simpa using hj); exact ⟨y, by simpa using g1, g2⟩

/-- Where a run through a region stands: what is listed is done. -/
structure DInv (P : Program) (N : Nat) (D : List Deferred) (ops : Array Oper) (l : List XOp) (vs : List Value) (e : Env) (ρ : Rho) (m : Mem) (w : World) (listed : Array Bool) (a1 : Act) (w1 : World) : Prop where
  size : listed.size = ops.size
  closed : ∀ (i : Nat) o, listed.getD i false = true → ops[i]? = some o → ∀ x ∈ o.after.toList, Region.binds .any x = true → listed.getD x.on false = true
  slots : ∃ ρ1, Step ρ m w ρ1 m w1 ∧ a1.tmps.size = N ∧ a1.defers = D ∧
    (∀ s v, s ≠ slotD → (∀ (i : Nat) o, l[i]? = some o → o.dst = some s → listed.getD i false = false) → look e s = some v → ∃ v', a1.tmps[s]? = some v' ∧ VRel ρ1 v v') ∧
    (∀ (i : Nat) o v s, l[i]? = some o → vs[i]? = some v → o.dst = some s → listed.getD i false = true → ∃ v', a1.tmps[s]? = some v' ∧ VRel ρ1 v v')

theorem quiet_any {D : List Deferred} {ops : Array Oper} {l : List XOp} {vs : List Value} {Q : Exit → Act → World → Prop} (hx : xopsP P N ops ops.toList = some l) (ho : orderOk ops l = true) (hc : Came P m l vs e)
    (hfit : N ≤ slotD) (hQ : ∀ a1 w1 ρ1, ERel P ρ1 N (envAt l vs e l.length) a1 → a1.defers = D → Step ρ m w ρ1 m w1 → Q .normal a1 w1) :
    ∀ (fuel : Nat) (U : List Nat) (listed : Array Bool) (a1 : Act) (w1 : World), U.Nodup → U.length = fuel → (∀ i, i < ops.size → (i ∈ U ↔ listed.getD i false = false)) → (∀ i ∈ U, i < ops.size) →
      DInv P N D ops l vs e ρ m w listed a1 w1 → wpAny P .any ops Q fuel listed a1 w1 := by
  obtain ⟨hedge, hord⟩ := orderOk_spec ho
  obtain ⟨hlen, hget⟩ := xopsP_get hx
  have hlen' : l.length = ops.size := by simpa using hlen
  have hvlen : vs.length = ops.size := by rw [hc.1, hlen']
  -- at the end
  have hend : ∀ (listed : Array Bool) (a1 : Act) (w1 : World), (∀ i, i < ops.size → listed.getD i false = true) → DInv P N D ops l vs e ρ m w listed a1 w1 → Q .normal a1 w1 := by
    intro listed a1 w1 hall hI
    obtain ⟨ρ1, hS, hN, hdef, h1, h2⟩ := hI.slots
    refine hQ a1 w1 ρ1 ⟨hN, hfit, ?_⟩ hdef hS
    intro s v hne hs
    by_cases hw : ∃ (i : Nat) (o : XOp), l[i]? = some o ∧ o.dst = some s
    · obtain ⟨i, o, hi, hd⟩ := hw
      have hil : i < ops.size := by rw [← hlen']; exact (List.getElem?_eq_some_iff.1 hi).1
      have hvi : vs[i]? = some vs[i] := by rw [List.getElem?_eq_getElem]
      have := envAt_new (e := e) hi hvi hd (fun i' o' hne ho' => (hord i i' o o' s (Ne.symm hne) hi ho' hd).1) l.length (by omega)
      rw [this] at hs
      cases hs
      exact h2 i o _ s hi hvi hd (hall i hil)
    · have hno : ∀ (i : Nat) o, l[i]? = some o → o.dst ≠ some s := fun i o hi hd => hw ⟨i, o, hi, hd⟩
      rw [envAt_old l.length (fun i o _ hi => hno i o hi)] at hs
      exact h1 s v hne (fun i o hi hd => absurd hd (hno i o hi)) hs
  -- who is ready
  have hready : ∀ (listed : Array Bool) (i : Nat), listed.size = ops.size → i ∈ Region.ready .any ops listed → ∃ o, ops[i]? = some o ∧ listed.getD i false = false ∧ ∀ x ∈ o.after.toList, Region.binds .any x = true → listed.getD x.on false = true := by
    intro listed i hsz hi
    simp only [Region.ready, List.mem_filter, List.mem_range, Bool.and_eq_true, Bool.not_eq_true'] at hi
    obtain ⟨hil, h1, h2⟩ := hi
    have hoi : ops[i]? = some ops[i] := by rw [Array.getElem?_eq_getElem]
    refine ⟨ops[i], hoi, ?_, ?_⟩
    · have hil' : i < listed.size := by omega
      simpa [Array.getD, hil'] using h1
    · rw [hoi] at h2
      simp only [Option.map_some, Option.getD_some] at h2
      rw [Array.all_eq_true_iff_forall_mem] at h2
      intro x hxm hb
      have := h2 x (by simpa using hxm)
      simpa [hb] using this
  have hnone : ∀ (listed : Array Bool), listed.size = ops.size → Region.ready .any ops listed = [] → ∀ i, i < ops.size → listed.getD i false = true := by
    intro listed hsz hr i
    induction i using Nat.strongRecOn with
    | _ i ih =>
      intro hi
      rcases Bool.eq_false_or_eq_true (listed.getD i false) with h | h
      · exact h
      · exfalso
        have : i ∈ Region.ready .any ops listed := by
          simp only [Region.ready, List.mem_filter, List.mem_range, Bool.and_eq_true, Bool.not_eq_true']
          have hil' : i < listed.size := by omega
          refine ⟨hi, by simpa [Array.getD, hil'] using h, ?_⟩
          have hoi : ops[i]? = some ops[i] := by rw [Array.getElem?_eq_getElem]
          rw [hoi]
          simp only [Option.map_some, Option.getD_some]
          rw [Array.all_eq_true_iff_forall_mem]
          intro x hxm
          by_cases hb : Region.binds .any x = true
          · have hlt := hedge i _ hoi x (by simpa using hxm) hb
            rw [ih x.on hlt (by omega)]; simp
          · simp [hb]
        rw [hr] at this
        simp at this
  intro fuel
  induction fuel with
  | zero =>
    intro U listed a1 w1 hnd hUl hU hUb hI
    have hU0 : U = [] := List.eq_nil_of_length_eq_zero hUl
    subst hU0
    have hall : ∀ i, i < ops.size → listed.getD i false = true := by
      intro i hi
      rcases Bool.eq_false_or_eq_true (listed.getD i false) with h | h
      · exact h
      · have := (hU i hi).2 h; simp at this
    refine ⟨?_, hend listed a1 w1 hall hI⟩
    cases hr : Region.ready .any ops listed with
    | nil => rfl
    | cons i r =>
      exfalso
      obtain ⟨o, ho', hf, _⟩ := hready listed i hI.size (by rw [hr]; simp)
      have := hall i (Array.getElem?_eq_some_iff.1 ho').1
      rw [this] at hf; cases hf
  | succ fuel ih =>
    intro U listed a1 w1 hnd hUl hU hUb hI
    refine ⟨fun hr => hend listed a1 w1 (hnone listed hI.size hr) hI, ?_⟩
    intro j hj
    obtain ⟨o, hoj, hjf, hje⟩ := hready listed j hI.size hj
    have hjs : j < ops.size := (Array.getElem?_eq_some_iff.1 hoj).1
    obtain ⟨x, hxl, hxo⟩ := hget j o (by simpa using hoj)
    obtain ⟨g, hg, hd, hop, hdst, hgx⟩ := xopP_spec hxo
    obtain ⟨ρ1, hS, hN, hdef, h1, h2⟩ := hI.slots
    have hvj : vs[j]? = some vs[j] := by rw [List.getElem?_eq_getElem]
    -- the slots that it reads
    have hread : ∀ s ∈ readsOf x, s ≠ slotD → ∀ v, look (envAt l vs e j) s = some v → ∃ v', a1.tmps[s]? = some v' ∧ VRel ρ1 v v' := by
      intro s hs hne v hv
      by_cases hw : ∃ (i : Nat) (o' : XOp), i ≠ j ∧ l[i]? = some o' ∧ o'.dst = some s
      · obtain ⟨i, o', hij, hi, hd'⟩ := hw
        obtain ⟨_, hpre⟩ := hord i j o' x s hij hi hxl hd'
        have hpre := hpre hs
        have hil : i < ops.size := by rw [← hlen']; exact (List.getElem?_eq_some_iff.1 hi).1
        by_cases hlt : i < j
        · rw [if_pos hlt] at hpre
          have hdone : listed.getD i false = true := pre_closed (D := fun i => listed.getD i false = true) hI.closed j j o (Nat.le_refl _) hoj hje i hpre
          have hvi : vs[i]? = some vs[i] := by rw [List.getElem?_eq_getElem]
          rw [envAt_new hi hvi hd' (fun i' o'' hne ho'' => (hord i i' o' o'' s (Ne.symm hne) hi ho'' hd').1) j hlt] at hv
          cases hv
          exact h2 i o' _ s hi hvi hd' hdone
        · rw [if_neg hlt] at hpre
          have hnot : listed.getD i false = false := by
            rcases Bool.eq_false_or_eq_true (listed.getD i false) with h | h
            · exfalso
              have hoi : ops[i]? = some ops[i] := by rw [Array.getElem?_eq_getElem]
              have := pre_closed (D := fun i => listed.getD i false = true) hI.closed i i _ (Nat.le_refl _) hoi (fun y hy hb => hI.closed i _ h hoi y hy hb) j hpre
              rw [hjf] at this; cases this
            · exact h
          rw [envAt_old j (fun i' o'' hi' ho'' hd'' => by
            by_cases hii : i' = i
            · subst hii; omega
            · exact (hord i i' o' o'' s (Ne.symm hii) hi ho'' hd').1 hd'')] at hv
          refine h1 s v hne (fun i' o'' hi' hd'' => ?_) hv
          by_cases hii : i' = i
          · subst hii; exact hnot
          · exact absurd hd'' (hord i i' o' o'' s (Ne.symm hii) hi hi' hd').1
      · have hno : ∀ (i : Nat) o', i ≠ j → l[i]? = some o' → o'.dst ≠ some s := fun i o' hij hi hd' => hw ⟨i, o', hij, hi, hd'⟩
        rw [envAt_old j (fun i o' hij hi => hno i o' (by omega) hi)] at hv
        refine h1 s v hne (fun i o' hi hd' => ?_) hv
        by_cases hij : i = j
        · subst hij; exact hjf
        · exact absurd hd' (hno i o' hij hi)
    have hEr : ERel P ρ1 N (restrict (envAt l vs e j) (readsOf x)) a1 := by
      refine ⟨hN, hfit, fun s v hne hs => ?_⟩
      by_cases hm : s ∈ readsOf x
      · rw [look_restrict_mem hm] at hs
        exact hread s hm hne v hs
      · exfalso
        have hno : ∀ (L : List Nat), s ∉ L → look (restrict (envAt l vs e j) L) s = none := by
          intro L
          induction L with
          | nil => intro _; rfl
          | cons k L ihL =>
            intro hm'
            simp only [List.mem_cons, not_or] at hm'
            simp only [restrict]
            cases hk : look (envAt l vs e j) k with
            | none => exact ihL hm'.2
            | some u => simp only [look]; rw [if_neg (fun h => hm'.1 h.symm)]; exact ihL hm'.2
        rw [hno _ hm] at hs; cases hs
    have hwant : wantedX (restrict (envAt l vs e j) (readsOf x)) x.guard = wantedX (envAt l vs e j) x.guard := by
      cases hgg : x.guard with
      | none => rfl
      | some p =>
        obtain ⟨s, b⟩ := p
        simp only [wantedX]
        rw [look_restrict_mem (by simp [readsOf, hgg])]
    have hxi : xi P (restrict (envAt l vs e j) (readsOf x)) m x.i = xi P (envAt l vs e j) m x.i :=
      xi_uses (fun s hs => look_restrict_mem (by simp only [readsOf, List.mem_append]; exact .inr hs))
    -- what follows once it is done
    have hnext : ∀ (ρ2 : Rho) (w2 : World) (v' : Value), Step ρ m w ρ2 m w2 → Ext ρ1 ρ2 → VRel ρ2 vs[j] v' → wpAny P .any ops Q fuel (listed.setIfInBounds j true) (a1.put o.dst v') w2 := by
      intro ρ2 w2 v' hS2 hx2 hv'
      have hset : ∀ i, (listed.setIfInBounds j true).getD i false = if i = j then true else listed.getD i false := by
        intro i
        by_cases hij : i = j
        · subst hij
          have hil' : i < listed.size := by rw [hI.size]; exact hjs
          simp [hil']
        · rw [if_neg hij]
          simp only [Array.getD_eq_getD_getElem?, Array.getElem?_setIfInBounds_ne (fun h => hij h.symm)]
      refine ih (U.erase j) _ _ _ (hnd.erase j) ?_ ?_ ?_ ⟨by simp [hI.size], ?_, ⟨ρ2, hS2, ?_, ?_, ?_, ?_⟩⟩
      · have hjU : j ∈ U := (hU j hjs).2 hjf
        rw [List.length_erase_of_mem hjU, hUl]; rfl
      · intro i hi
        rw [hnd.mem_erase_iff, hset]
        by_cases hij : i = j
        · subst hij; simp
        · rw [if_neg hij, ← hU i hi]; simp [hij]
      · intro i hi
        exact hUb i (List.mem_of_mem_erase hi)
      · intro i oi hi hoi y hy hb
        rw [hset] at hi ⊢
        by_cases hij : i = j
        · subst hij
          rw [hoj] at hoi
          cases hoi
          split
          · rfl
          · exact hje y hy hb
        · rw [if_neg hij] at hi
          split
          · rfl
          · exact hI.closed i oi hi hoi y hy hb
      · cases o.dst <;> simp [Act.put, hN]
      · cases o.dst <;> exact hdef
      · intro s v hne hno hs
        have hnj : o.dst ≠ some s := by
          intro hds
          have := hno j x hxl (by rw [hdst]; exact hds)
          rw [hset, if_pos rfl] at this; cases this
        obtain ⟨u, k1, k2⟩ := h1 s v hne (fun i oi hi hdi => by
          have := hno i oi hi hdi
          rw [hset] at this
          by_cases hij : i = j
          · rw [if_pos hij] at this; cases this
          · rw [if_neg hij] at this; exact this) hs
        refine ⟨u, ?_, k2.mono hx2⟩
        cases hds : o.dst with
        | none => simpa [Act.put] using k1
        | some d =>
          have : d ≠ s := fun h => hnj (by rw [hds, h])
          simp only [Act.put]
          rw [Array.getElem?_setIfInBounds_ne this]; exact k1
      · intro i oi v s hi hvi hdi hli
        rw [hset] at hli
        by_cases hij : i = j
        · subst hij
          rw [hxl] at hi
          cases hi
          rw [hvj] at hvi
          cases hvi
          rw [hdst] at hdi
          refine ⟨v', ?_, hv'⟩
          simp only [hdi, Act.put]
          rw [Array.getElem?_setIfInBounds_self_of_lt (by rw [hN]; exact hd s hdi)]
        · rw [if_neg hij] at hli
          obtain ⟨u, k1, k2⟩ := h2 i oi v s hi hvi hdi hli
          refine ⟨u, ?_, k2.mono hx2⟩
          cases hds : o.dst with
          | none => simpa [Act.put] using k1
          | some d =>
            have : d ≠ s := by
              intro h
              exact (hord i j oi x s hij hi hxl hdi).1 (by rw [hdst, hds, h])
            simp only [Act.put]
            rw [Array.getElem?_setIfInBounds_ne this]; exact k1
    -- the operation itself
    have hcj := hc.2 j x vs[j] hxl hvj
    unfold wpOp
    rw [hoj]
    simp only
    rcases hcj with ⟨hw1, hv1⟩ | ⟨hw1, hv1⟩
    · have hwf := wanted_rel (o := o) hg (by rw [← hgx]; exact hwant.trans hw1) hEr
      rw [if_neg (by rw [hwf]; simp)]
      exact hnext ρ1 w1 undef hS (.refl _) (by rw [hv1]; exact .refl rfl)
    · have hwt := wanted_rel (o := o) hg (by rw [← hgx]; exact hwant.trans hw1) hEr
      rw [if_pos hwt]
      left
      unfold Oper.wp
      obtain ⟨ρ2, v', w2, k1, k2, k3⟩ := op_sound hop (hxi.trans hv1) hEr hS.rel
      rw [k1]
      exact hnext ρ2 w2 v' (hS.trans k3) k3.ext k2

theorem quiet_wp {C : FuncId → List Value → Mem → Option (Value × Mem)} {ops : Array Oper} {id : Nat} {l : List XOp} {e' : Env} {m' : Mem} {keep : Option (List Nat)} (hmix : P.follows .mixedOrders = true)
    (hx : xopsP P N ops ops.toList = some l) (hq : l.all (fun o => quiet o.i) = true) (ho : orderOk ops l = true) (hr : xops P C l e m = some (e', m')) (hE : ERel P ρ N e a) (hR : Rel ρ m w) :
    (Code.region id ops true).wp P (fun ex a' w' => ex = .normal ∧ ∃ ρ', ERel P ρ' N (keepOf keep e') a' ∧ a'.defers = a.defers ∧ Step ρ m w ρ' m' w') a w := by
  obtain ⟨rfl, vs, hc, rfl⟩ := xops_came l e e' m m' hq hr
  refine wp_region_any hmix ?_
  refine quiet_any (D := a.defers) (Q := fun ex a' w' => ex = .normal ∧ ∃ ρ', ERel P ρ' N (keepOf keep (envAt l vs e l.length)) a' ∧ a'.defers = a.defers ∧ Step ρ m' w ρ' m' w') hx ho hc hE.fit (fun a1 w1 ρ1 h1 h3 h2 => ⟨rfl, ρ1, h1.keep, h3, h2⟩)
    ops.size (List.range ops.size) _ a _ List.nodup_range (by simp) ?_ (by simp) ⟨by simp, ?_, ⟨ρ, Step.drew hR, hE.size, rfl, ?_, ?_⟩⟩
  · intro i hi; simp [hi]
  · intro i o hi
    have : (Array.replicate ops.size false).getD i false = false := by
      simp only [Array.getD_eq_getD_getElem?, Array.getElem?_replicate]
      split <;> rfl
    rw [this] at hi; cases hi
  · intro s v hne _ hs; exact hE.slot s v hne hs
  · intro i o v s _ _ _ hi
    have : (Array.replicate ops.size false).getD i false = false := by
      simp only [Array.getD_eq_getD_getElem?, Array.getElem?_replicate]
      split <;> rfl
    rw [this] at hi; cases hi

end
end Go.Proofs.YtnlmnejellipdaaGreat.X
