/-
  Own work. Regions whose order the tape draws, with operations that change memory: the theorem 'drawn_wp'.
-/
import Derived.Test.YtnlmnejellipdaaGreatXOrd3
namespace Go.Proofs.YtnlmnejellipdaaGreat.X
open Go
set_option linter.unusedVariables false
set_option linter.unusedSimpArgs false

section
variable {P : Program} {ρ : Rho} {N : Nat} {e : Env} {a : Act} {m : Mem} {w : World} {C : FuncId → List Value → Mem → Option (Value × Mem)}

/-- Where a run through a region stands: what is listed is done. -/
structure OInv (P : Program) (N : Nat) (D : List Deferred) (ops : Array Oper) (l : List (Nat × Nat × XOp)) (vs : List Value) (μ : Nat → Mem) (e : Env) (ρ : Rho) (m : Mem) (w : World) (listed : Array Bool) (a1 : Act) (w1 : World) : Prop where
  size : listed.size = ops.size
  closed : ∀ (i : Nat) o, listed.getD i false = true → ops[i]? = some o → ∀ x ∈ o.after.toList, Region.binds .any x = true → listed.getD x.on false = true
  slots : ∃ ρ1 g, PInv l vs μ e ρ m w (fun j => listed.getD j false) g ρ1 w1 ∧ stop l g ∧ a1.tmps.size = N ∧ a1.defers = D ∧
    (∀ s v, s ≠ slotD → (∀ (k : Nat) (x : Nat × Nat × XOp), l[k]? = some x → x.2.2.dst = some s → listed.getD x.1 false = false) → look e s = some v → ∃ v', a1.tmps[s]? = some v' ∧ VRel ρ1 v v') ∧
    (∀ (k : Nat) (x : Nat × Nat × XOp) v s, l[k]? = some x → vs[k]? = some v → x.2.2.dst = some s → listed.getD x.1 false = true → ∃ v', a1.tmps[s]? = some v' ∧ VRel ρ1 v v')

theorem order_any {D : List Deferred} (hC : CallSound P C) {ops : Array Oper} {l0 : List XOp} {l : List (Nat × Nat × XOp)} {vs : List Value} {μ : Nat → Mem} {Q : Exit → Act → World → Prop} (hxs : xopsP P N ops ops.toList = some l0) (ho : orderOk ops l0 = true)
    {ex ey : Nat} (hspec : OrdE l l0 (preList ops.toList []) ex ey) (hT : Trace P C l vs μ e []) (h0 : μ 0 = m)
    (hfit : N ≤ slotD) (hQ : ∀ a1 w1 ρ1, ERel P ρ1 N (envAt (lo l) vs e l.length) a1 → a1.defers = D → Step ρ m w ρ1 (μ l.length) w1 → Q .normal a1 w1)
    {I : Array Bool → Prop} (hIs : ∀ listed j, I listed → I (listed.setIfInBounds j true))
    (hY : ∀ (fuel : Nat) (U : List Nat) (listed : Array Bool) (a1 : Act) (w1 : World) (k : Nat) (x : Nat × Nat × XOp) (o : Oper) (ρ1 : Rho) (g : Nat), U.Nodup → U.length = fuel + 1 → (∀ i, i < ops.size → (i ∈ U ↔ listed.getD i false = false)) → (∀ i ∈ U, i < ops.size) → I listed →
      listed.size = ops.size → (∀ (i : Nat) o, listed.getD i false = true → ops[i]? = some o → ∀ x ∈ o.after.toList, Region.binds .any x = true → listed.getD x.on false = true) → ey < ops.size →
      l[k]? = some x → x.1 = ey → ops[ey]? = some o → xopP P N ops o = some x.2.2 → listed.getD ey false = false → listed.getD ex false = false → (∀ z ∈ o.after.toList, Region.binds .any z = true → listed.getD z.on false = true) → (∀ i, x.2.1.testBit i = true → listed.getD i false = true) →
      PInv l vs μ e ρ m w (fun j => listed.getD j false) g ρ1 w1 → stop l g → a1.tmps.size = N → a1.defers = D →
      (∀ s v, s ≠ slotD → (∀ (k : Nat) (x : Nat × Nat × XOp), l[k]? = some x → x.2.2.dst = some s → listed.getD x.1 false = false) → look e s = some v → ∃ v', a1.tmps[s]? = some v' ∧ VRel ρ1 v v') →
      (∀ (k : Nat) (x : Nat × Nat × XOp) v s, l[k]? = some x → vs[k]? = some v → x.2.2.dst = some s → listed.getD x.1 false = true → ∃ v', a1.tmps[s]? = some v' ∧ VRel ρ1 v v') →
      ERel P ρ1 N (restrict (envAt (lo l) vs e k) (readsOf x.2.2)) a1 →
      wpOp P ops Q ey (wpAny P .any ops Q fuel (listed.setIfInBounds ey true)) a1 w1) :
    ∀ (fuel : Nat) (U : List Nat) (listed : Array Bool) (a1 : Act) (w1 : World), U.Nodup → U.length = fuel → (∀ i, i < ops.size → (i ∈ U ↔ listed.getD i false = false)) → (∀ i ∈ U, i < ops.size) → I listed →
      OInv P N D ops l vs μ e ρ m w listed a1 w1 → wpAny P .any ops Q fuel listed a1 w1 := by
  obtain ⟨hedge, hord⟩ := orderOk_spec ho
  obtain ⟨hlen0, hget0⟩ := xopsP_get hxs
  have hlen' : l0.length = ops.size := by simpa using hlen0
  obtain ⟨hll, hat, hsur, hpair⟩ := hspec
  have hln : l.length = ops.size := by rw [hll, hlen']
  have hvlen : vs.length = ops.size := by rw [hT.len, hln]
  have hdis : ∀ (p q : Nat) (x y : Nat × Nat × XOp), p ≠ q → l[p]? = some x → l[q]? = some y → x.1 ≠ y.1 := by
    intro p q x y hpq hx hy
    rcases Nat.lt_or_gt_of_ne hpq with h | h
    · exact (hpair p q x y h hx hy).1
    · exact (hpair q p y x h hy hx).1.symm
  have hmask : ∀ (k : Nat) (x : Nat × Nat × XOp), l[k]? = some x → (preList ops.toList []).getD x.1 0 = x.2.1 := by
    intro k x hx
    have := (hat k x hx).2.2
    rw [List.getD_eq_getElem?_getD, this]; rfl
  -- slots, by places in the order that was chosen
  have hslot : ∀ (p q : Nat) (x y : Nat × Nat × XOp) (s : Nat), p ≠ q → l[p]? = some x → l[q]? = some y → x.2.2.dst = some s → y.2.2.dst ≠ some s ∧ (s ∈ readsOf y.2.2 → if p < q then y.2.1.testBit x.1 = true else x.2.1.testBit y.1 = true) := by
    intro p q x y s hpq hx hy hd
    obtain ⟨g1, g2⟩ := hord x.1 y.1 x.2.2 y.2.2 s (hdis p q x y hpq hx hy) (hat p x hx).2.1 (hat q y hy).2.1 hd
    refine ⟨g1, fun hr => ?_⟩
    have g3 := g2 hr
    rw [hmask p x hx, hmask q y hy] at g3
    by_cases hlt : p < q
    · rw [if_pos hlt]
      split at g3
      · exact g3
      · rw [(hpair p q x y hlt hx hy).2.1] at g3; cases g3
    · rw [if_neg hlt]
      split at g3
      · rw [(hpair q p y x (by omega) hy hx).2.1] at g3; cases g3
      · exact g3
  -- what comes before what is done, or is ready, is done
  have hbefore : ∀ (listed : Array Bool), (∀ (i : Nat) o, listed.getD i false = true → ops[i]? = some o → ∀ x ∈ o.after.toList, Region.binds .any x = true → listed.getD x.on false = true) →
      ∀ (j : Nat) (o : Oper), ops[j]? = some o → (∀ x ∈ o.after.toList, Region.binds .any x = true → listed.getD x.on false = true) → ∀ (k : Nat) (y : Nat × Nat × XOp), l[k]? = some y → y.1 = j → ∀ i, y.2.1.testBit i = true → listed.getD i false = true := by
    intro listed hcl j o hoj hje k y hy hyj i hi
    rw [← hmask k y hy, hyj] at hi
    exact pre_closed (D := fun i => listed.getD i false = true) hcl j j o (Nat.le_refl _) hoj hje i hi
  have hop : ∀ (k : Nat) (x : Nat × Nat × XOp), l[k]? = some x → ∃ o, ops[x.1]? = some o ∧ xopP P N ops o = some x.2.2 := by
    intro k x hx
    have hj := (hat k x hx).1
    have hoi : ops[x.1]? = some (ops[x.1]'(by omega)) := by rw [Array.getElem?_eq_getElem]
    obtain ⟨y, h1, h2⟩ := hget0 x.1 _ (by rw [Array.getElem?_toList]; exact hoi)
    rw [(hat k x hx).2.1] at h1
    cases h1
    exact ⟨_, hoi, h2⟩
  -- at the end
  have hend : ∀ (listed : Array Bool) (a1 : Act) (w1 : World), (∀ i, i < ops.size → listed.getD i false = true) → OInv P N D ops l vs μ e ρ m w listed a1 w1 → Q .normal a1 w1 := by
    intro listed a1 w1 hall hI
    obtain ⟨ρ1, g, hP, hst, hN, hdef, h1, h2⟩ := hI.slots
    have hg : g = l.length := by
      rcases hst with h | ⟨x, hx, hc⟩
      · exact h
      · have := hP.undone g x (Nat.le_refl _) hx (by omega)
        have h3 := hall x.1 (by have := (hat g x hx).1; omega)
        rw [this] at h3; cases h3
    subst hg
    refine hQ a1 w1 ρ1 ⟨hN, hfit, ?_⟩ hdef hP.step
    intro s v hne hs
    by_cases hw : ∃ (k : Nat) (x : Nat × Nat × XOp), l[k]? = some x ∧ x.2.2.dst = some s
    · obtain ⟨k, x, hk, hd⟩ := hw
      have hkl : k < l.length := (List.getElem?_eq_some_iff.1 hk).1
      have hvk : vs[k]? = some (vs[k]'(by omega)) := by rw [List.getElem?_eq_getElem]
      have := envAt_new (e := e) (lo_get hk) hvk hd (fun i' o' hne ho' => by
        obtain ⟨y, hy, rfl⟩ := lo_get' ho'
        exact (hslot k i' x y s (Ne.symm hne) hk hy hd).1) l.length hkl
      rw [this] at hs
      cases hs
      exact h2 k x _ s hk hvk hd (hall x.1 (by have := (hat k x hk).1; omega))
    · have hno : ∀ (k : Nat) x, l[k]? = some x → x.2.2.dst ≠ some s := fun k x hk hd => hw ⟨k, x, hk, hd⟩
      rw [envAt_old l.length (fun i o _ hi => by obtain ⟨y, hy, rfl⟩ := lo_get' hi; exact hno i y hy)] at hs
      exact h1 s v hne (fun k x hk hd => absurd hd (hno k x hk)) hs
  -- who is ready
  have hready : ∀ (listed : Array Bool) (i : Nat), listed.size = ops.size → i ∈ Region.ready .any ops listed → ∃ o, ops[i]? = some o ∧ listed.getD i false = false ∧ ∀ x ∈ o.after.toList, Region.binds .any x = true → listed.getD x.on false = true := by
    intro listed i hsz hi
    simp only [Region.ready, List.mem_filter, List.mem_range, Bool.and_eq_true, Bool.not_eq_true'] at hi
    obtain ⟨hil, h1, h2⟩ := hi
    have hoi : ops[i]? = some ops[i] := by rw [Array.getElem?_eq_getElem]
    refine ⟨ops[i], hoi, ?_, ?_⟩
    · have hil' : i < listed.size := by omega
      simpa [Array.getD, hil'] using h1
    · rw [hoi] at h2
      simp only [Option.map_some, Option.getD_some] at h2
      rw [Array.all_eq_true_iff_forall_mem] at h2
      intro x hxm hb
      have := h2 x (by simpa using hxm)
      simpa [hb] using this
  have hnone : ∀ (listed : Array Bool), listed.size = ops.size → Region.ready .any ops listed = [] → ∀ i, i < ops.size → listed.getD i false = true := by
    intro listed hsz hr i
    induction i using Nat.strongRecOn with
    | _ i ih =>
      intro hi
      rcases Bool.eq_false_or_eq_true (listed.getD i false) with h | h
      · exact h
      · exfalso
        have : i ∈ Region.ready .any ops listed := by
          simp only [Region.ready, List.mem_filter, List.mem_range, Bool.and_eq_true, Bool.not_eq_true']
          have hil' : i < listed.size := by omega
          refine ⟨hi, by simpa [Array.getD, hil'] using h, ?_⟩
          have hoi : ops[i]? = some ops[i] := by rw [Array.getElem?_eq_getElem]
          rw [hoi]
          simp only [Option.map_some, Option.getD_some]
          rw [Array.all_eq_true_iff_forall_mem]
          intro x hxm
          by_cases hb : Region.binds .any x = true
          · have hlt := hedge i _ hoi x (by simpa using hxm) hb
            rw [ih x.on hlt (by omega)]; simp
          · simp [hb]
        rw [hr] at this
        simp at this
  intro fuel
  induction fuel with
  | zero =>
    intro U listed a1 w1 hnd hUl hU hUb hII hI
    have hU0 : U = [] := List.eq_nil_of_length_eq_zero hUl
    subst hU0
    have hall : ∀ i, i < ops.size → listed.getD i false = true := by
      intro i hi
      rcases Bool.eq_false_or_eq_true (listed.getD i false) with h | h
      · exact h
      · have := (hU i hi).2 h; simp at this
    refine ⟨?_, hend listed a1 w1 hall hI⟩
    cases hr : Region.ready .any ops listed with
    | nil => rfl
    | cons i r =>
      exfalso
      obtain ⟨o, ho', hf, _⟩ := hready listed i hI.size (by rw [hr]; simp)
      have := hall i (Array.getElem?_eq_some_iff.1 ho').1
      rw [this] at hf; cases hf
  | succ fuel ih =>
    intro U listed a1 w1 hnd hUl hU hUb hII hI
    refine ⟨fun hr => hend listed a1 w1 (hnone listed hI.size hr) hI, ?_⟩
    intro j hj
    obtain ⟨o, hoj, hjf, hje⟩ := hready listed j hI.size hj
    have hjs : j < ops.size := (Array.getElem?_eq_some_iff.1 hoj).1
    obtain ⟨k, x, hxk, hxj⟩ := hsur j (by omega)
    obtain ⟨o', ho', hxo⟩ := hop k x hxk
    rw [hxj, hoj] at ho'
    cases ho'
    obtain ⟨gd, hg, hd, hopP, hdst, hgx⟩ := xopP_spec hxo
    obtain ⟨ρ1, g, hP, hst, hN, hdef, h1, h2⟩ := hI.slots
    have hkl : k < l.length := (List.getElem?_eq_some_iff.1 hxk).1
    have hvk : vs[k]? = some (vs[k]'(by omega)) := by rw [List.getElem?_eq_getElem]
    generalize hvkk : vs[k]'(by omega) = vk at hvk
    -- what comes before it is done
    have hbj : ∀ i, x.2.1.testBit i = true → listed.getD i false = true := hbefore listed hI.closed j o hoj hje k x hxk hxj
    -- what it comes before is not
    have haj : ∀ (q : Nat) (y : Nat × Nat × XOp), l[q]? = some y → y.2.1.testBit j = true → listed.getD y.1 false = false := by
      intro q y hy hb
      rcases Bool.eq_false_or_eq_true (listed.getD y.1 false) with h | h
      · exfalso
        obtain ⟨oy, hoy, _⟩ := hop q y hy
        have := hbefore listed hI.closed y.1 oy hoy (fun z hz hb => hI.closed y.1 oy h hoy z hz hb) q y hy rfl j hb
        rw [hjf] at this; cases this
      · exact h
    -- the slots that it reads
    have hread : ∀ s ∈ readsOf x.2.2, s ≠ slotD → ∀ v, look (envAt (lo l) vs e k) s = some v → ∃ v', a1.tmps[s]? = some v' ∧ VRel ρ1 v v' := by
      intro s hsr hne v hv
      by_cases hw : ∃ (i : Nat) (y : Nat × Nat × XOp), i ≠ k ∧ l[i]? = some y ∧ y.2.2.dst = some s
      · obtain ⟨i, y, hik, hi, hd'⟩ := hw
        have hothers : ∀ (i' : Nat) (o'' : XOp), i' ≠ i → (lo l)[i']? = some o'' → o''.dst ≠ some s := by
          intro i' o'' hne ho''
          obtain ⟨z, hz, rfl⟩ := lo_get' ho''
          exact (hslot i i' y z s (Ne.symm hne) hi hz hd').1
        have hpre := (hslot i k y x s hik hi hxk hd').2 hsr
        by_cases hlt : i < k
        · rw [if_pos hlt] at hpre
          have hdone := hbj _ hpre
          have hvi : vs[i]? = some (vs[i]'(by have := (List.getElem?_eq_some_iff.1 hi).1; omega)) := by rw [List.getElem?_eq_getElem]
          rw [envAt_new (lo_get hi) hvi hd' hothers k hlt] at hv
          cases hv
          exact h2 i y _ s hi hvi hd' hdone
        · rw [if_neg hlt] at hpre
          rw [hxj] at hpre
          have hnot := haj i y hi hpre
          rw [envAt_old k (fun i' o'' hi' ho'' => by
            by_cases hii : i' = i
            · omega
            · exact hothers i' o'' hii ho'')] at hv
          refine h1 s v hne (fun i' z hi' hd'' => ?_) hv
          by_cases hii : i' = i
          · subst hii
            rw [hi] at hi'
            cases hi'
            exact hnot
          · exact absurd hd'' (hothers i' _ hii (lo_get hi'))
      · have hno : ∀ (i : Nat) (y : Nat × Nat × XOp), i ≠ k → l[i]? = some y → y.2.2.dst ≠ some s := fun i y hik hi hd' => hw ⟨i, y, hik, hi, hd'⟩
        rw [envAt_old k (fun i o' hik hi => by obtain ⟨z, hz, rfl⟩ := lo_get' hi; exact hno i z (by omega) hz)] at hv
        refine h1 s v hne (fun i z hi hd' => ?_) hv
        by_cases hik : i = k
        · subst hik
          rw [hxk] at hi
          cases hi
          rw [hxj]; exact hjf
        · exact absurd hd' (hno i z hik hi)
    have hEr : ERel P ρ1 N (restrict (envAt (lo l) vs e k) (readsOf x.2.2)) a1 := by
      refine ⟨hN, hfit, fun s v hne hs => ?_⟩
      by_cases hm : s ∈ readsOf x.2.2
      · rw [look_restrict_mem hm] at hs
        exact hread s hm hne v hs
      · exfalso
        have hno : ∀ (L : List Nat), s ∉ L → look (restrict (envAt (lo l) vs e k) L) s = none := by
          intro L
          induction L with
          | nil => intro _; rfl
          | cons q L ihL =>
            intro hm'
            simp only [List.mem_cons, not_or] at hm'
            simp only [restrict]
            cases hk : look (envAt (lo l) vs e k) q with
            | none => exact ihL hm'.2
            | some u => simp only [look]; rw [if_neg (fun h => hm'.1 h.symm)]; exact ihL hm'.2
        rw [hno _ hm] at hs; cases hs
    by_cases hcase : j = ey ∧ listed.getD ex false = false
    · obtain ⟨rfl, hex⟩ := hcase
      exact hY fuel U listed a1 w1 k x o ρ1 g hnd hUl hU hUb hII hI.size hI.closed hjs hxk hxj hoj hxo hjf hex hje hbj hP hst hN hdef h1 h2 hEr
    -- where it stands
    have hkg : cls x.2.2.i ≠ 0 → k ≤ g := by
      intro hc
      rcases Nat.lt_or_ge g k with hlt | hge
      · exfalso
        rcases hst with hgl | ⟨y, hy, hcy⟩
        · omega
        · have hf := hP.undone g y (Nat.le_refl _) hy (by omega)
          rcases (hpair g k y x hlt hy hxk).2.2 hcy hc with hb | ⟨hb1, hb2⟩
          · have ht := hbj _ hb
            rw [ht] at hf; cases hf
          · rw [hb1] at hf
            exact hcase ⟨by rw [← hxj]; exact hb2, hf⟩
      · exact hge
    have hkg3 : cls x.2.2.i = 3 → k = g := by
      intro hc
      rcases Nat.lt_or_ge k g with hlt | hge
      · have := hP.done k x hlt hxk hc
        rw [hxj, hjf] at this; cases this
      · have := hkg (by omega); omega
    have hkgl : cls x.2.2.i ≠ 0 → cls x.2.2.i ≠ 3 → k < g := by
      intro hc hc3
      have h := hkg hc
      rcases Nat.lt_or_ge k g with hlt | hge
      · exact hlt
      · have : k = g := by omega
        subst this
        rcases hst with hgl | ⟨y, hy, hcy⟩
        · omega
        · rw [hxk] at hy; cases hy; exact absurd hcy hc3
    have hwant : wantedX (restrict (envAt (lo l) vs e k) (readsOf x.2.2)) x.2.2.guard = wantedX (envAt (lo l) vs e k) x.2.2.guard := by
      cases hgg : x.2.2.guard with
      | none => rfl
      | some p =>
        obtain ⟨s, b⟩ := p
        simp only [wantedX]
        rw [look_restrict_mem (by simp [readsOf, hgg])]
    have huse : ∀ s ∈ uses x.2.2.i, look (restrict (envAt (lo l) vs e k) (readsOf x.2.2)) s = look (envAt (lo l) vs e k) s :=
      fun s hs => look_restrict_mem (by simp only [readsOf, List.mem_append]; exact .inr hs)
    have hxi : ∀ m', xi P (restrict (envAt (lo l) vs e k) (readsOf x.2.2)) m' x.2.2.i = xi P (envAt (lo l) vs e k) m' x.2.2.i := fun m' => xi_uses huse
    have hset : ∀ i, (listed.setIfInBounds j true).getD i false = if i = x.1 then true else listed.getD i false := by
      intro i
      rw [hxj]
      by_cases hij : i = j
      · subst hij
        have hil' : i < listed.size := by rw [hI.size]; exact hjs
        simp [hil']
      · rw [if_neg hij]
        simp only [Array.getD_eq_getD_getElem?, Array.getElem?_setIfInBounds_ne (fun h => hij h.symm)]
    -- what follows once it is done
    have hnext : ∀ (ρ2 : Rho) (w2 : World) (v' : Value) (p : Nat), PInv l vs μ e ρ m w (fun i => (listed.setIfInBounds j true).getD i false) p ρ2 w2 → Ext ρ1 ρ2 → VRel ρ2 vk v' →
        wpAny P .any ops Q fuel (listed.setIfInBounds j true) (a1.put o.dst v') w2 := by
      intro ρ2 w2 v' p hP2 hx2 hv'
      obtain ⟨g2, hP3, hst2⟩ := hP2.adv hT (l.length - p) p (by have := hP2.le; omega)
      refine ih (U.erase j) _ _ _ (hnd.erase j) ?_ ?_ ?_ (hIs _ _ hII) ⟨by simp [hI.size], ?_, ⟨ρ2, g2, hP3, hst2, ?_, ?_, ?_, ?_⟩⟩
      · have hjU : j ∈ U := (hU j hjs).2 hjf
        rw [List.length_erase_of_mem hjU, hUl]; rfl
      · intro i hi
        rw [hnd.mem_erase_iff, hset, hxj]
        by_cases hij : i = j
        · subst hij; simp
        · rw [if_neg hij, ← hU i hi]; simp [hij]
      · intro i hi
        exact hUb i (List.mem_of_mem_erase hi)
      · intro i oi hi hoi y hy hb
        rw [hset, hxj] at hi ⊢
        by_cases hij : i = j
        · subst hij
          rw [hoj] at hoi
          cases hoi
          split
          · rfl
          · exact hje y hy hb
        · rw [if_neg hij] at hi
          split
          · rfl
          · exact hI.closed i oi hi hoi y hy hb
      · cases o.dst <;> simp [Act.put, hN]
      · cases o.dst <;> exact hdef
      · intro s v hne hno hs
        have hnj : o.dst ≠ some s := by
          intro hds
          have := hno k x hxk (by rw [hdst]; exact hds)
          rw [hset, if_pos rfl] at this; cases this
        obtain ⟨u, k1, k2⟩ := h1 s v hne (fun i oi hi hdi => by
          have := hno i oi hi hdi
          rw [hset] at this
          by_cases hij : oi.1 = x.1
          · rw [if_pos hij] at this; cases this
          · rw [if_neg hij] at this; exact this) hs
        refine ⟨u, ?_, k2.mono hx2⟩
        cases hds : o.dst with
        | none => simpa [Act.put] using k1
        | some d =>
          have : d ≠ s := fun h => hnj (by rw [hds, h])
          simp only [Act.put]
          rw [Array.getElem?_setIfInBounds_ne this]; exact k1
      · intro i oi v s hi hvi hdi hli
        rw [hset] at hli
        by_cases hij : i = k
        · subst hij
          rw [hxk] at hi
          cases hi
          rw [hvk] at hvi
          cases hvi
          rw [hdst] at hdi
          refine ⟨v', ?_, hv'⟩
          simp only [hdi, Act.put]
          rw [Array.getElem?_setIfInBounds_self_of_lt (by rw [hN]; exact hd s hdi)]
        · rw [if_neg (hdis i k oi x hij hi hxk)] at hli
          obtain ⟨u, k1, k2⟩ := h2 i oi v s hi hvi hdi hli
          refine ⟨u, ?_, k2.mono hx2⟩
          cases hds : o.dst with
          | none => simpa [Act.put] using k1
          | some d =>
            have : d ≠ s := by
              intro h
              exact (hslot i k oi x s hij hi hxk hdi).1 (by rw [hdst, hds, h])
            simp only [Act.put]
            rw [Array.getElem?_setIfInBounds_ne this]; exact k1
    -- the operation itself
    unfold wpOp
    rw [hoj]
    simp only
    rcases hT.ops k x vk hxk hvk with ⟨hw1, hv1, hm1⟩ | ⟨hw1, r, hxr, hout, hr2⟩
    · have hwf := wanted_rel (o := o) hg (by rw [← hgx]; exact hwant.trans hw1) hEr
      rw [if_neg (by rw [hwf]; simp)]
      by_cases hc3 : cls x.2.2.i = 3
      · obtain rfl := hkg3 hc3
        exact hnext ρ1 w1 undef (k + 1) (hP.eff hdis hxk hc3 hset (by rw [hm1]; exact .refl hP.step.rel)) (.refl _) (by rw [hv1]; exact .refl rfl)
      · exact hnext ρ1 w1 undef g (hP.move hdis hxk (fun hc => hkgl hc hc3) hset (.refl hP.step.rel)) (.refl _) (by rw [hv1]; exact .refl rfl)
    · have hwt := wanted_rel (o := o) hg (by rw [← hgx]; exact hwant.trans hw1) hEr
      rw [if_pos hwt]
      left
      unfold Oper.wp
      have h4 : cls x.2.2.i < 4 := by cases x.2.2.i <;> simp [cls, quiet]
      by_cases hc3 : cls x.2.2.i = 3
      · obtain rfl := hkg3 hc3
        have hgood := op_sound hopP ((hxi (μ k)).trans hxr) hEr hP.step.rel
        cases r with
        | val v m1 =>
          simp only [outOf, Option.some.injEq, Prod.mk.injEq] at hout
          obtain ⟨rfl, rfl⟩ := hout
          obtain ⟨ρ2, v', w2, k1, k2, k3⟩ := hgood
          rw [k1]
          exact hnext ρ2 w2 v' (k + 1) (hP.eff hdis hxk hc3 hset k3) k3.ext k2
        | skip m1 =>
          simp only [outOf, Option.some.injEq, Prod.mk.injEq] at hout
          obtain ⟨rfl, rfl⟩ := hout
          obtain ⟨ρ2, w2, k1, k3⟩ := hgood
          rw [k1]
          exact hnext ρ2 w2 undef (k + 1) (hP.eff hdis hxk hc3 hset k3) k3.ext (.refl rfl)
        | call f args =>
          simp only [outOf] at hout
          obtain ⟨args', k1, k2⟩ := hgood
          rw [k1]
          rcases hC f args (μ k) vk (μ (k + 1)) hout ρ1 w1 args' hP.step.rel k2 with ⟨ρ2, v', w2, q1, q2, q3⟩ | ⟨q1, q2⟩
          · rw [q1]
            exact hnext ρ2 w2 v' (k + 1) (hP.eff hdis hxk hc3 hset q3) q3.ext q2
          · rw [q1]
            refine Calls.mono q2 ?_
            rintro en w2 ⟨ρ2, v', rfl, z1, z2⟩
            exact hnext ρ2 w2 v' (k + 1) (hP.eff hdis hxk hc3 hset z2) z2.ext z1
      · by_cases hc2 : cls x.2.2.i = 2
        · have hlt := hkgl (by omega) hc3
          obtain ⟨hn, cells, len, hob, hxn, hval⟩ := hP.late k x vk hlt hxk hvk hc2 hw1 (by rw [hxj]; exact hjf)
          obtain ⟨row, t, k1, k2⟩ := op_new hopP hc2 ((xnew_uses hc2 huse).trans hxn) hEr w1
          rw [k1]
          have hP2 := hP.late' h0 hdis hxk hlt hc2 hw1 hset (t := t) hn hob k2
          refine hnext _ _ _ g hP2 (Rho.with_ext _ hn) ?_
          rw [hval]
          cases len with
          | none => exact .cell (.ptr (a := ⟨(μ k).next, 0, none⟩) (c := ⟨w1.heap.size, 0, row.size, 0⟩) rfl (by simp [Rho.with]))
          | some n => exact .cell (.slice (a := ⟨(μ k).next, 0, none⟩) (c := ⟨w1.heap.size, 0, row.size, 0⟩) rfl (by simp [Rho.with]) (Nat.le_refl _))
        · -- it leaves memory alone
          have hnow : ∃ m', xi P (envAt (lo l) vs e k) (μ g) x.2.2.i = some (.val vk m') := by
            obtain ⟨u, rfl⟩ := quiet_spec (cls_quiet (by omega)) hxr
            simp only [outOf, Option.some.injEq, Prod.mk.injEq] at hout
            obtain ⟨rfl, _⟩ := hout
            by_cases hc0 : cls x.2.2.i = 0
            · exact ⟨_, xi_pure hc0 hxr (μ g)⟩
            · have hlt := hkgl hc0 hc3
              refine hT.again k x u g hxk hvk (by omega) hw1 hlt hst ?_
              intro y z hky hyg hz hcz
              rcases Bool.eq_false_or_eq_true (z.2.1.testBit x.1) with hb | hb
              · exfalso
                rw [hxj] at hb
                have := haj y z hz hb
                have hd2 := hP.done y z hyg hz hcz
                rw [this] at hd2; cases hd2
              · exact hb
          obtain ⟨m', hnow⟩ := hnow
          obtain ⟨u, hu⟩ := quiet_spec (cls_quiet (by omega)) hnow
          cases hu
          obtain ⟨ρ2, v', w2, k1, k2, k3⟩ := op_sound hopP ((hxi (μ g)).trans hnow) hEr hP.step.rel
          rw [k1]
          exact hnext ρ2 w2 v' g (hP.move hdis hxk (fun hc => hkgl hc hc3) hset k3) k3.ext k2

theorem drawn_dst {ops : Array Oper} {l0 : List XOp} {l : List (Nat × Nat × XOp)} (hx : xopsP P N ops ops.toList = some l0) (hok : okD l = true) (hs : sortD l = tagD 0 l0 (preList ops.toList [])) :
    ∀ o ∈ l, ∀ d, o.2.2.dst = some d → d < N := by
  obtain ⟨hlen0, _⟩ := xopsP_get hx
  have hlen' : l0.length = ops.size := by simpa using hlen0
  have hpslen : (preList ops.toList []).length = l0.length := by
    obtain ⟨rest, h1, h2, _⟩ := preList_spec ops.toList []
    rw [h1, hlen']; simpa using h2
  obtain ⟨_, hat, _, _⟩ := okD_spec 0 0 hok hs hpslen
  intro o ho d hd
  obtain ⟨k, hk⟩ := List.mem_iff_getElem?.1 ho
  exact xopsP_dst hx o.2.2 (List.mem_of_getElem? (hat k o hk).2.1) d hd

theorem drawn_wp (hC : CallSound P C) {ops : Array Oper} {id : Nat} {l0 : List XOp} {l : List (Nat × Nat × XOp)} {e' : Env} {m' : Mem} {keep : Option (List Nat)} (hmix : P.follows .mixedOrders = true)
    (hx : xopsP P N ops ops.toList = some l0) (ho : orderOk ops l0 = true) (hok : okD l = true) (hs : sortD l = tagD 0 l0 (preList ops.toList [])) (hr : xopsD P C l [] e m = some (e', m')) (hE : ERel P ρ N e a) (hR : Rel ρ m w) :
    (Code.region id ops true).wp P (fun ex a' w' => ex = .normal ∧ ∃ ρ', ERel P ρ' N (keepOf keep e') a' ∧ a'.defers = a.defers ∧ Step ρ m w ρ' m' w') a w := by
  obtain ⟨vs, μ, hT, h0, h1, rfl⟩ := xopsD_trace l [] e m e' m' hr
  subst h1
  have hno : ∀ i, (Array.replicate ops.size false).getD i false = false := by
    intro i
    simp only [Array.getD_eq_getD_getElem?, Array.getElem?_replicate]
    split <;> rfl
  have hP0 : PInv l vs μ e ρ m w (fun j => (Array.replicate ops.size false).getD j false) 0 ρ w.drew := by
    refine ⟨Nat.zero_le _, fun k x h => by omega, fun k x _ _ _ => hno _, by rw [h0]; exact Step.drew hR, ?_, fun k x h => by omega, fun k x v h => by omega⟩
    intro a b h1 h2
    have : a = b := by omega
    subst this; exact Nat.le_refl _
  obtain ⟨g, hPg, hst⟩ := hP0.adv hT l.length 0 (by omega)
  refine wp_region_any hmix ?_
  have hlen0 : l0.length = ops.size := by have := (xopsP_get hx).1; simpa using this
  have hpslen : (preList ops.toList []).length = l0.length := by
    obtain ⟨rest, h1, h2, _⟩ := preList_spec ops.toList []
    rw [h1, hlen0]; simpa using h2
  refine order_any (D := a.defers) (Q := fun ex a' w' => ex = .normal ∧ ∃ ρ', ERel P ρ' N (keepOf keep (envAt (lo l) vs e l.length)) a' ∧ a'.defers = a.defers ∧ Step ρ m w ρ' (μ l.length) w') hC hx ho (okD_spec l0.length l0.length hok hs hpslen) hT h0 hE.fit (fun a1 w1 ρ1 h1 h3 h2 => ⟨rfl, ρ1, h1.keep, h3, h2⟩)
    (I := fun _ => True) (fun _ _ _ => trivial) (fun _ _ _ _ _ k x _ _ _ _ _ _ _ _ _ _ hey hxk hx1 _ _ _ _ _ _ _ _ _ _ _ _ _ => by omega)
    ops.size (List.range ops.size) _ a _ List.nodup_range (by simp) ?_ (by simp) trivial ⟨by simp, ?_, ⟨ρ, g, hPg, hst, hE.size, rfl, ?_, ?_⟩⟩
  · intro i hi; simp [hi]
  · intro i o hi
    rw [hno] at hi; cases hi
  · intro s v hne _ hs; exact hE.slot s v hne hs
  · intro i o v s _ _ _ hi
    rw [hno] at hi; cases hi

end
end Go.Proofs.YtnlmnejellipdaaGreat.X
