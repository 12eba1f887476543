/-
  Own work. Regions whose last two operations are stores in either order, to different rows.
-/
import Derived.Test.YtnlmnejellipdaaGreatXOrd4
namespace Go.Proofs.YtnlmnejellipdaaGreat.X
open Go
set_option linter.unusedVariables false
set_option linter.unusedSimpArgs false

section
variable {P : Program} {ρ : Rho} {N : Nat} {e : Env} {a : Act} {m : Mem} {w : World} {C : FuncId → List Value → Mem → Option (Value × Mem)}

/-- The same rows: the same memory. -/
theorem Rel.same {m' : Mem} (h : Rel ρ m w) (hg : ∀ i, m'.get i = m.get i) (hn : m'.next = m.next) : Rel ρ m' w :=
  ⟨fun i o c h1 h2 => h.obj i o c (by rw [← hg]; exact h1) h2, fun i j oi oj ci cj hij h1 h2 h3 h4 h5 h6 => h.excl i j oi oj ci cj hij (by rw [← hg]; exact h1) (by rw [← hg]; exact h2) h3 h4 h5 h6,
    fun i hi => h.fresh i (by rw [← hn]; exact hi), fun i o ho => by rw [hn]; exact h.alive i o (by rw [← hg]; exact ho)⟩
theorem Step.same_mem {ρ' : Rho} {m1 m2 : Mem} {w' : World} (h : Step ρ m w ρ' m1 w') (hg : ∀ i, m2.get i = m1.get i) (hn : m2.next = m1.next) : Step ρ m w ρ' m2 w' :=
  ⟨h.ext, h.rel.same hg hn, h.fr, ⟨fun i o c h1 h2 h3 => h.own.own i o c (by rw [← hg]; exact h1) h2 h3⟩, by rw [hn]; exact h.next, fun i hi hn' => by rw [hg]; exact h.same i hi hn', h.none_⟩

theorem storeB_spec {o : XOp} (h : storeB o = true) : o.guard = none ∧ o.dst = none ∧ ∃ s ax vx, o.i = .store s ax vx := by
  unfold storeB at h
  simp only [Bool.and_eq_true, Option.isNone_iff_eq_none] at h
  obtain ⟨⟨h1, h2⟩, h3⟩ := h
  refine ⟨h1, h2, ?_⟩
  split at h3
  · rename_i s ax vx hi; exact ⟨s, ax, vx, hi⟩
  · cases h3

/-- A store, taken apart. -/
theorem store_inv {E : Env} {M : Mem} {s : Nat} {ax vx : Arg} {r : XR} (h : xi P E M (.store s ax vx) = some r) : ∃ p u M', ax.ev E = some (.pointer (some p)) ∧ vx.ev E = some u ∧ r = .skip M' ∧
    (∀ K, xi P E K (.store s ax vx) = if s = 0 then some (.skip K) else (xstore K p u.cells.toList).bind fun K' => some (.skip K')) ∧ (if s = 0 then M' = M else xstore M p u.cells.toList = some M') := by
  simp only [xi] at h
  obtain ⟨va, h1, h⟩ := bind_some' h
  obtain ⟨u, h2, h⟩ := bind_some' h
  cases va with
  | pointer q =>
    cases q with
    | none => cases h
    | some p =>
      simp only at h
      obtain ⟨hc, h⟩ := ite_some' h
      have hgen : ∀ K, xi P E K (.store s ax vx) = if s = 0 then some (.skip K) else (xstore K p u.cells.toList).bind fun K' => some (.skip K') := fun K => by
        simp only [xi, h1, h2, Option.bind_some, if_pos hc]
      by_cases h0 : s = 0
      · rw [if_pos h0] at h
        cases h
        exact ⟨p, u, M, h1, h2, rfl, hgen, by rw [if_pos h0]⟩
      · rw [if_neg h0] at h
        obtain ⟨M', h3, h⟩ := bind_some' h
        cases h
        exact ⟨p, u, M', h1, h2, rfl, hgen, by rw [if_neg h0]; exact h3⟩
  | _ => cases h

theorem xstore_inv {M M' : Mem} {p : Addr} {vs : List Value} (h : xstore M p vs = some M') : p.spot = none ∧ ∃ o, M.get p.block = some o ∧ o.rw = true ∧ p.off + vs.length ≤ o.cells.length ∧ M' = (M.eraseAll o.kin).set p.block { o with cells := setAll o.cells p.off vs, kin := [] } := by
  unfold xstore at h
  split at h
  · cases h
  rename_i hs
  split at h
  · cases h
  rename_i o ho
  obtain ⟨⟨h1, h2⟩, h⟩ := ite_some' h
  cases h
  exact ⟨hs, o, ho, h1, h2, rfl⟩
theorem xstore_get {M M' : Mem} {p : Addr} {vs : List Value} {o : XObj} (ho : M.get p.block = some o) (h : M' = (M.eraseAll o.kin).set p.block { o with cells := setAll o.cells p.off vs, kin := [] }) (i : Nat) :
    M'.get i = if p.block = i then some { o with cells := setAll o.cells p.off vs, kin := [] } else if i ∈ o.kin then none else M.get i := by
  rw [h, Mem.get_set, Mem.get_eraseAll]

/-- Two stores to different rows. -/
theorem store_comm {M M1 M2 M1' M2' : Mem} {p q : Addr} {vs us : List Value} (hne : p.block ≠ q.block) (h1 : xstore M p vs = some M1) (h2 : xstore M1 q us = some M2) (h3 : xstore M q us = some M1') (h4 : xstore M1' p vs = some M2') :
    (∀ i, M2.get i = M2'.get i) ∧ M2.next = M2'.next := by
  obtain ⟨_, o, ho, _, _, e1⟩ := xstore_inv h1
  obtain ⟨_, o2, ho2, _, _, e2⟩ := xstore_inv h2
  obtain ⟨_, u, hu, _, _, e3⟩ := xstore_inv h3
  obtain ⟨_, u2, hu2, _, _, e4⟩ := xstore_inv h4
  have g1 := xstore_get ho e1
  have g2 := xstore_get ho2 e2
  have g3 := xstore_get hu e3
  have g4 := xstore_get hu2 e4
  have a1 : o2 = u ∧ q.block ∉ o.kin := by
    rw [g1 q.block, if_neg hne] at ho2
    split at ho2
    · cases ho2
    · rename_i hk
      rw [hu] at ho2
      cases ho2
      exact ⟨rfl, hk⟩
  have a2 : u2 = o ∧ p.block ∉ u.kin := by
    rw [g3 p.block, if_neg (Ne.symm hne)] at hu2
    split at hu2
    · cases hu2
    · rename_i hk
      rw [ho] at hu2
      cases hu2
      exact ⟨rfl, hk⟩
  obtain ⟨rfl, k1⟩ := a1
  obtain ⟨rfl, k2⟩ := a2
  constructor
  · intro i
    rw [g2 i, g1 i, g4 i, g3 i]
    by_cases b1 : q.block = i
    · subst b1
      rw [if_pos rfl, if_neg hne, if_neg k1, if_pos rfl]
    · rw [if_neg b1]
      by_cases b2 : p.block = i
      · subst b2
        rw [if_neg k2, if_pos rfl, if_pos rfl]
      · rw [if_neg b2, if_neg b2, if_neg b1]
        by_cases c1 : i ∈ o2.kin <;> by_cases c2 : i ∈ u2.kin <;> simp [c1, c2]
  · rw [e2, e1, e4, e3]; simp

theorem storeAt_eq {E E' : Env} {o : XOp} (h : ∀ s ∈ uses o.i, look E s = look E' s) : storeAt E o = storeAt E' o := by
  unfold storeAt
  split
  · rename_i s ax vx hi
    rw [ev_uses (x := ax) (fun t ht => h t (by rw [hi]; simp [uses, ht]))]
  · rfl

/-- Two runs that begin alike go on alike. -/
theorem trace_agree {A B B' : List (Nat × Nat × XOp)} {vs vs2 : List Value} {μ μ2 : Nat → Mem} (hT : Trace P C (A ++ B) vs μ e []) (hT2 : Trace P C (A ++ B') vs2 μ2 e []) (h0 : μ 0 = μ2 0) :
    ∀ k, k ≤ A.length → μ k = μ2 k ∧ envAt (lo (A ++ B)) vs e k = envAt (lo (A ++ B')) vs2 e k ∧ ∀ i, i < k → vs[i]? = vs2[i]?
  | 0, _ => ⟨h0, rfl, fun i hi => by omega⟩
  | k + 1, hk => by
    obtain ⟨i1, i2, i3⟩ := trace_agree hT hT2 h0 k (by omega)
    have hlt : k < A.length := by omega
    obtain ⟨z, hz⟩ : ∃ z, A[k]? = some z := ⟨_, List.getElem?_eq_getElem hlt⟩
    have z1 : (A ++ B)[k]? = some z := by rw [List.getElem?_append_left hlt]; exact hz
    have z2 : (A ++ B')[k]? = some z := by rw [List.getElem?_append_left hlt]; exact hz
    obtain ⟨v, hv⟩ : ∃ v, vs[k]? = some v := ⟨_, List.getElem?_eq_getElem (by rw [hT.len]; simp; omega)⟩
    obtain ⟨v2, hv2⟩ : ∃ v, vs2[k]? = some v := ⟨_, List.getElem?_eq_getElem (by rw [hT2.len]; simp; omega)⟩
    have key : v = v2 ∧ μ (k + 1) = μ2 (k + 1) := by
      have g1 := hT.ops k z v z1 hv
      have g2 := hT2.ops k z v2 z2 hv2
      rw [← i2, ← i1] at g2
      rcases g1 with ⟨a1, a2, a3⟩ | ⟨a1, r, a2, a3, _⟩
      · rcases g2 with ⟨b1, b2, b3⟩ | ⟨b1, _⟩
        · exact ⟨by rw [a2, b2], by rw [a3, b3]⟩
        · rw [a1] at b1; cases b1
      · rcases g2 with ⟨b1, _⟩ | ⟨b1, r2, b2, b3, _⟩
        · rw [a1] at b1; cases b1
        · rw [a2] at b2
          cases b2
          rw [a3] at b3
          simp only [Option.some.injEq, Prod.mk.injEq] at b3
          exact b3
    refine ⟨key.2, ?_, fun i hi => ?_⟩
    · simp only [envAt, lo_get z1, lo_get z2, hv, hv2]
      rw [i2, key.1]
    · rcases Nat.lt_or_ge i k with h | h
      · exact i3 i h
      · obtain rfl : i = k := by omega
        rw [hv, hv2, key.1]

theorem drawnC_wp (hC : CallSound P C) {ops : Array Oper} {id : Nat} {l0 : List XOp} {l : List (Nat × Nat × XOp)} {e' : Env} {m' : Mem} {keep : Option (List Nat)} (hmix : P.follows .mixedOrders = true)
    (hx : xopsP P N ops ops.toList = some l0) (ho : orderOk ops l0 = true) (hok : okC l = true) (hs : sortD l = tagD 0 l0 (preList ops.toList [])) (hr : xopsD P C l [] e m = some (e', m')) (hr2 : (xopsD P C (swapL l) [] e m).isSome = true)
    (hap : apartC e' l = true) (hE : ERel P ρ N e a) (hR : Rel ρ m w) :
    (Code.region id ops true).wp P (fun ex a' w' => ex = .normal ∧ ∃ ρ', ERel P ρ' N (keepOf keep e') a' ∧ a'.defers = a.defers ∧ Step ρ m w ρ' m' w') a w := by
  have hlen0 : l0.length = ops.size := by have := (xopsP_get hx).1; simpa using this
  have hpslen : (preList ops.toList []).length = l0.length := by
    obtain ⟨rest, h1, h2, _⟩ := preList_spec ops.toList []
    rw [h1, hlen0]; simpa using h2
  obtain ⟨x, y, hl, sx, sy, hne, hO1, hO2⟩ := okC_spec hok hs hpslen
  obtain ⟨q1, q2⟩ := lastL_spec hl
  obtain ⟨⟨e2, m2⟩, hr2⟩ := Option.isSome_iff_exists.1 hr2
  unfold apartC at hap
  rw [hl] at hap
  simp only at hap
  generalize hA : cutL l = A at q1 q2
  rw [q2] at hr2 hO2
  rw [q1] at hr hO1
  obtain ⟨vs, μ, hT, h0, h1, rfl⟩ := xopsD_trace (A ++ [x, y]) [] e m e' m' hr
  obtain ⟨vs2, μ2, hT2, h02, h12, he2⟩ := xopsD_trace (A ++ [y, x]) [] e m e2 m2 hr2
  subst h1
  clear hr hr2 hl hA q1 q2 hok hs
  have hagree := trace_agree hT hT2 (h0.trans h02.symm)
  obtain ⟨n, hn⟩ : ∃ n, A.length = n := ⟨_, rfl⟩
  have hln : (A ++ [x, y]).length = n + 2 := by simp [hn]
  have hln2 : (A ++ [y, x]).length = n + 2 := by simp [hn]
  rw [hn] at hagree
  rw [hln] at hap ⊢
  obtain ⟨gx, dx, sx1, ax, vx, ix⟩ := storeB_spec sx
  obtain ⟨gy, dy, sy1, ay, vy, iy⟩ := storeB_spec sy
  have cx : cls x.2.2.i = 3 := by rw [ix]; rfl
  have cy : cls y.2.2.i = 3 := by rw [iy]; rfl
  -- places
  have px : (A ++ [x, y])[n]? = some x := by rw [← hn]; simp
  have py : (A ++ [x, y])[n + 1]? = some y := by rw [← hn]; simp
  have py2 : (A ++ [y, x])[n]? = some y := by rw [← hn]; simp
  have px2 : (A ++ [y, x])[n + 1]? = some x := by rw [← hn]; simp
  have pA : ∀ (k : Nat) (z : Nat × Nat × XOp), k < n → ((A ++ [x, y])[k]? = some z ↔ (A ++ [y, x])[k]? = some z) := fun k z hk => by
    rw [List.getElem?_append_left (by omega), List.getElem?_append_left (by omega)]
  have vlen : vs.length = n + 2 := by rw [hT.len, hln]
  have vlen2 : vs2.length = n + 2 := by rw [hT2.len, hln2]
  obtain ⟨ux, hux⟩ : ∃ u, vs[n]? = some u := ⟨_, List.getElem?_eq_getElem (by omega)⟩
  obtain ⟨uy, huy⟩ : ∃ u, vs[n + 1]? = some u := ⟨_, List.getElem?_eq_getElem (by omega)⟩
  obtain ⟨ty, hty⟩ : ∃ u, vs2[n]? = some u := ⟨_, List.getElem?_eq_getElem (by omega)⟩
  obtain ⟨tx, htx⟩ : ∃ u, vs2[n + 1]? = some u := ⟨_, List.getElem?_eq_getElem (by omega)⟩
  -- slots stay
  have env1 : envAt (lo (A ++ [x, y])) vs e (n + 1) = envAt (lo (A ++ [x, y])) vs e n := by simp only [envAt, lo_get px, hux, dx, put]
  have env2 : envAt (lo (A ++ [x, y])) vs e (n + 2) = envAt (lo (A ++ [x, y])) vs e n := by
    rw [← env1]; simp only [envAt, lo_get py, huy, dy, put]
  have env1' : envAt (lo (A ++ [y, x])) vs2 e (n + 1) = envAt (lo (A ++ [x, y])) vs e n := by
    rw [(hagree n (Nat.le_refl _)).2.1]; simp only [envAt, lo_get py2, hty, dy, put]
  have env2' : envAt (lo (A ++ [y, x])) vs2 e (n + 2) = envAt (lo (A ++ [x, y])) vs e n := by
    rw [← env1']; simp only [envAt, lo_get px2, htx, dx, put]
  generalize hEn : envAt (lo (A ++ [x, y])) vs e n = En at env1 env2 env1' env2'
  have hμ : μ n = μ2 n := (hagree n (Nat.le_refl _)).1
  have hEn2 : envAt (lo (A ++ [y, x])) vs2 e n = En := by rw [← (hagree n (Nat.le_refl _)).2.1]; exact hEn
  -- the four stores
  have S1 : ∃ r, xi P En (μ n) x.2.2.i = some r ∧ outOf C (μ n) (some r) = some (ux, μ (n + 1)) := by
    rcases hT.ops n x ux px hux with ⟨h, _⟩ | ⟨_, r, h2, h3, _⟩
    · rw [gx] at h; simp [wantedX] at h
    · rw [hEn] at h2; exact ⟨r, h2, h3⟩
  have S2 : ∃ r, xi P En (μ (n + 1)) y.2.2.i = some r ∧ outOf C (μ (n + 1)) (some r) = some (uy, μ (n + 2)) := by
    rcases hT.ops (n + 1) y uy py huy with ⟨h, _⟩ | ⟨_, r, h2, h3, _⟩
    · rw [gy] at h; simp [wantedX] at h
    · rw [env1] at h2; exact ⟨r, h2, h3⟩
  have S3 : ∃ r, xi P En (μ n) y.2.2.i = some r ∧ outOf C (μ n) (some r) = some (ty, μ2 (n + 1)) := by
    rcases hT2.ops n y ty py2 hty with ⟨h, _⟩ | ⟨_, r, h2, h3, _⟩
    · rw [gy] at h; simp [wantedX] at h
    · rw [hEn2, ← hμ] at h2; rw [← hμ] at h3; exact ⟨r, h2, h3⟩
  have S4 : ∃ r, xi P En (μ2 (n + 1)) x.2.2.i = some r ∧ outOf C (μ2 (n + 1)) (some r) = some (tx, μ2 (n + 2)) := by
    rcases hT2.ops (n + 1) x tx px2 htx with ⟨h, _⟩ | ⟨_, r, h2, h3, _⟩
    · rw [gx] at h; simp [wantedX] at h
    · rw [env1'] at h2; exact ⟨r, h2, h3⟩
  obtain ⟨r1, s1, o1⟩ := S1
  obtain ⟨r2, s2, o2⟩ := S2
  obtain ⟨r3, s3, o3⟩ := S3
  obtain ⟨r4, s4, o4⟩ := S4
  have s3i := s3
  rw [ix] at s1 s4
  rw [iy] at s2 s3
  obtain ⟨p, u, M1, ep, eu, rfl, k1, f1⟩ := store_inv s1
  obtain ⟨q, t, M2, eq_, et, rfl, k2, f2⟩ := store_inv s2
  obtain ⟨q', t', M3, eq', et', rfl, k3, f3⟩ := store_inv s3
  obtain ⟨p', u', M4, ep', eu', rfl, k4, f4⟩ := store_inv s4
  rw [ep] at ep'; cases ep'
  rw [eu] at eu'; cases eu'
  rw [eq_] at eq'; cases eq'
  rw [et] at et'; cases et'
  simp only [outOf, Option.some.injEq, Prod.mk.injEq] at o1 o2 o3 o4
  obtain ⟨rfl, o1⟩ := o1
  obtain ⟨rfl, o2⟩ := o2
  obtain ⟨rfl, o3⟩ := o3
  obtain ⟨rfl, o4⟩ := o4
  rw [o1] at f1
  rw [o2] at f2
  rw [o3] at f3
  rw [o4] at f4
  have hpq : p.block ≠ q.block := by
    rw [env2] at hap
    unfold storeAt at hap
    rw [ix, iy] at hap
    simp only [ep, eq_] at hap
    simpa using hap
  have hsame : (∀ i, (μ (n + 2)).get i = (μ2 (n + 2)).get i) ∧ (μ (n + 2)).next = (μ2 (n + 2)).next := by
    by_cases a0 : sx1 = 0
    · rw [if_pos a0] at f1 f4
      by_cases b0 : sy1 = 0
      · rw [if_pos b0] at f2 f3
        rw [f2, f1, f4, f3]; exact ⟨fun _ => rfl, rfl⟩
      · rw [if_neg b0] at f2 f3
        rw [f1, f3] at f2
        have f5 := Option.some.inj f2
        rw [f4, f5]; exact ⟨fun _ => rfl, rfl⟩
    · rw [if_neg a0] at f1 f4
      by_cases b0 : sy1 = 0
      · rw [if_pos b0] at f2 f3
        rw [f3, f1] at f4
        have f5 := Option.some.inj f4
        rw [f2, f5]; exact ⟨fun _ => rfl, rfl⟩
      · rw [if_neg b0] at f2 f3
        exact store_comm hpq f1 f2 f3 f4
  rw [env2]
  -- the run in the other order, once its first store is done
  have run2 : ∀ (fuel : Nat) (U : List Nat) (listed : Array Bool) (a1 : Act) (w1 : World), U.Nodup → U.length = fuel → (∀ i, i < ops.size → (i ∈ U ↔ listed.getD i false = false)) → (∀ i ∈ U, i < ops.size) → listed.getD y.1 false = true →
      OInv P N a.defers ops (A ++ [y, x]) vs2 μ2 e ρ m w listed a1 w1 → wpAny P .any ops (fun ex a' w' => ex = .normal ∧ ∃ ρ', ERel P ρ' N (keepOf keep En) a' ∧ a'.defers = a.defers ∧ Step ρ m w ρ' (μ (n + 2)) w') fuel listed a1 w1 :=
    order_any (D := a.defers) hC hx ho hO2 hT2 h02 hE.fit (fun a1 w1 ρ1 g1 g3 g2 => ⟨rfl, ρ1, by rw [hln2, env2'] at g1; exact g1.keep, g3, by rw [hln2] at g2; exact g2.same_mem hsame.1 hsame.2⟩)
      (I := fun listed => listed.getD y.1 false = true)
      (fun listed j hj => by
        by_cases hjy : y.1 = j
        · subst hjy
          have : y.1 < listed.size := by
            rcases Nat.lt_or_ge y.1 listed.size with h | h
            · exact h
            · simp [h] at hj
          simp [this]
        · simp only [Array.getD_eq_getD_getElem?] at hj ⊢
          rw [Array.getElem?_setIfInBounds_ne (fun h => hjy h.symm)]; exact hj)
      (fun _ _ _ _ _ _ _ _ _ _ _ _ _ _ hI _ _ _ _ _ _ _ _ hex _ _ _ _ _ _ _ _ _ => by rw [hI] at hex; cases hex)
  refine wp_region_any hmix ?_
  have hnoL : ∀ i, (Array.replicate ops.size false).getD i false = false := by
    intro i
    simp only [Array.getD_eq_getD_getElem?, Array.getElem?_replicate]
    split <;> rfl
  have hP0 : PInv (A ++ [x, y]) vs μ e ρ m w (fun j => (Array.replicate ops.size false).getD j false) 0 ρ w.drew := by
    refine ⟨Nat.zero_le _, fun k x h => by omega, fun k x _ _ _ => hnoL _, by rw [h0]; exact Step.drew hR, ?_, fun k x h => by omega, fun k x v h => by omega⟩
    intro a b h1 h2
    have : a = b := by omega
    subst this; exact Nat.le_refl _
  obtain ⟨g0, hPg, hst⟩ := hP0.adv hT (A ++ [x, y]).length 0 (by omega)
  refine order_any (D := a.defers) (ex := x.1) (ey := y.1) hC hx ho hO1 hT h0 hE.fit (fun a1 w1 ρ1 g1 g3 g2 => ⟨rfl, ρ1, by rw [hln, env2] at g1; exact g1.keep, g3, by rw [hln] at g2; exact g2⟩)
    (I := fun _ => True) (fun _ _ _ => trivial) ?_
    ops.size (List.range ops.size) _ a _ List.nodup_range (by simp) ?_ (by simp) trivial ⟨by simp, ?_, ⟨ρ, g0, hPg, hst, hE.size, rfl, ?_, ?_⟩⟩
  · -- the second store comes first
    intro fuel U listed a1 w1 k z o ρ1 g hnd hUl hU hUb _ hsz hcl heys hzk hz1 hoy hxo hly hlx hje hbj hP hst hN hdef c1 c2 hEr
    -- where it stands
    have hdis : ∀ (p q : Nat) (u v : Nat × Nat × XOp), p ≠ q → (A ++ [x, y])[p]? = some u → (A ++ [x, y])[q]? = some v → u.1 ≠ v.1 := by
      intro p q u v hpq hu hv
      rcases Nat.lt_or_gt_of_ne hpq with h | h
      · exact (hO1.pair p q u v h hu hv).1
      · exact (hO1.pair q p v u h hv hu).1.symm
    have hdis2 : ∀ (p q : Nat) (u v : Nat × Nat × XOp), p ≠ q → (A ++ [y, x])[p]? = some u → (A ++ [y, x])[q]? = some v → u.1 ≠ v.1 := by
      intro p q u v hpq hu hv
      rcases Nat.lt_or_gt_of_ne hpq with h | h
      · exact (hO2.pair p q u v h hu hv).1
      · exact (hO2.pair q p v u h hv hu).1.symm
    have hkn : k = n + 1 := by
      rcases Nat.lt_trichotomy k (n + 1) with h | h | h
      · exact absurd hz1 (hdis k (n + 1) z y (by omega) hzk py)
      · exact h
      · exact absurd hz1 (hdis k (n + 1) z y (by omega) hzk py)
    subst hkn
    rw [py] at hzk
    cases hzk
    have hgn : g = n := by
      rcases hst with h | ⟨u, hu, hcu⟩
      · have := hP.done n x (by omega) px cx
        rw [hlx] at this; cases this
      · rcases Nat.lt_trichotomy g n with h | h | h
        · have hf := hP.undone g u (Nat.le_refl _) hu (by omega)
          rcases (hO1.pair g (n + 1) u y (by omega) hu py).2.2 hcu (by rw [cy]; decide) with hb | ⟨hb, _⟩
          · rw [hbj _ hb] at hf; cases hf
          · exact absurd hb (hdis g n u x (by omega) hu px)
        · exact h
        · have := hP.done n x h px cx
          rw [hlx] at this; cases this
    subst hgn
    -- the store
    obtain ⟨gd, hg, hd, hopP, hdst, hgx⟩ := xopP_spec hxo
    have hod : o.dst = none := by rw [← hdst]; exact dy
    have hwt := wanted_rel (o := o) (t := true) hg (by rw [← hgx, gy]; rfl) hEr
    have hnow : xi P (restrict (envAt (lo (A ++ [x, y])) vs e (g + 1)) (readsOf y.2.2)) (μ g) y.2.2.i = some (.skip (μ2 (g + 1))) := by
      rw [xi_uses (e' := En) (fun s hs => by rw [look_restrict_mem (by simp only [readsOf, List.mem_append]; exact .inr hs), env1]), s3i, o3]
    obtain ⟨ρ2, w2, z1, z2⟩ := op_sound hopP hnow hEr hP.step.rel
    unfold wpOp
    rw [hoy]
    simp only
    rw [if_pos hwt]
    left
    unfold Oper.wp
    rw [z1]
    -- the rest in the other order
    have hset : ∀ i, (listed.setIfInBounds y.1 true).getD i false = if i = y.1 then true else listed.getD i false := by
      intro i
      by_cases hij : i = y.1
      · subst hij
        have hil' : y.1 < listed.size := by rw [hsz]; exact heys
        simp [hil']
      · rw [if_neg hij]
        simp only [Array.getD_eq_getD_getElem?, Array.getElem?_setIfInBounds_ne (fun h => hij h.symm)]
    have hPt : PInv (A ++ [y, x]) vs2 μ2 e ρ m w (fun j => listed.getD j false) g ρ1 w1 := by
      have hmem : ∀ (k : Nat) (z : Nat × Nat × XOp), g ≤ k → (A ++ [y, x])[k]? = some z → z = y ∨ z = x := fun k z hk hz => by
        rw [List.getElem?_append_right (by omega)] at hz
        have : k - A.length < 2 := by have := (List.getElem?_eq_some_iff.1 hz).1; simpa using this
        rcases (by omega : k - A.length = 0 ∨ k - A.length = 1) with h | h <;> rw [h] at hz <;> simp at hz
        · exact .inl hz.symm
        · exact .inr hz.symm
      refine ⟨by omega, fun k z hk hz hc => hP.done k z hk ((pA k z hk).2 hz) hc, fun k z hk hz hc => ?_, by rw [← hμ]; exact hP.step, fun k k' a1 a2 => ?_, fun k z hk hz hc hw => ?_, fun k z v hk hz hv hc hw hL => ?_⟩
      · rcases hmem k z hk hz with rfl | rfl
        · exact hly
        · exact hlx
      · rw [← (hagree k (by omega)).1, ← (hagree k' a2).1]; exact hP.nexts k k' a1 a2
      · rw [← (hagree k (by omega)).1, ← (hagree (k + 1) (by omega)).1]
        exact hP.news k z hk ((pA k z hk).2 hz) hc (by rw [(hagree k (by omega)).2.1]; exact hw)
      · rw [← (hagree k (by omega)).1, ← hμ, ← (hagree k (by omega)).2.1]
        exact hP.late k z v hk ((pA k z hk).2 hz) (by rw [(hagree g (Nat.le_refl _)).2.2 k hk]; exact hv) hc (by rw [(hagree k (by omega)).2.1]; exact hw) hL
    have hPe := hPt.eff (L' := fun j => (listed.setIfInBounds y.1 true).getD j false) hdis2 py2 cy hset (by rw [← hμ]; exact z2)
    have hput : a1.put o.dst undef = a1 := by rw [hod]; rfl
    show wpAny P .any ops _ fuel (listed.setIfInBounds y.1 true) (a1.put o.dst undef) w2
    rw [hput]
    refine run2 fuel (U.erase y.1) _ a1 w2 (hnd.erase _) ?_ ?_ ?_ (by rw [hset, if_pos rfl]) ⟨by simp [hsz], ?_, ⟨ρ2, g + 1, hPe, .inr ⟨x, px2, cx⟩, hN, hdef, ?_, ?_⟩⟩
    · have hjU : y.1 ∈ U := (hU y.1 heys).2 hly
      rw [List.length_erase_of_mem hjU, hUl]; rfl
    · intro i hi
      rw [hnd.mem_erase_iff, hset]
      by_cases hij : i = y.1
      · subst hij; simp
      · rw [if_neg hij, ← hU i hi]; simp [hij]
    · intro i hi
      exact hUb i (List.mem_of_mem_erase hi)
    · intro i oi hi hoi b hb hbb
      rw [hset] at hi ⊢
      by_cases hij : i = y.1
      · subst hij
        rw [hoy] at hoi
        cases hoi
        split
        · rfl
        · exact hje b hb hbb
      · rw [if_neg hij] at hi
        split
        · rfl
        · exact hcl i oi hi hoi b hb hbb
    · intro s v hne' hno hv
      obtain ⟨u, b1, b2⟩ := c1 s v hne' (fun k z hz hzd => by
        have hm : z ∈ A ++ [y, x] := by
          have := List.mem_of_getElem? hz
          simp only [List.mem_append, List.mem_cons, List.not_mem_nil, or_false] at this ⊢
          rcases this with h | h | h
          · exact .inl h
          · exact .inr (.inr h)
          · exact .inr (.inl h)
        obtain ⟨k', hk'⟩ := List.mem_iff_getElem?.1 hm
        have h3 := hno k' z hk' hzd
        rw [hset] at h3
        split at h3
        · cases h3
        · exact h3) hv
      exact ⟨u, b1, b2.mono z2.ext⟩
    · intro k z v s hz hv hzd hlz
      have hkg : k < g := by
        rcases Nat.lt_or_ge k g with h | h
        · exact h
        · exfalso
          rw [List.getElem?_append_right (by omega)] at hz
          have : k - A.length < 2 := by have := (List.getElem?_eq_some_iff.1 hz).1; simpa using this
          rcases (by omega : k - A.length = 0 ∨ k - A.length = 1) with h | h <;> rw [h] at hz <;> simp at hz
          · subst hz; rw [dy] at hzd; cases hzd
          · subst hz; rw [dx] at hzd; cases hzd
      have hz' := (pA k z hkg).2 hz
      rw [hset, if_neg (hdis k (g + 1) z y (by omega) hz' py)] at hlz
      obtain ⟨u, b1, b2⟩ := c2 k z v s hz' (by rw [(hagree g (Nat.le_refl _)).2.2 k hkg]; exact hv) hzd hlz
      exact ⟨u, b1, b2.mono z2.ext⟩
  · intro i hi; simp [hi]
  · intro i o hi
    rw [hnoL] at hi; cases hi
  · intro s v hne _ hs; exact hE.slot s v hne hs
  · intro i o v s _ _ _ hi
    rw [hnoL] at hi; cases hi

theorem drawnC_dst {ops : Array Oper} {l0 : List XOp} {l : List (Nat × Nat × XOp)} (hx : xopsP P N ops ops.toList = some l0) (hok : okC l = true) (hs : sortD l = tagD 0 l0 (preList ops.toList [])) :
    ∀ o ∈ l, ∀ d, o.2.2.dst = some d → d < N := by
  have hlen0 : l0.length = ops.size := by have := (xopsP_get hx).1; simpa using this
  have hpslen : (preList ops.toList []).length = l0.length := by
    obtain ⟨rest, h1, h2, _⟩ := preList_spec ops.toList []
    rw [h1, hlen0]; simpa using h2
  obtain ⟨_, _, _, _, _, _, hO1, _⟩ := okC_spec hok hs hpslen
  intro o ho d hd
  obtain ⟨k, hk⟩ := List.mem_iff_getElem?.1 ho
  exact xopsP_dst hx o.2.2 (List.mem_of_getElem? (hO1.at_ k o hk).2.1) d hd

end
end Go.Proofs.YtnlmnejellipdaaGreat.X
