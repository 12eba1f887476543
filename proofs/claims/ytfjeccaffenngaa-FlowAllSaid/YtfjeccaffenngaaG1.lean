/-
  Own work. The plain law of rights: both tables say the same; without a right nobody drops a tag.
-/
import Derived.Test.YtfjeccaffenngaaF5
namespace Go.Proofs.Ytfjeccaffenngaa
open Go X
set_option maxRecDepth 100000
set_option linter.unusedVariables false
set_option linter.unusedSimpArgs false

theorem or_zero {a b : Nat} : a ||| b = 0 ↔ a = 0 ∧ b = 0 := by
  constructor
  · intro h
    have h1 : a ≤ a ||| b := Nat.left_le_or
    have h2 : b ≤ a ||| b := Nat.right_le_or
    omega
  · rintro ⟨rfl, rfl⟩; rfl
theorem hasM_or_eq {a b : Nat} {x : Int} : hasM (a ||| b) x = (hasM a x || hasM b x) := by
  unfold hasM
  rw [Nat.and_or_distrib_right, ← Bool.decide_or]
  refine decide_eq_decide.2 ?_
  rw [ne_eq, or_zero, ne_eq, ne_eq]
  by_cases h : a &&& bitN x = 0 <;> simp [h]
theorem two_and : ∀ i, i < 16 → ∀ j, j < 16 → (2 ^ i &&& 2 ^ j ≠ 0 ↔ i = j) := by decide
theorem hasM_bit {t g : Int} (h1 : 1 ≤ t) (h2 : t ≤ 16) : hasM (bitN t) g = decide (g = t) := by
  unfold hasM
  refine decide_eq_decide.2 ?_
  by_cases hg : 1 ≤ g ∧ g ≤ 16
  · have e1 : bitN t = 2 ^ (t - 1).toNat := by unfold bitN; rw [if_pos ⟨h1, h2⟩]
    have e2 : bitN g = 2 ^ (g - 1).toNat := by unfold bitN; rw [if_pos hg]
    rw [e1, e2, two_and _ (by omega) _ (by omega)]
    omega
  · have e2 : bitN g = 0 := by unfold bitN; rw [if_neg hg]
    rw [e2, Nat.and_zero]
    constructor
    · intro h; exact absurd rfl h
    · rintro rfl; exact absurd ⟨h1, h2⟩ hg
theorem hasM_neg {x : Nat} {g : Int} (h : g < 1) : hasM x g = false := by
  unfold hasM bitN
  rw [if_neg (by omega), Nat.and_zero]
  rfl

/-- Both tables say the same. -/
structure RelTR (T : Tb) (R : Rf) : Prop where
  people : R.people = T.l.length
  tags : R.tags = T.tags
  has : ∀ who g dm, oneB T who = true → hasM (atM T who dm) g = hasR R (who, g, dm)
theorem RelTR.one {T : Tb} {R : Rf} (h : RelTR T R) (who : Int) : oneR R who = oneB T who := by unfold oneR oneB; rw [h.people]
theorem RelTR.check {T : Tb} {R : Rf} (h : RelTR T R) (d : Deed) : checkT T d = 0 ↔ checkR R d = 0 := by
  obtain ⟨dk, dw, dt, dg, dm⟩ := d
  by_cases k1 : dk = 1
  · subst k1
    cases ho : oneB T dw <;> cases dm <;> by_cases t0 : dt = 0 <;> by_cases g0 : dg = 0 <;> by_cases h16 : 16 ≤ T.tags <;> simp [checkT, checkR, madeD, h.one, h.tags, ho, t0, g0, h16]
  · by_cases k2 : dk = 2
    · subst k2
      cases ho : oneB T dw with
      | false => simp [checkT, checkR, madeD, h.one, ho]
      | true =>
        cases ho2 : oneB T dt with
        | false => simp [checkT, checkR, madeD, h.one, ho, ho2]
        | true =>
          have e1 := h.has dw dg dm ho
          have e2 := h.has dt dg dm ho2
          by_cases hgt : (T.tags : Int) < dg
          · simp [checkT, checkR, madeD, h.one, h.tags, ho, ho2, hgt]
          · by_cases hlt : dg < 1
            · by_cases g0 : dg = 0
              · simp [checkT, checkR, madeD, h.one, h.tags, ho, ho2, hlt, g0]
              · rw [hasM_neg hlt] at e1
                simp [checkT, checkR, madeD, h.one, h.tags, ho, ho2, hlt, g0, hgt, ← e1]
            · have g0 : ¬ dg = 0 := by omega
              simp only [checkT, checkR, madeD, h.one, h.tags, ho, ho2, hlt, g0, hgt, e1, e2]
              simp
    · simp [checkT, checkR, madeD, k1, k2]

theorem at_set {T : Tb} {k : Nat} {p : Nat × Nat} {to who : Int} {dm : Bool} (h1 : oneB T to = true) (h2 : oneB T who = true) : atM ⟨k, T.l.set to.toNat p⟩ who dm = if who = to then maskM p dm else atM T who dm := by
  rcases oneB_cases T to with h | ⟨_, i, q, rfl, hi, _⟩
  · rw [h] at h1; cases h1
  rcases oneB_cases T who with h | ⟨_, j, q', rfl, hj, _⟩
  · rw [h] at h2; cases h2
  by_cases hij : j = i
  · subst hij
    rw [if_pos rfl]
    cases dm <;> simp [atM, plusOf, minusOf, maskM, hi]
  · rw [if_neg (by omega)]
    have : ¬ i = j := fun q => hij q.symm
    cases dm <;> simp [atM, plusOf, minusOf, List.getElem?_set_ne this]
theorem one_set {T : Tb} {k i : Nat} {p : Nat × Nat} {who : Int} : oneB ⟨k, T.l.set i p⟩ who = oneB T who := by simp [oneB]
theorem hasR_add {R : Rf} {k : Nat} {ys : List (Int × Int × Bool)} {x : Int × Int × Bool} : hasR { R with tags := k, l := R.l ++ ys } x = (hasR R x || ys.any fun y => decide (y = x)) := by simp [hasR]

theorem RelTR.step {T : Tb} {R : Rf} (h : RelTR T R) (hw : T.Wf) (d : Deed) : RelTR (stepB (T, R) d).1 (stepB (T, R) d).2 := by
  unfold stepB
  cases fits (T, R).2 d with
  | false => exact h
  | true =>
    show RelTR (doT T d) (doR R d)
    by_cases hc : checkT T d = 0
    · have hr := (h.check d).1 hc
      unfold doT doR
      rw [decide_eq_true hc, decide_eq_true hr]
      obtain ⟨dk, dw, dt, dg, dm⟩ := d
      by_cases k2 : dk = 2
      · subst k2
        simp only [cond_true, decide_true]
        obtain ⟨ho, hg⟩ := check_two hc
        have hg16 : dg ≤ 16 := by
          have ht := hw.tags
          by_cases hgt : (T.tags : Int) < dg
          · exfalso
            unfold checkT at hc
            cases ho1 : oneB T dw <;> simp [madeD, ho, ho1, hgt] at hc
          · omega
        refine ⟨by simp only [giveT]; rw [h.people]; simp, h.tags, fun who g dm' hwho => ?_⟩
        simp only [giveT] at hwho ⊢
        rw [one_set] at hwho
        rw [at_set ho hwho]
        have e := h.has who g dm' hwho
        show _ = hasR { R with l := R.l ++ [(dt, dg, dm)] } (who, g, dm')
        rw [hasR_add (k := R.tags), ← e]
        simp only [List.any_cons, List.any_nil, Bool.or_false]
        by_cases hwt : who = dt
        · subst hwt
          rw [if_pos rfl]
          by_cases hdm : dm' = dm
          · subst hdm
            have : maskM (bif dm' then (plusOf T who, minusOf T who ||| bitN dg) else (plusOf T who ||| bitN dg, minusOf T who)) dm' = atM T who dm' ||| bitN dg := by cases dm' <;> rfl
            rw [this, hasM_or_eq, hasM_bit hg hg16]
            congr 1
            exact decide_eq_decide.2 ⟨fun q => by rw [q], fun q => by simpa using q.symm⟩
          · have : maskM (bif dm then (plusOf T who, minusOf T who ||| bitN dg) else (plusOf T who ||| bitN dg, minusOf T who)) dm' = atM T who dm' := by
              cases dm <;> cases dm' <;> first | rfl | exact absurd rfl hdm
            rw [this, decide_eq_false (fun q => hdm (by simpa using (congrArg (fun z => z.2.2) q).symm)), Bool.or_false]
        · rw [if_neg hwt, decide_eq_false (fun q => hwt (congrArg (fun z => z.1) q).symm), Bool.or_false]
      · simp only [cond_true, decide_eq_false k2, cond_false]
        obtain ⟨ho, h16⟩ := check_one k2 hc
        refine ⟨by simp only [makeT]; rw [h.people]; simp, by simp only [makeT]; rw [h.tags], fun who g dm' hwho => ?_⟩
        simp only [makeT] at hwho ⊢
        rw [one_set] at hwho
        rw [at_set ho hwho]
        have e := h.has who g dm' hwho
        rw [hasR_add, ← e, h.tags]
        simp only [List.any_cons, List.any_nil, Bool.or_false]
        by_cases hwt : who = dw
        · subst hwt
          rw [if_pos rfl]
          have : maskM (plusOf T who ||| bitN ((T.tags + 1 : Nat) : Int), minusOf T who ||| bitN ((T.tags + 1 : Nat) : Int)) dm' = atM T who dm' ||| bitN ((T.tags + 1 : Nat) : Int) := by cases dm' <;> rfl
          rw [this, hasM_or_eq, hasM_bit (by omega) (by omega)]
          congr 1
          by_cases hgt : g = ((T.tags + 1 : Nat) : Int)
          · subst hgt
            cases dm' <;> simp
          · have hne : ¬ ((T.tags + 1 : Nat) : Int) = g := fun q => hgt q.symm
            rw [decide_eq_false hgt, decide_eq_false (fun q => hne (congrArg (fun z => z.2.1) q)), decide_eq_false (fun q => hne (congrArg (fun z => z.2.1) q))]
            rfl
        · rw [if_neg hwt, decide_eq_false (fun q => hwt (congrArg (fun z => z.1) q).symm), decide_eq_false (fun q => hwt (congrArg (fun z => z.1) q).symm)]
          simp
    · have hr : ¬ checkR R d = 0 := fun q => hc ((h.check d).2 q)
      unfold doT doR
      rw [decide_eq_false hc, decide_eq_false hr]
      exact h
theorem rel_start {n : Nat} : RelTR (startB n).1 (startB n).2 := by
  refine ⟨by simp [startB, newT], rfl, fun who g dm _ => ?_⟩
  have : atM (startB n).1 who dm = 0 := by
    have hz : (List.replicate n ((0 : Nat), (0 : Nat)))[who.toNat]?.getD (0, 0) = (0, 0) := by
      rw [List.getElem?_replicate]
      split <;> rfl
    cases dm <;> simp only [atM, plusOf, minusOf, startB, newT, hz, cond_true, cond_false]
  rw [this]
  simp [hasM, hasR, startB]
theorem fold_wf {n : Nat} : ∀ (ds : List Deed) (s : Tb × Rf), s.1.Wf → RelTR s.1 s.2 → RelTR (ds.foldl stepB s).1 (ds.foldl stepB s).2
  | [], s, hw, hr => hr
  | d :: ds, s, hw, hr => by
    rw [List.foldl_cons]
    refine fold_wf (n := n) ds (stepB s d) ?_ (hr.step hw d)
    unfold stepB
    cases fits s.2 d with
    | false => exact hw
    | true => exact doT_wf hw d

/-! ## Nobody drops it -/
def NoDrop (T : Tb) (g : Int) : Prop := ∀ who, oneB T who = true → hasM (minusOf T who) g = false
theorem comes_keeps {T : Tb} {who g : Int} {a b : List Int} (h : NoDrop T g) (hc : comesT T who a b = true) (ha : hasL a g = true) : hasL b g = true := by
  rw [comes_iff] at hc
  obtain ⟨h1, _, _, h4, _⟩ := hc
  rw [hasL_iff] at *
  by_cases hb : g ∈ b
  · exact hb
  · have := h4 g ha hb
    rw [h who h1] at this
    cases this
def mayT (T : Tb) (who : Int) (a b : List Int) : Bool := clearT T who a && comesT T who a b
def anyT (T : Tb) (a b : List Int) : Bool := (List.range T.l.length).any fun i => mayT T (i : Int) a b
theorem any_keeps {T : Tb} {g : Int} {a b : List Int} (h : NoDrop T g) (hc : anyT T a b = true) (ha : hasL a g = true) : hasL b g = true := by
  unfold anyT at hc
  rw [List.any_eq_true] at hc
  obtain ⟨i, _, hi⟩ := hc
  unfold mayT at hi
  rw [Bool.and_eq_true] at hi
  exact comes_keeps h hi.2 ha
end Go.Proofs.Ytfjeccaffenngaa
