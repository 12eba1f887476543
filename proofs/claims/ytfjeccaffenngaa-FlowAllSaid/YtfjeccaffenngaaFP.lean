/-
  Own work. The plain law of rights: deeds, and who comes where.
-/
import Derived.Test.YtfjeccaffenngaaF2
namespace Go.Proofs.Ytfjeccaffenngaa
open Go X
set_option linter.unusedVariables false
set_option linter.unusedSimpArgs false

structure Deed where
  kind : Int
  who : Int
  to : Int
  tag : Int
  minus : Bool

def atM (T : Tb) (who : Int) (minus : Bool) : Nat := bif minus then minusOf T who else plusOf T who
def madeD (d : Deed) : Bool := decide (d.kind = 1) && decide (d.to = 0) && decide (d.tag = 0) && !d.minus
def giveT (T : Tb) (d : Deed) : Tb := { T with l := T.l.set d.to.toNat (bif d.minus then (plusOf T d.to, minusOf T d.to ||| bitN d.tag) else (plusOf T d.to ||| bitN d.tag, minusOf T d.to)) }
def makeT (T : Tb) (d : Deed) : Tb := { tags := T.tags + 1, l := T.l.set d.who.toNat (plusOf T d.who ||| bitN ((T.tags + 1 : Nat) : Int), minusOf T d.who ||| bitN ((T.tags + 1 : Nat) : Int)) }
/-- What a deed comes to; 0: it is done. -/
def checkT (T : Tb) (d : Deed) : Int :=
  bif madeD d && oneB T d.who then (bif decide (16 ≤ T.tags) then 5 else 0)
  else bif decide (d.kind ≠ 2) || !oneB T d.who || !oneB T d.to then 1
  else bif decide (d.tag < 1) || decide ((T.tags : Int) < d.tag) then 7
  else bif !hasM (atM T d.who d.minus) d.tag then 10
  else bif hasM (atM T d.to d.minus) d.tag then 8 else 0
def doT (T : Tb) (d : Deed) : Tb := bif decide (checkT T d = 0) then (bif decide (d.kind = 2) then giveT T d else makeT T d) else T

theorem hasM_or {a b : Nat} {x : Int} (h : hasM a x = true) : hasM (a ||| b) x = true := by
  unfold hasM at *
  rw [decide_eq_true_eq] at *
  have : a &&& bitN x ≤ (a ||| b) &&& bitN x := by rw [Nat.and_or_distrib_right]; exact Nat.left_le_or
  omega

/-- The one has no more rights than the other. -/
structure LeT (T T' : Tb) : Prop where
  len : T.l.length = T'.l.length
  plus : ∀ who x, hasM (plusOf T who) x = true → hasM (plusOf T' who) x = true
  minus : ∀ who x, hasM (minusOf T who) x = true → hasM (minusOf T' who) x = true
theorem LeT.refl (T : Tb) : LeT T T := ⟨rfl, fun _ _ h => h, fun _ _ h => h⟩
theorem LeT.trans {A B C : Tb} (h1 : LeT A B) (h2 : LeT B C) : LeT A C := ⟨h1.len.trans h2.len, fun w x h => h2.plus w x (h1.plus w x h), fun w x h => h2.minus w x (h1.minus w x h)⟩
theorem le_set {T : Tb} {k i : Nat} {p : Nat × Nat} (h1 : ∀ x, hasM (T.l[i]?.getD (0, 0)).1 x = true → hasM p.1 x = true) (h2 : ∀ x, hasM (T.l[i]?.getD (0, 0)).2 x = true → hasM p.2 x = true) : LeT T ⟨k, T.l.set i p⟩ := by
  have key : ∀ j, (T.l.set i p)[j]?.getD (0, 0) = T.l[j]?.getD (0, 0) ∨ (j = i ∧ (T.l.set i p)[j]?.getD (0, 0) = p) := fun j => by
    rw [List.getElem?_set]
    by_cases hj : i = j
    · subst hj
      by_cases hi : i < T.l.length
      · right; simp [hi]
      · left; simp [hi]
    · left; simp [hj]
  refine ⟨by simp, fun who x h => ?_, fun who x h => ?_⟩
  · show hasM ((T.l.set i p)[who.toNat]?.getD (0, 0)).1 x = true
    rcases key who.toNat with e | ⟨hj, e⟩
    · rw [e]; exact h
    · rw [e]; exact h1 x (by rw [← hj]; exact h)
  · show hasM ((T.l.set i p)[who.toNat]?.getD (0, 0)).2 x = true
    rcases key who.toNat with e | ⟨hj, e⟩
    · rw [e]; exact h
    · rw [e]; exact h2 x (by rw [← hj]; exact h)
theorem le_doT (T : Tb) (d : Deed) : LeT T (doT T d) := by
  unfold doT
  cases decide (checkT T d = 0) with
  | false => exact .refl T
  | true =>
    cases decide (d.kind = 2) with
    | false => exact le_set (fun x h => hasM_or h) (fun x h => hasM_or h)
    | true =>
      simp only [cond_true, giveT]
      cases d.minus with
      | false => exact le_set (fun x h => hasM_or h) (fun x h => h)
      | true => exact le_set (fun x h => h) (fun x h => hasM_or h)

theorem or_lt {a : Nat} {x : Int} (h : a < 65536) : a ||| bitN x < 65536 := Nat.or_lt_two_pow (n := 16) h (bitN_lt x)
theorem getD_lt {T : Tb} (hw : T.Wf) (i : Nat) : (T.l[i]?.getD (0, 0)).1 < 65536 ∧ (T.l[i]?.getD (0, 0)).2 < 65536 := by
  cases h : T.l[i]? with
  | none => exact ⟨by decide, by decide⟩
  | some p => exact hw.masks p (List.mem_of_getElem? h)
theorem doT_wf {T : Tb} (hw : T.Wf) (d : Deed) : (doT T d).Wf := by
  unfold doT
  cases hc : decide (checkT T d = 0) with
  | false => exact hw
  | true =>
    rw [decide_eq_true_eq] at hc
    have hset : ∀ (k i : Nat) (p : Nat × Nat), k ≤ 16 → p.1 < 65536 → p.2 < 65536 → Tb.Wf ⟨k, T.l.set i p⟩ := fun k i p hk h1 h2 =>
      ⟨hk, by simpa using hw.lo, by simpa using hw.hi, fun q hq => by
        rcases List.mem_or_eq_of_mem_set hq with hq | rfl
        · exact hw.masks q hq
        · exact ⟨h1, h2⟩⟩
    cases hk : decide (d.kind = 2) with
    | true =>
      simp only [cond_true, giveT]
      have hd := getD_lt hw d.to.toNat
      cases d.minus with
      | false => exact hset _ _ _ hw.tags (or_lt hd.1) hd.2
      | true => exact hset _ _ _ hw.tags hd.1 (or_lt hd.2)
    | false =>
      have ht : T.tags + 1 ≤ 16 := by
        by_cases h16 : 16 ≤ T.tags
        · exfalso
          rw [decide_eq_false_iff_not] at hk
          unfold checkT at hc
          cases hm : madeD d && oneB T d.who with
          | true => rw [hm, decide_eq_true h16] at hc; simp at hc
          | false => rw [hm, decide_eq_true hk] at hc; simp at hc
        · omega
      simp only [cond_true, cond_false, makeT]
      have hd := getD_lt hw d.who.toNat
      exact hset _ _ _ ht (or_lt hd.1) (or_lt hd.2)

/-! ## Who comes where -/
theorem mem_less {a b : List Int} {x : Int} (ha : rightL a = true) (hb : rightL b = true) : x ∈ lessL a b ↔ x ∈ a ∧ x ∉ b := by
  unfold lessL
  rw [ha, hb]
  simp only [Bool.and_self, cond_true, List.mem_filter, Bool.not_eq_true', ← Bool.not_eq_true, hasL_iff]
theorem comes_iff {T : Tb} {who : Int} {a b : List Int} : comesT T who a b = true ↔ oneB T who = true ∧ rightL a = true ∧ rightL b = true ∧ (∀ x, x ∈ a → x ∉ b → hasM (minusOf T who) x = true) ∧ (∀ x, x ∈ b → x ∉ a → hasM (plusOf T who) x = true) := by
  unfold comesT clearT
  simp only [Bool.and_eq_true, List.all_eq_true, mayDrop]
  constructor
  · rintro ⟨⟨⟨⟨h1, h2⟩, h3⟩, h4⟩, -, h5⟩
    exact ⟨h1, h2, h3, fun x hx hn => (h4 x ((mem_less h2 h3).2 ⟨hx, hn⟩)).2, fun x hx hn => h5 x ((mem_less h3 h2).2 ⟨hx, hn⟩)⟩
  · rintro ⟨h1, h2, h3, h4, h5⟩
    refine ⟨⟨⟨⟨h1, h2⟩, h3⟩, fun x hx => ⟨h1, ?_⟩⟩, h1, fun x hx => ?_⟩
    · obtain ⟨k1, k2⟩ := (mem_less h2 h3).1 hx
      exact h4 x k1 k2
    · obtain ⟨k1, k2⟩ := (mem_less h3 h2).1 hx
      exact h5 x k1 k2
theorem comes_trans {T : Tb} {who : Int} {a b c : List Int} (h1 : comesT T who a b = true) (h2 : comesT T who b c = true) : comesT T who a c = true := by
  rw [comes_iff] at *
  obtain ⟨p1, p2, p3, p4, p5⟩ := h1
  obtain ⟨q1, q2, q3, q4, q5⟩ := h2
  refine ⟨p1, p2, q3, fun x hx hn => ?_, fun x hx hn => ?_⟩
  · by_cases hb : x ∈ b
    · exact q4 x hb hn
    · exact p4 x hx hb
  · by_cases hb : x ∈ b
    · exact p5 x hb hn
    · exact q5 x hx hb
theorem comes_mono {T T' : Tb} {who : Int} {a b : List Int} (h : LeT T T') (h1 : comesT T who a b = true) : comesT T' who a b = true := by
  rw [comes_iff] at *
  obtain ⟨p1, p2, p3, p4, p5⟩ := h1
  refine ⟨?_, p2, p3, fun x hx hn => h.minus _ _ (p4 x hx hn), fun x hx hn => h.plus _ _ (p5 x hx hn)⟩
  unfold oneB at *
  rw [← h.len]; exact p1
end Go.Proofs.Ytfjeccaffenngaa
