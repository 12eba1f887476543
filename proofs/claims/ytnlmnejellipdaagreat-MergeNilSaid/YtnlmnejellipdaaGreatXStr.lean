/-
  Own work. Texts in order.
-/
import Derived.Test.YtnlmnejellipdaaGreatXOwn2
namespace Go.Proofs.YtnlmnejellipdaaGreat.X
open Go
set_option linter.unusedVariables false
set_option linter.unusedSimpArgs false

theorem bl_cons {a b : UInt8} {x y : List UInt8} : Op.bytesLess (a :: x) (b :: y) = true ↔ a.toNat < b.toNat ∨ (a = b ∧ Op.bytesLess x y = true) := by
  simp [Op.bytesLess, UInt8.lt_iff_toNat_lt]
theorem bl_irrefl : ∀ x : List UInt8, Op.bytesLess x x = false
  | [] => rfl
  | a :: x => by
    have ih := bl_irrefl x
    cases h : Op.bytesLess (a :: x) (a :: x) with
    | false => rfl
    | true =>
      rcases bl_cons.1 h with h1 | ⟨_, h1⟩
      · omega
      · rw [ih] at h1; cases h1
theorem bl_trans : ∀ {x y z : List UInt8}, Op.bytesLess x y = true → Op.bytesLess y z = true → Op.bytesLess x z = true
  | x, y, [], h1, h2 => by cases y <;> cases h2
  | x, [], _ :: _, h1, h2 => by cases x <;> cases h1
  | [], _ :: _, _ :: _, h1, h2 => rfl
  | a :: x, b :: y, c :: z, h1, h2 => by
    rw [bl_cons] at h1 h2 ⊢
    rcases h1 with h1 | ⟨rfl, h1⟩
    · rcases h2 with h2 | ⟨rfl, h2⟩
      · left; omega
      · left; exact h1
    · rcases h2 with h2 | ⟨rfl, h2⟩
      · left; exact h2
      · right; exact ⟨rfl, bl_trans h1 h2⟩
theorem bl_total : ∀ {x y : List UInt8}, Op.bytesLess x y = false → x = y ∨ Op.bytesLess y x = true
  | [], [], h => .inl rfl
  | [], _ :: _, h => by cases h
  | _ :: _, [], h => .inr rfl
  | a :: x, b :: y, h => by
    rcases Nat.lt_trichotomy a.toNat b.toNat with h1 | h1 | h1
    · rw [bl_cons.2 (.inl h1)] at h; cases h
    · have hab : a = b := UInt8.toNat_inj.1 h1
      subst hab
      have hxy : Op.bytesLess x y = false := by
        cases hb : Op.bytesLess x y with
        | false => rfl
        | true => rw [bl_cons.2 (.inr ⟨rfl, hb⟩)] at h; cases h
      rcases bl_total hxy with rfl | h2
      · exact .inl rfl
      · exact .inr (bl_cons.2 (.inr ⟨rfl, h2⟩))
    · exact .inr (bl_cons.2 (.inl h1))

/-- One text is ahead of another one. -/
def ltT (a b : ByteArray) : Prop := Op.bytesLess a.toList b.toList = true
instance {a b : ByteArray} : Decidable (ltT a b) := inferInstanceAs (Decidable (_ = true))
theorem ltT_irrefl (a : ByteArray) : ¬ ltT a a := by unfold ltT; rw [bl_irrefl]; simp
theorem ltT_trans {a b c : ByteArray} (h1 : ltT a b) (h2 : ltT b c) : ltT a c := bl_trans h1 h2
theorem ltT_total {a b : ByteArray} (h : ¬ ltT a b) : a = b ∨ ltT b a := by
  have : Op.bytesLess a.toList b.toList = false := by simpa [ltT] using h
  rcases bl_total this with h1 | h1
  · exact .inl (toList_inj h1)
  · exact .inr h1
theorem ltT_asymm {a b : ByteArray} (h : ltT a b) : ¬ ltT b a := fun h2 => ltT_irrefl a (ltT_trans h h2)
theorem ltT_ne {a b : ByteArray} (h : ltT a b) : a ≠ b := fun e => ltT_irrefl b (e ▸ h)

theorem dec_ltT {a b : ByteArray} : decide (ltT a b) = Op.bytesLess a.toList b.toList := by
  cases h : Op.bytesLess a.toList b.toList with
  | true => exact decide_eq_true h
  | false => exact decide_eq_false (fun h2 => by rw [ltT, h] at h2; cases h2)
section
variable {P : Program} {m : Mem} {t : TypeId}
theorem bin_slss {a b : ByteArray} : binE P .lss t (.string a) (.string b) m = some (.val (.bool (decide (ltT a b))) m) := by
  rw [dec_ltT]; rfl
theorem bin_sgeq {a b : ByteArray} : binE P .geq t (.string a) (.string b) m = some (.val (.bool (decide (¬ ltT a b))) m) := by
  rw [show decide (¬ ltT a b) = !decide (ltT a b) by simp, dec_ltT]; rfl
end

/-! ## Parts of slices -/
section
variable {m m' : Mem} {size b : Nat} {v : Value} {rows : List (List Value)} {S : Nat → Prop}
/-- It may be cut, and so may its parts. -/
def CutB (b : Nat) (m : Mem) (size : Nat) (v : Value) : Prop := ∀ a n c, v = .slice (some a) n c → a.spot = none ∨ (a.spot = some 1 ∧ n = 0) ∨ (a.spot = some 0 ∧ a.block < b ∧ ∃ o, m.get a.block = some o ∧ o.spare = some size)
theorem CutB.fr (h : CutB b m size v) (hf : Fm S m m') (hb : b ≤ m.next) (hs : ∀ i, S i → b ≤ i) : CutB b m' size v := by
  intro a n c hv
  rcases h a n c hv with h1 | h1 | ⟨h1, h2, o, h3, h4⟩
  · exact .inl h1
  · exact .inr (.inl h1)
  · exact .inr (.inr ⟨h1, h2, o, hf.get (by omega) (fun x => by have := hs _ x; omega) h3, h4⟩)
theorem CutB.arg (h : ∀ m', CutOk m' size v) : CutB b m size v := by
  intro a n c hv
  rcases h Mem.empty a n c hv with h1 | h1 | ⟨h1, o, h2, _⟩
  · exact .inl h1
  · exact .inr (.inl h1)
  · cases h2
theorem Own2.cutB {F : List Nat} (h : Own2 size F m v rows) : CutB m.next m size v := by
  intro a n c hv
  obtain ⟨_, ⟨_, hlt, ⟨rfl, _⟩ | ⟨id, o, cap, rest, rfl, h5, h6, _, _, h9, _⟩⟩ | ⟨_, _, id, rfl⟩⟩ := h
  · cases hv
  · cases hv
    exact .inr (.inr ⟨rfl, hlt _ h6, o, h5, h9⟩)
  · cases hv
    exact .inl rfl
theorem CutB.nil {n c : Nat} : CutB b m size (.slice none n c) := fun a n c hv => by cases hv

theorem xslice_rd {p : Option Addr} {c l h : Nat} (hr : RdS b m size (.slice p rows.length c) rows) (hc : CutB b m size (.slice p rows.length c)) (hl : l ≤ h) (hh : h ≤ rows.length) :
    ∃ v', xsliceR m size p l h c false = some v' ∧ RdS b m size v' ((rows.take h).drop l) ∧ CutB b m size v' := by
  obtain ⟨p', c', hv, hle, hr⟩ := hr
  cases hv
  have hlen : ((rows.take h).drop l).length = h - l := by simp; omega
  have hget : ∀ i r, ((rows.take h).drop l)[i]? = some r → rows[l + i]? = some r := fun i r hi => by
    rw [List.getElem?_drop, List.getElem?_take] at hi
    split at hi
    · exact hi
    · cases hi
  have hrd : ∀ a : Addr, p = some a → ∀ s : Option Nat, ∀ q : Addr, q.block = a.block → (c ≠ l → q.off = a.off + l * size) → RdS b m size (.slice (some q) (h - l) (c - l)) ((rows.take h).drop l) := by
    intro a ha s q hq1 hq2
    refine ⟨some q, c - l, by rw [hlen], by rw [hlen]; omega, fun i r hi => ?_⟩
    obtain ⟨k1, a', o, k2, k3, k4, k5⟩ := hr _ r (hget i r hi)
    have hlt := (List.getElem?_eq_some_iff.1 (hget i r hi)).1
    rw [ha] at k2
    cases k2
    refine ⟨k1, q, o, rfl, by rw [hq1]; exact k3, by rw [hq1]; exact k4, fun j hj => ?_⟩
    rw [hq2 (by omega), ← k5 j hj, Nat.add_mul]
    congr 1
    omega
  cases p with
  | none =>
    have h0 : rows = [] := by
      cases rows with
      | nil => rfl
      | cons r t =>
        obtain ⟨_, a, o, h2, _⟩ := hr 0 r rfl
        cases h2
    subst h0
    refine ⟨_, rfl, ?_, .nil⟩
    have h1 : h = 0 := by simpa using hh
    subst h1
    have h2 : l = 0 := by omega
    subst h2
    exact RdS.nil
  | some a =>
    rcases hc a _ _ rfl with hs | ⟨hs, hn⟩ | ⟨hs, hlt, o, ho, hsp⟩
    · refine ⟨.slice (some (if c = l then a else ⟨a.block, a.off + l * size, none⟩)) (h - l) (c - l), by simp [xsliceR, hs], hrd a rfl none _ (by split <;> rfl) (fun hne => by rw [if_neg hne]), ?_⟩
      intro a' n' c' hv
      simp only [Value.slice.injEq, Option.some.injEq] at hv
      left
      rw [← hv.1]
      split
      · exact hs
      · rfl
    · have h0 : rows = [] := List.eq_nil_of_length_eq_zero hn
      subst h0
      have h1 : h = 0 := by simpa using hh
      subst h1
      have h2 : l = 0 := by omega
      subst h2
      refine ⟨.slice (some a) (0 - 0) (c - 0), by simp [xsliceR, hs], .nil, ?_⟩
      intro a' n' c' hv
      simp only [Value.slice.injEq, Option.some.injEq] at hv
      right; left
      exact ⟨by rw [← hv.1]; exact hs, by omega⟩
    · refine ⟨.slice (some ⟨a.block, a.off + l * size, some 0⟩) (h - l) (c - l), by simp [xsliceR, hs, ho, hsp], hrd a rfl none _ rfl (fun _ => rfl), ?_⟩
      intro a' n' c' hv
      simp only [Value.slice.injEq, Option.some.injEq] at hv
      right; right
      rw [← hv.1]
      exact ⟨rfl, hlt, o, ho, hsp⟩

theorem slice_part {k k' : IntKind} {l h : Nat} (hr : RdS b m size v rows) (hc : CutB b m size v) (hl : l ≤ h) (hh : h ≤ rows.length) :
    ∃ v', sliceE m size v (some (.int k (l : Int))) (some (.int k' (h : Int))) none = some (.val v' m) ∧ RdS b m size v' ((rows.take h).drop l) ∧ CutB b m size v' := by
  obtain ⟨p, c, rfl⟩ := hr.slice
  obtain ⟨v', h1, h2, h3⟩ := xslice_rd hr hc hl hh
  obtain ⟨_, _, hv, hle, _⟩ := hr
  cases hv
  have hb : xbounds rows.length c (some (.int k (l : Int))) (some (.int k' (h : Int))) none = some (l, h, c) := by
    have : h ≤ c := by omega
    simp [xbounds, asNat_nat, hl, this]
  exact ⟨v', by simp [sliceE, hb, h1], h2, h3⟩
theorem slice_back {k : IntKind} {l : Nat} (hr : RdS b m size v rows) (hc : CutB b m size v) (hl : l ≤ rows.length) :
    ∃ v', sliceE m size v (some (.int k (l : Int))) none none = some (.val v' m) ∧ RdS b m size v' (rows.drop l) ∧ CutB b m size v' := by
  obtain ⟨p, c, rfl⟩ := hr.slice
  obtain ⟨v', h1, h2, h3⟩ := xslice_rd hr hc hl (Nat.le_refl _)
  rw [List.take_length] at h2
  have hb : xbounds rows.length c (some (.int k (l : Int))) none none = some (l, rows.length, c) := by simp [xbounds, asNat_nat, hl]
  exact ⟨v', by simp [sliceE, hb, h1], h2, h3⟩
theorem slice_tail {k : IntKind} {r : List Value} (hr : RdS b m size v (r :: rows)) (hc : CutB b m size v) :
    ∃ v', sliceE m size v (some (.int k 1)) none none = some (.val v' m) ∧ RdS b m size v' rows ∧ CutB b m size v' := slice_back (l := 1) hr hc (by simp)
/-- A new row, put behind. -/
theorem Own2.one {F : List Nat} {bytes : Nat} {zero row : List Value} (h : Own2 size F m v rows) (hz : zero.length = size) (hs : 0 < size) (hl : row.length = size) (hb : (rows.length + 1) * bytes ≤ 140737488355328) (hb2 : rows.length + 1 ≤ 9223372036854775807) :
    ∃ v' m' F', appendE (m.push { cells := row, rw := true, spare := none, kin := [] }) size bytes zero v (.slice (some ⟨m.next, 0, none⟩) 1 1) = some (.val v' m') ∧ Own2 size F' m' v' (rows ++ [row]) ∧ Fm (· ∈ F) m m' ∧ ∀ i ∈ F', i ∈ F ∨ m.next ≤ i := by
  have f1 : Fm (fun _ => False) m (m.push { cells := row, rw := true, spare := none, kin := [] }) := .push
  have hg : (m.push { cells := row, rw := true, spare := none, kin := [] }).get m.next = some { cells := row, rw := true, spare := none, kin := [] } := push_self
  have hn : (m.push { cells := row, rw := true, spare := none, kin := [] }).next = m.next + 1 := by simp
  generalize m.push { cells := row, rw := true, spare := none, kin := [] } = m1 at f1 hg hn
  have hx : xfirst m1 size 1 (.slice (some ⟨m.next, 0, none⟩) 1 1) = some row := by
    simp only [xfirst]
    rw [if_neg (by omega), xload_own hg (by simp; omega)]
    simp [List.take_of_length_le (Nat.le_of_eq hl)]
  obtain ⟨v', m', F', k1, k2, k3, k4, k5⟩ := (h.fr f1 (fun _ _ h => h)).append (bytes := bytes) (zero := zero) (vx := .slice (some ⟨m.next, 0, none⟩) 1 1) hz hs rfl hx hl hb hb2
  refine ⟨v', m', F', k1, k2, (f1.mono fun i _ h => h.elim).comp k3 fun _ _ h => h, fun i hi => (k5 i hi).imp id fun h => by omega⟩
end
end Go.Proofs.YtnlmnejellipdaaGreat.X
