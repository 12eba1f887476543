/-
  Own work. Texts in order.
-/
import Derived.Test.YtnlmnejellipdaaXOwn2
namespace Go.Proofs.Ytnlmnejellipdaa.X
open Go
set_option linter.unusedVariables false
set_option linter.unusedSimpArgs false
theorem bl_cons {a b : UInt8} {x y : List UInt8} : Op.bytesLess (a :: x) (b :: y) = true ↔ a.toNat < b.toNat ∨ (a = b ∧ Op.bytesLess x y = true) := by
 simp [Op.bytesLess, UInt8.lt_iff_toNat_lt]
theorem bl_irrefl : ∀ x : List UInt8, Op.bytesLess x x = false
 | [] => rfl
 | a :: x => by
  have ih := bl_irrefl x
  cases h : Op.bytesLess (a :: x) (a :: x) with
  | false => rfl
  | true =>
   rcases bl_cons.1 h with h1 | ⟨_, h1⟩
   ·omega
   ·rw [ih] at h1; cases h1
theorem bl_trans : ∀ {x y z : List UInt8}, Op.bytesLess x y = true → Op.bytesLess y z = true → Op.bytesLess x z = true
 | x, y, [], h1, h2 => by cases y <;> cases h2
 | x, [], _ :: _, h1, h2 => by cases x <;> cases h1
 | [], _ :: _, _ :: _, h1, h2 => rfl
 | a :: x, b :: y, c :: z, h1, h2 => by
  rw [bl_cons] at h1 h2 ⊢
  rcases h1 with h1 | ⟨rfl, h1⟩
  ·rcases h2 with h2 | ⟨rfl, h2⟩
   ·left; omega
   ·left; exact h1
  ·rcases h2 with h2 | ⟨rfl, h2⟩
   ·left; exact h2
   ·right; exact ⟨rfl, bl_trans h1 h2⟩
theorem bl_total : ∀ {x y : List UInt8}, Op.bytesLess x y = false → x = y ∨ Op.bytesLess y x = true
 | [], [], h => .inl rfl
 | [], _ :: _, h => by cases h
 | _ :: _, [], h => .inr rfl
 | a :: x, b :: y, h => by
  rcases Nat.lt_trichotomy a.toNat b.toNat with h1 | h1 | h1
  ·rw [bl_cons.2 (.inl h1)] at h; cases h
  ·have hab : a = b := UInt8.toNat_inj.1 h1
   subst hab
   have hxy : Op.bytesLess x y = false := by
    cases hb : Op.bytesLess x y with
    | false => rfl
    | true => rw [bl_cons.2 (.inr ⟨rfl, hb⟩)] at h; cases h
   rcases bl_total hxy with rfl | h2
   ·exact .inl rfl
   ·exact .inr (bl_cons.2 (.inr ⟨rfl, h2⟩))
  ·exact .inr (bl_cons.2 (.inl h1))
def ltT (a b : ByteArray) : Prop := Op.bytesLess a.toList b.toList = true
instance {a b : ByteArray} : Decidable (ltT a b) := inferInstanceAs (Decidable (_ = true))
theorem ltT_irrefl (a : ByteArray) : ¬ ltT a a := by unfold ltT; rw [bl_irrefl]; simp
theorem ltT_trans {a b c : ByteArray} (h1 : ltT a b) (h2 : ltT b c) : ltT a c := bl_trans h1 h2
theorem ltT_total {a b : ByteArray} (h : ¬ ltT a b) : a = b ∨ ltT b a := by
 have : Op.bytesLess a.toList b.toList = false := by simpa [ltT] using h
 rcases bl_total this with h1 | h1
 ·exact .inl (toList_inj h1)
 ·exact .inr h1
theorem ltT_asymm {a b : ByteArray} (h : ltT a b) : ¬ ltT b a := fun h2 => ltT_irrefl a (ltT_trans h h2)
theorem ltT_ne {a b : ByteArray} (h : ltT a b) : a ≠ b := fun e => ltT_irrefl b (e ▸ h)
theorem dec_ltT {a b : ByteArray} : decide (ltT a b) = Op.bytesLess a.toList b.toList := by
 cases h : Op.bytesLess a.toList b.toList with
 | true => exact decide_eq_true h
 | false => exact decide_eq_false (fun h2 => by rw [ltT, h] at h2; cases h2)
section
variable {P : Program} {m : Mem} {t : TypeId}
theorem bin_slss {a b : ByteArray} : binE P .lss t (.string a) (.string b) m = some (.val (.bool (decide (ltT a b))) m) := by
 rw [dec_ltT]; rfl
theorem bin_sgeq {a b : ByteArray} : binE P .geq t (.string a) (.string b) m = some (.val (.bool (decide (¬ ltT a b))) m) := by
 rw [show decide (¬ ltT a b) = !decide (ltT a b) by simp, dec_ltT]; rfl
end
section
variable {m m' : Mem} {size b : Nat} {v : Value} {rows : List (List Value)} {S : Nat → Prop}
def CutB (b : Nat) (m : Mem) (size : Nat) (v : Value) : Prop := ∀ a n c, v = .slice (some a) n c → a.spot = none ∨ (a.spot = some 1 ∧ n = 0) ∨ (a.spot = some 0 ∧ a.block < b ∧ ∃ o, m.get a.block = some o ∧ o.spare = some size)
theorem CutB.fr (h : CutB b m size v) (hf : Fm S m m') (hb : b ≤ m.next) (hs : ∀ i, S i → b ≤ i) : CutB b m' size v := by
 intro a n c hv
 rcases h a n c hv with h1 | h1 | ⟨h1, h2, o, h3, h4⟩
 ·exact .inl h1
 ·exact .inr (.inl h1)
 ·exact .inr (.inr ⟨h1, h2, o, hf.get (by omega) (fun x => by have := hs _ x; omega) h3, h4⟩)
theorem CutB.nil {n c : Nat} : CutB b m size (.slice none n c) := fun a n c hv => by cases hv
theorem Own2.one {F : List Nat} {bytes : Nat} {zero row : List Value} (h : Own2 size F m v rows) (hz : zero.length = size) (hs : 0 < size) (hl : row.length = size) (hb : (rows.length + 1) * bytes ≤ 140737488355328) (hb2 : rows.length + 1 ≤ 9223372036854775807) :
  ∃ v' m' F', appendE (m.push { cells := row, rw := true, spare := none, kin := [] }) size bytes zero v (.slice (some ⟨m.next, 0, none⟩) 1 1) = some (.val v' m') ∧ Own2 size F' m' v' (rows ++ [row]) ∧ Fm (· ∈ F) m m' ∧ ∀ i ∈ F', i ∈ F ∨ m.next ≤ i := by
 have f1 : Fm (fun _ => False) m (m.push { cells := row, rw := true, spare := none, kin := [] }) := .push
 have hg : (m.push { cells := row, rw := true, spare := none, kin := [] }).get m.next = some { cells := row, rw := true, spare := none, kin := [] } := push_self
 have hn : (m.push { cells := row, rw := true, spare := none, kin := [] }).next = m.next + 1 := by simp
 generalize m.push { cells := row, rw := true, spare := none, kin := [] } = m1 at f1 hg hn
 have hx : xfirst m1 size 1 (.slice (some ⟨m.next, 0, none⟩) 1 1) = some row := by
  simp only [xfirst]
  rw [if_neg (by omega), xload_own hg (by simp; omega)]
  simp [List.take_of_length_le (Nat.le_of_eq hl)]
 obtain ⟨v', m', F', k1, k2, k3, k4, k5⟩ := (h.fr f1 (fun _ _ h => h)).append (bytes := bytes) (zero := zero) (vx := .slice (some ⟨m.next, 0, none⟩) 1 1) hz hs rfl hx hl hb hb2
 refine ⟨v', m', F', k1, k2, (f1.mono fun i _ h => h.elim).comp k3 fun _ _ h => h, fun i hi => (k5 i hi).imp id fun h => by omega⟩
end
end Go.Proofs.Ytnlmnejellipdaa.X
