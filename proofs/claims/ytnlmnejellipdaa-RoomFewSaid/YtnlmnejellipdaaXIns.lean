/-
  Own work. slices.Insert of one element: what it answers, whatever capacity there is.
-/
import Derived.Test.YtnlmnejellipdaaXGo
namespace Go.Proofs.Ytnlmnejellipdaa.X
open Go
set_option linter.unusedVariables false
set_option linter.unusedSimpArgs false
section
variable {ρ : Rho} {m : Mem} {w w' : World}
theorem erase_step {l : List Nat} (hr : Rel ρ m w) (hl : ∀ k ∈ l, ∃ c, ρ k = some c) : Step ρ m w ρ (m.eraseAll l) w := by
 have hget : ∀ j oj, (m.eraseAll l).get j = some oj → j ∉ l ∧ m.get j = some oj := by
  intro j oj hj
  rw [Mem.get_eraseAll] at hj
  split at hj
  ·cases hj
  ·rename_i hn; exact ⟨hn, hj⟩
 refine ⟨.refl _, ⟨fun j oj cj hj hcj => hr.obj j oj cj (hget j oj hj).2 hcj, fun j k oj ok cj ck hjk hj hk hcj hck hrw hb => hr.excl j k oj ok cj ck hjk (hget j oj hj).2 (hget k ok hk).2 hcj hck hrw hb,
  fun j hj => hr.fresh j (by simpa using hj), fun j oj hj => by simpa using hr.alive j oj (hget j oj hj).2⟩, .refl _ _ _, ⟨fun j oj cj hj hrw hcj => .inr ⟨j, oj, cj, (hget j oj hj).2, hrw, hcj, rfl⟩⟩, by simp, fun j _ hn => ?_, fun _ _ h => h⟩
 rw [Mem.get_eraseAll, if_neg (fun hk => by obtain ⟨c, hc⟩ := hl j hk; rw [hn] at hc; cases hc)]
theorem rewrite_step {i : Nat} {o : XObj} {c : Co} {s off : Nat} {new : List Value} (hr : Rel ρ m w) (ho : m.get i = some o) (hc : ρ i = some c) (hrw : o.rw = true) (hsp : o.spare = some s) (hroom : off + new.length ≤ c.room)
  (hsz : w'.heap.size = w.heap.size) (hold : ∀ k, k ≠ c.blk → w'.heap[k]? = w.heap[k]?) (hos : w'.os = w.os) (htp : w'.tape = w.tape) (hout : w'.output = w.output) (hfr : ∀ a, w'.frozen? a = w.frozen? a)
  (hcell : ∀ (j : Nat) (v : Value), new[j]? = some v → ∃ v', w'.cell? ⟨c.blk, c.off + off + j, none⟩ = some v' ∧ CRel ρ v v') (hsome : ∀ j, j < c.room → (w'.cell? ⟨c.blk, c.off + j, none⟩).isSome = true) :
  Step ρ m w (ρ.with m.next ⟨c.blk, c.off + off, c.room - off, s⟩) ((m.eraseAll (i :: o.kin)).push { cells := new, rw := true, spare := some s, kin := [] }) w' := by
 have hO := hr.obj _ _ _ ho hc
 have hf : ρ m.next = none := hr.fresh _ (Nat.le_refl _)
 have hx := Rho.with_ext ⟨c.blk, c.off + off, c.room - off, s⟩ hf
 have hat : (ρ.with m.next ⟨c.blk, c.off + off, c.room - off, s⟩) m.next = some ⟨c.blk, c.off + off, c.room - off, s⟩ := by simp [Rho.with]
 have hoffn : ∀ j, j ≠ m.next → (ρ.with m.next ⟨c.blk, c.off + off, c.room - off, s⟩) j = ρ j := fun j h => by simp [Rho.with, h]
 have hin : i < m.next := hr.alive _ _ ho
 have hget : ∀ j oj, ((m.eraseAll (i :: o.kin)).push { cells := new, rw := true, spare := some s, kin := [] }).get j = some oj →
   (j = m.next ∧ oj = { cells := new, rw := true, spare := some s, kin := [] }) ∨ (j ≠ m.next ∧ j ≠ i ∧ j ∉ o.kin ∧ m.get j = some oj) := by
  intro j oj hj
  rw [Mem.get_push, Mem.next_eraseAll] at hj
  by_cases h : m.next = j
  ·rw [if_pos h] at hj; cases hj; exact .inl ⟨h.symm, rfl⟩
  ·rw [if_neg h, Mem.get_eraseAll] at hj
   split at hj
   ·cases hj
   ·rename_i hn
    simp only [List.mem_cons, not_or] at hn
    exact .inr ⟨fun e => h e.symm, hn.1, hn.2, hj⟩
 have hne : ∀ j oj cj, j ≠ i → j ∉ o.kin → m.get j = some oj → ρ j = some cj → cj.blk ≠ c.blk := fun j oj cj h1 h2 h3 h4 hb =>
  h2 (hr.excl i j o oj c cj (Ne.symm h1) ho h3 hc h4 hrw hb.symm).1
 refine ⟨hx, ⟨?_, ?_, ?_, ?_⟩, ⟨by omega, ?_, hos, htp, hout, hfr⟩, ⟨?_⟩, by simp, ?_, ?_⟩
 ·intro j oj cj hj hcj
  rcases hget j oj hj with ⟨rfl, rfl⟩ | ⟨h1, h2, h3, h4⟩
  ·rw [hat] at hcj
   cases hcj
   refine ⟨by rw [hsz]; exact hO.lt, ?_, fun _ k => (by rw [hfr]; exact hO.free hrw k), fun s' hs' => (by simp only at hs'; cases hs'; rfl), fun k hk => (by simp at hk), ?_, trivial⟩
   ·intro k v hk
    obtain ⟨v', q1, q2⟩ := hcell k v hk
    exact ⟨v', q1, q2.mono hx⟩
   ·intro _ s' hs'
    simp only at hs'
    cases hs'
    refine ⟨by simp only; omega, fun k hk => ?_⟩
    simp only at hk ⊢
    rw [show c.off + off + k = c.off + (off + k) by omega]
    exact hsome _ (by omega)
  ·rw [hoffn _ h1] at hcj
   exact (hr.obj j oj cj h4 hcj).later hx (by omega) (hold _ (hne j oj cj h2 h3 h4 hcj))
 ·intro j k oj ok cj ck hjk hj hk hcj hck hjrw hb
  rcases hget j oj hj with ⟨rfl, rfl⟩ | ⟨h1, h2, h3, h4⟩
  ·rw [hat] at hcj
   cases hcj
   rcases hget k ok hk with ⟨rfl, rfl⟩ | ⟨g1, g2, g3, g4⟩
   ·exact absurd rfl hjk
   ·rw [hoffn _ g1] at hck
    exact absurd hb.symm (hne k ok ck g2 g3 g4 hck)
  ·rw [hoffn _ h1] at hcj
   rcases hget k ok hk with ⟨rfl, rfl⟩ | ⟨g1, g2, g3, g4⟩
   ·rw [hat] at hck
    cases hck
    exact absurd hb (hne j oj cj h2 h3 h4 hcj)
   ·rw [hoffn _ g1] at hck
    exact hr.excl j k oj ok cj ck hjk h4 g4 hcj hck hjrw hb
 ·intro j hj
  simp only [Mem.next_push, Mem.next_eraseAll] at hj
  rw [hoffn j (by omega)]
  exact hr.fresh j (by omega)
 ·intro j oj hj
  simp only [Mem.next_push, Mem.next_eraseAll]
  rcases hget j oj hj with ⟨rfl, _⟩ | ⟨_, _, _, h4⟩
  ·omega
  ·have := hr.alive j oj h4; omega
 ·intro b hb hn
  exact hold b (Ne.symm (hn i o c ho hrw hc))
 ·intro j oj cj hj hjrw hcj
  rcases hget j oj hj with ⟨rfl, rfl⟩ | ⟨h1, h2, h3, h4⟩
  ·rw [hat] at hcj; cases hcj
   exact .inr ⟨i, o, c, ho, hrw, hc, rfl⟩
  ·rw [hoffn _ h1] at hcj
   exact .inr ⟨j, oj, cj, h4, hjrw, hcj, rfl⟩
 ·intro j hj hn
  rw [Mem.get_push, Mem.next_eraseAll, if_neg (by omega), Mem.get_eraseAll, if_neg]
  intro hk
  rcases List.mem_cons.1 hk with rfl | hk
  ·rw [hc] at hn; cases hn
  ·obtain ⟨c', hc'⟩ := hO.kin j hk; rw [hc'] at hn; cases hn
 ·intro j hj hn
  rw [hoffn j (by omega)]; exact hn
theorem rewrite_step0 {i : Nat} {o : XObj} {c : Co} {off : Nat} {new : List Value} (hr : Rel ρ m w) (ho : m.get i = some o) (hc : ρ i = some c) (hrw : o.rw = true)
  (hsz : w'.heap.size = w.heap.size) (hold : ∀ k, k ≠ c.blk → w'.heap[k]? = w.heap[k]?) (hos : w'.os = w.os) (htp : w'.tape = w.tape) (hout : w'.output = w.output) (hfr : ∀ a, w'.frozen? a = w.frozen? a)
  (hcell : ∀ (j : Nat) (v : Value), new[j]? = some v → ∃ v', w'.cell? ⟨c.blk, c.off + off + j, none⟩ = some v' ∧ CRel ρ v v') :
  Step ρ m w (ρ.with m.next ⟨c.blk, c.off + off, 0, 0⟩) ((m.eraseAll (i :: o.kin)).push { cells := new, rw := true, spare := none, kin := [] }) w' := by
 have hO := hr.obj _ _ _ ho hc
 have hf : ρ m.next = none := hr.fresh _ (Nat.le_refl _)
 have hx := Rho.with_ext ⟨c.blk, c.off + off, 0, 0⟩ hf
 have hat : (ρ.with m.next ⟨c.blk, c.off + off, 0, 0⟩) m.next = some ⟨c.blk, c.off + off, 0, 0⟩ := by simp [Rho.with]
 have hoffn : ∀ j, j ≠ m.next → (ρ.with m.next ⟨c.blk, c.off + off, 0, 0⟩) j = ρ j := fun j h => by simp [Rho.with, h]
 have hin : i < m.next := hr.alive _ _ ho
 have hget : ∀ j oj, ((m.eraseAll (i :: o.kin)).push { cells := new, rw := true, spare := none, kin := [] }).get j = some oj →
   (j = m.next ∧ oj = { cells := new, rw := true, spare := none, kin := [] }) ∨ (j ≠ m.next ∧ j ≠ i ∧ j ∉ o.kin ∧ m.get j = some oj) := by
  intro j oj hj
  rw [Mem.get_push, Mem.next_eraseAll] at hj
  by_cases h : m.next = j
  ·rw [if_pos h] at hj; cases hj; exact .inl ⟨h.symm, rfl⟩
  ·rw [if_neg h, Mem.get_eraseAll] at hj
   split at hj
   ·cases hj
   ·rename_i hn
    simp only [List.mem_cons, not_or] at hn
    exact .inr ⟨fun e => h e.symm, hn.1, hn.2, hj⟩
 have hne : ∀ j oj cj, j ≠ i → j ∉ o.kin → m.get j = some oj → ρ j = some cj → cj.blk ≠ c.blk := fun j oj cj h1 h2 h3 h4 hb =>
  h2 (hr.excl i j o oj c cj (Ne.symm h1) ho h3 hc h4 hrw hb.symm).1
 refine ⟨hx, ⟨?_, ?_, ?_, ?_⟩, ⟨by omega, ?_, hos, htp, hout, hfr⟩, ⟨?_⟩, by simp, ?_, ?_⟩
 ·intro j oj cj hj hcj
  rcases hget j oj hj with ⟨rfl, rfl⟩ | ⟨h1, h2, h3, h4⟩
  ·rw [hat] at hcj
   cases hcj
   refine ⟨by rw [hsz]; exact hO.lt, ?_, fun _ k => (by rw [hfr]; exact hO.free hrw k), fun s' hs' => (by cases hs'), fun k hk => (by simp at hk), ?_, trivial⟩
   ·intro k v hk
    obtain ⟨v', q1, q2⟩ := hcell k v hk
    exact ⟨v', q1, q2.mono hx⟩
   ·intro _ s' hs'
    cases hs'
  ·rw [hoffn _ h1] at hcj
   exact (hr.obj j oj cj h4 hcj).later hx (by omega) (hold _ (hne j oj cj h2 h3 h4 hcj))
 ·intro j k oj ok cj ck hjk hj hk hcj hck hjrw hb
  rcases hget j oj hj with ⟨rfl, rfl⟩ | ⟨h1, h2, h3, h4⟩
  ·rw [hat] at hcj
   cases hcj
   rcases hget k ok hk with ⟨rfl, rfl⟩ | ⟨g1, g2, g3, g4⟩
   ·exact absurd rfl hjk
   ·rw [hoffn _ g1] at hck
    exact absurd hb.symm (hne k ok ck g2 g3 g4 hck)
  ·rw [hoffn _ h1] at hcj
   rcases hget k ok hk with ⟨rfl, rfl⟩ | ⟨g1, g2, g3, g4⟩
   ·rw [hat] at hck
    cases hck
    exact absurd hb (hne j oj cj h2 h3 h4 hcj)
   ·rw [hoffn _ g1] at hck
    exact hr.excl j k oj ok cj ck hjk h4 g4 hcj hck hjrw hb
 ·intro j hj
  simp only [Mem.next_push, Mem.next_eraseAll] at hj
  rw [hoffn j (by omega)]
  exact hr.fresh j (by omega)
 ·intro j oj hj
  simp only [Mem.next_push, Mem.next_eraseAll]
  rcases hget j oj hj with ⟨rfl, _⟩ | ⟨_, _, _, h4⟩
  ·omega
  ·have := hr.alive j oj h4; omega
 ·intro b hb hn
  exact hold b (Ne.symm (hn i o c ho hrw hc))
 ·intro j oj cj hj hjrw hcj
  rcases hget j oj hj with ⟨rfl, rfl⟩ | ⟨h1, h2, h3, h4⟩
  ·rw [hat] at hcj; cases hcj
   exact .inr ⟨i, o, c, ho, hrw, hc, rfl⟩
  ·rw [hoffn _ h1] at hcj
   exact .inr ⟨j, oj, cj, h4, hjrw, hcj, rfl⟩
 ·intro j hj hn
  rw [Mem.get_push, Mem.next_eraseAll, if_neg (by omega), Mem.get_eraseAll, if_neg]
  intro hk
  rcases List.mem_cons.1 hk with rfl | hk
  ·rw [hc] at hn; cases hn
  ·obtain ⟨c', hc'⟩ := hO.kin j hk; rw [hc'] at hn; cases hn
 ·intro j hj hn
  rw [hoffn j (by omega)]; exact hn
theorem newrow_step {s R : Nat} {new : List Value} (hr : Rel ρ m w) (hroom : new.length ≤ R)
  (hsz : w'.heap.size = w.heap.size + 1) (hold : ∀ k, k < w.heap.size → w'.heap[k]? = w.heap[k]?) (hos : w'.os = w.os) (htp : w'.tape = w.tape) (hout : w'.output = w.output) (hfr : ∀ a, w'.frozen? a = w.frozen? a)
  (hfree : ∀ j, w'.frozen? ⟨w.heap.size, j, none⟩ = false) (hcell : ∀ (j : Nat) (v : Value), new[j]? = some v → ∃ v', w'.cell? ⟨w.heap.size, j, none⟩ = some v' ∧ CRel ρ v v') (hsome : ∀ j, j < R → (w'.cell? ⟨w.heap.size, j, none⟩).isSome = true) :
  Step ρ m w (ρ.with m.next ⟨w.heap.size, 0, R, s⟩) (m.push { cells := new, rw := true, spare := some s, kin := [] }) w' := by
 have hf : ρ m.next = none := hr.fresh _ (Nat.le_refl _)
 have hx := Rho.with_ext ⟨w.heap.size, 0, R, s⟩ hf
 have hget : ∀ i oi, (m.push { cells := new, rw := true, spare := some s, kin := [] }).get i = some oi → (i = m.next ∧ oi = { cells := new, rw := true, spare := some s, kin := [] }) ∨ (i ≠ m.next ∧ m.get i = some oi) := by
  intro i oi hi
  rw [Mem.get_push] at hi
  by_cases h : m.next = i
  ·rw [if_pos h] at hi; cases hi; exact .inl ⟨h.symm, rfl⟩
  ·rw [if_neg h] at hi; exact .inr ⟨fun e => h e.symm, hi⟩
 have hat : (ρ.with m.next ⟨w.heap.size, 0, R, s⟩) m.next = some ⟨w.heap.size, 0, R, s⟩ := by simp [Rho.with]
 have hoff : ∀ i, i ≠ m.next → (ρ.with m.next ⟨w.heap.size, 0, R, s⟩) i = ρ i := fun i h => by simp [Rho.with, h]
 refine ⟨hx, ⟨?_, ?_, ?_, ?_⟩, ⟨by omega, fun b hb _ => hold b hb, hos, htp, hout, hfr⟩, ⟨?_⟩, by simp, ?_, ?_⟩
 ·intro i oi ci hi hci
  rcases hget i oi hi with ⟨rfl, rfl⟩ | ⟨hne, hi'⟩
  ·rw [hat] at hci
   cases hci
   refine ⟨by rw [hsz]; exact Nat.lt_succ_self _, ?_, fun _ j => hfree j, fun s' hs' => (by simp only at hs'; cases hs'; rfl), fun k hk => (by simp at hk), ?_, trivial⟩
   ·intro j v hj
    obtain ⟨v', h1, h2⟩ := hcell j v hj
    exact ⟨v', by rw [Nat.zero_add]; exact h1, h2.mono hx⟩
   ·intro _ s' hs'
    exact ⟨hroom, fun j hj => by rw [Nat.zero_add]; exact hsome j hj⟩
  ·rw [hoff i hne] at hci
   have hO := hr.obj i oi ci hi' hci
   exact hO.later hx (by omega) (hold _ hO.lt)
 ·intro i j oi oj ci cj hij hi hj hci hcj hirw hb
  rcases hget i oi hi with ⟨rfl, rfl⟩ | ⟨hne, hi'⟩
  ·rcases hget j oj hj with ⟨rfl, rfl⟩ | ⟨hne', hj'⟩
   ·exact absurd rfl hij
   ·rw [hat] at hci
    rw [hoff j hne'] at hcj
    cases hci
    have := (hr.obj j oj cj hj' hcj).lt
    simp only at hb; omega
  ·rw [hoff i hne] at hci
   rcases hget j oj hj with ⟨rfl, rfl⟩ | ⟨hne', hj'⟩
   ·rw [hat] at hcj
    cases hcj
    have := (hr.obj i oi ci hi' hci).lt
    simp only at hb; omega
   ·rw [hoff j hne'] at hcj
    exact hr.excl i j oi oj ci cj hij hi' hj' hci hcj hirw hb
 ·intro i hi
  simp only [Mem.next_push] at hi
  rw [hoff i (by omega)]
  exact hr.fresh i (by omega)
 ·intro i oi hi
  simp only [Mem.next_push]
  rcases hget i oi hi with ⟨rfl, _⟩ | ⟨_, hi'⟩
  ·omega
  ·have := hr.alive i oi hi'; omega
 ·intro i oi ci hi hirw hci
  rcases hget i oi hi with ⟨rfl, rfl⟩ | ⟨hne, hi'⟩
  ·rw [hat] at hci; cases hci; exact .inl (Nat.le_refl _)
  ·rw [hoff i hne] at hci
   exact .inr ⟨i, oi, ci, hi', hirw, hci, rfl⟩
 ·intro i hi _
  rw [Mem.get_push, if_neg (by omega)]
 ·intro i hi hn
  rw [hoff i (by omega)]; exact hn
end
def InsRun (P : Program) (f : FuncId) (size : Nat) : Prop :=
  ∀ (b off n cap i vb voff vc : Nat) (cs vs : List Value) (w : World), i < n → n ≤ cap → cap ≤ 9223372036854775807 → n ≤ 1000000 → vb ≠ b → cs.length = n * size → vs.length = size →
    (∀ (j : Nat) (v : Value), cs[j]? = some v → w.cell? ⟨b, off + j, none⟩ = some v) → (∀ j, j < cap * size → (w.cell? ⟨b, off + j, none⟩).isSome = true) → (∀ j, w.frozen? ⟨b, j, none⟩ = false) →
    (∀ (j : Nat) (v : Value), vs[j]? = some v → w.cell? ⟨vb, voff + j, none⟩ = some v) → (∀ j, w.frozen? ⟨vb, j, none⟩ = false) → (∀ v ∈ cs, v.oneCell' = true) → (∀ v ∈ vs, v.oneCell' = true) →
    Calls P f #[.slice (some ⟨b, off, none⟩) n cap, .int .i64 i, .slice (some ⟨vb, voff, none⟩) 1 vc] w fun e w' =>
      w'.os = w.os ∧ w'.tape = w.tape ∧ w'.output = w.output ∧ (∀ a, w'.frozen? a = w.frozen? a) ∧
      ((e = .returned (.slice (some ⟨b, off, none⟩) (n + 1) cap) ∧ n + 1 ≤ cap ∧ w'.heap.size = w.heap.size ∧ (∀ k, k ≠ b → w'.heap[k]? = w.heap[k]?) ∧
          (∀ (j : Nat) (v : Value), (insC cs vs (i * size))[j]? = some v → w'.cell? ⟨b, off + j, none⟩ = some v) ∧ (∀ j, (n + 1) * size ≤ j → w'.cell? ⟨b, off + j, none⟩ = w.cell? ⟨b, off + j, none⟩) ∧ (∀ x, (w.cell? x).isSome = true → (w'.cell? x).isSome = true)) ∨
       (∃ G, cap < n + 1 ∧ n + 1 ≤ G ∧ G ≤ 9223372036854775807 ∧ e = .returned (.slice (some ⟨w.heap.size, 0, none⟩) (n + 1) G) ∧ w'.heap.size = w.heap.size + 1 ∧ (∀ k, k < w.heap.size → w'.heap[k]? = w.heap[k]?) ∧
          (∀ (j : Nat) (v : Value), (insC cs vs (i * size))[j]? = some v → w'.cell? ⟨w.heap.size, j, none⟩ = some v) ∧ (∀ j, j < G * size → (w'.cell? ⟨w.heap.size, j, none⟩).isSome = true)))
theorem insC_len {cs vs : List Value} {k : Nat} (h : k ≤ cs.length) : (insC cs vs k).length = cs.length + vs.length := by
 simp [insC]; omega
theorem insC_rel {ρ : Rho} {cs vs cs' vs' : List Value} {k : Nat} (h : CsRel ρ cs cs') (h' : CsRel ρ vs vs') : CsRel ρ (insC cs vs k) (insC cs' vs' k) := (h.take k).append (h'.append (h.drop k))
section
variable {P : Program} {ρ : Rho} {m : Mem} {w : World}
theorem insX_ok {f : FuncId} {size : Nat} (hrun : InsRun P f size) {args' : Array Value} {v : Value} {m' : Mem} {a va : Addr} {n c vc : Nat} {i : Int} {o vo : XObj} (hR : Rel ρ m w) (hargs : VsRel ρ [.slice (some a) n c, .int .i64 i, .slice (some va) 1 vc] args'.toList) (hga : m.get a.block = some o) (hgv : m.get va.block = some vo) (h : insX size a n c i va m o vo = some (v, m')) :
  Calls P f args' w fun e w' => ∃ ρ' v', e = .returned v' ∧ VRel ρ' v v' ∧ Step ρ m w ρ' m' w' := by
 unfold insX at h
 obtain ⟨⟨hs0, hs1, hrw, hvrw, hsz, hi0, hi1, hne, hkin, hn, hnc, hoffc, hc63⟩, h⟩ := ite_some' h
 obtain ⟨vs, hvs, h⟩ := bind_some' h
 
 obtain ⟨x1, x2, x3, hargs', r1, r2, r3⟩ : ∃ x1 x2 x3, args'.toList = [x1, x2, x3] ∧ VRel ρ (.slice (some a) n c) x1 ∧ VRel ρ (.int .i64 i) x2 ∧ VRel ρ (.slice (some va) 1 vc) x3 := by
  generalize args'.toList = l at hargs
  cases hargs with
  | cons h1 t => cases t with
   | cons h2 t => cases t with
    | cons h3 t => cases t with
     | nil => exact ⟨_, _, _, rfl, h1, h2, h3⟩
 have e2 := r2.eq rfl
 subst e2
 have hn0 : 0 < n := by omega
 obtain ⟨co, hco, rfl⟩ : ∃ co : Co, ρ a.block = some co ∧ x1 = .slice (some ⟨co.blk, co.off + a.off, none⟩) n c := by
  cases r1 with
  | cell h => cases h with
   | plain h => simp [plainV] at h
   | slice _ h _ => exact ⟨_, h, rfl⟩
   | slack h => rw [hs0] at h; cases h
   | zero h => omega
 obtain ⟨cv, hcv, rfl⟩ : ∃ cv, ρ va.block = some cv ∧ x3 = .slice (some ⟨cv.blk, cv.off + va.off, none⟩) 1 vc := by
  cases r3 with
  | cell h => cases h with
   | plain h => simp [plainV] at h
   | slice _ h _ => exact ⟨_, h, rfl⟩
   | slack h => rw [hs1] at h; cases h
 have hO := hR.obj _ _ _ hga hco
 have hV := hR.obj _ _ _ hgv hcv
 have hblk : cv.blk ≠ co.blk := fun hb => hkin (hR.excl a.block va.block o vo co cv (Ne.symm hne) hga hgv hco hcv hrw hb.symm).1
 
 obtain ⟨cs, hcs⟩ : ∃ cs, o.cells.drop a.off = cs := ⟨_, rfl⟩
 rw [hcs] at h
 have hcsl : cs.length = o.cells.length - a.off := by rw [← hcs]; simp
 have hncs : n * size ≤ c * size := Nat.mul_le_mul_right size hnc
 have hnl : n * size ≤ cs.length := by omega
 have hl0 : xload m ⟨a.block, a.off, none⟩ (n * size) = some (cs.take (n * size)) := by
  simp only [xload, hga, hcs]
  rw [if_pos (by omega)]
 obtain ⟨cs', k1, k2, k3⟩ := xload_rel hR hl0 hco
 obtain ⟨vs', j1, j2, j3⟩ := xload_rel hR hvs hcv
 have hcl : cs'.length = n * size := k1
 have hin : i.toNat < n := by omega
 have hii : (i.toNat : Int) = i := Int.toNat_of_nonneg hi0
 have he : args' = #[.slice (some ⟨co.blk, co.off + a.off, none⟩) n c, .int .i64 ((i.toNat : Nat) : Int), .slice (some ⟨cv.blk, cv.off + va.off, none⟩) 1 vc] := by
  rw [hii, ← Array.toList_inj]; exact hargs'
 rw [he]
 have hone : ∀ v ∈ cs', v.oneCell' = true := k2.ones
 refine (hrun co.blk (co.off + a.off) n c i.toNat cv.blk (cv.off + va.off) vc cs' vs' w hin (by omega) hc63 hn hblk hcl j1 k3 (fun j hj => ?_) (fun j => hO.free hrw j) j3 (fun j => hV.free hvrw j) hone j2.ones).mono ?_
 ·have hlt : a.off + j < o.cells.length := by omega
  obtain ⟨v', h1, _⟩ := hO.cell (a.off + j) _ (List.getElem?_eq_getElem hlt)
  rw [Nat.add_assoc, h1]; rfl
 have hri := insC_rel (k := i.toNat * size) k2 j2
 have hkn : i.toNat * size ≤ n * size := Nat.mul_le_mul_right size (Nat.le_of_lt hin)
 have htl : (cs.take (n * size)).length = n * size := by rw [List.length_take]; omega
 have hil := insC_len (cs := cs.take (n * size)) (vs := vs) (k := i.toNat * size) (by omega)
 have hvl : vs.length = size := by have := j2.length; omega
 have hn1 : (n + 1) * size = n * size + size := Nat.succ_mul n size
 rw [htl, hvl] at hil
 rintro e w' ⟨ho1, ho2, ho3, ho4, ⟨rfl, q1, q2, q3, q4, q6, q5⟩ | ⟨G, q0, q1, q2, rfl, q3, q4, q5, q6⟩⟩
 ·have hle : (n + 1) * size ≤ c * size := Nat.mul_le_mul_right size q1
  rw [if_pos q1] at h
  cases h
  have hS := rewrite_step0 (off := a.off) (new := insC (cs.take (n * size)) vs (i.toNat * size) ++ cs.drop ((n + 1) * size)) hR hga hco hrw q2 q3 ho1 ho2 ho3 ho4 (fun j x hj => ?_)
  ·refine ⟨_, _, rfl, ?_, hS⟩
   exact .cell (.slice (c := ⟨co.blk, co.off + a.off, 0, 0⟩) rfl (by simp [Rho.with]) q1)
  ·rw [List.getElem?_append] at hj
   split at hj
   ·obtain ⟨x', h1, h2⟩ := hri.get j x hj
    exact ⟨x', q4 j x' h1, h2⟩
   ·rename_i hge
    rw [hil] at hge hj
    rw [List.getElem?_drop, ← hcs, List.getElem?_drop] at hj
    obtain ⟨x', h1, h2⟩ := hO.cell _ _ hj
    refine ⟨x', ?_, h2⟩
    rw [q6 j (by omega)]
    rw [show co.off + a.off + j = co.off + (a.off + ((n + 1) * size + (j - (n * size + size)))) by omega]
    exact h1
 ·rw [if_neg (by omega)] at h
  cases h
  have hE := erase_step (l := a.block :: o.kin) hR (fun k hk => by
   rcases List.mem_cons.1 hk with rfl | hk
   ·exact ⟨co, hco⟩
   ·exact hO.kin k hk)
  have hle : (n + 1) * size ≤ G * size := Nat.mul_le_mul_right size q1
  have hS := newrow_step (s := size) (R := G * size) (new := insC (cs.take (n * size)) vs (i.toNat * size)) hE.rel (by omega) q3 q4 ho1 ho2 ho3 ho4 (fun j => ?_) (fun j x hj => ?_) q6
  ·refine ⟨_, _, rfl, ?_, hE.trans hS⟩
   refine .cell (.slack rfl (by simp [Rho.with]; rfl) (Nat.le_refl _) q1 q2 (.inr ⟨by simp, ?_⟩))
   simp
  ·rw [ho4]
   have : w.heap[w.heap.size]? = none := by simp
   simp [World.frozen?, this]
  ·obtain ⟨x', h1, h2⟩ := hri.get j x hj
   exact ⟨x', q5 j x' h1, h2⟩
theorem ins_ok {f : FuncId} {size : Nat} (hrun : InsRun P f size) : InsOk P f size := by
 intro ρ m w args args' v m' hR hargs h
 unfold insG at h
 split at h
 case h_2 => cases h
 rename_i a n c i va vc
 split at h
 case h_2 => cases h
 rename_i o vo hga hgv
 split at h
 case isFalse => exact insX_ok hrun hR hargs hga hgv h
 rename_i hcond
 obtain ⟨hs0, hs1, hrw, hvrw, hsp, hsz, hi0, hi1, hne, hkin, hn, hoff, hnc⟩ := hcond
 obtain ⟨vs, hvs, h⟩ := bind_some' h
 
 obtain ⟨x1, x2, x3, hargs', r1, r2, r3⟩ : ∃ x1 x2 x3, args'.toList = [x1, x2, x3] ∧ VRel ρ (.slice (some a) n c) x1 ∧ VRel ρ (.int .i64 i) x2 ∧ VRel ρ (.slice (some va) 1 vc) x3 := by
  generalize args'.toList = l at hargs
  cases hargs with
  | cons h1 t => cases t with
   | cons h2 t => cases t with
    | cons h3 t => cases t with
     | nil => exact ⟨_, _, _, rfl, h1, h2, h3⟩
 have e2 := r2.eq rfl
 subst e2
 have hn0 : 0 < n := by omega
 obtain ⟨co, cap', hco, hcap, hcap2, hroom, rfl⟩ : ∃ (co : Co) (cap' : Nat), ρ a.block = some co ∧ c ≤ cap' ∧ cap' ≤ 9223372036854775807 ∧ a.off + cap' * co.esz = co.room ∧ x1 = .slice (some ⟨co.blk, co.off + a.off, none⟩) n cap' := by
  cases r1 with
  | cell h => cases h with
   | plain h => simp [plainV] at h
   | slice h => rw [hs0] at h; cases h
   | slack _ h hl hc hcap hx =>
    obtain ⟨rfl, hx'⟩ := hx.resolve_left (by omega)
    exact ⟨_, _, h, hc, hcap, hx', rfl⟩
   | zero h => omega
 obtain ⟨cv, hcv, rfl⟩ : ∃ cv, ρ va.block = some cv ∧ x3 = .slice (some ⟨cv.blk, cv.off + va.off, none⟩) 1 vc := by
  cases r3 with
  | cell h => cases h with
   | plain h => simp [plainV] at h
   | slice _ h _ => exact ⟨_, h, rfl⟩
   | slack h => rw [hs1] at h; cases h
 have hO := hR.obj _ _ _ hga hco
 have hV := hR.obj _ _ _ hgv hcv
 have hesz := hO.esz size hsp
 rw [hesz] at hroom
 obtain ⟨g2, g3⟩ := hO.spare hrw size hsp
 have hblk : cv.blk ≠ co.blk := fun hb => hkin (hR.excl a.block va.block o vo co cv (Ne.symm hne) hga hgv hco hcv hrw hb.symm).1
 
 obtain ⟨cs, hcs⟩ : ∃ cs, o.cells.drop a.off = cs := ⟨_, rfl⟩
 rw [hcs] at h
 have hcsl : cs.length = o.cells.length - a.off := by rw [← hcs]; simp
 have hnl : n * size ≤ cs.length := by
  split at h
  ·obtain ⟨h1, _⟩ := ite_some' h
   have : (n + 1) * size = n * size + size := Nat.succ_mul n size
   omega
  ·obtain ⟨h1, _⟩ := ite_some' h
   omega
 have hl0 : xload m ⟨a.block, a.off, none⟩ (n * size) = some (cs.take (n * size)) := by
  simp only [xload, hga, hcs]
  rw [if_pos (by omega)]
 obtain ⟨cs', k1, k2, k3⟩ := xload_rel hR hl0 hco
 obtain ⟨vs', j1, j2, j3⟩ := xload_rel hR hvs hcv
 have hcl : cs'.length = n * size := k1
 have hin : i.toNat < n := by omega
 have hii : (i.toNat : Int) = i := Int.toNat_of_nonneg hi0
 have he : args' = #[.slice (some ⟨co.blk, co.off + a.off, none⟩) n cap', .int .i64 ((i.toNat : Nat) : Int), .slice (some ⟨cv.blk, cv.off + va.off, none⟩) 1 vc] := by
  rw [hii, ← Array.toList_inj]; exact hargs'
 rw [he]
 have hone : ∀ v ∈ cs', v.oneCell' = true := k2.ones
 refine (hrun co.blk (co.off + a.off) n cap' i.toNat cv.blk (cv.off + va.off) vc cs' vs' w hin (by omega) hcap2 hn hblk hcl j1 k3 (fun j hj => ?_) (fun j => hO.free hrw j) j3 (fun j => hV.free hvrw j) hone j2.ones).mono ?_
 ·rw [Nat.add_assoc]
  exact g3 _ (by rw [← hroom]; omega)
 have hri := insC_rel (k := i.toNat * size) k2 j2
 have hkn : i.toNat * size ≤ n * size := Nat.mul_le_mul_right size (Nat.le_of_lt hin)
 have htl : (cs.take (n * size)).length = n * size := by rw [List.length_take]; omega
 have hil := insC_len (cs := cs.take (n * size)) (vs := vs) (k := i.toNat * size) (by omega)
 have hvl : vs.length = size := by have := j2.length; omega
 have hn1 : (n + 1) * size = n * size + size := Nat.succ_mul n size
 rw [htl, hvl] at hil
 rintro e w' ⟨ho1, ho2, ho3, ho4, ⟨rfl, q1, q2, q3, q4, q6, q5⟩ | ⟨G, q0, q1, q2, rfl, q3, q4, q5, q6⟩⟩
 ·have hle : (n + 1) * size ≤ cap' * size := Nat.mul_le_mul_right size q1
  split at h
  ·
   obtain ⟨hlen, h⟩ := ite_some' h
   cases h
   have hS := rewrite_step (off := a.off) (new := insC (cs.take (n * size)) vs (i.toNat * size) ++ cs.drop ((n + 1) * size)) hR hga hco hrw hsp (by simp only [List.length_append, List.length_drop, hil]; omega) q2 q3 ho1 ho2 ho3 ho4 (fun j x hj => ?_) (fun j hj => q5 _ (g3 j hj))
   ·refine ⟨_, _, rfl, ?_, hS⟩
    refine .cell (.slack rfl (by simp [Rho.with]; rfl) (by assumption) hcap hcap2 (.inr ⟨by simp, ?_⟩))
    simp only
    omega
   ·rw [List.getElem?_append] at hj
    split at hj
    ·obtain ⟨x', h1, h2⟩ := hri.get j x hj
     exact ⟨x', q4 j x' h1, h2⟩
    ·rename_i hge
     rw [hil] at hge hj
     rw [List.getElem?_drop, ← hcs, List.getElem?_drop] at hj
     obtain ⟨x', h1, h2⟩ := hO.cell _ _ hj
     refine ⟨x', ?_, h2⟩
     rw [q6 j (by omega)]
     rw [show co.off + a.off + j = co.off + (a.off + ((n + 1) * size + (j - (n * size + size)))) by omega]
     exact h1
  ·
   obtain ⟨hlen, h⟩ := ite_some' h
   cases h
   have htk : cs.take (n * size) = cs := List.take_of_length_le (by omega)
   rw [htk] at hri hil
   have hS := rewrite_step (off := a.off) (new := insC cs vs (i.toNat * size)) hR hga hco hrw hsp (by omega) q2 q3 ho1 ho2 ho3 ho4 (fun j x hj => ?_) (fun j hj => q5 _ (g3 j hj))
   ·refine ⟨_, _, rfl, ?_, hS⟩
    refine .cell (.slack rfl (by simp [Rho.with]; rfl) (Nat.le_refl _) q1 hcap2 (.inr ⟨by simp, ?_⟩))
    simp only
    omega
   ·obtain ⟨x', h1, h2⟩ := hri.get j x hj
    exact ⟨x', q4 j x' h1, h2⟩
 ·rw [if_neg (by omega)] at h
  obtain ⟨hlen, h⟩ := ite_some' h
  cases h
  have htk : cs.take (n * size) = cs := List.take_of_length_le (by omega)
  rw [htk] at hri hil
  have hE := erase_step (l := a.block :: o.kin) hR (fun k hk => by
   rcases List.mem_cons.1 hk with rfl | hk
   ·exact ⟨co, hco⟩
   ·exact hO.kin k hk)
  have hle : (n + 1) * size ≤ G * size := Nat.mul_le_mul_right size q1
  have hS := newrow_step (s := size) (R := G * size) (new := insC cs vs (i.toNat * size)) hE.rel (by omega) q3 q4 ho1 ho2 ho3 ho4 (fun j => ?_) (fun j x hj => ?_) q6
  ·refine ⟨_, _, rfl, ?_, hE.trans hS⟩
   refine .cell (.slack rfl (by simp [Rho.with]; rfl) (Nat.le_refl _) q1 q2 (.inr ⟨by simp, ?_⟩))
   simp
  ·rw [ho4]
   have : w.heap[w.heap.size]? = none := by simp
   simp [World.frozen?, this]
  ·obtain ⟨x', h1, h2⟩ := hri.get j x hj
   exact ⟨x', q5 j x' h1, h2⟩
end
end Go.Proofs.Ytnlmnejellipdaa.X
