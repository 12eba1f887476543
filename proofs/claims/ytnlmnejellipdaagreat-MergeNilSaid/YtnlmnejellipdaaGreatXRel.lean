/-
  Own work. How the abstract run's values and memory stand to the model's.
-/
import Derived.Test.YtnlmnejellipdaaGreatXComp
import Derived.Deep.AppendSrc
import Derived.Deep.Upon
namespace Go.Proofs.YtnlmnejellipdaaGreat.X
open Go
set_option linter.unusedVariables false
set_option linter.unusedSimpArgs false

/-- Where an abstract row lies: block, first cell; how many cells there are from there on; cells of an element (of a row with spare places). -/
structure Co where
  blk : Nat
  off : Nat
  room : Nat
  esz : Nat

abbrev Rho := Nat → Option Co

mutual
inductive CRel (ρ : Rho) : Value → Value → Prop where
  | plain {v : Value} (h : plainV v = true) : CRel ρ v v
  | ptr {a : Addr} {c : Co} (hs : a.spot = none) (h : ρ a.block = some c) : CRel ρ (.pointer (some a)) (.pointer (some ⟨c.blk, c.off + a.off, none⟩))
  | slice {a : Addr} {c : Co} {len cap : Nat} (hs : a.spot = none) (h : ρ a.block = some c) (hl : len ≤ cap) : CRel ρ (.slice (some a) len cap) (.slice (some ⟨c.blk, c.off + a.off, none⟩) len cap)
  | slack {a a' : Addr} {c : Co} {len cap cap' : Nat} (hs : a.spot = some 0) (h : ρ a.block = some c) (hl : len ≤ cap) (hc : cap ≤ cap') (hcap : cap' ≤ 9223372036854775807)
      (hx : cap' = 0 ∨ a' = ⟨c.blk, c.off + a.off, none⟩ ∧ a.off + cap' * c.esz = c.room) : CRel ρ (.slice (some a) len cap) (.slice (some a') len cap')
  | zero {a a' : Addr} (hs : a.spot = some 1) : CRel ρ (.slice (some a) 0 0) (.slice (some a') 0 0)
  | func {fn : Fn} {f f' c c' : Array Value} (hf : FsRel ρ f.toList f'.toList) (hc : FsRel ρ c.toList c'.toList) : CRel ρ (.func fn f c) (.func fn f' c')
  | nilI : CRel ρ .nilIface .nilIface
  | map {b : Nat} {c : Co} (h : ρ b = some c) : CRel ρ (.map (some b)) (.map (some c.blk))
  | iface {t : TypeId} {v v' : Value} (h : CRel ρ v v') : CRel ρ (.iface t v) (.iface t v')
  | ifaceA {t : TypeId} {c c' : Array Value} (h : CsRel ρ c.toList c'.toList) : CRel ρ (.iface t (.agg c)) (.iface t (.agg c'))
inductive CsRel (ρ : Rho) : List Value → List Value → Prop where
  | nil : CsRel ρ [] []
  | cons {v v' : Value} {l l' : List Value} (h : CRel ρ v v') (t : CsRel ρ l l') : CsRel ρ (v :: l) (v' :: l')
inductive FsRel (ρ : Rho) : List Value → List Value → Prop where
  | nil : FsRel ρ [] []
  | cons {v v' : Value} {l l' : List Value} (h : CRel ρ v v') (t : FsRel ρ l l') : FsRel ρ (v :: l) (v' :: l')
  | consA {c c' : Array Value} {l l' : List Value} (h : CsRel ρ c.toList c'.toList) (t : FsRel ρ l l') : FsRel ρ (.agg c :: l) (.agg c' :: l')
end

mutual
inductive VRel (ρ : Rho) : Value → Value → Prop where
  | cell {v v' : Value} (h : CRel ρ v v') : VRel ρ v v'
  | agg {c c' : Array Value} (h : CsRel ρ c.toList c'.toList) : VRel ρ (.agg c) (.agg c')
  | tuple {c c' : Array Value} (h : VsRel ρ c.toList c'.toList) : VRel ρ (.tuple c) (.tuple c')
inductive VsRel (ρ : Rho) : List Value → List Value → Prop where
  | nil : VsRel ρ [] []
  | cons {v v' : Value} {l l' : List Value} (h : VRel ρ v v') (t : VsRel ρ l l') : VsRel ρ (v :: l) (v' :: l')
end

def Ext (ρ ρ' : Rho) : Prop := ∀ i c, ρ i = some c → ρ' i = some c
theorem Ext.refl (ρ : Rho) : Ext ρ ρ := fun _ _ h => h
theorem Ext.trans {a b c : Rho} (h : Ext a b) (h' : Ext b c) : Ext a c := fun i x hx => h' i x (h i x hx)

mutual
theorem CRel.mono {ρ ρ' : Rho} (hx : Ext ρ ρ') : ∀ {v v' : Value}, CRel ρ v v' → CRel ρ' v v'
  | _, _, .plain h => .plain h
  | _, _, .ptr hs h => .ptr hs (hx _ _ h)
  | _, _, .slice hs h hl => .slice hs (hx _ _ h) hl
  | _, _, .slack hs h hl hc hcap hy => .slack hs (hx _ _ h) hl hc hcap hy
  | _, _, .zero hs => .zero hs
  | _, _, .func hf hc => .func (FsRel.mono hx hf) (FsRel.mono hx hc)
  | _, _, .nilI => .nilI
  | _, _, .map h => .map (hx _ _ h)
  | _, _, .iface h => .iface (CRel.mono hx h)
  | _, _, .ifaceA h => .ifaceA (CsRel.mono hx h)
theorem CsRel.mono {ρ ρ' : Rho} (hx : Ext ρ ρ') : ∀ {l l' : List Value}, CsRel ρ l l' → CsRel ρ' l l'
  | _, _, .nil => .nil
  | _, _, .cons h t => .cons (CRel.mono hx h) (CsRel.mono hx t)
theorem FsRel.mono {ρ ρ' : Rho} (hx : Ext ρ ρ') : ∀ {l l' : List Value}, FsRel ρ l l' → FsRel ρ' l l'
  | _, _, .nil => .nil
  | _, _, .cons h t => .cons (CRel.mono hx h) (FsRel.mono hx t)
  | _, _, .consA h t => .consA (CsRel.mono hx h) (FsRel.mono hx t)
end
mutual
theorem VRel.mono {ρ ρ' : Rho} (hx : Ext ρ ρ') : ∀ {v v' : Value}, VRel ρ v v' → VRel ρ' v v'
  | _, _, .cell h => .cell (h.mono hx)
  | _, _, .agg h => .agg (h.mono hx)
  | _, _, .tuple h => .tuple (VsRel.mono hx h)
theorem VsRel.mono {ρ ρ' : Rho} (hx : Ext ρ ρ') : ∀ {l l' : List Value}, VsRel ρ l l' → VsRel ρ' l l'
  | _, _, .nil => .nil
  | _, _, .cons h t => .cons (VRel.mono hx h) (VsRel.mono hx t)
end

section
variable {ρ : Rho}

theorem CsRel.length : ∀ {l l' : List Value}, CsRel ρ l l' → l'.length = l.length
  | _, _, .nil => rfl
  | _, _, .cons _ t => by simp [CsRel.length t]
theorem VsRel.length : ∀ {l l' : List Value}, VsRel ρ l l' → l'.length = l.length
  | _, _, .nil => rfl
  | _, _, .cons _ t => by simp [VsRel.length t]

theorem CsRel.get : ∀ {l l' : List Value}, CsRel ρ l l' → ∀ (j : Nat) (v : Value), l[j]? = some v → ∃ v', l'[j]? = some v' ∧ CRel ρ v v'
  | _, _, .nil => by intro j v h; simp at h
  | _, _, .cons h t => by
    intro j v hv
    cases j with
    | zero => simp at hv; subst hv; exact ⟨_, by simp, h⟩
    | succ j => simp at hv; obtain ⟨v', h1, h2⟩ := CsRel.get t j v hv; exact ⟨v', by simpa using h1, h2⟩
theorem VsRel.get : ∀ {l l' : List Value}, VsRel ρ l l' → ∀ (j : Nat) (v : Value), l[j]? = some v → ∃ v', l'[j]? = some v' ∧ VRel ρ v v'
  | _, _, .nil => by intro j v h; simp at h
  | _, _, .cons h t => by
    intro j v hv
    cases j with
    | zero => simp at hv; subst hv; exact ⟨_, by simp, h⟩
    | succ j => simp at hv; obtain ⟨v', h1, h2⟩ := VsRel.get t j v hv; exact ⟨v', by simpa using h1, h2⟩

theorem CsRel.of_get : ∀ {l l' : List Value}, l'.length = l.length → (∀ (j : Nat) (v v' : Value), l[j]? = some v → l'[j]? = some v' → CRel ρ v v') → CsRel ρ l l'
  | [], [], _, _ => .nil
  | [], _ :: _, h, _ => by simp at h
  | _ :: _, [], h, _ => by simp at h
  | v :: l, v' :: l', h, hg => .cons (hg 0 v v' rfl rfl) (CsRel.of_get (by simpa using h) fun j x x' hx hx' => hg (j + 1) x x' (by simpa using hx) (by simpa using hx'))

theorem CsRel.append {a a' b b' : List Value} (h : CsRel ρ a a') (h' : CsRel ρ b b') : CsRel ρ (a ++ b) (a' ++ b') := by
  induction a generalizing a' with
  | nil => cases h; exact h'
  | cons v a ih => cases h with | cons h t => exact .cons h (ih t)
theorem VsRel.append {a a' b b' : List Value} (h : VsRel ρ a a') (h' : VsRel ρ b b') : VsRel ρ (a ++ b) (a' ++ b') := by
  induction a generalizing a' with
  | nil => cases h; exact h'
  | cons v a ih => cases h with | cons h t => exact .cons h (ih t)
theorem CsRel.drop {l l' : List Value} (h : CsRel ρ l l') (n : Nat) : CsRel ρ (l.drop n) (l'.drop n) := by
  induction n generalizing l l' with
  | zero => simpa using h
  | succ n ih => cases h with | nil => simpa using CsRel.nil | cons _ t => simpa using ih t
theorem CsRel.take {l l' : List Value} (h : CsRel ρ l l') (n : Nat) : CsRel ρ (l.take n) (l'.take n) := by
  induction n generalizing l l' with
  | zero => simpa using CsRel.nil
  | succ n ih => cases h with | nil => simpa using CsRel.nil | cons h t => simpa using CsRel.cons h (ih t)
theorem CsRel.toVs {l l' : List Value} (h : CsRel ρ l l') : VsRel ρ l l' := by
  induction l generalizing l' with
  | nil => cases h; exact .nil
  | cons v l ih => cases h with | cons h t => exact .cons (.cell h) (ih t)

theorem CRel.flat {v : Value} (h : flatV v = true) : CRel ρ v v := by
  cases v <;> first | exact .nilI | exact .plain h
theorem FsRel.length : ∀ {l l' : List Value}, FsRel ρ l l' → l'.length = l.length
  | _, _, .nil => rfl
  | _, _, .cons _ t => by simp [FsRel.length t]
  | _, _, .consA _ t => by simp [FsRel.length t]
theorem FsRel.toVs : ∀ {l l' : List Value}, FsRel ρ l l' → VsRel ρ l l'
  | _, _, .nil => .nil
  | _, _, .cons h t => .cons (.cell h) (FsRel.toVs t)
  | _, _, .consA h t => .cons (.agg h) (FsRel.toVs t)
theorem CsRel.flat {l : List Value} (h : l.all flatV = true) : CsRel ρ l l := by
  induction l with
  | nil => exact .nil
  | cons v l ih => simp only [List.all_cons, Bool.and_eq_true] at h; exact .cons (.flat h.1) (ih h.2)
theorem CsRel.refl {l : List Value} (h : l.all plainV = true) : CsRel ρ l l := by
  induction l with
  | nil => exact .nil
  | cons v l ih => simp at h; exact .cons (.plain h.1) (ih (by simpa using h.2))

theorem CRel.eq {v v' : Value} (h : CRel ρ v v') (hp : plainV v = true) : v' = v := by
  cases h with
  | plain _ => rfl
  | ptr _ _ => simp [plainV] at hp
  | slice _ _ _ => simp [plainV] at hp
  | slack _ _ _ _ _ => simp [plainV] at hp
  | zero _ => simp [plainV] at hp
  | func _ _ => simp [plainV] at hp
  | nilI => simp [plainV] at hp
  | map _ => simp [plainV] at hp
  | iface _ => simp [plainV] at hp
  | ifaceA _ => simp [plainV] at hp

theorem CsRel.eq {l l' : List Value} (h : CsRel ρ l l') (hp : l.all plainV = true) : l' = l := by
  induction l generalizing l' with
  | nil => cases h; rfl
  | cons v l ih =>
    simp only [List.all_cons, Bool.and_eq_true] at hp
    cases h with | cons h t => rw [h.eq hp.1, ih t hp.2]

theorem VsRel.eqV {l l' : List Value} (h : VsRel ρ l l') (hp : l.all plainV = true) : l' = l := by
  induction l generalizing l' with
  | nil => cases h; rfl
  | cons v l ih =>
    simp only [List.all_cons, Bool.and_eq_true] at hp
    cases h with | cons h t => 
      rw [ih t hp.2]
      cases h with
      | cell h => rw [h.eq hp.1]
      | agg _ => simp [plainV] at hp
      | tuple _ => simp [plainV] at hp

theorem VRel.eq {v v' : Value} (h : VRel ρ v v') (hp : plain v = true) : v' = v := by
  cases h with
  | cell h =>
    cases h with
    | plain _ => rfl
    | ptr _ _ => simp [plain, plainV] at hp
    | slice _ _ _ => simp [plain, plainV] at hp
    | slack _ _ _ _ _ => simp [plain, plainV] at hp
    | zero _ => simp [plain, plainV] at hp
    | func hf hc =>
      simp only [plain, Bool.and_eq_true, List.isEmpty_iff] at hp
      rename_i fn f f' c c'
      obtain ⟨rfl⟩ : f = #[] := by simpa using hp.1
      obtain ⟨rfl⟩ : c = #[] := by simpa using hp.2
      have h1 : f'.toList = [] := by have := hf.length; simpa using this
      have h2 : c'.toList = [] := by have := hc.length; simpa using this
      obtain ⟨rfl⟩ : f' = #[] := by simpa using h1
      obtain ⟨rfl⟩ : c' = #[] := by simpa using h2
      rfl
    | nilI => simp [plain, plainV] at hp
    | map _ => simp [plain, plainV] at hp
    | iface _ => simp [plain, plainV] at hp
    | ifaceA _ => simp [plain, plainV] at hp
  | agg h => simp only [plain] at hp; have := h.eq hp; rw [Array.toList_inj] at this; rw [this]
  | tuple h => simp only [plain] at hp; have := h.eqV hp; rw [Array.toList_inj] at this; rw [this]

theorem VsRel.eq {l l' : List Value} (h : VsRel ρ l l') (hp : l.all plain = true) : l' = l := by
  induction l generalizing l' with
  | nil => cases h; rfl
  | cons v l ih =>
    simp only [List.all_cons, Bool.and_eq_true] at hp
    cases h with | cons h t => rw [h.eq hp.1, ih t hp.2]

theorem VsRel.reflV {l : List Value} (h : l.all plainV = true) : VsRel ρ l l := (CsRel.refl h).toVs

theorem VRel.refl {v : Value} (h : plain v = true) : VRel ρ v v := by
  cases v with
  | agg cs => exact .agg (CsRel.refl (by simpa [plain] using h))
  | tuple cs => exact .tuple (VsRel.reflV (by simpa [plain] using h))
  | func fn f c =>
    simp only [plain, Bool.and_eq_true, List.isEmpty_iff] at h
    exact .cell (.func (by rw [h.1]; exact .nil) (by rw [h.2]; exact .nil))
  | _ => exact .cell (.plain (by simpa [plain] using h))

theorem VsRel.refl {l : List Value} (h : l.all plain = true) : VsRel ρ l l := by
  induction l with
  | nil => exact .nil
  | cons v l ih => simp only [List.all_cons, Bool.and_eq_true] at h; exact .cons (.refl h.1) (ih h.2)

theorem CRel.one {v v' : Value} (h : CRel ρ v v') : v'.oneCell' = true ∧ v'.cells = #[v'] ∧ v.cells = #[v] := by
  cases h with
  | plain h => cases v <;> first | exact ⟨rfl, rfl, rfl⟩ | simp [plainV] at h
  | ptr _ _ => exact ⟨rfl, rfl, rfl⟩
  | slice _ _ _ => exact ⟨rfl, rfl, rfl⟩
  | slack _ _ _ _ _ => exact ⟨rfl, rfl, rfl⟩
  | zero _ => exact ⟨rfl, rfl, rfl⟩
  | func _ _ => exact ⟨rfl, rfl, rfl⟩
  | nilI => exact ⟨rfl, rfl, rfl⟩
  | map _ => exact ⟨rfl, rfl, rfl⟩
  | iface _ => exact ⟨rfl, rfl, rfl⟩
  | ifaceA _ => exact ⟨rfl, rfl, rfl⟩

theorem CsRel.ones {l l' : List Value} (h : CsRel ρ l l') : ∀ v ∈ l', v.oneCell' = true := by
  induction l generalizing l' with
  | nil => cases h; simp
  | cons v l ih => cases h with | cons h t => intro x hx; simp at hx; rcases hx with rfl | hx; exact h.one.1; exact ih t x hx

/-- The cells of related values are related, if they are no tuples. -/
theorem VRel.cells {v v' : Value} (h : VRel ρ v v') (ht : ∀ c, v ≠ .tuple c) : CsRel ρ v.cells.toList v'.cells.toList := by
  cases h with
  | cell h => rw [h.one.2.1, h.one.2.2]; exact .cons h .nil
  | agg h => exact h
  | tuple h => exact absurd rfl (ht _)
end

/-! ## Memory -/
/-- Entries of maps. -/
inductive EsRel (ρ : Rho) : List (Value × Value × Nat) → List MapEntry → Prop where
  | nil : EsRel ρ [] []
  | cons {k v v' : Value} {b : Nat} {es : List (Value × Value × Nat)} {es' : List MapEntry} (hk : plainV k = true) (hv : VRel ρ v v') (t : EsRel ρ es es') : EsRel ρ ((k, v, b) :: es) (⟨k, v', b⟩ :: es')
theorem EsRel.mono {ρ ρ' : Rho} (hx : Ext ρ ρ') : ∀ {es es'}, EsRel ρ es es' → EsRel ρ' es es'
  | _, _, .nil => .nil
  | _, _, .cons hk hv t => .cons hk (hv.mono hx) (EsRel.mono hx t)
def MmRel (ρ : Rho) : Option Nat → Option Nat → Prop
  | none, none => True
  | some b, some k => ∃ c', ρ b = some c' ∧ c'.blk = k
  | _, _ => False
theorem MmRel.mono {ρ ρ' : Rho} (hx : Ext ρ ρ') : ∀ {a b}, MmRel ρ a b → MmRel ρ' a b
  | none, none, _ => trivial
  | some _, some _, ⟨c, h1, h2⟩ => ⟨c, hx _ _ h1, h2⟩
  | none, some _, h => h.elim
  | some _, none, h => h.elim
/-- A map, or a walk through one. -/
def ExtRel (ρ : Rho) (w : World) (cells : List Value) (c : Co) : XExt → Prop
  | .row => True
  | .map es clock => cells = [] ∧ ∃ es', w.heap[c.blk]? = some (.map es' clock) ∧ EsRel ρ es es'.toList
  | .iter mm since seen last => cells = [] ∧ c.off = 0 ∧ ∃ mm', w.heap[c.blk]? = some (.mapIter mm' since seen.toArray last) ∧ MmRel ρ mm mm'
theorem ExtRel.later {ρ ρ' : Rho} {w w' : World} {cells : List Value} {c : Co} {x : XExt} (h : ExtRel ρ w cells c x) (hx : Ext ρ ρ') (hb : w'.heap[c.blk]? = w.heap[c.blk]?) : ExtRel ρ' w' cells c x := by
  cases x with
  | row => trivial
  | map es clock =>
    obtain ⟨h0, es', h1, h2⟩ := h
    exact ⟨h0, es', by rw [hb]; exact h1, h2.mono hx⟩
  | iter mm since seen last =>
    obtain ⟨h0, h00, mm', h1, h2⟩ := h
    exact ⟨h0, h00, mm', by rw [hb]; exact h1, h2.mono hx⟩
theorem ExtRel.mono {ρ ρ' : Rho} {w : World} {cells : List Value} {c : Co} {x : XExt} (h : ExtRel ρ w cells c x) (hx : Ext ρ ρ') : ExtRel ρ' w cells c x := h.later hx rfl
/-- Where cells stand there is but a row. -/
theorem ExtRel.row {ρ : Rho} {w : World} {cells : List Value} {c : Co} {x : XExt} (h : ExtRel ρ w cells c x) (hc : cells ≠ []) : x = .row := by
  cases x with
  | row => rfl
  | map _ _ => exact absurd h.1 hc
  | iter _ _ _ _ => exact absurd h.1 hc
theorem ExtRel.row_cell {ρ : Rho} {w : World} {cells : List Value} {c : Co} {x : XExt} {j : Nat} (h : ExtRel ρ w cells c x) (hc : (w.cell? ⟨c.blk, j, none⟩).isSome = true) : x = .row := by
  cases x with
  | row => rfl
  | map _ _ =>
    obtain ⟨_, es', h1, _⟩ := h
    simp [World.cell?, h1] at hc
  | iter _ _ _ _ =>
    obtain ⟨_, _, mm', h1, _⟩ := h
    simp [World.cell?, h1] at hc

structure ObjRel (ρ : Rho) (w : World) (o : XObj) (c : Co) : Prop where
  lt : c.blk < w.heap.size
  cell : ∀ (j : Nat) (v : Value), o.cells[j]? = some v → ∃ v', w.cell? ⟨c.blk, c.off + j, none⟩ = some v' ∧ CRel ρ v v'
  free : o.rw = true → ∀ j, w.frozen? ⟨c.blk, j, none⟩ = false
  esz : ∀ s, o.spare = some s → c.esz = s
  kin : ∀ k ∈ o.kin, ∃ c', ρ k = some c'
  spare : o.rw = true → ∀ s, o.spare = some s → o.cells.length ≤ c.room ∧ ∀ j, j < c.room → (w.cell? ⟨c.blk, c.off + j, none⟩).isSome = true
  ext : ExtRel ρ w o.cells c o.ext

structure Rel (ρ : Rho) (m : Mem) (w : World) : Prop where
  obj : ∀ i o c, m.get i = some o → ρ i = some c → ObjRel ρ w o c
  excl : ∀ i j oi oj ci cj, i ≠ j → m.get i = some oi → m.get j = some oj → ρ i = some ci → ρ j = some cj → oi.rw = true → ci.blk = cj.blk → j ∈ oi.kin ∧ oj.rw = false ∧ cj.off + oj.cells.length ≤ ci.off + oi.cells.length
  fresh : ∀ i, m.next ≤ i → ρ i = none
  alive : ∀ i o, m.get i = some o → i < m.next

/-- What may have changed: blocks of rows that may be stored to, and new ones. -/
structure Fr (ρ : Rho) (m : Mem) (w w' : World) : Prop where
  size : w.heap.size ≤ w'.heap.size
  keep : ∀ b, b < w.heap.size → (∀ i o c, m.get i = some o → o.rw = true → ρ i = some c → c.blk ≠ b) → w'.heap[b]? = w.heap[b]?
  os : w'.os = w.os
  tape : w'.tape = w.tape
  output : w'.output = w.output
  frozen : ∀ a, w'.frozen? a = w.frozen? a

/-- Rows that may be stored to behind: such as were, or new blocks. -/
structure Own (ρ : Rho) (m : Mem) (w : World) (ρ' : Rho) (m' : Mem) : Prop where
  own : ∀ i o c, m'.get i = some o → o.rw = true → ρ' i = some c → w.heap.size ≤ c.blk ∨ ∃ i' o' c', m.get i' = some o' ∧ o'.rw = true ∧ ρ i' = some c' ∧ c'.blk = c.blk

/-- One step: the rows' places go on, memory is related, the rest is as it was. -/
structure Step (ρ : Rho) (m : Mem) (w : World) (ρ' : Rho) (m' : Mem) (w' : World) : Prop where
  ext : Ext ρ ρ'
  rel : Rel ρ' m' w'
  fr : Fr ρ m w w'
  own : Own ρ m w ρ' m'
  next : m.next ≤ m'.next
  same : ∀ i, i < m.next → ρ i = none → m'.get i = m.get i
  none_ : ∀ i, i < m.next → ρ i = none → ρ' i = none

theorem Fr.refl (ρ : Rho) (m : Mem) (w : World) : Fr ρ m w w := ⟨Nat.le_refl _, fun _ _ _ => rfl, rfl, rfl, rfl, fun _ => rfl⟩
theorem Own.refl (ρ : Rho) (m : Mem) (w : World) : Own ρ m w ρ m := ⟨fun i o c h1 h2 h3 => .inr ⟨i, o, c, h1, h2, h3, rfl⟩⟩
theorem Step.refl {ρ : Rho} {m : Mem} {w : World} (h : Rel ρ m w) : Step ρ m w ρ m w := ⟨.refl _, h, .refl _ _ _, .refl _ _ _, Nat.le_refl _, fun _ _ _ => rfl, fun _ _ h => h⟩

theorem Step.trans {ρ ρ1 ρ2 : Rho} {m m1 m2 : Mem} {w w1 w2 : World} (h : Step ρ m w ρ1 m1 w1) (h' : Step ρ1 m1 w1 ρ2 m2 w2) : Step ρ m w ρ2 m2 w2 := by
  refine ⟨h.ext.trans h'.ext, h'.rel, ⟨Nat.le_trans h.fr.size h'.fr.size, ?_, h'.fr.os.trans h.fr.os, h'.fr.tape.trans h.fr.tape, h'.fr.output.trans h.fr.output, fun a => (h'.fr.frozen a).trans (h.fr.frozen a)⟩, ⟨?_⟩, Nat.le_trans h.next h'.next, fun i hi hn => (h'.same i (Nat.lt_of_lt_of_le hi h.next) (h.none_ i hi hn)).trans (h.same i hi hn), fun i hi hn => h'.none_ i (Nat.lt_of_lt_of_le hi h.next) (h.none_ i hi hn)⟩
  · intro b hb hn
    rw [h'.fr.keep b (Nat.lt_of_lt_of_le hb h.fr.size) ?_, h.fr.keep b hb hn]
    intro i o c h1 h2 h3
    rcases h.own.own i o c h1 h2 h3 with hlt | ⟨i', o', c', g1, g2, g3, g4⟩
    · omega
    · rw [← g4]; exact hn i' o' c' g1 g2 g3
  · intro i o c h1 h2 h3
    rcases h'.own.own i o c h1 h2 h3 with hlt | ⟨i', o', c', g1, g2, g3, g4⟩
    · exact .inl (Nat.le_trans h.fr.size hlt)
    · rcases h.own.own i' o' c' g1 g2 g3 with hlt | ⟨i2, o2, c2, k1, k2, k3, k4⟩
      · exact .inl (g4 ▸ hlt)
      · exact .inr ⟨i2, o2, c2, k1, k2, k3, k4.trans g4⟩

/-- A draw changes nothing. -/
theorem ObjRel.drew {ρ : Rho} {w : World} {o : XObj} {c : Co} (h : ObjRel ρ w o c) : ObjRel ρ w.drew o c := ⟨h.lt, h.cell, h.free, h.esz, h.kin, h.spare, h.ext.later (.refl _) rfl⟩
theorem Rel.drew {ρ : Rho} {m : Mem} {w : World} (h : Rel ρ m w) : Rel ρ m w.drew := ⟨fun i o c h1 h2 => (h.obj i o c h1 h2).drew, h.excl, h.fresh, h.alive⟩
theorem Step.drew {ρ : Rho} {m : Mem} {w : World} (h : Rel ρ m w) : Step ρ m w ρ m w.drew :=
  ⟨.refl _, h.drew, ⟨Nat.le_refl _, fun _ _ _ => rfl, rfl, rfl, rfl, fun _ => rfl⟩, .refl _ _ _, Nat.le_refl _, fun _ _ _ => rfl, fun _ _ h => h⟩

/-- Memory whose old blocks are as they were. -/
theorem ObjRel.later {ρ ρ' : Rho} {w w' : World} {o : XObj} {c : Co} (h : ObjRel ρ w o c) (hx : Ext ρ ρ') (hs : w.heap.size ≤ w'.heap.size) (hb : w'.heap[c.blk]? = w.heap[c.blk]?) : ObjRel ρ' w' o c := by
  have hc : ∀ j, w'.cell? ⟨c.blk, j, none⟩ = w.cell? ⟨c.blk, j, none⟩ := fun j => World.cell?_of_block hb
  have hf : ∀ j, w'.frozen? ⟨c.blk, j, none⟩ = w.frozen? ⟨c.blk, j, none⟩ := fun j => World.frozen?_of_block hb
  refine ⟨Nat.lt_of_lt_of_le h.lt hs, fun j v hv => ?_, fun hr j => (by rw [hf]; exact h.free hr j), h.esz, (fun k hk => let ⟨c', hc'⟩ := h.kin k hk; ⟨c', hx _ _ hc'⟩), fun hr s hsp => ?_, h.ext.later hx hb⟩
  · obtain ⟨v', h1, h2⟩ := h.cell j v hv
    exact ⟨v', by rw [hc]; exact h1, h2.mono hx⟩
  · obtain ⟨h2, h3⟩ := h.spare hr s hsp
    exact ⟨h2, fun j hj => by rw [hc]; exact h3 j hj⟩

/-- A load. -/
theorem xload_spot {m : Mem} {a : Addr} {n : Nat} {vs : List Value} (h : xload m a n = some vs) : a.spot = none ∧ ∃ o, m.get a.block = some o ∧ a.off + n ≤ o.cells.length ∧ vs = (o.cells.drop a.off).take n := by
  unfold xload at h
  split at h
  · simp at h
  · rename_i hs
    split at h
    · simp at h
    · rename_i o ho
      split at h
      · rename_i hl; simp at h; exact ⟨hs, o, ho, hl, h.symm⟩
      · simp at h

theorem xload_rel {ρ : Rho} {m : Mem} {w : World} {a : Addr} {c : Co} {n : Nat} {vs : List Value} (hr : Rel ρ m w) (h : xload m a n = some vs) (hc : ρ a.block = some c) :
    ∃ vs', vs'.length = n ∧ CsRel ρ vs vs' ∧ ∀ j v, vs'[j]? = some v → w.cell? ⟨c.blk, c.off + a.off + j, none⟩ = some v := by
  obtain ⟨hs, o, ho, hl, rfl⟩ := xload_spot h
  have hO := hr.obj _ _ _ ho hc
  have hcell : ∀ j, j < n → ∃ v', w.cell? ⟨c.blk, c.off + a.off + j, none⟩ = some v' ∧ ∀ v, o.cells[a.off + j]? = some v → CRel ρ v v' := by
    intro j hj
    obtain ⟨v', h1, h2⟩ := hO.cell (a.off + j) o.cells[a.off + j] (by rw [List.getElem?_eq_getElem])
    exact ⟨v', by rw [Nat.add_assoc]; exact h1, fun v hv => by rw [List.getElem?_eq_getElem (by omega)] at hv; cases hv; exact h2⟩
  refine ⟨(List.range n).map fun j => (w.cell? ⟨c.blk, c.off + a.off + j, none⟩).getD undef, by simp, ?_, ?_⟩
  · refine CsRel.of_get (by simp; omega) ?_
    intro j v v' hv hv'
    have hj : j < n := by
      have := (List.getElem?_eq_some_iff.1 hv').1
      simpa using this
    obtain ⟨u, h1, h2⟩ := hcell j hj
    rw [List.getElem?_take, if_pos hj, List.getElem?_drop] at hv
    simp [hj, h1] at hv'
    subst hv'
    exact h2 v hv
  · intro j v hv
    have hj : j < n := by
      have := (List.getElem?_eq_some_iff.1 hv).1
      simpa using this
    obtain ⟨u, h1, _⟩ := hcell j hj
    simp [hj, h1] at hv
    rw [h1, hv]

theorem xload_run {P : Program} {ρ : Rho} {m : Mem} {w : World} {a : Addr} {c : Co} {n : Nat} {vs : List Value} (hr : Rel ρ m w) (h : xload m a n = some vs) (hc : ρ a.block = some c) :
    ∃ vs', CsRel ρ vs vs' ∧ (loadCells ⟨c.blk, c.off + a.off, none⟩ n).run P w = .ok vs'.toArray w := by
  obtain ⟨vs', hl, hrel, hcell⟩ := xload_rel hr h hc
  refine ⟨vs', hrel, ?_⟩
  subst hl
  exact run_loadCells_list w _ _ (fun j v hv => by rw [Addr.add_lit]; exact hcell j v hv)

/-- A store. -/
theorem setCells_old (b : Nat) : ∀ (vs : List Value) (o : Nat) (w : World) (k : Nat), k ≠ b → (w.setCells b o vs).heap[k]? = w.heap[k]?
  | [], _, _, _, _ => rfl
  | v :: r, o, w, k, hk => by
    simp only [World.setCells]
    rw [setCells_old b r (o + 1) _ k hk]
    simp [World.setCell, Array.getElem?_modify, Ne.symm hk]
theorem setCells_same (b : Nat) : ∀ (vs : List Value) (o : Nat) (w : World), (w.setCells b o vs).os = w.os ∧ (w.setCells b o vs).tape = w.tape ∧ (w.setCells b o vs).output = w.output ∧ (w.setCells b o vs).heap.size = w.heap.size
  | [], _, _ => ⟨rfl, rfl, rfl, rfl⟩
  | v :: r, o, w => by
    simp only [World.setCells]
    have := setCells_same b r (o + 1) (w.setCell ⟨b, o, none⟩ v)
    exact ⟨this.1, this.2.1, this.2.2.1, by rw [this.2.2.2]; simp⟩

theorem setCells_some (b : Nat) : ∀ (vs : List Value) (o : Nat) (w : World) (x : Addr), (w.cell? x).isSome = true → ((w.setCells b o vs).cell? x).isSome = true
  | [], _, _, _, h => h
  | v :: r, o, w, x, h => by
    simp only [World.setCells]
    refine setCells_some b r (o + 1) _ x ?_
    by_cases hx : (⟨b, o, none⟩ : Addr) = x
    · subst hx
      obtain ⟨u, hu⟩ := Option.isSome_iff_exists.1 h
      rw [World.cell?_setCell_same _ _ _ hu]; rfl
    · rw [World.cell?_setCell_other _ _ _ _ hx]; exact h

theorem ExtRel.setCells {ρ : Rho} {w : World} {cells vs' : List Value} {c : Co} {x : XExt} {off : Nat} (h : ExtRel ρ w cells c x) (hs : ∀ j, j < vs'.length → (w.cell? ⟨c.blk, off + j, none⟩).isSome = true) : ExtRel ρ (w.setCells c.blk off vs') cells c x := by
  cases vs' with
  | nil => exact h
  | cons v l =>
    have := h.row_cell (hs 0 (by simp))
    subst this
    trivial
theorem ExtRel.store {ρ : Rho} {w : World} {cells vs vs' : List Value} {c : Co} {x : XExt} {b o' off : Nat} (h : ExtRel ρ w cells c x) (hl : off + vs.length ≤ cells.length) (hv : vs'.length = vs.length) : ExtRel ρ (w.setCells b o' vs') (setAll cells off vs) c x := by
  by_cases hc : cells = []
  · subst hc
    have h1 : vs = [] := List.eq_nil_of_length_eq_zero (by simp at hl; exact hl.2 ▸ rfl)
    subst h1
    have h2 : vs' = [] := List.eq_nil_of_length_eq_zero (by simpa using hv)
    subst h2
    exact h
  · have := h.row hc
    subst this
    trivial

theorem xstore_rel {ρ : Rho} {m m' : Mem} {w : World} {a : Addr} {c : Co} {vs vs' : List Value} (hr : Rel ρ m w) (h : xstore m a vs = some m') (hc : ρ a.block = some c) (hv : CsRel ρ vs vs') :
    (∀ j, j < vs'.length → (w.cell? ⟨c.blk, c.off + a.off + j, none⟩).isSome = true) ∧ (∀ j, j < vs'.length → w.frozen? ⟨c.blk, c.off + a.off + j, none⟩ = false) ∧ Step ρ m w ρ m' (w.setCells c.blk (c.off + a.off) vs') := by
  unfold xstore at h
  split at h
  · simp at h
  rename_i hs
  split at h
  · simp at h
  rename_i o ho
  split at h
  case isFalse => simp at h
  rename_i hcond
  obtain ⟨hrw, hlen⟩ := hcond
  simp only [Option.some.injEq] at h
  subst h
  have hO := hr.obj _ _ _ ho hc
  have hvl := hv.length
  have hsome : ∀ j, j < vs'.length → (w.cell? ⟨c.blk, c.off + a.off + j, none⟩).isSome = true := by
    intro j hj
    obtain ⟨v', h1, _⟩ := hO.cell (a.off + j) o.cells[a.off + j] (by rw [List.getElem?_eq_getElem])
    rw [Nat.add_assoc, h1]; rfl
  refine ⟨hsome, fun j _ => hO.free hrw _, ?_⟩
  obtain ⟨e1, e2, e3, e4⟩ := setCells_same c.blk vs' (c.off + a.off) w
  have hold : ∀ k, k ≠ c.blk → (w.setCells c.blk (c.off + a.off) vs').heap[k]? = w.heap[k]? := fun k hk => setCells_old c.blk vs' _ w k hk
  -- what is alive behind
  have hget : ∀ i oi, ((m.eraseAll o.kin).set a.block { o with cells := setAll o.cells a.off vs, kin := [] }).get i = some oi →
      (i = a.block ∧ oi = { o with cells := setAll o.cells a.off vs, kin := [] }) ∨ (i ≠ a.block ∧ i ∉ o.kin ∧ m.get i = some oi) := by
    intro i oi hi
    rw [Mem.get_set] at hi
    by_cases hia : a.block = i
    · rw [if_pos hia] at hi; cases hi; exact .inl ⟨hia.symm, rfl⟩
    · rw [if_neg hia, Mem.get_eraseAll] at hi
      by_cases hk : i ∈ o.kin
      · rw [if_pos hk] at hi; simp at hi
      · rw [if_neg hk] at hi; exact .inr ⟨fun e => hia e.symm, hk, hi⟩
  refine ⟨.refl _, ⟨?_, ?_, ?_, ?_⟩, ⟨by rw [e4]; exact Nat.le_refl _, ?_, e1, e2, e3, fun x => World.frozen?_setCells _ _ _ _ _⟩, ⟨?_⟩, by simp, ?_, fun _ _ h => h⟩
  · intro i oi ci hi hci
    rcases hget i oi hi with ⟨rfl, rfl⟩ | ⟨hne, hk, hi'⟩
    · rw [hc] at hci
      cases hci
      refine ⟨by rw [e4]; exact hO.lt, ?_, fun _ j => (by rw [World.frozen?_setCells]; exact hO.free hrw j), hO.esz, (fun k hk => by simp at hk), ?_, hO.ext.store hlen hvl⟩
      · intro j v hj
        simp only at hj
        rw [setAll_getElem? vs o.cells a.off j hlen] at hj
        by_cases hin : a.off ≤ j ∧ j < a.off + vs.length
        · rw [if_pos hin] at hj
          obtain ⟨v', h1, h2⟩ := hv.get _ _ hj
          have hjj : j - a.off < vs'.length := by omega
          have := World.cell?_setCells_in c.blk vs' (c.off + a.off) w hsome (j - a.off) hjj
          refine ⟨v', ?_, h2⟩
          rw [show c.off + j = c.off + a.off + (j - a.off) by omega, this]
          rw [List.getElem?_eq_getElem hjj] at h1
          exact h1
        · rw [if_neg hin] at hj
          obtain ⟨v', h1, h2⟩ := hO.cell j v hj
          refine ⟨v', ?_, h2⟩
          rw [World.cell?_setCells_out]
          · exact h1
          · intro _ _; simp only; omega
      · intro _ s hsp
        obtain ⟨g2, g3⟩ := hO.spare hrw s hsp
        exact ⟨by simpa using g2, fun j hj => setCells_some _ _ _ _ _ (g3 j hj)⟩
    · have hbne : ci.blk ≠ c.blk := by
        intro hb
        exact hk (hr.excl a.block i o oi c ci (Ne.symm hne) ho hi' hc hci hrw hb.symm).1
      exact (hr.obj i oi ci hi' hci).later (.refl _) (by rw [e4]; exact Nat.le_refl _) (hold _ hbne)
  · intro i j oi oj ci cj hij hi hj hci hcj hirw hb
    rcases hget i oi hi with ⟨rfl, rfl⟩ | ⟨hne, hk, hi'⟩
    · rcases hget j oj hj with ⟨rfl, rfl⟩ | ⟨hne', hk', hj'⟩
      · exact absurd rfl hij
      · rw [hc] at hci
        cases hci
        exact absurd (hr.excl a.block j o oj c cj hij ho hj' hc hcj hrw hb).1 hk'
    · rcases hget j oj hj with ⟨rfl, rfl⟩ | ⟨hne', hk', hj'⟩
      · rw [hc] at hcj
        cases hcj
        exact absurd (hr.excl a.block i o oi c ci (Ne.symm hne) ho hi' hc hci hrw hb.symm).1 hk
      · exact hr.excl i j oi oj ci cj hij hi' hj' hci hcj hirw hb
  · intro i hi; simp at hi; exact hr.fresh i hi
  · intro i oi hi
    simp only [Mem.next_set, Mem.next_eraseAll]
    rcases hget i oi hi with ⟨rfl, rfl⟩ | ⟨_, _, hi'⟩
    · exact hr.alive _ _ ho
    · exact hr.alive _ _ hi'
  · intro b hb hn
    exact hold b (Ne.symm (hn a.block o c ho hrw hc))
  · intro i oi ci hi hirw hci
    rcases hget i oi hi with ⟨rfl, rfl⟩ | ⟨_, _, hi'⟩
    · exact .inr ⟨a.block, o, c, ho, hrw, hc, by rw [hc] at hci; cases hci; rfl⟩
    · exact .inr ⟨i, oi, ci, hi', hirw, hci, rfl⟩
  · intro i _ hn
    have h1 : a.block ≠ i := fun h => by rw [h] at hc; rw [hc] at hn; cases hn
    have h2 : i ∉ o.kin := fun h => by obtain ⟨c', hc'⟩ := hO.kin i h; rw [hc'] at hn; cases hn
    rw [Mem.get_set, if_neg h1, Mem.get_eraseAll, if_neg h2]

theorem xstore_run {P : Program} {ρ : Rho} {m m' : Mem} {w : World} {a : Addr} {c : Co} {vs vs' : List Value} (hr : Rel ρ m w) (h : xstore m a vs = some m') (hc : ρ a.block = some c) (hv : CsRel ρ vs vs') :
    (storeCells ⟨c.blk, c.off + a.off, none⟩ vs').run P w = .ok () (w.setCells c.blk (c.off + a.off) vs') ∧ Step ρ m w ρ m' (w.setCells c.blk (c.off + a.off) vs') := by
  obtain ⟨h1, h2, h3⟩ := xstore_rel hr h hc hv
  have hrun := run_storeCells_cells (P := P) c.blk (c.off + a.off) vs' 0 w (by simpa using h1) (by simpa using h2) hv.ones
  simp only [Nat.add_zero] at hrun
  exact ⟨hrun, h3⟩

/-- A new row. 'row': its cells in the model; more may stand behind the abstract row's. -/
def Rho.with (ρ : Rho) (i : Nat) (c : Co) : Rho := fun j => if j = i then some c else ρ j

theorem Rho.with_ext {ρ : Rho} {i : Nat} (c : Co) (h : ρ i = none) : Ext ρ (ρ.with i c) := by
  intro j x hx
  unfold Rho.with
  by_cases hj : j = i
  · subst hj; rw [h] at hx; cases hx
  · rw [if_neg hj]; exact hx

theorem push_step {ρ : Rho} {m : Mem} {w : World} {cells : List Value} {row : Array Value} {sp : Option Nat} {kin : List Nat} {e : TypeId} (esz : Nat) (hr : Rel ρ m w)
    (hv : CsRel ρ cells (row.toList.take cells.length)) (hsp : ∀ s, sp = some s → esz = s) (hkin : ∀ k ∈ kin, ∃ c', ρ k = some c') :
    Step ρ m w (ρ.with m.next ⟨w.heap.size, 0, row.size, esz⟩) (m.push { cells, rw := true, spare := sp, kin }) (w.alloc (.cells row e)) := by
  have hf : ρ m.next = none := hr.fresh _ (Nat.le_refl _)
  have hx := Rho.with_ext ⟨w.heap.size, 0, row.size, esz⟩ hf
  have hlen : cells.length ≤ row.size := by
    have := hv.length; simp at this; omega
  have hblk : ∀ k, k < w.heap.size → (w.alloc (.cells row e)).heap[k]? = w.heap[k]? := fun k hk => heap_alloc_old w _ hk
  have hget : ∀ i oi, (m.push { cells, rw := true, spare := sp, kin }).get i = some oi → (i = m.next ∧ oi = { cells, rw := true, spare := sp, kin }) ∨ (i ≠ m.next ∧ m.get i = some oi) := by
    intro i oi hi
    rw [Mem.get_push] at hi
    by_cases h : m.next = i
    · rw [if_pos h] at hi; cases hi; exact .inl ⟨h.symm, rfl⟩
    · rw [if_neg h] at hi; exact .inr ⟨fun e => h e.symm, hi⟩
  have hat : (ρ.with m.next ⟨w.heap.size, 0, row.size, esz⟩) m.next = some ⟨w.heap.size, 0, row.size, esz⟩ := by simp [Rho.with]
  have hoff : ∀ i, i ≠ m.next → (ρ.with m.next ⟨w.heap.size, 0, row.size, esz⟩) i = ρ i := fun i h => by simp [Rho.with, h]
  refine ⟨hx, ⟨?_, ?_, ?_, ?_⟩, ⟨by simp, fun b hb _ => hblk b hb, rfl, rfl, rfl, fun a => RowKit.frozen?_alloc_cells w row e a⟩, ⟨?_⟩, by simp, ?_, ?_⟩
  · intro i oi ci hi hci
    rcases hget i oi hi with ⟨rfl, rfl⟩ | ⟨hne, hi'⟩
    · rw [hat] at hci
      cases hci
      refine ⟨by simp, ?_, fun _ j => by simp, hsp, (fun k hk => let ⟨c', hc'⟩ := hkin k hk; ⟨c', hx _ _ hc'⟩), ?_, trivial⟩
      · intro j v hj
        obtain ⟨v', h1, h2⟩ := hv.get j v hj
        have hjl : j < cells.length := (List.getElem?_eq_some_iff.1 hj).1
        rw [List.getElem?_take, if_pos hjl] at h1
        refine ⟨v', ?_, h2.mono hx⟩
        rw [Nat.zero_add, World.cell?_alloc_new]
        simpa using h1
      · intro _ s hs
        refine ⟨hlen, fun j hj => ?_⟩
        rw [Nat.zero_add, World.cell?_alloc_new]
        simp only at hj
        simp [hj]
    · rw [hoff i hne] at hci
      have hO := hr.obj i oi ci hi' hci
      exact hO.later hx (by simp) (hblk _ hO.lt)
  · intro i j oi oj ci cj hij hi hj hci hcj hirw hb
    rcases hget i oi hi with ⟨rfl, rfl⟩ | ⟨hne, hi'⟩
    · rcases hget j oj hj with ⟨rfl, rfl⟩ | ⟨hne', hj'⟩
      · exact absurd rfl hij
      · rw [hat] at hci
        rw [hoff j hne'] at hcj
        cases hci
        have := (hr.obj j oj cj hj' hcj).lt
        simp only at hb; omega
    · rw [hoff i hne] at hci
      rcases hget j oj hj with ⟨rfl, rfl⟩ | ⟨hne', hj'⟩
      · rw [hat] at hcj
        cases hcj
        have := (hr.obj i oi ci hi' hci).lt
        simp only at hb; omega
      · rw [hoff j hne'] at hcj
        exact hr.excl i j oi oj ci cj hij hi' hj' hci hcj hirw hb
  · intro i hi
    simp only [Mem.next_push] at hi
    rw [hoff i (by omega)]
    exact hr.fresh i (by omega)
  · intro i oi hi
    simp only [Mem.next_push]
    rcases hget i oi hi with ⟨rfl, _⟩ | ⟨_, hi'⟩
    · omega
    · have := hr.alive i oi hi'; omega
  · intro i oi ci hi hirw hci
    rcases hget i oi hi with ⟨rfl, rfl⟩ | ⟨hne, hi'⟩
    · rw [hat] at hci; cases hci; exact .inl (Nat.le_refl _)
    · rw [hoff i hne] at hci
      exact .inr ⟨i, oi, ci, hi', hirw, hci, rfl⟩
  · intro i hi _
    rw [Mem.get_push, if_neg (by omega)]
  · intro i hi hn
    rw [hoff i (by omega)]; exact hn

/-- A row that is stored to no more. -/
theorem freeze_step {ρ : Rho} {m : Mem} {w : World} {i : Nat} {o : XObj} {c : Co} (hr : Rel ρ m w) (ho : m.get i = some o) (hc : ρ i = some c) : Step ρ m w ρ (m.set i { o with rw := false, kin := [] }) w := by
  have hget : ∀ j oj, (m.set i { o with rw := false, kin := [] }).get j = some oj → (j = i ∧ oj = { o with rw := false, kin := [] }) ∨ (j ≠ i ∧ m.get j = some oj) := by
    intro j oj hj
    rw [Mem.get_set] at hj
    by_cases h : i = j
    · rw [if_pos h] at hj; cases hj; exact .inl ⟨h.symm, rfl⟩
    · rw [if_neg h] at hj; exact .inr ⟨fun e => h e.symm, hj⟩
  refine ⟨.refl _, ⟨?_, ?_, ?_, ?_⟩, .refl _ _ _, ⟨?_⟩, by simp, ?_, fun _ _ h => h⟩
  · intro j oj cj hj hcj
    rcases hget j oj hj with ⟨rfl, rfl⟩ | ⟨_, hj'⟩
    · have hO := hr.obj _ _ _ ho hcj
      exact ⟨hO.lt, hO.cell, fun h => by simp at h, hO.esz, (fun k hk => by simp at hk), fun h => by simp at h, hO.ext⟩
    · exact hr.obj j oj cj hj' hcj
  · intro j k oj ok cj ck hjk hj hk hcj hck hrw hb
    rcases hget j oj hj with ⟨rfl, rfl⟩ | ⟨hne, hj'⟩
    · simp at hrw
    · rcases hget k ok hk with ⟨rfl, rfl⟩ | ⟨_, hk'⟩
      · have q := hr.excl j k oj o cj ck hjk hj' ho hcj hck hrw hb; exact ⟨q.1, rfl, q.2.2⟩
      · exact hr.excl j k oj ok cj ck hjk hj' hk' hcj hck hrw hb
  · intro j hj; simp at hj; exact hr.fresh j hj
  · intro j oj hj
    simp only [Mem.next_set]
    rcases hget j oj hj with ⟨rfl, _⟩ | ⟨_, hj'⟩
    · exact hr.alive _ _ ho
    · exact hr.alive _ _ hj'
  · intro j oj cj hj hrw hcj
    rcases hget j oj hj with ⟨rfl, rfl⟩ | ⟨_, hj'⟩
    · simp at hrw
    · exact .inr ⟨j, oj, cj, hj', hrw, hcj, rfl⟩
  · intro j _ hn
    rw [Mem.get_set, if_neg (fun h => by rw [h] at hc; rw [hc] at hn; cases hn)]

/-- 'append' into spare places. -/
theorem inplace_step {ρ : Rho} {m : Mem} {w : World} {i : Nat} {o : XObj} {c : Co} {s off : Nat} {new new' : List Value} (hr : Rel ρ m w) (ho : m.get i = some o) (hc : ρ i = some c)
    (hrw : o.rw = true) (hsp : o.spare = some s) (hoff : off ≤ o.cells.length) (hv : CsRel ρ new new') (hroom : o.cells.length + new.length ≤ c.room) :
    (∀ j, j < new'.length → (w.cell? ⟨c.blk, c.off + o.cells.length + j, none⟩).isSome = true) ∧ (∀ j, j < new'.length → w.frozen? ⟨c.blk, c.off + o.cells.length + j, none⟩ = false) ∧
    Step ρ m w (ρ.with m.next ⟨c.blk, c.off + off, c.room - off, s⟩)
      ((m.set i { o with rw := false, kin := [] }).push { cells := o.cells.drop off ++ new, rw := true, spare := some s, kin := i :: o.kin })
      (w.setCells c.blk (c.off + o.cells.length) new') := by
  have hO := hr.obj _ _ _ ho hc
  have g1 := hO.esz s hsp
  obtain ⟨g2, g3⟩ := hO.spare hrw s hsp
  have hvl := hv.length
  have hsome : ∀ j, j < new'.length → (w.cell? ⟨c.blk, c.off + o.cells.length + j, none⟩).isSome = true := fun j hj => by
    rw [Nat.add_assoc]; exact g3 _ (by omega)
  refine ⟨hsome, fun j _ => hO.free hrw _, ?_⟩
  have hf : ρ m.next = none := hr.fresh _ (Nat.le_refl _)
  have hx := Rho.with_ext ⟨c.blk, c.off + off, c.room - off, s⟩ hf
  obtain ⟨e1, e2, e3, e4⟩ := setCells_same c.blk new' (c.off + o.cells.length) w
  have hold : ∀ k, k ≠ c.blk → (w.setCells c.blk (c.off + o.cells.length) new').heap[k]? = w.heap[k]? := fun k hk => setCells_old c.blk new' _ w k hk
  have hat : (ρ.with m.next ⟨c.blk, c.off + off, c.room - off, s⟩) m.next = some ⟨c.blk, c.off + off, c.room - off, s⟩ := by simp [Rho.with]
  have hoffn : ∀ j, j ≠ m.next → (ρ.with m.next ⟨c.blk, c.off + off, c.room - off, s⟩) j = ρ j := fun j h => by simp [Rho.with, h]
  have hin : i < m.next := hr.alive _ _ ho
  have hget : ∀ j oj, ((m.set i { o with rw := false, kin := [] }).push { cells := o.cells.drop off ++ new, rw := true, spare := some s, kin := i :: o.kin }).get j = some oj →
      (j = m.next ∧ oj = { cells := o.cells.drop off ++ new, rw := true, spare := some s, kin := i :: o.kin }) ∨ (j ≠ m.next ∧ j = i ∧ oj = { o with rw := false, kin := [] }) ∨ (j ≠ m.next ∧ j ≠ i ∧ m.get j = some oj) := by
    intro j oj hj
    rw [Mem.get_push, Mem.next_set] at hj
    by_cases h : m.next = j
    · rw [if_pos h] at hj; cases hj; exact .inl ⟨h.symm, rfl⟩
    · rw [if_neg h, Mem.get_set] at hj
      by_cases h' : i = j
      · rw [if_pos h'] at hj; cases hj; exact .inr (.inl ⟨fun e => h e.symm, h'.symm, rfl⟩)
      · rw [if_neg h'] at hj; exact .inr (.inr ⟨fun e => h e.symm, fun e => h' e.symm, hj⟩)
  -- cells of the old row are as they were
  have hkeep : ∀ x, x < c.off + o.cells.length → (w.setCells c.blk (c.off + o.cells.length) new').cell? ⟨c.blk, x, none⟩ = w.cell? ⟨c.blk, x, none⟩ := fun x hx' =>
    World.cell?_setCells_out _ _ _ _ _ (fun _ _ => .inl hx')
  refine ⟨hx, ⟨?_, ?_, ?_, ?_⟩, ⟨by rw [e4]; exact Nat.le_refl _, ?_, e1, e2, e3, fun a => World.frozen?_setCells _ _ _ _ _⟩, ⟨?_⟩, by simp, ?_, ?_⟩
  · intro j oj cj hj hcj
    rcases hget j oj hj with ⟨rfl, rfl⟩ | ⟨hne, rfl, rfl⟩ | ⟨hne, hni, hj'⟩
    · rw [hat] at hcj
      cases hcj
      refine ⟨by rw [e4]; exact hO.lt, ?_, fun _ k => (by rw [World.frozen?_setCells]; exact hO.free hrw k), fun s' hs' => (by simp only at hs'; cases hs'; rfl), (fun k hk => by
        simp only [List.mem_cons] at hk
        rcases hk with rfl | hk
        · exact ⟨c, hx _ _ hc⟩
        · obtain ⟨c', hc'⟩ := hO.kin k hk; exact ⟨c', hx _ _ hc'⟩), ?_, trivial⟩
      · intro k v hk
        simp only at hk ⊢
        rw [List.getElem?_append] at hk
        split at hk
        · rename_i hlt
          simp at hlt
          rw [List.getElem?_drop] at hk
          obtain ⟨v', h1, h2⟩ := hO.cell _ _ hk
          exact ⟨v', by rw [show c.off + off + k = c.off + (off + k) by omega, hkeep _ (by omega)]; exact h1, h2.mono hx⟩
        · rename_i hge
          simp at hge
          obtain ⟨v', h1, h2⟩ := hv.get _ _ hk
          simp only [List.length_drop] at h1
          have hlt : k - (o.cells.length - off) < new'.length := (List.getElem?_eq_some_iff.1 h1).1
          have := World.cell?_setCells_in c.blk new' (c.off + o.cells.length) w hsome _ hlt
          refine ⟨v', ?_, h2.mono hx⟩
          rw [show c.off + off + k = c.off + o.cells.length + (k - (o.cells.length - off)) by omega, this]
          rw [List.getElem?_eq_getElem hlt] at h1
          exact h1
      · intro _ s' hs'
        simp only at hs'
        cases hs'
        refine ⟨by simp; omega, fun k hk => setCells_some _ _ _ _ _ ?_⟩
        simp only at hk ⊢
        rw [show c.off + off + k = c.off + (off + k) by omega]
        exact g3 _ (by omega)
    · rw [hoffn _ hne, hc] at hcj
      cases hcj
      refine ⟨by rw [e4]; exact hO.lt, fun k v hk => ?_, fun h => by simp at h, hO.esz, (fun k hk => by simp at hk), fun h => by simp at h, (hO.ext.setCells hsome).mono hx⟩
      obtain ⟨v', h1, h2⟩ := hO.cell k v hk
      have hkl : k < o.cells.length := (List.getElem?_eq_some_iff.1 hk).1
      exact ⟨v', by rw [hkeep _ (by omega)]; exact h1, h2.mono hx⟩
    · rw [hoffn _ hne] at hcj
      have hOj := hr.obj j oj cj hj' hcj
      by_cases hb : cj.blk = c.blk
      · -- kin: read only; its cells lie below
        obtain ⟨hk1, hk2, hbel⟩ := hr.excl i j o oj c cj (Ne.symm hni) ho hj' hc hcj hrw hb.symm
        refine ⟨by rw [e4]; exact hOj.lt, fun k v hk => ?_, fun h => (by rw [hk2] at h; cases h), hOj.esz, (fun k hk => let ⟨c', hc'⟩ := hOj.kin k hk; ⟨c', hx _ _ hc'⟩), fun h => (by rw [hk2] at h; cases h), (by have q := hOj.ext.setCells (off := c.off + o.cells.length) (vs' := new') (by rw [hb]; exact hsome); rw [hb] at q; exact q.mono hx)⟩
        obtain ⟨v', h1, h2⟩ := hOj.cell k v hk
        refine ⟨v', ?_, h2.mono hx⟩
        have hkl : k < oj.cells.length := (List.getElem?_eq_some_iff.1 hk).1
        rw [hb] at h1 ⊢
        rw [hkeep _ (by omega)]; exact h1
      · exact hOj.later hx (by rw [e4]; exact Nat.le_refl _) (hold _ hb)
  · intro j k oj ok cj ck hjk hj hk hcj hck hjrw hb
    rcases hget j oj hj with ⟨rfl, rfl⟩ | ⟨hne, rfl, rfl⟩ | ⟨hne, hni, hj'⟩
    · rw [hat] at hcj
      cases hcj
      rcases hget k ok hk with ⟨rfl, rfl⟩ | ⟨hne', rfl, rfl⟩ | ⟨hne', hni', hk'⟩
      · exact absurd rfl hjk
      · rw [hoffn _ hne', hc] at hck
        cases hck
        exact ⟨by simp, rfl, by simp; omega⟩
      · rw [hoffn _ hne'] at hck
        obtain ⟨q1, q2, q3⟩ := hr.excl i k o ok c ck (Ne.symm hni') ho hk' hc hck hrw hb
        exact ⟨by simp [q1], q2, by simp; omega⟩
    · simp at hjrw
    · rw [hoffn _ hne] at hcj
      rcases hget k ok hk with ⟨rfl, rfl⟩ | ⟨hne', rfl, rfl⟩ | ⟨hne', hni', hk'⟩
      · rw [hat] at hck
        cases hck
        obtain ⟨_, q2, _⟩ := hr.excl i j o oj c cj (Ne.symm hni) ho hj' hc hcj hrw hb.symm
        rw [q2] at hjrw; cases hjrw
      · rw [hoffn _ hne'] at hck
        have q := hr.excl j k oj o cj ck hjk hj' ho hcj hck hjrw hb; exact ⟨q.1, rfl, q.2.2⟩
      · rw [hoffn _ hne'] at hck
        exact hr.excl j k oj ok cj ck hjk hj' hk' hcj hck hjrw hb
  · intro j hj
    simp only [Mem.next_push, Mem.next_set] at hj
    rw [hoffn j (by omega)]
    exact hr.fresh j (by omega)
  · intro j oj hj
    simp only [Mem.next_push, Mem.next_set]
    rcases hget j oj hj with ⟨rfl, _⟩ | ⟨_, rfl, _⟩ | ⟨_, _, hj'⟩
    · omega
    · omega
    · have := hr.alive j oj hj'; omega
  · intro b hb hn
    exact hold b (Ne.symm (hn i o c ho hrw hc))
  · intro j oj cj hj hjrw hcj
    rcases hget j oj hj with ⟨rfl, rfl⟩ | ⟨hne, rfl, rfl⟩ | ⟨hne, hni, hj'⟩
    · rw [hat] at hcj; cases hcj
      exact .inr ⟨i, o, c, ho, hrw, hc, rfl⟩
    · simp at hjrw
    · rw [hoffn _ hne] at hcj
      exact .inr ⟨j, oj, cj, hj', hjrw, hcj, rfl⟩
  · intro j hj hn
    rw [Mem.get_push, Mem.next_set, if_neg (by omega), Mem.get_set, if_neg (fun h => by rw [h] at hc; rw [hc] at hn; cases hn)]
  · intro j hj hn
    rw [hoffn j (by omega)]; exact hn

end Go.Proofs.YtnlmnejellipdaaGreat.X
