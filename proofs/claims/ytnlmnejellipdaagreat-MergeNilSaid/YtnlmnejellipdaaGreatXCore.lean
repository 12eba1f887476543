/-
  Own work. An abstract run of translated Go code: deterministic (no tape), memory as a finite map of rows of cells.
  XSound.lean proves that what it answers is what every run of the model answers.
-/
import Derived.WalkKit
import Derived.OpenShut
import Derived.KernelRfl
namespace Go.Proofs.YtnlmnejellipdaaGreat.X
open Go

/-! ## A finite map -/
inductive Tr (α : Type) where
  | e
  | n (v : Option α) (l r : Tr α)

namespace Tr
variable {α : Type}
def get : Tr α → Nat → Option α
  | .e, _ => none
  | .n v l r, i => if i = 0 then v else if i % 2 = 1 then get l (i / 2) else get r (i / 2 - 1)

def setF : Nat → Tr α → Nat → Option α → Tr α
  | 0, t, _, _ => t
  | f + 1, .e, i, x => if i = 0 then .n x .e .e else if i % 2 = 1 then .n none (setF f .e (i / 2) x) .e else .n none .e (setF f .e (i / 2 - 1) x)
  | f + 1, .n v l r, i, x => if i = 0 then .n x l r else if i % 2 = 1 then .n v (setF f l (i / 2) x) r else .n v l (setF f r (i / 2 - 1) x)

def set (t : Tr α) (i : Nat) (x : Option α) : Tr α := setF (i + 1) t i x

theorem get_setF (x : Option α) : ∀ (f : Nat) (t : Tr α) (i j : Nat), i < f → (setF f t i x).get j = if i = j then x else t.get j := by
  intro f
  induction f with
  | zero => intro t i j h; omega
  | succ f ih =>
    intro t i j h
    cases t with
    | e =>
      simp only [setF]
      by_cases h0 : i = 0
      · subst h0; by_cases hj : j = 0 <;> simp [get, hj, eq_comm]
      · simp only [h0, if_false]
        by_cases h1 : i % 2 = 1
        · simp only [h1, if_true, get, ih _ _ _ (show i / 2 < f by omega)]
          by_cases hj : j = 0
          · simp [hj, h0]
          · by_cases hj1 : j % 2 = 1
            · simp only [hj, hj1, if_true, if_false]
              by_cases he : i = j
              · subst he; simp
              · simp [he, show i / 2 ≠ j / 2 by omega]
            · simp only [hj, hj1, if_false]; simp [show i ≠ j by omega]
        · simp only [h1, if_false, get, ih _ _ _ (show i / 2 - 1 < f by omega)]
          by_cases hj : j = 0
          · simp [hj, h0]
          · by_cases hj1 : j % 2 = 1
            · simp only [hj, hj1, if_true, if_false]; simp [show i ≠ j by omega]
            · simp only [hj, hj1, if_false]
              by_cases he : i = j
              · subst he; simp
              · simp [he, show i / 2 - 1 ≠ j / 2 - 1 by omega]
    | n v l r =>
      simp only [setF]
      by_cases h0 : i = 0
      · subst h0; by_cases hj : j = 0 <;> simp [get, hj, eq_comm]
      · simp only [h0, if_false]
        by_cases h1 : i % 2 = 1
        · simp only [h1, if_true, get, ih _ _ _ (show i / 2 < f by omega)]
          by_cases hj : j = 0
          · simp [hj, h0]
          · by_cases hj1 : j % 2 = 1
            · simp only [hj, hj1, if_true, if_false]
              by_cases he : i = j
              · subst he; simp
              · simp [he, show i / 2 ≠ j / 2 by omega]
            · simp only [hj, hj1, if_false]; simp [show i ≠ j by omega]
        · simp only [h1, if_false, get, ih _ _ _ (show i / 2 - 1 < f by omega)]
          by_cases hj : j = 0
          · simp [hj, h0]
          · by_cases hj1 : j % 2 = 1
            · simp only [hj, hj1, if_true, if_false]; simp [show i ≠ j by omega]
            · simp only [hj, hj1, if_false]
              by_cases he : i = j
              · subst he; simp
              · simp [he, show i / 2 - 1 ≠ j / 2 - 1 by omega]

theorem get_set (t : Tr α) (i j : Nat) (x : Option α) : (t.set i x).get j = if i = j then x else t.get j :=
  get_setF x (i + 1) t i j (Nat.lt_succ_self i)
end Tr

/-! ## Memory -/
/-- What else may stand in a row's place: a map (entries, each with the time of its birth; the clock), or a walk through one. -/
inductive XExt where
  | row
  | map (es : List (Value × Value × Nat)) (clock : Nat)
  | iter (mm : Option Nat) (since : Nat) (seen : List Nat) (last : Nat)

/-- A row of cells. 'rw': it may be stored to. 'spare': the machine's row may have more elements (of so many cells) behind these. 'kin': rows that may lie in the same memory (read only). -/
structure XObj where
  cells : List Value
  rw : Bool
  spare : Option Nat
  kin : List Nat
  ext : XExt := .row

structure Mem where
  t : Tr XObj
  next : Nat

namespace Mem
def get (m : Mem) (i : Nat) : Option XObj := m.t.get i
def set (m : Mem) (i : Nat) (o : XObj) : Mem := { m with t := m.t.set i (some o) }
def erase (m : Mem) (i : Nat) : Mem := { m with t := m.t.set i none }
def eraseAll (m : Mem) : List Nat → Mem
  | [] => m
  | i :: r => (m.erase i).eraseAll r
def push (m : Mem) (o : XObj) : Mem := { t := m.t.set m.next (some o), next := m.next + 1 }
def empty : Mem := { t := .e, next := 0 }

@[simp] theorem next_set (m : Mem) (i : Nat) (o : XObj) : (m.set i o).next = m.next := rfl
@[simp] theorem next_erase (m : Mem) (i : Nat) : (m.erase i).next = m.next := rfl
@[simp] theorem next_push (m : Mem) (o : XObj) : (m.push o).next = m.next + 1 := rfl
theorem get_set (m : Mem) (i j : Nat) (o : XObj) : (m.set i o).get j = if i = j then some o else m.get j := Tr.get_set ..
theorem get_erase (m : Mem) (i j : Nat) : (m.erase i).get j = if i = j then none else m.get j := Tr.get_set ..
theorem get_push (m : Mem) (j : Nat) (o : XObj) : (m.push o).get j = if m.next = j then some o else m.get j := Tr.get_set ..
@[simp] theorem next_eraseAll (l : List Nat) : ∀ m : Mem, (m.eraseAll l).next = m.next := by
  induction l with
  | nil => intro m; rfl
  | cons i r ih => intro m; simp [eraseAll, ih]
theorem get_eraseAll (l : List Nat) : ∀ (m : Mem) (j : Nat), (m.eraseAll l).get j = if j ∈ l then none else m.get j := by
  induction l with
  | nil => intro m j; simp [eraseAll]
  | cons i r ih =>
    intro m j
    simp only [eraseAll, ih, get_erase, List.mem_cons]
    by_cases h1 : j ∈ r <;> by_cases h2 : i = j <;> simp [h1, h2, eq_comm]
end Mem

/-- Cells in the place of others. -/
def setAll : List Value → Nat → List Value → List Value
  | l, _, [] => l
  | l, o, v :: vs => setAll (l.set o v) (o + 1) vs

@[simp] theorem setAll_length (vs : List Value) : ∀ (l : List Value) (o : Nat), (setAll l o vs).length = l.length := by
  induction vs with
  | nil => intro l o; rfl
  | cons v vs ih => intro l o; simp [setAll, ih]

theorem setAll_getElem? (vs : List Value) : ∀ (l : List Value) (o j : Nat), o + vs.length ≤ l.length →
    (setAll l o vs)[j]? = if o ≤ j ∧ j < o + vs.length then vs[j - o]? else l[j]? := by
  induction vs with
  | nil => intro l o j _; simp [setAll]; intro h1 h2; omega
  | cons v vs ih =>
    intro l o j h
    simp only [List.length_cons] at h
    simp only [setAll, List.length_cons]
    rw [ih _ _ _ (by simp; omega)]
    by_cases h1 : o + 1 ≤ j ∧ j < o + 1 + vs.length
    · rw [if_pos h1, if_pos (by omega)]
      obtain ⟨d, rfl⟩ : ∃ d, j = o + 1 + d := ⟨j - (o + 1), by omega⟩
      rw [show o + 1 + d - o = d + 1 by omega, show o + 1 + d - (o + 1) = d by omega]; rfl
    · rw [if_neg h1]
      by_cases h2 : j = o
      · subst h2; rw [if_pos (by omega), List.getElem?_set_self (by omega)]; simp
      · rw [if_neg (by omega), List.getElem?_set_ne (by omega)]

def xload (m : Mem) (a : Addr) (n : Nat) : Option (List Value) :=
  match a.spot with
  | some _ => none
  | none =>
    match m.get a.block with
    | none => none
    | some o => if a.off + n ≤ o.cells.length then some ((o.cells.drop a.off).take n) else none

def xstore (m : Mem) (a : Addr) (vs : List Value) : Option Mem :=
  match a.spot with
  | some _ => none
  | none =>
    match m.get a.block with
    | none => none
    | some o =>
      if o.rw = true ∧ a.off + vs.length ≤ o.cells.length then
        some ((m.eraseAll o.kin).set a.block { o with cells := setAll o.cells a.off vs, kin := [] })
      else none

/-! ## Values -/
/-- A value that leads nowhere. -/
def plainV : Value → Bool
  | .bool _ | .int _ _ | .float _ _ | .string _ | .pointer none | .slice none 0 0 | .map none | .nilFunc => true
  | _ => false
/-- Such a one, or no value of an interface. -/
def flatV : Value → Bool
  | .nilIface => true
  | v => plainV v
def plain : Value → Bool
  | .agg cs => cs.toList.all plainV
  | .tuple cs => cs.toList.all plainV
  | .func _ f c => f.toList.isEmpty && c.toList.isEmpty
  | v => plainV v

def noTup : Value → Bool
  | .tuple _ => false
  | _ => true

/-- What a computation answers that asks nothing of the world. -/
def ans {α : Type} (P : Program) : Sem α → Option α
  | .pure a => some a
  | .program k => ans P (k P)
  | .mark _ k => ans P k
  | _ => none

theorem ans_run {α : Type} {P : Program} {s : Sem α} {a : α} (h : ans P s = some a) : ∀ w, s.run P w = .ok a w := by
  intro w
  induction s with
  | pure b => simp [ans] at h; subst h; rfl
  | program k ih => simp only [ans] at h; simp only [Sem.run]; exact ih P h
  | mark x k ih => simp only [ans] at h; simp only [Sem.run]; exact ih h
  | _ => simp [ans] at h

theorem ans_bind {α β : Type} (P : Program) (x : Sem α) (f : α → Sem β) : ans P (x >>= f) = (ans P x).bind fun a => ans P (f a) := by
  show ans P (x.bind f) = _
  induction x with
  | pure a => rfl
  | program k ih => simp only [Sem.bind, ans]; exact ih P
  | mark m k ih => simp only [Sem.bind, ans]; exact ih
  | _ => rfl
theorem ans_pure {α : Type} (P : Program) (a : α) : ans P (pure a : Sem α) = some a := rfl
theorem ans_underlying {P : Program} {t : TypeId} {d : TypeDesc} (h : P.underlying t = some d) : ans P (underlying t) = some d := by
  unfold underlying
  rw [ans_bind]
  show ans P (match P.underlying t with | some d => pure d | none => stuck "no such type") = _
  rw [h]; rfl

/-! ## Code -/
inductive Arg where
  | t (s : Nat)
  | c (v : Value)

/-- Slots in use. -/
abbrev Env := List (Nat × Value)
def look : Env → Nat → Option Value
  | [], _ => none
  | (k, v) :: r, s => if k = s then some v else look r s

def Arg.ev (e : Env) : Arg → Option Value
  | .t s => look e s
  | .c v => some v

def evs (e : Env) : List Arg → Option (List Value)
  | [] => some []
  | a :: r => (a.ev e).bind fun v => (evs e r).bind fun vs => some (v :: vs)

inductive NK where
  | ptr | slice | map | func | iface

inductive XI where
  | move (x : Arg)
  | pick (c a b : Arg)
  | alloc (zero : List Value)
  | box (x : Arg)
  | build (zero : List Value) (places : List (Nat × Nat)) (parts : List (Nat × Arg))
  | buildArr (zero : List Value) (size : Nat) (parts : List (Nat × Arg))
  | buildSlice (zero : List Value) (size len : Nat) (parts : List (Nat × Arg))
  | load (agg : Bool) (size : Nat) (a : Arg)
  | store (size : Nat) (a v : Arg)
  | nilCheck (x : Arg)
  | bin (op : BinOp) (t : TypeId) (x y : Arg)
  | isNil (k : NK) (neg : Bool) (x : Arg)
  | un (op : UnOp) (x : Arg)
  | conv (src dst : TypeId) (x : Arg)
  | fieldAddr (off : Nat) (x : Arg)
  | field (agg : Bool) (off size : Nat) (x : Arg)
  | indexAddr (size : Nat) (x i : Arg)
  | indexAddrArr (n size : Nat) (x i : Arg)
  | index (t : TypeId) (x i : Arg)
  | slice (size : Nat) (x : Arg) (lo hi mx : Option Arg)
  | substr (t : TypeId) (x : Arg) (lo hi : Option Arg)
  | makeSlice (zero : List Value) (bytes : Nat) (l c : Arg)
  | makeFunc (fn : Fn) (first captured : List Arg)
  | extract (x : Arg) (i : Nat)
  | call (f : Arg) (args : List Arg)
  | append (size bytes : Nat) (zero : List Value) (s x : Arg)
  | appendZeros (size bytes : Nat) (zero : List Value) (s x : Arg)
  | copy (size : Nat) (d s : Arg)
  | clear (zero : List Value) (x : Arg)
  | len (x : Arg)
  | cap (x : Arg)
  | calcB (b : Builtin) (argTypes : List TypeId) (type : TypeId) (args : List Arg)
  | bstr (x : Arg)
  | arrSlice (n : Nat) (x : Arg)
  | makeMap
  | lookup (ki : Bool) (zero : Value) (ok : Bool) (x i : Arg)
  | mapUpdate (ki : Bool) (x k v : Arg)
  | mapDel (ki : Bool) (x k : Arg)
  | mapClear (x : Arg)
  | mapLen (x : Arg)
  | mapRange (x : Arg)
  | mapNext (x : Arg)
  | mapEntry (x : Arg)
  | makeIface (t : TypeId) (x : Arg)
  | invoke (tab : List (TypeId × FuncId)) (x : Arg) (args : List Arg)
  | dfr (args : List Arg)
  | dfrc (x : Arg)
  | fail

structure XOp where
  dst : Option Nat
  guard : Option (Nat × Bool)
  i : XI

inductive XCode where
  | skip
  | ops (l : List XOp) (keep : Option (List Nat))
  | opsr (l : List XOp) (keep : Option (List Nat))
  | opsd (l : List (Nat × Nat × XOp)) (keep : Option (List Nat))
  | opsc (l : List (Nat × Nat × XOp)) (keep : Option (List Nat))
  | seq (a b : XCode)
  | cond (c : Arg) (a b : XCode)
  | block (id : Nat) (c : XCode)
  | loop (c : XCode)
  | exit (id : Nat)
  | ret

inductive XItem where
  | code (c : XCode)
  | inBlock (id : Nat)
  | inLoop (c : XCode)

def xexit (id : Nat) : List XItem → Option (List XItem)
  | [] => none
  | .inBlock i :: k => if i = id then some k else xexit id k
  | _ :: k => xexit id k

inductive XRes where
  | tmp (t : Nat)
  | cell (agg : Bool) (size : Nat) (t : Nat)

structure XFunc where
  nargs : Nat
  body : XCode
  res : List XRes

/-! ## What an operation answers -/
inductive XR where
  | val (v : Value) (m : Mem)
  | skip (m : Mem)
  | call (f : FuncId) (args : List Value)

def asNat : Value → Option Nat
  | .int _ n => if 0 ≤ n then some n.toNat else none
  | _ => none

def xbox (m : Mem) (cells : List Value) : Value × Mem :=
  (.pointer (some ⟨m.next, 0, none⟩), m.push { cells, rw := true, spare := none, kin := [] })

def xparts (e : Env) : List (Nat × Arg) → Option (List (Nat × Value))
  | [] => some []
  | (i, a) :: r => (a.ev e).bind fun v => if noTup v then (xparts e r).bind fun vs => some ((i, v) :: vs) else none

/-- The bounds of a slice expression, as far as they can be told. -/
def xbounds (len cap : Nat) (lo hi mx : Option Value) : Option (Nat × Nat × Nat) :=
  (match mx with | none => some cap | some v => (asNat v).bind fun i => if i ≤ cap then some i else none).bind fun m =>
  (match hi with | none => (match mx with | none => some len | some _ => none) | some v => (asNat v).bind fun i => if i ≤ m then some i else none).bind fun h =>
  (match lo with | none => some 0 | some v => (asNat v).bind fun i => if i ≤ h then some i else none).bind fun l =>
  some (l, h, m)

/-- A part of a slice. -/
def xsliceR (m : Mem) (size : Nat) (p : Option Addr) (l h c : Nat) (mx : Bool) : Option Value :=
  match p with
  | none => some (.slice none (h - l) (c - l))
  | some a =>
    match a.spot with
    | none => some (.slice (some (if c = l then a else ⟨a.block, a.off + l * size, none⟩)) (h - l) (c - l))
    | some 0 =>
      if mx then some (.slice (some (if c = l then ⟨a.block, a.off, some 1⟩ else ⟨a.block, a.off + l * size, none⟩)) (h - l) (c - l))
      else match m.get a.block with
        | some o => if o.spare = some size then some (.slice (some ⟨a.block, a.off + l * size, some 0⟩) (h - l) (c - l)) else none
        | none => none
    | some _ => some (.slice (some a) (h - l) (c - l))

def evO (e : Env) : Option Arg → Option (Option Value)
  | none => some none
  | some a => (a.ev e).bind fun v => some (some v)

/-- The first n elements' cells. -/
def xfirst (m : Mem) (size n : Nat) : Value → Option (List Value)
  | .slice (some a) _ _ => if n = 0 then some [] else xload m { a with spot := none } (n * size)
  | .slice none 0 _ => some []
  | .string s => if size = 1 then some ((s.extract 0 n).data.toList.map fun b => .int .u8 b.toNat) else none
  | _ => none

def xlen : Value → Option Nat
  | .slice _ n _ => some n
  | .string s => some s.size
  | _ => none

/-- 'append' of 'n' elements, their cells 'new'. -/
def xappend (m : Mem) (size bytes : Nat) (s : Value) (n : Nat) (new : List Value) : Option (Value × Mem) :=
  match s with
  | .slice none 0 0 =>
    if n = 0 then some (s, m)
    else if n * bytes ≤ 140737488355328 ∧ n ≤ 9223372036854775807 then
      some (.slice (some ⟨m.next, 0, some 0⟩) n n, m.push { cells := new, rw := true, spare := some size, kin := [] })
    else none
  | .slice (some a) len cap =>
    if n = 0 then some (s, m)
    else if len + n ≤ cap then
      if size = 0 then none else
      (xstore m ⟨a.block, a.off + len * size, none⟩ new).bind fun m' => some (.slice (some a) (len + n) cap, m')
    else if (len + n) * bytes ≤ 140737488355328 ∧ len + n ≤ 9223372036854775807 then
      match a.spot with
      | none =>
        (if len = 0 then some [] else xload m a (len * size)).bind fun old =>
        some (.slice (some ⟨m.next, 0, some 0⟩) (len + n) (len + n), m.push { cells := old ++ new, rw := true, spare := some size, kin := [] })
      | some 0 =>
        match m.get a.block with
        | none => none
        | some o =>
          if o.rw = true ∧ o.spare = some size ∧ size ≠ 0 ∧ a.off + len * size = o.cells.length then
            some (.slice (some ⟨m.next, 0, some 0⟩) (len + n) (len + n),
              (m.set a.block { o with rw := false, kin := [] }).push { cells := o.cells.drop a.off ++ new, rw := true, spare := some size, kin := a.block :: o.kin })
          else if o.rw = true ∧ o.spare = some size ∧ size ≠ 0 ∧ a.off + len * size ≤ o.cells.length then
            some (.slice (some ⟨m.next, 0, some 0⟩) (len + n) (len + n),
              (((m.eraseAll o.kin).set a.block { cells := o.cells.take (a.off + len * size), rw := true, spare := some size, kin := [] }).set a.block { cells := o.cells.take (a.off + len * size), rw := false, spare := some size, kin := [] }).push { cells := (o.cells.take (a.off + len * size)).drop a.off ++ new, rw := true, spare := some size, kin := [a.block] })
          else none
      | some _ => if len = 0 then some (.slice (some ⟨m.next, 0, some 0⟩) n n, m.push { cells := new, rw := true, spare := some size, kin := [] }) else none
    else none
  | _ => none

def zerosOf (zero : List Value) : Nat → List Value
  | 0 => []
  | n + 1 => zero ++ zerosOf zero n

/-- Operations that leave memory alone. -/
def quiet : XI → Bool
  | .move _ | .pick _ _ _ | .build _ _ _ | .buildArr _ _ _ | .load _ _ _ | .nilCheck _ | .bin _ _ _ _ | .isNil _ _ _ | .un _ _ | .conv _ _ _ | .fieldAddr _ _ | .field _ _ _ _ | .indexAddr _ _ _ | .indexAddrArr _ _ _ _
  | .index _ _ _ | .slice _ _ _ _ _ | .substr _ _ _ _ | .makeFunc _ _ _ | .extract _ _ | .len _ | .cap _ | .calcB _ _ _ _ | .bstr _ | .arrSlice _ _ | .lookup _ _ _ _ _ | .mapLen _ | .makeIface _ _ => true
  | _ => false

/-- Slots that an operation reads. -/
def argU : Arg → List Nat
  | .t s => [s]
  | .c _ => []
def oU : Option Arg → List Nat
  | none => []
  | some a => argU a
def argsU : List Arg → List Nat
  | [] => []
  | a :: r => argU a ++ argsU r
def partsU : List (Nat × Arg) → List Nat
  | [] => []
  | a :: r => argU a.2 ++ partsU r
def uses : XI → List Nat
  | .move x | .box x | .load _ _ x | .nilCheck x | .isNil _ _ x | .un _ x | .conv _ _ x | .fieldAddr _ x | .field _ _ _ x | .extract x _ | .clear _ x | .len x | .cap x | .bstr x | .arrSlice _ x | .mapClear x | .mapLen x | .mapRange x | .mapNext x | .mapEntry x | .makeIface _ x => argU x
  | .pick c a b => argU c ++ (argU a ++ argU b)
  | .alloc _ | .fail | .makeMap => []
  | .lookup _ _ _ a b | .mapDel _ a b => argU a ++ argU b
  | .mapUpdate _ a b c => argU a ++ (argU b ++ argU c)
  | .invoke _ f as => argU f ++ argsU as
  | .dfr as => argsU as
  | .dfrc x => argU x
  | .build _ _ ps | .buildArr _ _ ps | .buildSlice _ _ _ ps => partsU ps
  | .store _ a b | .bin _ _ a b | .indexAddr _ a b | .indexAddrArr _ _ a b | .index _ a b | .makeSlice _ _ a b | .append _ _ _ a b | .appendZeros _ _ _ a b | .copy _ a b => argU a ++ argU b
  | .slice _ x a b c => argU x ++ (oU a ++ (oU b ++ oU c))
  | .substr _ x a b => argU x ++ (oU a ++ oU b)
  | .makeFunc _ a b => argsU a ++ argsU b
  | .call f as => argU f ++ argsU as
  | .calcB _ _ _ as => argsU as
def readsOf (o : XOp) : List Nat := (match o.guard with | none => [] | some (s, _) => [s]) ++ uses o.i

/-- Bytes out of cells. -/
def byteL : List Value → Option (List UInt8)
  | [] => some []
  | .int .u8 n :: r => (byteL r).map (UInt8.ofNat n.toNat :: ·)
  | _ => none

/-! ## Maps -/
/-- Are two keys the same? Numbers (ki), or texts. -/
def sameK : Bool → Value → Value → Option Bool
  | true, .int k a, .int k' b => if k = k' then some (a == b) else none
  | false, .string a, .string b => some (a.data.toList == b.data.toList)
  | _, _, _ => none
def findK (ki : Bool) (k : Value) : List (Value × Value × Nat) → Nat → Option (Option (Nat × Value))
  | [], _ => some none
  | (k', v, _) :: es, i => match sameK ki k k' with
    | some true => some (some (i, v))
    | some false => findK ki k es (i + 1)
    | none => none
def keyK : Bool → Value → Bool
  | true, .int _ _ => true
  | false, .string _ => true
  | _, _ => false
/-- The entries of a map that may be asked. -/
def mapEs (m : Mem) : Value → Option (List (Value × Value × Nat))
  | .map none => some []
  | .map (some b) => match m.get b with
    | some o => match o.ext with
      | .map es _ => some es
      | _ => none
    | none => none
  | _ => none
/-- A map that may be changed. -/
def mapRw (m : Mem) : Value → Option (Nat × XObj × List (Value × Value × Nat) × Nat)
  | .map (some b) => match m.get b with
    | some o => match o.ext with
      | .map es clock => if o.rw = true ∧ o.spare.isNone = true ∧ o.kin.isEmpty = true then some (b, o, es, clock) else none
      | _ => none
    | none => none
  | _ => none
def setV : List (Value × Value × Nat) → Nat → Value → List (Value × Value × Nat)
  | [], _, _ => []
  | (k, _, b) :: es, 0, v => (k, v, b) :: es
  | e :: es, i + 1, v => e :: setV es i v
def findT : List (TypeId × FuncId) → TypeId → Option FuncId
  | [], _ => none
  | (t, f) :: r, u => if t = u then some f else findT r u

def xi (P : Program) (e : Env) (m : Mem) : XI → Option XR
  | .fail => none
  | .dfr _ => none
  | .dfrc _ => none
  | .makeMap => some (.val (.map (some m.next)) (m.push { cells := [], rw := true, spare := none, kin := [], ext := .map [] 0 }))
  | .lookup ki zero ok x i => (x.ev e).bind fun v => (i.ev e).bind fun k => if keyK ki k then (mapEs m v).bind fun es => (findK ki k es 0).bind fun r =>
      let p : Value × Bool := match r with
        | some (_, v) => (v, true)
        | none => (zero, false)
      some (.val (if ok then .tuple #[p.1, .bool p.2] else p.1) m) else none
  | .mapUpdate ki x k v => (x.ev e).bind fun vx => (k.ev e).bind fun vk => (v.ev e).bind fun vv => if keyK ki vk && noTup vv then
      (mapRw m vx).bind fun (b, o, es, clock) => (findK ki vk es 0).bind fun r => match r with
        | some (i, _) => some (.skip (m.set b { o with ext := .map (setV es i vv) clock }))
        | none => some (.skip (m.set b { o with ext := .map (es ++ [(vk, vv, clock)]) (clock + 1) }))
      else none
  | .mapDel ki x k => (x.ev e).bind fun vx => (k.ev e).bind fun vk => if keyK ki vk then match vx with
      | .map none => some (.val (.tuple #[]) m)
      | vx => (mapRw m vx).bind fun (b, o, es, clock) => (findK ki vk es 0).bind fun r => match r with
        | some (i, _) => some (.val (.tuple #[]) (m.set b { o with ext := .map (es.eraseIdx i) clock }))
        | none => some (.val (.tuple #[]) (m.set b { o with ext := .map es clock }))
      else none
  | .mapClear x => (x.ev e).bind fun vx => match vx with
      | .map none => some (.val (.tuple #[]) m)
      | vx => (mapRw m vx).bind fun (b, o, _, clock) => some (.val (.tuple #[]) (m.set b { o with ext := .map [] clock }))
  | .mapLen x => (x.ev e).bind fun vx => (mapEs m vx).bind fun es => some (.val (goInt es.length) m)
  | .mapRange x => (x.ev e).bind fun vx => match vx with
      | .map none => some (.val (.pointer (some ⟨m.next, 0, none⟩)) (m.push { cells := [], rw := true, spare := none, kin := [], ext := .iter none 0 [] 0 }))
      | .map (some b) => match m.get b with
        | some o => match o.ext with
          | .map _ clock => some (.val (.pointer (some ⟨m.next, 0, none⟩)) (m.push { cells := [], rw := true, spare := none, kin := [], ext := .iter (some b) clock [] clock }))
          | _ => none
        | none => none
      | _ => none
  | .mapNext x => (x.ev e).bind fun vx => match vx with
      | .pointer (some ⟨b, 0, none⟩) => match m.get b with
        | some o => match o.ext with
          | .iter none _ _ _ => some (.val (.tuple #[.bool false]) m)
          | .iter (some mb) since seen last => match m.get mb with
            | some mo => match mo.ext with
              | .map es clock =>
                if o.rw = true ∧ o.spare.isNone = true ∧ o.kin.isEmpty = true then
                  if !seen.isEmpty && !es.isEmpty && es.all (fun x => decide (last ≤ x.2.2)) then none else
                  match es.filter (fun x => !seen.contains x.2.2) with
                  | [] => some (.val (.tuple #[.bool false]) m)
                  | [(k, v, born)] => if born < since then some (.val (.tuple #[.bool true, k, v]) (m.set b { o with ext := .iter (some mb) since (seen ++ [born]) clock })) else none
                  | _ => none
                else none
              | _ => none
            | none => none
          | _ => none
        | none => none
      | _ => none
  | .mapEntry x => (x.ev e).bind fun vx => match vx with
      | .pointer (some ⟨b, 0, none⟩) => match m.get b with
        | some o => match o.ext with
          | .iter (some mb) _ seen last => match m.get mb with
            | some mo => match mo.ext with
              | .map es clock => if clock = last then seen.getLast?.bind fun born => (es.find? fun x => x.2.2 == born).bind fun x => some (.val (.tuple #[x.1, x.2.1]) m) else none
              | _ => none
            | none => none
          | _ => none
        | none => none
      | _ => none
  | .makeIface t x => (x.ev e).bind fun v => if noTup v then some (.val (.iface t v) m) else none
  | .invoke tab x args => (x.ev e).bind fun v => (evs e args).bind fun vs => match v with
    | .iface t r => (findT tab t).bind fun f => some (.call f (r :: vs))
    | _ => none
  | .arrSlice n x => (x.ev e).bind fun v => match v with
    | .pointer (some a) => if a.spot.isNone then some (.val (.slice (some ⟨a.block, a.off, none⟩) n n) m) else none
    | _ => none
  | .bstr x => (x.ev e).bind fun v => (xlen v).bind fun n => (xfirst m 1 n v).bind fun cs => (byteL cs).bind fun bs => match v with
    | .slice _ _ _ => some (.val (.string ⟨bs.toArray⟩) m)
    | _ => none
  | .move x => (x.ev e).bind fun v => some (.val v m)
  | .pick c a b => (c.ev e).bind fun vc => (a.ev e).bind fun va => (b.ev e).bind fun vb => match vc with
    | .bool t => some (.val (bif t then va else vb) m)
    | _ => none
  | .alloc zero => some (.val (xbox m zero).1 (xbox m zero).2)
  | .box x => (x.ev e).bind fun v => if noTup v then some (.val (xbox m v.cells.toList).1 (xbox m v.cells.toList).2) else none
  | .build zero places parts => (xparts e parts).bind fun vs =>
    (Instr.fill (places[·]?) zero.toArray vs).bind fun cs => some (.val (.agg cs) m)
  | .buildArr zero size parts => (xparts e parts).bind fun vs =>
    (Instr.fill (fun i => some (i * size, size)) zero.toArray vs).bind fun cs => some (.val (.agg cs) m)
  | .buildSlice zero size len parts => (xparts e parts).bind fun vs =>
    if len * size ≤ 16777216 ∧ zero.length = size then
      (Instr.fill (fun i => some (i * size, size)) (zerosOf zero len).toArray vs).bind fun cs =>
      some (.val (.slice (some ⟨m.next, 0, none⟩) len len) (m.push { cells := cs.toList, rw := true, spare := none, kin := [] }))
    else none
  | .load agg size a => (a.ev e).bind fun v => match v with
    | .pointer (some a) => (xload m a size).bind fun cs => match agg, cs with
      | true, cs => some (.val (.agg cs.toArray) m)
      | false, [v] => some (.val v m)
      | false, _ => none
    | _ => none
  | .store size a x => (a.ev e).bind fun va => (x.ev e).bind fun vx => match va with
    | .pointer (some a) =>
      if vx.cells.size = size ∧ noTup vx = true then
        if size = 0 then some (.skip m) else (xstore m a vx.cells.toList).bind fun m' => some (.skip m')
      else none
    | _ => none
  | .nilCheck x => (x.ev e).bind fun v => match v with
    | .pointer (some _) => some (.val v m)
    | .func (.func _) _ _ => some (.val v m)
    | .iface _ _ => some (.val v m)
    | _ => none
  | .bin op t x y => (x.ev e).bind fun vx => (y.ev e).bind fun vy =>
    if plain vx && plain vy then (ans P (do eqGuard op t (.const vx) (.const vy) vx vy; binOp op t vx vy)).bind fun v => if plain v then some (.val v m) else none
    else none
  | .isNil k neg x => (x.ev e).bind fun v => match k, v with
    | .ptr, .pointer p => some (.val (.bool (p.isNone != neg)) m)
    | .slice, .slice p _ _ => some (.val (.bool (p.isNone != neg)) m)
    | .map, .map p => some (.val (.bool (p.isNone != neg)) m)
    | .func, .nilFunc => some (.val (.bool (!neg)) m)
    | .func, .func _ _ _ => some (.val (.bool neg) m)
    | .iface, .nilIface => some (.val (.bool (!neg)) m)
    | .iface, .iface _ _ => some (.val (.bool neg) m)
    | _, _ => none
  | .un op x => (x.ev e).bind fun v => if plain v then (ans P (Op.unary op v)).bind fun r => if plain r then some (.val r m) else none else none
  | .conv src dst x => (x.ev e).bind fun v => if plain v then (ans P (convert src dst v)).bind fun r => if plain r then some (.val r m) else none else none
  | .fieldAddr off x => (x.ev e).bind fun v => match v with
    | .pointer (some a) => if a.spot.isNone then some (.val (.pointer (some ⟨a.block, a.off + off, none⟩)) m) else none
    | _ => none
  | .field agg off size x => (x.ev e).bind fun v => match v with
    | .agg cs => match agg with
      | true => some (.val (.agg (cs.extract off (off + size))) m)
      | false => (cs[off]?).bind fun c => some (.val c m)
    | _ => none
  | .indexAddr size x i => (x.ev e).bind fun v => (i.ev e).bind fun vi => match v with
    | .slice (some a) len _ => (asNat vi).bind fun j => if j < len then some (.val (.pointer (some ⟨a.block, a.off + j * size, none⟩)) m) else none
    | _ => none
  | .indexAddrArr n size x i => (x.ev e).bind fun v => (i.ev e).bind fun vi => match v with
    | .pointer (some a) => (asNat vi).bind fun j => if j < n ∧ a.spot.isNone then some (.val (.pointer (some ⟨a.block, a.off + j * size, none⟩)) m) else none
    | _ => none
  | .index t x i => (x.ev e).bind fun v => (i.ev e).bind fun vi =>
    if plain v && plain vi then (ans P (Instr.index t v vi)).bind fun r => if plain r then some (.val r m) else none else none
  | .slice size x lo hi mx => (x.ev e).bind fun v => (evO e lo).bind fun l => (evO e hi).bind fun h => (evO e mx).bind fun k => match v with
    | .slice p len cap => (xbounds len cap l h k).bind fun b => (xsliceR m size p b.1 b.2.1 b.2.2 k.isSome).bind fun r => some (.val r m)
    | _ => none
  | .substr t x lo hi => (x.ev e).bind fun v => (evO e lo).bind fun l => (evO e hi).bind fun h =>
    match v with
    | .string _ => if (match l with | none => true | some v => plainV v) && (match h with | none => true | some v => plainV v) then
        (ans P (Instr.slice t v l h none)).bind fun r => if plain r then some (.val r m) else none else none
    | _ => none
  | .makeSlice zero bytes l c => (l.ev e).bind fun vl => (c.ev e).bind fun vc => (asNat vl).bind fun l => (asNat vc).bind fun c =>
    if l ≤ c ∧ bytes * c ≤ 281474976710656 ∧ c ≤ 9223372036854775807 then
      some (.val (.slice (some ⟨m.next, 0, none⟩) l c) (m.push { cells := zerosOf zero c, rw := true, spare := none, kin := [] }))
    else none
  | .makeFunc fn first captured => (evs e first).bind fun f => (evs e captured).bind fun c => if f.all noTup && c.all noTup then some (.val (.func fn f.toArray c.toArray) m) else none
  | .extract x i => (x.ev e).bind fun v => match v with
    | .tuple vs => (vs[i]?).bind fun v => some (.val v m)
    | _ => none
  | .call f args => (f.ev e).bind fun vf => (evs e args).bind fun vs => match vf with
    | .func (.func f) first captured => some (.call f (first.toList ++ vs ++ captured.toList))
    | _ => none
  | .append size bytes zero s x => (s.ev e).bind fun vs => (x.ev e).bind fun vx => (xlen vx).bind fun n => (xfirst m size n vx).bind fun new =>
    if zero.length = size then (xappend m size bytes vs n new).bind fun (v, m') => some (.val v m') else none
  | .appendZeros size bytes zero s x => (s.ev e).bind fun vs => (x.ev e).bind fun vx => (asNat vx).bind fun n =>
    if zero.length = size ∧ n ≤ 9223372036854775807 ∧ n * bytes ≤ 281474976710656 ∧ bytes ≠ 0 then (xappend m size bytes vs n (zerosOf zero n)).bind fun (v, m') => some (.val v m') else none
  | .copy size d s => (d.ev e).bind fun vd => (s.ev e).bind fun vs => match vd with
    | .slice p dl _ => (xlen vs).bind fun sl =>
      let n := Nat.min sl dl
      (xfirst m size n vs).bind fun cs =>
        match p with
        | none => some (.val (goInt n) m)
        | some a => if n * size = 0 then some (.val (goInt n) m) else (xstore m ⟨a.block, a.off, none⟩ cs).bind fun m' => some (.val (goInt n) m')
    | _ => none
  | .clear zero x => (x.ev e).bind fun v => match v with
    | .slice none _ _ => some (.val (.tuple #[]) m)
    | .slice (some a) n _ =>
      if n = 0 then some (.val (.tuple #[]) m) else
      if zero.length = 0 then none else
      (xstore m ⟨a.block, a.off, none⟩ (zerosOf zero n)).bind fun m' => some (.val (.tuple #[]) m')
    | _ => none
  | .len x => (x.ev e).bind fun v => match v with
    | .slice _ n _ => some (.val (goInt n) m)
    | _ => none
  | .cap x => (x.ev e).bind fun v => match v with
    | .slice none _ c => some (.val (goInt c) m)
    | .slice (some a) _ c => match a.spot with
      | some 0 => none
      | _ => some (.val (goInt c) m)
    | _ => none
  | .calcB b ts t args => (evs e args).bind fun vs =>
    if vs.all plain then (ans P (builtin b ts.toArray t (args.map fun _ => false).toArray vs.toArray)).bind fun nx => match nx with
      | .value v => if plain v then some (.val v m) else none
      | _ => none
    else none

/-- An operation's answer goes into its slot. -/
def put (dst : Option Nat) (v : Value) (e : Env) : Env :=
  match dst with
  | none => e
  | some d => (d, v) :: e

def wantedX (e : Env) (g : Option (Nat × Bool)) : Option Bool :=
  match g with
  | none => some true
  | some (s, want) => match look e s with
    | some (.bool b) => some (b == want)
    | some (.tuple vs) => if vs.size = 0 then some false else none
    | _ => none

/-- Where an abstract run keeps the closure that is deferred ('nilFunc': none so far). -/
def slotD : Nat := 1000000
def cloB : Value → Bool
  | .func (.func _) ⟨[]⟩ _ => true
  | _ => false

def xops (P : Program) (C : FuncId → List Value → Mem → Option (Value × Mem)) : List XOp → Env → Mem → Option (Env × Mem)
  | [], e, m => some (e, m)
  | o :: os, e, m =>
    match wantedX e o.guard with
    | none => none
    | some false => xops P C os (put o.dst undef e) m
    | some true => match xi P e m o.i with
      | none => match o.i with
        | .dfr as => match evs e as with
          | some _ => xops P C os (put o.dst undef e) m
          | none => none
        | .dfrc x => match x.ev e, look e slotD with
          | some v, some .nilFunc => if cloB v then xops P C os (put o.dst undef ((slotD, v) :: e)) m else none
          | _, _ => none
        | _ => none
      | some (.val v m') => xops P C os (put o.dst v e) m'
      | some (.skip m') => xops P C os (put o.dst undef e) m'
      | some (.call f args) => match C f args m with
        | none => none
        | some (v, m') => xops P C os (put o.dst v e) m'

/-! ## Operations whose order is drawn -/
/-- 0: asks nothing of memory; 1: reads it; 2: makes a new row; 3: whatever else. -/
def cls : XI → Nat
  | .load _ _ _ | .slice _ _ _ _ _ | .bstr _ | .lookup _ _ _ _ _ | .mapLen _ => 1
  | .alloc _ | .box _ | .buildSlice _ _ _ _ => 2
  | i => if quiet i then 0 else 3

def veqA : Addr → Addr → Bool
  | ⟨a, b, none⟩, ⟨a', b', none⟩ => a == a' && b == b'
  | ⟨a, b, some c⟩, ⟨a', b', some c'⟩ => a == a' && b == b' && c == c'
  | _, _ => false
def veqC : Value → Value → Bool
  | .bool a, .bool b => a == b
  | .int k n, .int k' n' => decide (k = k') && decide (n = n')
  | .float k n, .float k' n' => decide (k = k') && n == n'
  | .string a, .string b => a.data.toList == b.data.toList
  | .pointer none, .pointer none => true
  | .pointer (some a), .pointer (some b) => veqA a b
  | .slice none l c, .slice none l' c' => l == l' && c == c'
  | .slice (some a) l c, .slice (some a') l' c' => veqA a a' && l == l' && c == c'
  | .map none, .map none => true
  | .map (some a), .map (some b) => a == b
  | .nilFunc, .nilFunc => true
  | .nilIface, .nilIface => true
  | .func (.func f) ⟨[]⟩ ⟨[]⟩, .func (.func f') ⟨[]⟩ ⟨[]⟩ => f == f'
  | _, _ => false
def veqL : List Value → List Value → Bool
  | [], [] => true
  | a :: l, b :: r => veqC a b && veqL l r
  | _, _ => false
def veq : Value → Value → Bool
  | .agg a, .agg b => veqL a.toList b.toList
  | .iface t (.agg a), .iface u (.agg b) => t == u && veqL a.toList b.toList
  | .iface t a, .iface u b => t == u && veqC a b
  | a, b => veqC a b

/-- A read that is done but may as well be done now. -/
structure Pend where
  j : Nat
  e : Env
  i : XI
  v : Value

def again (P : Program) (m : Mem) (l : List Pend) : Bool :=
  l.all fun p => match xi P p.e m p.i with
    | some (.val v _) => veq p.v v
    | _ => false

def outOf (C : FuncId → List Value → Mem → Option (Value × Mem)) (m : Mem) : Option XR → Option (Value × Mem)
  | none => none
  | some (.val v m') => some (v, m')
  | some (.skip m') => some (undef, m')
  | some (.call f args) => C f args m

def xopsD (P : Program) (C : FuncId → List Value → Mem → Option (Value × Mem)) : List (Nat × Nat × XOp) → List Pend → Env → Mem → Option (Env × Mem)
  | [], pend, e, m => if again P m pend then some (e, m) else none
  | (j, pre, o) :: os, pend, e, m =>
    match wantedX e o.guard with
    | none => none
    | some false =>
      if cls o.i = 3 then
        if again P m pend then xopsD P C os (pend.filter fun p => !pre.testBit p.j) (put o.dst undef e) m else none
      else xopsD P C os pend (put o.dst undef e) m
    | some true =>
      match cls o.i with
      | 0 => match xi P e m o.i with
        | some (.val v _) => xopsD P C os pend (put o.dst v e) m
        | _ => none
      | 1 => match xi P e m o.i with
        | some (.val v _) => xopsD P C os (⟨j, e, o.i, v⟩ :: pend) (put o.dst v e) m
        | _ => none
      | 2 => match xi P e m o.i with
        | some (.val v m') => xopsD P C os pend (put o.dst v e) m'
        | _ => none
      | _ =>
        if again P m pend then
          match outOf C m (xi P e m o.i) with
          | some (v, m') => xopsD P C os (pend.filter fun p => !pre.testBit p.j) (put o.dst v e) m'
          | none => none
        else none

/-- The order of evaluation that was chosen is one of those that there are; what changes memory stands in a row with all that asks for it. -/
def pairsD : List (Nat × Nat × XOp) → Bool
  | [] => true
  | x :: r => (r.all fun y => x.1 != y.1 && !x.2.1.testBit y.1 && (cls x.2.2.i != 3 || cls y.2.2.i == 0 || y.2.1.testBit x.1)) && pairsD r
def okD (l : List (Nat × Nat × XOp)) : Bool :=
  (l.all fun x => decide (x.1 < l.length)) && ((List.range l.length).all fun j => (l.find? fun x => x.1 == j).isSome) && pairsD l
/-- The last two are stores in either order; all else is as in 'okD'. -/
def swapL {α : Type} : List α → List α
  | [] => []
  | [x] => [x]
  | [x, y] => [y, x]
  | x :: y :: z :: l => x :: swapL (y :: z :: l)
def cutL {α : Type} : List α → List α
  | [] => []
  | [_] => []
  | [_, _] => []
  | x :: y :: z :: l => x :: cutL (y :: z :: l)
def lastL {α : Type} : List α → Option (α × α)
  | [] => none
  | [_] => none
  | [x, y] => some (x, y)
  | _ :: y :: z :: l => lastL (y :: z :: l)
def storeB (o : XOp) : Bool := o.guard.isNone && o.dst.isNone && (match o.i with | .store _ _ _ => true | _ => false)
def storeAt (e : Env) (o : XOp) : Option Nat :=
  match o.i with
  | .store _ a _ => match a.ev e with
    | some (.pointer (some p)) => some p.block
    | _ => none
  | _ => none
def okC (l : List (Nat × Nat × XOp)) : Bool :=
  match lastL l with
  | some (x, y) => storeB x.2.2 && storeB y.2.2 && x.1 != y.1 && !x.2.1.testBit y.1 && !y.2.1.testBit x.1 && pairsD (cutL l ++ [x]) && pairsD (cutL l ++ [y]) &&
      (l.all fun x => decide (x.1 < l.length)) && ((List.range l.length).all fun j => (l.find? fun x => x.1 == j).isSome)
  | none => false
/-- They store to different rows. -/
def apartC (e : Env) (l : List (Nat × Nat × XOp)) : Bool :=
  match lastL l with
  | some (x, y) => match storeAt e x.2.2, storeAt e y.2.2 with
    | some a, some b => a != b
    | _, _ => false
  | none => false
def sortD (l : List (Nat × Nat × XOp)) : List (Nat × Nat × XOp) := (List.range l.length).filterMap fun j => l.find? fun x => x.1 == j

def restrict (e : Env) : List Nat → Env
  | [] => []
  | s :: r => match look e s with
    | none => restrict e r
    | some v => (s, v) :: restrict e r

def keepOf (k : Option (List Nat)) (e : Env) : Env :=
  match k with
  | none => e
  | some l => restrict e l

def xres (e : Env) (m : Mem) : List XRes → Option (List Value)
  | [] => some []
  | .tmp t :: r => (look e t).bind fun v => (xres e m r).bind fun vs => some (v :: vs)
  | .cell agg size t :: r => match look e t with
    | some (.pointer (some a)) => (xload m a size).bind fun cs => match agg, cs with
      | true, cs => (xres e m r).bind fun vs => some (.agg cs.toArray :: vs)
      | false, [v] => (xres e m r).bind fun vs => some (v :: vs)
      | false, _ => none
    | _ => none

def tup : List Value → Value
  | [v] => v
  | l => .tuple l.toArray

def initEnv : Nat → List Value → Env
  | _, [] => []
  | i, v :: r => (i, v) :: initEnv (i + 1) r

/-- A function: Go code that is known, or one that the model answers by itself. -/
inductive XDecl where
  | code (f : XFunc)
  | ext (f : FuncId)
  | known (v : Value)
  | codeD (f : XFunc)
  | ins (f : XFunc) (size : Nat)

/-- Cells with others put in. -/
def insC (cs vs : List Value) (k : Nat) : List Value := cs.take k ++ (vs ++ cs.drop k)
/-- The same, of a slice whose capacity is known. -/
def insX (size : Nat) (a : Addr) (n c : Nat) (i : Int) (va : Addr) (m : Mem) (o vo : XObj) : Option (Value × Mem) :=
  if a.spot = none ∧ va.spot = none ∧ o.rw = true ∧ vo.rw = true ∧ size ≠ 0 ∧ 0 ≤ i ∧ i < n ∧ va.block ≠ a.block ∧ va.block ∉ o.kin ∧ n ≤ 1000000 ∧ n ≤ c ∧ a.off + c * size ≤ o.cells.length ∧ c ≤ 9223372036854775807 then
    (xload m va size).bind fun vs =>
    let cs := o.cells.drop a.off
    if n + 1 ≤ c then
      some (.slice (some ⟨m.next, 0, none⟩) (n + 1) c, (m.eraseAll (a.block :: o.kin)).push { cells := insC (cs.take (n * size)) vs (i.toNat * size) ++ cs.drop ((n + 1) * size), rw := true, spare := none, kin := [] })
    else
      some (.slice (some ⟨m.next, 0, some 0⟩) (n + 1) (n + 1), (m.eraseAll (a.block :: o.kin)).push { cells := insC (cs.take (n * size)) vs (i.toNat * size), rw := true, spare := some size, kin := [] })
  else none
/-- slices.Insert of one element ahead of the end: in its place or in a new row, under a new name; what it was told by is told no more. -/
def insG (size : Nat) (args : List Value) (m : Mem) : Option (Value × Mem) :=
  match args with
  | [.slice (some a) n c, .int .i64 i, .slice (some va) 1 _] => match m.get a.block, m.get va.block with
    | some o, some vo =>
      if a.spot = some 0 ∧ va.spot = none ∧ o.rw = true ∧ vo.rw = true ∧ o.spare = some size ∧ size ≠ 0 ∧ 0 ≤ i ∧ i < n ∧ va.block ≠ a.block ∧ va.block ∉ o.kin ∧ n ≤ 1000000 ∧ a.off ≤ o.cells.length ∧ n ≤ c then
        (xload m va size).bind fun vs =>
        let cs := o.cells.drop a.off
        if n + 1 ≤ c then
          if (n + 1) * size ≤ cs.length then
            some (.slice (some ⟨m.next, 0, some 0⟩) (n + 1) c, (m.eraseAll (a.block :: o.kin)).push { cells := insC (cs.take (n * size)) vs (i.toNat * size) ++ cs.drop ((n + 1) * size), rw := true, spare := some size, kin := [] })
          else none
        else if cs.length = n * size then
          some (.slice (some ⟨m.next, 0, some 0⟩) (n + 1) (n + 1), (m.eraseAll (a.block :: o.kin)).push { cells := insC cs vs (i.toNat * size), rw := true, spare := some size, kin := [] })
        else none
      else insX size a n c i va m o vo
    | _, _ => none
  | _ => none

/-- A function that defers a closure is left: the closure runs, then the results are read. -/
def xfin (X : FuncId → Option XDecl) (run : XCode → Env → Mem → Option (Env × Mem)) (F : XFunc) (e : Env) (m : Mem) : Option (Value × Mem) :=
  match look e slotD with
  | some .nilFunc => (xres e m F.res).bind fun vs => some (tup vs, m)
  | some (.func (.func g) ⟨[]⟩ c) => match X g with
    | some (.code G) => if c.toList.length = G.nargs ∧ G.res.isEmpty = true then
        match run G.body (initEnv 0 c.toList) m with
        | none => none
        | some (_, m') => (xres e m' F.res).bind fun vs => some (tup vs, m')
      else none
    | _ => none
  | _ => none

def xgo (P : Program) (X : FuncId → Option XDecl) : Nat → List XItem → Env → Mem → Option (Env × Mem)
  | 0, _, _, _ => none
  | n + 1, k, e, m =>
    let C : FuncId → List Value → Mem → Option (Value × Mem) := fun f args m => match X f with
      | none => none
      | some (.known v) => if args.length = 0 then some (v, m) else none
      | some (.ext f) => if args.all plain then (ans P (callFunc f args.toArray)).bind fun nx => match nx with
          | .value v => if plain v then some (v, m) else none
          | _ => none
        else none
      | some (.code F) => if args.length = F.nargs then
          match xgo P X n [.code F.body] (initEnv 0 args) m with
          | none => none
          | some (e', m') => (xres e' m' F.res).bind fun vs => some (tup vs, m')
        else none
      | some (.ins F size) => match insG size args m with
        | some r => some r
        | none => if args.length = F.nargs then
          match xgo P X n [.code F.body] (initEnv 0 args) m with
          | none => none
          | some (e', m') => (xres e' m' F.res).bind fun vs => some (tup vs, m')
          else none
      | some (.codeD F) => if args.length = F.nargs then
          match xgo P X n [.code F.body] ((slotD, .nilFunc) :: initEnv 0 args) m with
          | none => none
          | some (e', m') => xfin X (fun c e m => xgo P X n [.code c] e m) F e' m'
        else none
    match k with
    | [] => some (e, m)
    | .inBlock _ :: k => xgo P X n k e m
    | .inLoop c :: k => xgo P X n (.code c :: .inLoop c :: k) e m
    | .code .skip :: k => xgo P X n k e m
    | .code (.seq a b) :: k => xgo P X n (.code a :: .code b :: k) e m
    | .code (.cond c a b) :: k => match c.ev e with
      | some (.bool t) => xgo P X n (.code (bif t then a else b) :: k) e m
      | _ => none
    | .code (.block id c) :: k => xgo P X n (.code c :: .inBlock id :: k) e m
    | .code (.loop c) :: k => xgo P X n (.code c :: .inLoop c :: k) e m
    | .code (.exit id) :: k => match xexit id k with
      | some k' => xgo P X n k' e m
      | none => none
    | .code .ret :: _ => some (e, m)
    | .code (.ops l keep) :: k => match xops P C l e m with
      | some (e', m') => xgo P X n k (keepOf keep e') m'
      | none => none
    | .code (.opsr l keep) :: k => match xops P C l e m with
      | some (e', m') => xgo P X n k (keepOf keep e') m'
      | none => none
    | .code (.opsd l keep) :: k => match xopsD P C l [] e m with
      | some (e', m') => xgo P X n k (keepOf keep e') m'
      | none => none
    | .code (.opsc l keep) :: k => match xopsD P C l [] e m with
      | some (e', m') => if (xopsD P C (swapL l) [] e m).isSome && apartC e' l then xgo P X n k (keepOf keep e') m' else none
      | none => none

def xcall (P : Program) (X : FuncId → Option XDecl) (n : Nat) (f : FuncId) (args : List Value) (m : Mem) : Option (Value × Mem) :=
  match X f with
  | none => none
  | some (.known v) => if args.length = 0 then some (v, m) else none
  | some (.ext f) => if args.all plain then (ans P (callFunc f args.toArray)).bind fun nx => match nx with
      | .value v => if plain v then some (v, m) else none
      | _ => none
    else none
  | some (.code F) => if args.length = F.nargs then
      match xgo P X n [.code F.body] (initEnv 0 args) m with
      | none => none
      | some (e', m') => (xres e' m' F.res).bind fun vs => some (tup vs, m')
    else none
  | some (.ins F size) => match insG size args m with
    | some r => some r
    | none => if args.length = F.nargs then
      match xgo P X n [.code F.body] (initEnv 0 args) m with
      | none => none
      | some (e', m') => (xres e' m' F.res).bind fun vs => some (tup vs, m')
      else none
  | some (.codeD F) => if args.length = F.nargs then
      match xgo P X n [.code F.body] ((slotD, .nilFunc) :: initEnv 0 args) m with
      | none => none
      | some (e', m') => xfin X (fun c e m => xgo P X n [.code c] e m) F e' m'
    else none

end Go.Proofs.YtnlmnejellipdaaGreat.X
