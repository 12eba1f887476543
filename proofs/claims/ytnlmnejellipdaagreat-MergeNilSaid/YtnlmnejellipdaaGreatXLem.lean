/-
  Own work. More operations over data that is not known; what stays in memory; slices that are read.
-/
import Derived.Test.YtnlmnejellipdaaGreatXK
namespace Go.Proofs.YtnlmnejellipdaaGreat.X
open Go
set_option linter.unusedVariables false
set_option linter.unusedSimpArgs false

/-! ## Numbers -/
theorem wrap_i64 {n : Int} (h1 : -9223372036854775808 ≤ n) (h2 : n ≤ 9223372036854775807) : IntKind.i64.wrap n = n := by
  simp only [IntKind.wrap, IntKind.signed, IntKind.bits, Bool.true_and]
  split
  · rename_i h; simp at h; omega
  · rename_i h; simp at h; omega
theorem wrap_u64 {n : Int} (h1 : 0 ≤ n) (h2 : n ≤ 18446744073709551615) : IntKind.u64.wrap n = n := by
  simp only [IntKind.wrap, IntKind.signed, IntKind.bits, Bool.false_and]
  simp; omega

theorem asNat_nat {k : IntKind} {n : Nat} : asNat (.int k (n : Int)) = some n := by simp [asNat]
theorem asNat_zero {k : IntKind} : asNat (.int k 0) = some 0 := (rfl)
theorem asNat_one {k : IntKind} : asNat (.int k 1) = some 1 := (rfl)

/-! ## What stays -/
/-- Memory outside of S stays as it is. -/
structure Fm (S : Nat → Prop) (m m' : Mem) : Prop where
  next : m.next ≤ m'.next
  keep : ∀ i, i < m.next → ¬ S i → m'.get i = m.get i

section
variable {S S' : Nat → Prop} {m m1 m2 : Mem}
theorem Fm.refl : Fm S m m := ⟨Nat.le_refl _, fun _ _ _ => rfl⟩
theorem Fm.comp (h1 : Fm S m m1) (h2 : Fm S' m1 m2) (h : ∀ i, i < m.next → S' i → S i) : Fm S m m2 :=
  ⟨Nat.le_trans h1.next h2.next, fun i hi hs => by rw [h2.keep i (by have := h1.next; omega) (fun x => hs (h i hi x)), h1.keep i hi hs]⟩
theorem Fm.trans (h1 : Fm S m m1) (h2 : Fm S m1 m2) : Fm S m m2 := h1.comp h2 fun _ _ h => h
theorem Fm.mono (h1 : Fm S m m1) (h : ∀ i, i < m.next → S i → S' i) : Fm S' m m1 := ⟨h1.next, fun i hi hs => h1.keep i hi fun x => hs (h i hi x)⟩
theorem Fm.push {o : XObj} : Fm S m (m.push o) := ⟨Nat.le_succ _, fun i hi _ => by rw [Mem.get_push, if_neg (by omega)]⟩
theorem Fm.set {o : XObj} {i : Nat} (h : S i) : Fm S m (m.set i o) := ⟨Nat.le_refl _, fun j hj hs => by rw [Mem.get_set, if_neg (fun (q : i = j) => hs (q ▸ h))]⟩
theorem Fm.eraseAll {l : List Nat} (h : ∀ i ∈ l, S i) : Fm S m (m.eraseAll l) := ⟨by simp, fun j hj hs => by rw [Mem.get_eraseAll, if_neg (fun q => hs (h j q))]⟩
theorem Fm.get {i : Nat} {o : XObj} (h : Fm S m m1) (hi : i < m.next) (hs : ¬ S i) (hg : m.get i = some o) : m1.get i = some o := by rw [h.keep i hi hs, hg]
end

/-! ## Slices that are read -/
/-- A slice of rows of cells, whose memory is below b. -/
def RdS (b : Nat) (m : Mem) (size : Nat) (v : Value) (rows : List (List Value)) : Prop :=
  ∃ p c, v = .slice p rows.length c ∧ rows.length ≤ c ∧ ∀ i r, rows[i]? = some r → r.length = size ∧ ∃ a o, p = some a ∧ a.block < b ∧ m.get a.block = some o ∧ ∀ j, j < size → o.cells[a.off + i * size + j]? = r[j]?

section
variable {b : Nat} {S : Nat → Prop} {m m' : Mem} {size : Nat} {v : Value} {rows : List (List Value)}
theorem RdS.fr (h : RdS b m size v rows) (hf : Fm S m m') (hb : b ≤ m.next) (hs : ∀ i, S i → b ≤ i) : RdS b m' size v rows := by
  obtain ⟨p, c, rfl, hc, h⟩ := h
  refine ⟨p, c, rfl, hc, fun i r hr => ?_⟩
  obtain ⟨h1, a, o, h2, h3, h4, h5⟩ := h i r hr
  exact ⟨h1, a, o, h2, h3, hf.get (by omega) (fun x => by have := hs _ x; omega) h4, h5⟩
theorem RdS.nil {p : Option Addr} {c : Nat} : RdS b m size (.slice p 0 c) [] := ⟨p, c, rfl, Nat.zero_le _, fun i r h => by simp at h⟩
theorem RdS.slice (h : RdS b m size v rows) : ∃ p c, v = .slice p rows.length c := by
  obtain ⟨p, c, rfl, _, _⟩ := h; exact ⟨p, c, rfl⟩
end

section
variable {P : Program} {X : FuncId → Option XDecl} {e : Env} {m : Mem} {k : List XItem} {Q N : Post} {B : Nat → Post} {keep : Option (List Nat)} {x y z : Arg}

/-! ## Choices and guards that are not known -/
theorem goC_bool {t : Bool} {a b : XCode} : GoC P X (some (.bool t)) a b k e m Q N B = ((t = true → Go' P X (.code a :: k) e m Q N B) ∧ (t = false → Go' P X (.code b :: k) e m Q N B)) := (rfl)
theorem goG_bool {t : Bool} {d : Option Nat} {g : Option (Nat × Bool)} {i : XI} {l : List XOp} : GoG P X (some t) ⟨d, g, i⟩ l keep k e m Q N B = ((t = true → GoR P X (xi P e m i) d l keep k e m Q N B) ∧ (t = false → GoO P X l keep k (put d undef e) m Q N B)) := by
  cases t <;> simp [GoG, GoR]
theorem goG_dec {p : Prop} [Decidable p] {d : Option Nat} {g : Option (Nat × Bool)} {i : XI} {l : List XOp} : GoG P X (some (decide p)) ⟨d, g, i⟩ l keep k e m Q N B = ((p → GoR P X (xi P e m i) d l keep k e m Q N B) ∧ (¬ p → GoO P X l keep k (put d undef e) m Q N B)) := by
  by_cases h : p <;> simp [GoG, GoR, h]
theorem goG_ndec {p : Prop} [Decidable p] {d : Option Nat} {g : Option (Nat × Bool)} {i : XI} {l : List XOp} : GoG P X (some (!decide p)) ⟨d, g, i⟩ l keep k e m Q N B = ((p → GoO P X l keep k (put d undef e) m Q N B) ∧ (¬ p → GoR P X (xi P e m i) d l keep k e m Q N B)) := by
  by_cases h : p <;> simp [GoG, GoR, h]

/-! ## Operations -/
def indexAddrE (m : Mem) (size : Nat) : Value → Value → Option XR
  | .slice (some a) len _, vi => (asNat vi).bind fun j => if j < len then some (.val (.pointer (some ⟨a.block, a.off + j * size, none⟩)) m) else none
  | _, _ => none
theorem xi_indexAddr {size : Nat} : xi P e m (.indexAddr size x y) = (x.ev e).bind fun v => (y.ev e).bind fun vi => indexAddrE m size v vi := by
  simp only [xi]
  congr 1; funext v; congr 1; funext vi
  cases v with
  | slice p l c => cases p <;> rfl
  | _ => rfl
theorem indexAddr_at {size i len c : Nat} {a : Addr} {kd : IntKind} (h : i < len) : indexAddrE m size (.slice (some a) len c) (.int kd (i : Int)) = some (.val (.pointer (some ⟨a.block, a.off + i * size, none⟩)) m) := by
  simp [indexAddrE, asNat_nat, h]

theorem indexAddr_zero {size len c : Nat} {a : Addr} {kd : IntKind} (h : 0 < len) : indexAddrE m size (.slice (some a) len c) (.int kd 0) = some (.val (.pointer (some ⟨a.block, a.off, none⟩)) m) := by
  have := indexAddr_at (m := m) (size := size) (i := 0) (len := len) (c := c) (a := a) (kd := kd) h
  simpa using this

def sliceE (m : Mem) (size : Nat) (v : Value) (l h k : Option Value) : Option XR := match v with
    | .slice p len cap => (xbounds len cap l h k).bind fun b => (xsliceR m size p b.1 b.2.1 b.2.2 k.isSome).bind fun r => some (.val r m)
    | _ => none
theorem xi_slice {size : Nat} {lo hi mx : Option Arg} : xi P e m (.slice size x lo hi mx) = (x.ev e).bind fun v => (evO e lo).bind fun l => (evO e hi).bind fun h => (evO e mx).bind fun k => sliceE m size v l h k := (rfl)

def appendE (m : Mem) (size bytes : Nat) (zero : List Value) (vs vx : Value) : Option XR :=
  (xlen vx).bind fun n => (xfirst m size n vx).bind fun new =>
    if zero.length = size then (xappend m size bytes vs n new).bind fun (v, m') => some (.val v m') else none
theorem xi_append {size bytes : Nat} {zero : List Value} : xi P e m (.append size bytes zero x y) = (x.ev e).bind fun vs => (y.ev e).bind fun vx => appendE m size bytes zero vs vx := (rfl)

def clearE (m : Mem) (zero : List Value) (v : Value) : Option XR := match v with
    | .slice none _ _ => some (.val (.tuple #[]) m)
    | .slice (some a) n _ =>
      if n = 0 then some (.val (.tuple #[]) m) else
      if zero.length = 0 then none else
      (xstore m ⟨a.block, a.off, none⟩ (zerosOf zero n)).bind fun m' => some (.val (.tuple #[]) m')
    | _ => none
theorem xi_clear {zero : List Value} : xi P e m (.clear zero x) = (x.ev e).bind (clearE m zero) := (rfl)

theorem isNil_slice {p : Option Addr} {a b : Nat} {neg : Bool} : isNilE m .slice neg (.slice p a b) = some (.val (.bool (p.isNone != neg)) m) := (rfl)

def convE (P : Program) (src dst : TypeId) (m : Mem) (v : Value) : Option XR := if plain v then (ans P (convert src dst v)).bind fun r => if plain r then some (.val r m) else none else none
theorem xi_conv {src dst : TypeId} : xi P e m (.conv src dst x) = (x.ev e).bind (convE P src dst m) := (rfl)

theorem xi_alloc {zero : List Value} : xi P e m (.alloc zero) = some (.val (.pointer (some ⟨m.next, 0, none⟩)) (m.push { cells := zero, rw := true, spare := none, kin := [] })) := (rfl)
theorem box_agg {l : List Value} : boxE m (.agg ⟨l⟩) = some (.val (.pointer (some ⟨m.next, 0, none⟩)) (m.push { cells := l, rw := true, spare := none, kin := [] })) := (rfl)
theorem box_string {s : ByteArray} : boxE m (.string s) = some (.val (.pointer (some ⟨m.next, 0, none⟩)) (m.push { cells := [.string s], rw := true, spare := none, kin := [] })) := (rfl)
theorem box_bool {t : Bool} : boxE m (.bool t) = some (.val (.pointer (some ⟨m.next, 0, none⟩)) (m.push { cells := [.bool t], rw := true, spare := none, kin := [] })) := (rfl)

def buildSliceE (m : Mem) (zero : List Value) (size len : Nat) (vs : List (Nat × Value)) : Option XR :=
    if len * size ≤ 16777216 ∧ zero.length = size then
      (Instr.fill (fun i => some (i * size, size)) (zerosOf zero len).toArray vs).bind fun cs =>
      some (.val (.slice (some ⟨m.next, 0, none⟩) len len) (m.push { cells := cs.toList, rw := true, spare := none, kin := [] }))
    else none
theorem xi_buildSlice {zero : List Value} {size len : Nat} {ps : List (Nat × Arg)} : xi P e m (.buildSlice zero size len ps) = (xparts e ps).bind fun vs => buildSliceE m zero size len vs := (rfl)
theorem buildSlice_one {zero v : Value} (h : v.cells = #[v]) : buildSliceE m [zero] 1 1 [(0, v)] = some (.val (.slice (some ⟨m.next, 0, none⟩) 1 1) (m.push { cells := [v], rw := true, spare := none, kin := [] })) := by
  simp [buildSliceE, zerosOf, Instr.fill, h]

theorem xparts_nil : xparts e [] = some [] := (rfl)
theorem xparts_cons {i : Nat} {a : Arg} {r : List (Nat × Arg)} : xparts e ((i, a) :: r) = (a.ev e).bind fun v => if noTup v then (xparts e r).bind fun vs => some ((i, v) :: vs) else none := (rfl)
def buildE (m : Mem) (zero : List Value) (places : List (Nat × Nat)) (vs : List (Nat × Value)) : Option XR := (Instr.fill (places[·]?) zero.toArray vs).bind fun cs => some (.val (.agg cs) m)
theorem xi_build {zero : List Value} {places : List (Nat × Nat)} {ps : List (Nat × Arg)} : xi P e m (.build zero places ps) = (xparts e ps).bind fun vs => buildE m zero places vs := (rfl)

def fieldE (m : Mem) (agg : Bool) (off size : Nat) : Value → Option XR
  | .agg cs => match agg with
      | true => some (.val (.agg (cs.extract off (off + size))) m)
      | false => (cs[off]?).bind fun c => some (.val c m)
  | _ => none
theorem xi_field {agg : Bool} {off size : Nat} : xi P e m (.field agg off size x) = (x.ev e).bind (fieldE m agg off size) := (rfl)
theorem field_one {off size : Nat} {l : List Value} : fieldE m false off size (.agg ⟨l⟩) = (l[off]?).bind fun c => some (.val c m) := by simp [fieldE]

def lenS (m : Mem) : Value → Option XR := lenE m

def makeFuncE (m : Mem) (fn : Fn) (f c : List Value) : Option XR := if f.all noTup && c.all noTup then some (.val (.func fn f.toArray c.toArray) m) else none
theorem xi_makeFunc {fn : Fn} {a b : List Arg} : xi P e m (.makeFunc fn a b) = (evs e a).bind fun f => (evs e b).bind fun c => makeFuncE m fn f c := (rfl)
theorem makeFunc_nil {fn : Fn} : makeFuncE m fn [] [] = some (.val (.func fn #[] #[]) m) := (rfl)

/-! ## Operations whose order is drawn -/
end

section
variable (P : Program) (X : FuncId → Option XDecl)
def GoD (l : List (Nat × Nat × XOp)) (pend : List Pend) (keep : Option (List Nat)) (k : List XItem) (e : Env) (m : Mem) (Q N : Post) (B : Nat → Post) : Prop := wpD P X l pend e m fun e m => Go' P X k (keepOf keep e) m Q N B
def GoDV (c : Nat) (r : Option XR) (j pre : Nat) (i : XI) (d : Option Nat) (l : List (Nat × Nat × XOp)) (pend : List Pend) (keep : Option (List Nat)) (k : List XItem) (e : Env) (m : Mem) (Q N : Post) (B : Nat → Post) : Prop :=
  match c with
  | 0 => wpR P X r m fun v _ => GoD P X l pend keep k (put d v e) m Q N B
  | 1 => wpR P X r m fun v _ => GoD P X l (⟨j, e, i, v⟩ :: pend) keep k (put d v e) m Q N B
  | 2 => wpR P X r m fun v m' => GoD P X l pend keep k (put d v e) m' Q N B
  | _ => again P m pend = true ∧ wpR P X r m fun v m' => GoD P X l (pend.filter fun p => !pre.testBit p.j) keep k (put d v e) m' Q N B
def againE (v : Value) : Option XR → Bool
  | some (.val u _) => veq v u
  | _ => false
end

section
variable {P : Program} {X : FuncId → Option XDecl} {e : Env} {m : Mem} {k : List XItem} {Q N : Post} {B : Nat → Post} {keep : Option (List Nat)} {j pre : Nat} {d : Option Nat} {i : XI} {l : List (Nat × Nat × XOp)} {pend : List Pend} {v : Value} {m' : Mem}
theorem go_opsd : Go' P X (.code (.opsd l keep) :: k) e m Q N B = GoD P X l [] keep k e m Q N B := (rfl)
theorem goD_nil : GoD P X [] pend keep k e m Q N B = (again P m pend = true ∧ Go' P X k (keepOf keep e) m Q N B) := (rfl)
theorem goD_cons : GoD P X ((j, pre, ⟨d, none, i⟩) :: l) pend keep k e m Q N B = GoDV P X (cls i) (xi P e m i) j pre i d l pend keep k e m Q N B := by
  show wpD P X _ _ e m _ = _
  simp only [wpD, wantedX]
  unfold GoDV GoD
  generalize cls i = c
  rcases c with _ | _ | _ | c <;> rfl
theorem goDV0 : GoDV P X 0 (some (.val v m')) j pre i d l pend keep k e m Q N B = GoD P X l pend keep k (put d v e) m Q N B := (rfl)
theorem goDV1 : GoDV P X 1 (some (.val v m')) j pre i d l pend keep k e m Q N B = GoD P X l (⟨j, e, i, v⟩ :: pend) keep k (put d v e) m Q N B := (rfl)
theorem goDV2 : GoDV P X 2 (some (.val v m')) j pre i d l pend keep k e m Q N B = GoD P X l pend keep k (put d v e) m' Q N B := (rfl)
theorem goDV3 : GoDV P X 3 (some (.val v m')) j pre i d l pend keep k e m Q N B = (again P m pend = true ∧ GoD P X l (pend.filter fun p => !pre.testBit p.j) keep k (put d v e) m' Q N B) := (rfl)
theorem goDV3s : GoDV P X 3 (some (.skip m')) j pre i d l pend keep k e m Q N B = (again P m pend = true ∧ GoD P X l (pend.filter fun p => !pre.testBit p.j) keep k (put d undef e) m' Q N B) := (rfl)
theorem goDV3c {f : FuncId} {args : List Value} (h : CallX P X f args m v m') : GoDV P X 3 (some (.call f args)) j pre i d l pend keep k e m Q N B = (again P m pend = true ∧ GoD P X l (pend.filter fun p => !pre.testBit p.j) keep k (put d v e) m' Q N B) := by
  show (_ ∧ wpCall P X f args m _) = _
  rw [h.iff]
theorem again_nil : again P m [] = true := (rfl)
theorem again_cons {p : Pend} : again P m (p :: pend) = (againE p.v (xi P p.e m p.i) && again P m pend) := by
  simp only [again, List.all_cons]
  congr 1
theorem againE_val {u : Value} : againE v (some (.val u m')) = veq v u := (rfl)
theorem veqA_refl (a : Addr) : veqA a a = true := by
  obtain ⟨b, o, s⟩ := a
  cases s <;> simp [veqA]
theorem veq_int {kd : IntKind} {n : Int} : veq (.int kd n) (.int kd n) = true := by simp [veq, veqC]
theorem veq_slice {p : Option Addr} {n c : Nat} : veq (.slice p n c) (.slice p n c) = true := by
  cases p <;> simp [veq, veqC, veqA_refl]
theorem veq_ptr {p : Option Addr} : veq (.pointer p) (.pointer p) = true := by
  cases p <;> simp [veq, veqC, veqA_refl]
theorem veq_bool {t : Bool} : veq (.bool t) (.bool t) = true := by simp [veq, veqC]
theorem veq_string {s : ByteArray} : veq (.string s) (.string s) = true := by simp [veq, veqC]
end

/-! ## Guards there -/
section
variable (P : Program) (X : FuncId → Option XDecl)
def GoDG (g : Option Bool) (j pre : Nat) (i : XI) (d : Option Nat) (l : List (Nat × Nat × XOp)) (pend : List Pend) (keep : Option (List Nat)) (k : List XItem) (e : Env) (m : Mem) (Q N : Post) (B : Nat → Post) : Prop :=
  match g with
  | none => False
  | some true => GoDV P X (cls i) (xi P e m i) j pre i d l pend keep k e m Q N B
  | some false => if cls i = 3 then again P m pend = true ∧ GoD P X l (pend.filter fun p => !pre.testBit p.j) keep k (put d undef e) m Q N B else GoD P X l pend keep k (put d undef e) m Q N B
end
section
variable {P : Program} {X : FuncId → Option XDecl} {e : Env} {m : Mem} {k : List XItem} {Q N : Post} {B : Nat → Post} {keep : Option (List Nat)} {j pre c : Nat} {d : Option Nat} {i : XI} {l : List (Nat × Nat × XOp)} {pend : List Pend} {r : Option XR}
theorem goD_guard {s : Nat} {w : Bool} : GoD P X ((j, pre, ⟨d, some (s, w), i⟩) :: l) pend keep k e m Q N B = GoDG P X (wantedX e (some (s, w))) j pre i d l pend keep k e m Q N B := by
  show wpD P X _ _ e m _ = _
  simp only [wpD]
  unfold GoDG
  cases wantedX e (some (s, w)) with
  | none => rfl
  | some t =>
    cases t with
    | false => rfl
    | true =>
      simp only
      unfold GoDV GoD
      generalize cls i = c
      rcases c with _ | _ | _ | c <;> rfl
theorem goDG_true : GoDG P X (some true) j pre i d l pend keep k e m Q N B = GoDV P X (cls i) (xi P e m i) j pre i d l pend keep k e m Q N B := (rfl)
theorem goDG_false : GoDG P X (some false) j pre i d l pend keep k e m Q N B = if cls i = 3 then again P m pend = true ∧ GoD P X l (pend.filter fun p => !pre.testBit p.j) keep k (put d undef e) m Q N B else GoD P X l pend keep k (put d undef e) m Q N B := (rfl)
theorem veq_agg {a b : List Value} : veq (.agg ⟨a⟩) (.agg ⟨b⟩) = veqL a b := (rfl)
theorem veqL_nil : veqL [] [] = true := (rfl)
theorem veqL_cons {a b : Value} {x y : List Value} : veqL (a :: x) (b :: y) = (veqC a b && veqL x y) := (rfl)
theorem veqC_int {kd : IntKind} {n : Int} : veqC (.int kd n) (.int kd n) = true := by simp [veqC]
theorem veqC_bool {t : Bool} : veqC (.bool t) (.bool t) = true := by simp [veqC]
theorem veqC_string {s : ByteArray} : veqC (.string s) (.string s) = true := by simp [veqC]
theorem veqC_slice {p : Option Addr} {n c : Nat} : veqC (.slice p n c) (.slice p n c) = true := veq_slice
theorem veqC_ptr {p : Option Addr} : veqC (.pointer p) (.pointer p) = true := veq_ptr
theorem xload_cells {b off n : Nat} {o : XObj} {r : List Value} (hg : m.get b = some o) (hl : r.length = n) (hn : 0 < n) (h : ∀ j, j < n → o.cells[off + j]? = r[j]?) : xload m ⟨b, off, none⟩ n = some r := by
  subst hl
  have hle : off + r.length ≤ o.cells.length := by
    have h1 := h (r.length - 1) (by omega)
    rw [List.getElem?_eq_getElem (by omega : r.length - 1 < r.length)] at h1
    have := (List.getElem?_eq_some_iff.1 h1).1
    omega
  simp only [xload, hg, if_pos hle, Option.some.injEq]
  apply List.ext_getElem?
  intro j
  rw [List.getElem?_take]
  split
  · rename_i hj; rw [List.getElem?_drop, h j hj]
  · rename_i hj; rw [List.getElem?_eq_none (by omega)]
end

/-! ## Arguments -/
section
variable {H : Type} {P : Program}
theorem wf_struct {d : DataW H} {t : TypeId} {fs : Array Field} (hu : P.underlying t = some (.struct fs)) (h : wfD P d t) : ∃ xs, d = .agg xs ∧ wfEach P xs (fs.toList.map (·.type)) := by
  cases d with
  | lit l => cases l <;> simp [wfD, hu] at h
  | agg xs => simp only [wfD, hu] at h; exact ⟨xs, rfl, h⟩
  | _ => simp [wfD, hu] at h
theorem abs_struct {xs : List (DataW H)} {t : TypeId} {fs : Array Field} {m : Mem} (hu : P.underlying t = some (.struct fs)) : absD P (.agg xs) t m = absEach P xs (fs.toList.map (·.type)) m := by
  simp only [absD, hu]
theorem wf_ints {t : TypeId} {k : IntKind} (hu : P.underlying t = some (.int k)) : ∀ {es : List (DataW H)}, wfAll P es t → ∃ ns : List Int, es = ns.map (fun n => .lit (.int k n)) ∧ ∀ n ∈ ns, k.min ≤ n ∧ n ≤ k.max
  | [], _ => ⟨[], rfl, by simp⟩
  | d :: es, h => by
    simp only [wfAll] at h
    obtain ⟨n, rfl, h1⟩ := wf_int hu h.1
    obtain ⟨ns, rfl, h2⟩ := wf_ints hu h.2
    exact ⟨n :: ns, rfl, by simpa using ⟨h1, h2⟩⟩
theorem abs_ints {t : TypeId} {k : IntKind} {m : Mem} : ∀ ns : List Int, absAll P (ns.map (fun n => (.lit (.int k n) : DataW H))) t m = (ns.map (.int k ·), m)
  | [] => rfl
  | n :: ns => by simp only [List.map_cons, absAll, absD, litV, abs_ints ns]; rfl
/-- A slice of numbers as an argument. -/
theorem abs_slice_ints {d : DataW H} {t e : TypeId} {k : IntKind} {m : Mem} (hu : P.underlying t = some (.slice e)) (he : P.underlying e = some (.int k)) (h : wfD P d t) :
    ∃ (ns : List Int) (v : Value), (absD P d t m).1 = [v] ∧ (∀ n ∈ ns, k.min ≤ n ∧ n ≤ k.max) ∧ ns.length ≤ 9223372036854775807 ∧ Fm (fun _ => False) m (absD P d t m).2 ∧ RdS (absD P d t m).2.next (absD P d t m).2 1 v (ns.map fun n => [.int k n]) := by
  rcases wf_slice hu h with rfl | ⟨es, sp, rfl, hl, h1, h2⟩
  · exact ⟨[], .slice none 0 0, by simp only [absD], by simp, by simp, by simp only [absD]; exact .refl, .nil⟩
  · obtain ⟨ns, rfl, hn⟩ := wf_ints he h1
    obtain ⟨ms, rfl, hm⟩ := wf_ints he h2
    simp only [absD, hu]
    split
    · rename_i h0
      have : ns = [] := by cases ns <;> simp_all
      subst this
      exact ⟨[], _, rfl, by simp, by simp, .refl, .nil⟩
    · refine ⟨ns, _, rfl, hn, by simp at hl; omega, ?_, ?_⟩
      · simp only [abs_ints]; exact .push
      · simp only [abs_ints]
        refine ⟨some ⟨m.next, 0, none⟩, ns.length + ms.length, by simp, by simp, fun i r hr => ?_⟩
        simp only [List.getElem?_map, Option.map_eq_some_iff] at hr
        obtain ⟨n, hr, rfl⟩ := hr
        refine ⟨rfl, _, { cells := ns.map (.int k ·) ++ ms.map (.int k ·), rw := false, spare := none, kin := [] }, rfl, by simp, by simp [Mem.get_push], fun j hj => ?_⟩
        have : j = 0 := by omega
        subst this
        obtain ⟨hi, hr⟩ := List.getElem?_eq_some_iff.1 hr
        simp [List.getElem?_append, hi, hr]
/-- Types without slices. -/
def flatT (P : Program) : Nat → TypeId → Bool
  | 0, _ => false
  | n + 1, t =>
    match P.underlying t with
    | some .bool | some (.int _) | some (.float _) | some .string => true
    | some (.struct fs) => fs.toList.all (fun f => flatT P n f.type)
    | some (.array k e) => flatT P n e
    | _ => false
theorem flat_all {e : TypeId} (ih : ∀ (d : DataW H) (m : Mem), wfD P d e → (absD P d e m).2 = m) : ∀ (l : List (DataW H)) (m : Mem), wfAll P l e → (absAll P l e m).2 = m
  | [], m, h => rfl
  | d :: l, m, h => by
    simp only [wfAll] at h
    simp only [absAll]
    rw [ih d m h.1]
    exact flat_all ih l m h.2
theorem flat_each : ∀ (ts : List TypeId) (ih : ∀ t ∈ ts, ∀ (d : DataW H) (m : Mem), wfD P d t → (absD P d t m).2 = m) (l : List (DataW H)) (m : Mem), wfEach P l ts → (absEach P l ts m).2 = m
  | [], ih, [], m, h => rfl
  | [], ih, _ :: _, m, h => by simp [wfEach] at h
  | _ :: _, ih, [], m, h => by simp [wfEach] at h
  | t :: ts, ih, d :: l, m, h => by
    simp only [wfEach] at h
    simp only [absEach]
    rw [ih t (by simp) d m h.1]
    exact flat_each ts (fun u hu => ih u (by simp [hu])) l m h.2
theorem flat_mem : ∀ (k : Nat) (t : TypeId), flatT P k t = true → ∀ (d : DataW H) (m : Mem), wfD P d t → (absD P d t m).2 = m
  | 0, t, hk, d, m, h => by simp [flatT] at hk
  | k + 1, t, hk, d, m, h => by
    unfold flatT at hk
    cases d with
    | lit l => rfl
    | nil => rfl
    | slice es sp =>
      unfold wfD at h
      split at h
      · rename_i e hu; rw [hu] at hk; simp at hk
      · exact h.elim
    | agg ps =>
      unfold wfD at h
      split at h
      · rename_i fs hu
        rw [hu] at hk
        simp only [absD, hu]
        refine flat_each _ (fun u hu' => ?_) ps m h
        obtain ⟨f, hf, rfl⟩ := List.mem_map.1 hu'
        exact flat_mem k f.type (List.all_eq_true.1 hk f hf)
      · rename_i n e hu
        rw [hu] at hk
        simp only [absD, hu]
        exact flat_all (flat_mem k e hk) ps m h.2
      · exact h.elim
    | ptr _ => simp [wfD] at h
    | iface _ _ => simp [wfD] at h
    | map _ => simp [wfD] at h
    | held _ => simp [wfD] at h
/-- A slice of such as an argument: no memory, or one row. -/
theorem flat_slice {d : DataW H} {t e : TypeId} {k : Nat} {m : Mem} (hu : P.underlying t = some (.slice e)) (hk : flatT P k e = true) (h : wfD P d t) :
    absD P d t m = ([.slice none 0 0], m) ∨ absD P d t m = ([.slice (some ⟨0, 0, some 1⟩) 0 0], m) ∨ ∃ n c o, absD P d t m = ([.slice (some ⟨m.next, 0, none⟩) n c], m.push o) := by
  rcases wf_slice hu h with rfl | ⟨es, sp, rfl, hl, h1, h2⟩
  · exact .inl rfl
  · have e1 := flat_all (flat_mem k e hk) es m h1
    have e2 := flat_all (flat_mem k e hk) sp m h2
    right
    simp only [absD, hu]
    split
    · exact .inl rfl
    · rw [e1, e2]
      exact .inr ⟨_, _, _, rfl⟩
end
end Go.Proofs.YtnlmnejellipdaaGreat.X
