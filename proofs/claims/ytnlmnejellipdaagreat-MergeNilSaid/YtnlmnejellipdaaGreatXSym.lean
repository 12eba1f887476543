/-
  Own work. Single operations over data that is not known.
-/
import Derived.Test.YtnlmnejellipdaaGreatXWp
namespace Go.Proofs.YtnlmnejellipdaaGreat.X
open Go
set_option linter.unusedVariables false
set_option linter.unusedSimpArgs false

section
variable {P : Program} {X : FuncId → Option XDecl} {e : Env} {m : Mem}

/-! ## Numbers -/
theorem eqb_t {b : Bool} : (b == true) = b := by cases b <;> rfl
theorem eqb_f {b : Bool} : (b == false) = !b := by cases b <;> rfl

def intR (op : BinOp) (k : IntKind) (a b : Int) : Option Value :=
  match op with
  | .add => some (.int k (k.wrap (a + b)))
  | .sub => some (.int k (k.wrap (a - b)))
  | .mul => some (.int k (k.wrap (a * b)))
  | .quo => if b = 0 then none else some (.int k (k.wrap (a.tdiv b)))
  | .rem => if b = 0 then none else some (.int k (a.tmod b))
  | .eql => some (.bool (a == b))
  | .neq => some (.bool (a != b))
  | .lss => some (.bool (decide (a < b)))
  | .leq => some (.bool (decide (a ≤ b)))
  | .gtr => some (.bool (decide (b < a)))
  | .geq => some (.bool (decide (b ≤ a)))
  | _ => none

theorem ans_int {op : BinOp} {t : TypeId} {k : IntKind} {a b : Int} {r : Value} (h : intR op k a b = some r) :
    ans P (do eqGuard op t (.const (.int k a)) (.const (.int k b)) (.int k a) (.int k b); binOp op t (.int k a) (.int k b)) = some r := by
  rw [ans_bind]
  have hg : ans P (eqGuard op t (.const (.int k a)) (.const (.int k b)) (.int k a) (.int k b)) = some () := by
    unfold eqGuard
    cases op <;> rfl
  rw [hg]
  cases op <;> simp only [intR] at h
  all_goals first
    | (simp only [Option.some.injEq] at h; subst h; simp [binOp, Op.intArith, Op.intCmp, Op.intDiv, ans_pure]; done)
    | (split at h
       · cases h
       · rename_i hb
         simp only [Option.some.injEq] at h; subst h
         simp [binOp, Op.intDiv, hb, ans_pure]; done)
    | (cases h; done)

/-- What an operation on two values comes to. -/
def binE (P : Program) (op : BinOp) (t : TypeId) (vx vy : Value) (m : Mem) : Option XR :=
  if plain vx && plain vy then (ans P (do eqGuard op t (.const vx) (.const vy) vx vy; binOp op t vx vy)).bind fun v => if plain v then some (.val v m) else none
  else none
theorem binE_int {op : BinOp} {t : TypeId} {k : IntKind} {a b : Int} {r : Value} (h : intR op k a b = some r) : binE P op t (.int k a) (.int k b) m = some (.val r m) := by
  have hr : plain r = true := by
    cases op <;> simp only [intR] at h
    all_goals first
      | (simp only [Option.some.injEq] at h; subst h; rfl)
      | (split at h
         · cases h
         · simp only [Option.some.injEq] at h; subst h; rfl)
      | (cases h; done)
  unfold binE
  rw [if_pos (by rfl), ans_int h]
  simp only [Option.bind_some, if_pos hr]

section
variable {t : TypeId} {k : IntKind} {a b : Int}
theorem bin_add : binE P .add t (.int k a) (.int k b) m = some (.val (.int k (k.wrap (a + b))) m) := binE_int rfl
theorem bin_sub : binE P .sub t (.int k a) (.int k b) m = some (.val (.int k (k.wrap (a - b))) m) := binE_int rfl
theorem bin_mul : binE P .mul t (.int k a) (.int k b) m = some (.val (.int k (k.wrap (a * b))) m) := binE_int rfl
theorem bin_eql : binE P .eql t (.int k a) (.int k b) m = some (.val (.bool (decide (a = b))) m) := by
  have h : (a == b) = decide (a = b) := by by_cases h : a = b <;> simp [h]
  rw [← h]; exact binE_int rfl
theorem bin_neq : binE P .neq t (.int k a) (.int k b) m = some (.val (.bool (decide (a ≠ b))) m) := by
  have h : (a != b) = decide (a ≠ b) := by by_cases h : a = b <;> simp [h]
  rw [← h]; exact binE_int rfl
theorem bin_lss : binE P .lss t (.int k a) (.int k b) m = some (.val (.bool (decide (a < b))) m) := binE_int rfl
theorem bin_leq : binE P .leq t (.int k a) (.int k b) m = some (.val (.bool (decide (a ≤ b))) m) := binE_int rfl
theorem bin_gtr : binE P .gtr t (.int k a) (.int k b) m = some (.val (.bool (decide (b < a))) m) := binE_int rfl
theorem bin_geq : binE P .geq t (.int k a) (.int k b) m = some (.val (.bool (decide (b ≤ a))) m) := binE_int rfl
theorem bin_quo (hb : b ≠ 0) : binE P .quo t (.int k a) (.int k b) m = some (.val (.int k (k.wrap (a.tdiv b))) m) := binE_int (by simp [intR, hb])
theorem bin_rem (hb : b ≠ 0) : binE P .rem t (.int k a) (.int k b) m = some (.val (.int k (a.tmod b)) m) := binE_int (by simp [intR, hb])
end

/-! ## Operations -/
section
variable {x y z : Arg}
theorem xi_move : xi P e m (.move x) = (x.ev e).bind fun v => some (.val v m) := (rfl)
def pickE (m : Mem) : Value → Value → Value → Option XR
  | .bool t, va, vb => some (.val (bif t then va else vb) m)
  | _, _, _ => none
theorem xi_pick : xi P e m (.pick x y z) = (x.ev e).bind fun c => (y.ev e).bind fun a => (z.ev e).bind fun b => pickE m c a b := by
  simp only [xi]
  congr 1; funext c; congr 1; funext a; congr 1; funext b
  cases c <;> rfl
theorem pick_bool {t : Bool} {va vb : Value} : pickE m (.bool t) va vb = some (.val (bif t then va else vb) m) := (rfl)
theorem xi_bin {op : BinOp} {t : TypeId} : xi P e m (.bin op t x y) = (x.ev e).bind fun vx => (y.ev e).bind fun vy => binE P op t vx vy m := (rfl)

def ldE (m : Mem) : Value → Option XR
  | .pointer (some a) => match a.spot with
    | some _ => none
    | none => (m.get a.block).bind fun o => (o.cells[a.off]?).map fun v => .val v m
  | _ => none
theorem xi_load1 : xi P e m (.load false 1 x) = (x.ev e).bind (ldE m) := by
  simp only [xi]
  congr 1
  funext v
  cases v with
  | pointer p => cases p with
    | none => rfl
    | some a =>
      simp only [ldE, xload]
      cases a.spot with
      | some _ => rfl
      | none =>
        simp only
        cases hg : m.get a.block with
        | none => rfl
        | some o =>
          simp only [Option.bind_some]
          by_cases hl : a.off + 1 ≤ o.cells.length
          · rw [if_pos hl]
            have hlt : a.off < o.cells.length := hl
            have : (o.cells.drop a.off).take 1 = [o.cells[a.off]] := by
              rw [List.drop_eq_getElem_cons hlt]; rfl
            rw [this, List.getElem?_eq_getElem hlt]; rfl
          · rw [if_neg hl, List.getElem?_eq_none (by omega)]; rfl
  | _ => rfl
theorem ld_ptr {b off : Nat} : ldE m (.pointer (some ⟨b, off, none⟩)) = (m.get b).bind fun o => (o.cells[off]?).map fun v => .val v m := (rfl)

def ldA (m : Mem) (n : Nat) : Value → Option XR
  | .pointer (some a) => (xload m a n).map fun cs => .val (.agg cs.toArray) m
  | _ => none
theorem xi_loadA {n : Nat} : xi P e m (.load true n x) = (x.ev e).bind (ldA m n) := by
  simp only [xi]
  congr 1
  funext v
  cases v with
  | pointer p => cases p with
    | none => rfl
    | some a => simp only [ldA]; cases xload m a n <;> rfl
  | _ => rfl

def nilCheckE (m : Mem) (v : Value) : Option XR := match v with
    | .pointer (some _) => some (.val v m)
    | .func (.func _) _ _ => some (.val v m)
    | .iface _ _ => some (.val v m)
    | _ => none
theorem xi_nilCheck : xi P e m (.nilCheck x) = (x.ev e).bind (nilCheckE m) := (rfl)
theorem nilCheck_ptr {a : Addr} : nilCheckE m (.pointer (some a)) = some (.val (.pointer (some a)) m) := (rfl)

def fieldAddrE (m : Mem) (off : Nat) : Value → Option XR
  | .pointer (some a) => if a.spot.isNone then some (.val (.pointer (some ⟨a.block, a.off + off, none⟩)) m) else none
  | _ => none
theorem xi_fieldAddr {off : Nat} : xi P e m (.fieldAddr off x) = (x.ev e).bind (fieldAddrE m off) := (rfl)
theorem fieldAddr_ptr {b o off : Nat} : fieldAddrE m off (.pointer (some ⟨b, o, none⟩)) = some (.val (.pointer (some ⟨b, o + off, none⟩)) m) := (rfl)

def isNilE (m : Mem) (k : NK) (neg : Bool) (v : Value) : Option XR := match k, v with
    | .ptr, .pointer p => some (.val (.bool (p.isNone != neg)) m)
    | .slice, .slice p _ _ => some (.val (.bool (p.isNone != neg)) m)
    | .map, .map p => some (.val (.bool (p.isNone != neg)) m)
    | .func, .nilFunc => some (.val (.bool (!neg)) m)
    | .func, .func _ _ _ => some (.val (.bool neg) m)
    | .iface, .nilIface => some (.val (.bool (!neg)) m)
    | .iface, .iface _ _ => some (.val (.bool neg) m)
    | _, _ => none
theorem xi_isNil {k : NK} {neg : Bool} : xi P e m (.isNil k neg x) = (x.ev e).bind (isNilE m k neg) := (rfl)
theorem isNil_some {a : Addr} {neg : Bool} : isNilE m .ptr neg (.pointer (some a)) = some (.val (.bool (false != neg)) m) := (rfl)
theorem isNil_none {neg : Bool} : isNilE m .ptr neg (.pointer none) = some (.val (.bool (true != neg)) m) := (rfl)

def extractE (m : Mem) (i : Nat) : Value → Option XR
  | .tuple vs => (vs[i]?).bind fun v => some (.val v m)
  | _ => none
theorem xi_extract {i : Nat} : xi P e m (.extract x i) = (x.ev e).bind (extractE m i) := (rfl)
theorem extract_tuple {i : Nat} {l : List Value} : extractE m i (.tuple ⟨l⟩) = (l[i]?).bind fun v => some (.val v m) := by simp [extractE]

def callE : Value → List Value → Option XR
  | .func (.func f) first captured, vs => some (.call f (first.toList ++ vs ++ captured.toList))
  | _, _ => none
theorem xi_call {as : List Arg} : xi P e m (.call x as) = (x.ev e).bind fun vf => (evs e as).bind fun vs => callE vf vs := by
  simp only [xi]
  congr 1; funext vf; congr 1; funext vs
  cases vf with
  | func fn f c => cases fn <;> rfl
  | _ => rfl
theorem call_func {f : FuncId} {vs : List Value} : callE (.func (.func f) #[] #[]) vs = some (.call f vs) := by simp [callE]

def lenE (m : Mem) : Value → Option XR
  | .slice _ n _ => some (.val (goInt n) m)
  | _ => none
theorem xi_len : xi P e m (.len x) = (x.ev e).bind (lenE m) := (rfl)
theorem len_slice {p : Option Addr} {n c : Nat} : lenE m (.slice p n c) = some (.val (goInt n) m) := (rfl)

def unE (P : Program) (op : UnOp) (m : Mem) (v : Value) : Option XR := if plain v then (ans P (Op.unary op v)).bind fun r => if plain r then some (.val r m) else none else none
theorem xi_un {op : UnOp} : xi P e m (.un op x) = (x.ev e).bind (unE P op m) := (rfl)
theorem un_not {b : Bool} : unE P .not m (.bool b) = some (.val (.bool (!b)) m) := (rfl)

def storeE (m : Mem) (size : Nat) (va vx : Value) : Option XR := match va with
    | .pointer (some a) =>
      if vx.cells.size = size ∧ noTup vx = true then
        if size = 0 then some (.skip m) else (xstore m a vx.cells.toList).bind fun m' => some (.skip m')
      else none
    | _ => none
theorem xi_store {n : Nat} : xi P e m (.store n x y) = (x.ev e).bind fun va => (y.ev e).bind fun vx => storeE m n va vx := (rfl)
/-- A store of one cell into a row that nothing else lies in. -/
def put1 (m : Mem) (b off : Nat) (o : XObj) (v : Value) : Mem := m.set b { o with cells := o.cells.set off v }
theorem store1 {b off : Nat} {v : Value} {o : XObj} (hg : m.get b = some o) (hrw : o.rw = true) (hk : o.kin = []) (hl : off < o.cells.length) (h1 : v.cells = #[v]) (h2 : noTup v = true) :
    storeE m 1 (.pointer (some ⟨b, off, none⟩)) v = some (.skip (put1 m b off o v)) := by
  obtain ⟨cells, rw_, sp, kin⟩ := o
  simp only at hrw hk hl
  subst hrw hk
  have hl' : off + 1 ≤ cells.length := hl
  simp only [storeE, h1, h2, xstore, hg]
  simp [hl', put1, setAll, Mem.eraseAll]

def calcE (P : Program) (b : Builtin) (ts : List TypeId) (t : TypeId) (n : List Bool) (vs : List Value) (m : Mem) : Option XR :=
    if vs.all plain then (ans P (builtin b ts.toArray t n.toArray vs.toArray)).bind fun nx => match nx with
      | .value v => if plain v then some (.val v m) else none
      | _ => none
    else none
theorem xi_calcB {b : Builtin} {ts : List TypeId} {t : TypeId} {as : List Arg} : xi P e m (.calcB b ts t as) = (evs e as).bind fun vs => calcE P b ts t (as.map fun _ => false) vs m := (rfl)
theorem calc_max {ts : List TypeId} {t : TypeId} {n : List Bool} {k : IntKind} {a b : Int} : calcE P .max ts t n [.int k a, .int k b] m = some (.val (.int k (max a b)) m) := by
  have : (if b > a then b else a) = max a b := by omega
  simp [calcE, plain, plainV, builtin, Builtin.max_, Builtin.max2, ans_bind, ans_pure, this]
theorem calc_min {ts : List TypeId} {t : TypeId} {n : List Bool} {k : IntKind} {a b : Int} : calcE P .min ts t n [.int k a, .int k b] m = some (.val (.int k (min a b)) m) := by
  have : (if b < a then b else a) = min a b := by omega
  simp [calcE, plain, plainV, builtin, Builtin.min_, Builtin.min2, ans_bind, ans_pure, this]

def boxE (m : Mem) (v : Value) : Option XR := if noTup v then some (.val (xbox m v.cells.toList).1 (xbox m v.cells.toList).2) else none
theorem xi_box : xi P e m (.box x) = (x.ev e).bind (boxE m) := (rfl)
theorem box_int {k : IntKind} {n : Int} : boxE m (.int k n) = some (.val (.pointer (some ⟨m.next, 0, none⟩)) (m.push { cells := [.int k n], rw := true, spare := none, kin := [] })) := (rfl)
theorem box_ptr {p : Option Addr} : boxE m (.pointer p) = some (.val (.pointer (some ⟨m.next, 0, none⟩)) (m.push { cells := [.pointer p], rw := true, spare := none, kin := [] })) := (rfl)
theorem box_slice {p : Option Addr} {a b : Nat} : boxE m (.slice p a b) = some (.val (.pointer (some ⟨m.next, 0, none⟩)) (m.push { cells := [.slice p a b], rw := true, spare := none, kin := [] })) := (rfl)
theorem push_self {o : XObj} : (m.push o).get m.next = some o := by simp [Mem.get_push]
theorem push_two {o o' : XObj} : ((m.push o).push o').get m.next = some o := by simp [Mem.get_push]
end

end
end Go.Proofs.YtnlmnejellipdaaGreat.X
