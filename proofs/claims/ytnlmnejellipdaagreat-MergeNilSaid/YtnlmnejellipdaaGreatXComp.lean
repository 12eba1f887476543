/-
  Own work. From the model's code to the abstract run's code: sizes and places are looked up once.
-/
import Derived.Test.YtnlmnejellipdaaGreatXCore
namespace Go.Proofs.YtnlmnejellipdaaGreat.X
open Go

def argOf (N : Nat) : Operand → Option Arg
  | .tmp t => if t < N then some (.t t) else none
  | .const v => match v with
    | .nilIface => some (.c .nilIface)
    | v => if plain v then some (.c v) else none
  | .func f => some (.c (.func (.func f) #[] #[]))
  | .global _ => none

def argsOf (N : Nat) : List Operand → Option (List Arg)
  | [] => some []
  | x :: r => (argOf N x).bind fun a => (argsOf N r).bind fun as => some (a :: as)

def partsOf (N : Nat) : List (Nat × Operand) → Option (List (Nat × Arg))
  | [] => some []
  | (i, x) :: r => (argOf N x).bind fun a => (partsOf N r).bind fun as => some ((i, a) :: as)

def argO (N : Nat) : Option Operand → Option (Option Arg)
  | none => some none
  | some x => (argOf N x).bind fun a => some (some a)

def sizeP (P : Program) (t : TypeId) : Option Nat := (P.info? t).map (·.size)
def bytesP (P : Program) (t : TypeId) : Option Nat := (P.info? t).map (·.bytes)
def zeroP (P : Program) (t : TypeId) : Option (List Value) :=
  (P.info? t).bind fun i => i.zero.bind fun z => if z.cells.toList.all flatV && z.cells.size == i.size then some z.cells.toList else none
def aggP (P : Program) (t : TypeId) : Option Bool :=
  match P.underlying t with
  | some (.struct _) => some true
  | some (.array _ _) => some true
  | some _ => some false
  | none => none
def elemP (P : Program) (t : TypeId) : Option TypeId :=
  match P.underlying t with
  | some (.slice e) => some e
  | _ => none

def nilKind (P : Program) (t : TypeId) : Operand → Option NK
  | .const (.pointer none) => match P.underlying t with | some (.pointer _) => some .ptr | _ => none
  | .const (.slice none 0 0) => match P.underlying t with | some (.slice _) => some .slice | _ => none
  | .const (.map none) => match P.underlying t with | some (.map _ _) => some .map | _ => none
  | .const .nilFunc => match P.underlying t with | some (.func _ _ _) => some .func | _ => none
  | .const .nilIface => match P.underlying t with | some (.interface _) => some .iface | _ => none
  | _ => none

def placesP (P : Program) : List Field → Option (List (Nat × Nat))
  | [] => some []
  | f :: r => (sizeP P f.type).bind fun s => (placesP P r).bind fun l => some ((f.offset, s) :: l)

/-- Keys of maps: numbers, or texts. -/
def mapP (P : Program) (t : TypeId) : Option (Bool × TypeId) :=
  match P.underlying t with
  | some (.map k e) => match P.underlying k with
    | some (.int _) => some (true, e)
    | some .string => some (false, e)
    | _ => none
  | _ => none
def zeroV (P : Program) (t : TypeId) : Option Value := (P.info? t).bind fun i => i.zero.bind fun z => if plain z && noTup z then some z else none
/-- A method's function for each type that has it on itself. -/
def invTab (P : Program) (name : String) : List (TypeId × FuncId) :=
  (List.range P.types.size).filterMap fun t => (P.info? t).bind fun i => (i.methods.find? (·.name == name)).bind fun m =>
    if m.path.isEmpty then match m.func, P.underlying t with
      | some (_, false), some (.pointer _) => none
      | some (f, false), some _ => some (t, f)
      | _, _ => none
    else none

/-! ## Deferred calls that do nothing where nothing panics -/
/-- Slots of code that only asks what 'recover' answers, where nothing panics. -/
def qop (P : Program) (N : Nat) (o : Oper) (e : Env) : Option Env :=
  if o.guard.isSome then none else
  match o.dst with
  | none => none
  | some d => if N ≤ d then none else match o.op with
    | .call c => match c.callee with
      | .builtin .recover => if c.args.isEmpty then some ((d, .nilIface) :: e) else none
      | _ => none
    | .move (.tmp t) | .assign (.tmp t) => match look e t with
      | some .nilIface => some ((d, .nilIface) :: e)
      | _ => none
    | .binOp op ty (.tmp t) (.const .nilIface) _ => match P.underlying ty, look e t with
      | some (.interface _), some .nilIface => match op with
        | .eql => some ((d, .bool true) :: e)
        | .neq => some ((d, .bool false) :: e)
        | _ => none
      | _, _ => none
    | _ => none
def qops (P : Program) (N : Nat) : List Oper → Env → Option Env
  | [], e => some e
  | o :: l, e => (qop P N o e).bind (qops P N l)
def qcode (P : Program) (N : Nat) : Code → Env → Option Env
  | .skip, e => some e
  | .region _ ops false, e => qops P N ops.toList e
  | .seq a b, e => (qcode P N a e).bind (qcode P N b)
  | .block _ c, e => qcode P N c e
  | .cond (.tmp t) a b, e => match look e t with
    | some (.bool true) => qcode P N a e
    | some (.bool false) => qcode P N b e
    | _ => none
  | _, _ => none
/-- Does the function nothing, called where nothing panics? -/
def caughtB (P : Program) (f : FuncId) : Bool :=
  match P.funcs[f]? with
  | some fn => match fn.body with
    | some c => fn.results.isEmpty && !(fn.name == "runtime.NumGoroutine") && (qcode P fn.ntmps c []).isSome
    | none => false
  | none => false

def callP (P : Program) (N : Nat) (type : TypeId) (c : Call) : Option XI :=
  match c.callee with
  | .value f => (argOf N f).bind fun f => (argsOf N c.args.toList).bind fun as => some (.call f as)
  | .invoke x name => (argOf N x).bind fun x => (argsOf N c.args.toList).map fun as => .invoke (invTab P name) x as
  | .builtin b => (argsOf N c.args.toList).bind fun as => match b, as, c.argTypes.toList with
    | .append, [s, x], [t, u] => (elemP P t).bind fun e => (sizeP P e).bind fun size => (bytesP P e).bind fun bytes => (zeroP P e).bind fun zero =>
      match P.underlying u with
      | some (.int _) => some (.appendZeros size bytes zero s x)
      | some (.slice _) | some .string => some (.append size bytes zero s x)
      | _ => none
    | .copy, [d, s], t :: _ => (elemP P t).bind fun e => (sizeP P e).bind fun size => some (.copy size d s)
    | .clear, [x], t :: _ => match P.underlying t with
      | some (.map _ _) => some (.mapClear x)
      | _ => (elemP P t).bind fun e => (zeroP P e).bind fun zero => some (.clear zero x)
    | .delete, [x, k], t :: _ => (mapP P t).map fun p => .mapDel p.1 x k
    | .len, [x], t :: _ => match P.underlying t with
      | some (.map _ _) => some (.mapLen x)
      | some (.slice _) => some (.len x)
      | some .string => some (.calcB .len c.argTypes.toList type as)
      | _ => none
    | .cap, [x], t :: _ => match P.underlying t with
      | some (.slice _) => some (.cap x)
      | _ => none
    | .max, _, _ => some (.calcB .max c.argTypes.toList type as)
    | .min, _, _ => some (.calcB .min c.argTypes.toList type as)
    | .panic, _, _ => some .fail
    | _, _, _ => none

def bytesToStr (P : Program) (s d : TypeId) : Bool :=
  match P.underlying s, P.underlying d with
  | some (.slice e), some .string => (match P.underlying e with | some (.int .u8) => true | _ => false)
  | _, _ => false

def opP0 (P : Program) (N : Nat) (o : Oper) : Option XI :=
  match o.op with
  | .move x | .assign x => (argOf N x).map .move
  | .pick c a b => (argOf N c).bind fun c => (argOf N a).bind fun a => (argOf N b).map fun b => .pick c a b
  | .alloc t => (zeroP P t).map .alloc
  | .box _ x => (argOf N x).map .box
  | .build t parts => (zeroP P t).bind fun z => (partsOf N parts.toList).bind fun ps => match P.underlying t with
    | some (.struct fs) => (placesP P fs.toList).map fun pl => .build z pl ps
    | some (.array _ e) => (sizeP P e).map fun s => .buildArr z s ps
    | _ => none
  | .buildSlice t len parts => (elemP P t).bind fun e => (zeroP P e).bind fun z => (sizeP P e).bind fun s => (partsOf N parts.toList).map fun ps => .buildSlice z s len ps
  | .load t a => (argOf N a).bind fun a => (aggP P t).bind fun g => match g with
    | true => (sizeP P t).map fun s => .load true s a
    | false => some (.load false 1 a)
  | .store t a x => (argOf N a).bind fun a => (argOf N x).bind fun x => (sizeP P t).map fun s => .store s a x
  | .nilCheck x => (argOf N x).map .nilCheck
  | .binOp op t x y _ => match op with
    | .eql => match nilKind P t y with
      | some k => (argOf N x).map (.isNil k false)
      | none => (argOf N x).bind fun x => (argOf N y).map fun y => .bin .eql t x y
    | .neq => match nilKind P t y with
      | some k => (argOf N x).map (.isNil k true)
      | none => (argOf N x).bind fun x => (argOf N y).map fun y => .bin .neq t x y
    | op => (argOf N x).bind fun x => (argOf N y).map fun y => .bin op t x y
  | .unOp op _ x => (argOf N x).map fun x => .un op x
  | .convert s d x => (argOf N x).map fun x => bif bytesToStr P s d then .bstr x else .conv s d x
  | .fieldAddr t x f => (argOf N x).bind fun x => match P.underlying t with
    | some (.struct fs) => (fs[f]?).bind fun fd => (sizeP P fd.type).bind fun s => if s = 0 then none else some (.fieldAddr fd.offset x)
    | _ => none
  | .field t x f => (argOf N x).bind fun x => match P.underlying t with
    | some (.struct fs) => (fs[f]?).bind fun fd => (aggP P fd.type).bind fun g => (sizeP P fd.type).map fun s => .field g fd.offset s x
    | _ => none
  | .indexAddr t x i => (argOf N x).bind fun x => (argOf N i).bind fun i => match P.underlying t with
    | some (.slice e) => (sizeP P e).map fun s => .indexAddr s x i
    | some (.array n e) => (sizeP P e).map fun s => .indexAddrArr n s x i
    | _ => none
  | .index t x i => (argOf N x).bind fun x => (argOf N i).map fun i => .index t x i
  | .slice t x lo hi mx => (argOf N x).bind fun x => (argO N lo).bind fun lo => (argO N hi).bind fun hi => (argO N mx).bind fun mx => match P.underlying t with
    | some (.slice e) => (sizeP P e).map fun s => .slice s x lo hi mx
    | some .string => match mx with
      | none => some (.substr t x lo hi)
      | some _ => none
    | some (.array n el) => match lo, hi, mx with
      | none, none, none => (sizeP P el).map fun _ => .arrSlice n x
      | _, _, _ => none
    | _ => none
  | .makeSlice t l c => (argOf N l).bind fun l => (argOf N c).bind fun c => (elemP P t).bind fun e => (zeroP P e).bind fun z => (bytesP P e).map fun b => .makeSlice z b l c
  | .makeFunc fn fst cap => (argsOf N fst.toList).bind fun f => (argsOf N cap.toList).map fun c => .makeFunc fn f c
  | .extract x i => (argOf N x).map fun x => .extract x i
  | .makeMap t r => match r with
    | none => (mapP P t).map fun _ => .makeMap
    | some _ => none
  | .lookup t x i ok => (argOf N x).bind fun x => (argOf N i).bind fun i => (mapP P t).bind fun p => (zeroV P p.2).map fun z => .lookup p.1 z ok x i
  | .mapUpdate t x k v => (argOf N x).bind fun x => (argOf N k).bind fun k => (argOf N v).bind fun v => (mapP P t).map fun p => .mapUpdate p.1 x k v
  | .range t x => (argOf N x).bind fun x => (mapP P t).map fun _ => .mapRange x
  | .next x s => match s with
    | false => (argOf N x).map fun x => .mapNext x
    | true => none
  | .entry x => (argOf N x).map fun x => .mapEntry x
  | .makeInterface t x => (argOf N x).bind fun x => match P.underlying t with
    | some (.interface _) => none
    | some _ => some (.makeIface t x)
    | none => none
  | .defer c => match c.callee with
    | .value (.func f) => if caughtB P f then (argsOf N c.args.toList).map fun as => .dfr as else none
    | .value (.tmp t) => if c.args = #[] ∧ N ≤ slotD then (argOf N (.tmp t)).map .dfrc else none
    | _ => none
  | .call c => callP P N o.type c
  | _ => none

/-- What is not known fails where it is reached. -/
def opP (P : Program) (N : Nat) (o : Oper) : Option XI := some ((opP0 P N o).getD .fail)

def guardP (ops : Array Oper) (g : Option (Nat × Bool)) : Option (Option (Nat × Bool)) :=
  match g with
  | none => some none
  | some (j, want) => match (ops[j]?).bind (·.dst) with
    | some s => if s = slotD then none else some (some (s, want))
    | none => none

def xopP (P : Program) (N : Nat) (ops : Array Oper) (o : Oper) : Option XOp :=
  (guardP ops o.guard).bind fun g =>
  if (match o.dst with | none => true | some d => decide (d < N)) then (opP P N o).map fun i => { dst := o.dst, guard := g, i }
  else none

def xopsP (P : Program) (N : Nat) (ops : Array Oper) : List Oper → Option (List XOp)
  | [] => some []
  | o :: r => (xopP P N ops o).bind fun x => (xopsP P N ops r).map fun xs => x :: xs

/-- Of each operation of a region, which ones come before it at every order: bits of a number. -/
def preMask (acc : List Nat) (o : Oper) : Nat :=
  o.after.toList.foldl (fun s e => if Region.binds .any e then s ||| 2 ^ e.on ||| acc.getD e.on 0 else s) 0
def preList : List Oper → List Nat → List Nat
  | [], acc => acc
  | o :: r, acc => preList r (acc ++ [preMask acc o])

def edgesFrom : Nat → List Oper → Bool
  | _, [] => true
  | i, o :: r => o.after.all (fun e => !Region.binds .any e || decide (e.on < i)) && edgesFrom (i + 1) r

/-- No slot is written twice; what is read beside a write is ordered; edges lead back. -/
def orderOk (ops : Array Oper) (l : List XOp) : Bool :=
  edgesFrom 0 ops.toList &&
  (List.range l.length).all fun i => (List.range l.length).all fun j =>
    i == j ||
    match ((l[i]?).bind (·.dst)), l[j]? with
    | some d, some o => (o.dst != some d) && (!(readsOf o).contains d || (if i < j then ((preList ops.toList []).getD j 0).testBit i else ((preList ops.toList []).getD i 0).testBit j))
    | _, _ => true

def tagD : Nat → List XOp → List Nat → List (Nat × Nat × XOp)
  | i, o :: l, p :: ps => (i, p, o) :: tagD (i + 1) l ps
  | _, _, _ => []

def comp (P : Program) (N : Nat) : Code → Option XCode
  | .skip => some .skip
  | .region _ ops draw => (xopsP P N ops ops.toList).bind fun l => match draw with
    | false => some (.ops l none)
    | true => if orderOk ops l then (if l.all (fun o => quiet o.i) then some (.opsr l none) else some (.opsd (tagD 0 l (preList ops.toList [])) none)) else none
  | .seq a b => (comp P N a).bind fun a => (comp P N b).map fun b => .seq a b
  | .cond c a b => (argOf N c).bind fun c => (comp P N a).bind fun a => (comp P N b).map fun b => .cond c a b
  | .block id c => (comp P N c).map fun c => .block id c
  | .loop c => (comp P N c).map fun c => .loop c
  | .exit id => some (.exit id)
  | .ret => some .ret
  | _ => none

/-- Code without its remarks on what to keep. -/
def strip : XCode → XCode
  | .ops l _ => .ops l none
  | .opsr l _ => .opsr l none
  | .opsd l _ => if okD l then .opsd (sortD l) none else .ops [] (some [])
  | .opsc l _ => if okC l then .opsd (sortD l) none else .ops [] (some [])
  | .seq a b => .seq (strip a) (strip b)
  | .cond c a b => .cond c (strip a) (strip b)
  | .block id c => .block id (strip c)
  | .loop c => .loop (strip c)
  | c => c

def resP (P : Program) (N : Nat) : List ResultVar → Option (List XRes)
  | [] => some []
  | .tmp t :: r => if t < N then (resP P N r).map fun l => .tmp t :: l else none
  | .cell a t :: r => if a < N then (aggP P t).bind fun g => match g with
    | true => (sizeP P t).bind fun s => (resP P N r).map fun l => .cell true s a :: l
    | false => (resP P N r).map fun l => .cell false 1 a :: l
    else none

end Go.Proofs.YtnlmnejellipdaaGreat.X
