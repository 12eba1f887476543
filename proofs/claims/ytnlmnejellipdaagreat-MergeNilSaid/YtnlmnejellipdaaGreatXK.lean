/-
  Own work. The calculus with what is to come kept as data, so that rewriting runs it.
-/
import Derived.Test.YtnlmnejellipdaaGreatXSym
namespace Go.Proofs.YtnlmnejellipdaaGreat.X
open Go
set_option linter.unusedVariables false
set_option linter.unusedSimpArgs false

section
variable (P : Program) (X : FuncId → Option XDecl)
abbrev Post := Env → Mem → Prop

/-- Code, and what is to come: N: its end, B: an exit beyond it, Q: a return. -/
def wpK (Q N : Post) (B : Nat → Post) : List XItem → Post × (Nat → Post)
  | [] => (N, B)
  | .code c :: k => (fun e m => wpC P X c e m (wpK Q N B k).1 (wpK Q N B k).2 Q, (wpK Q N B k).2)
  | .inBlock id :: k => ((wpK Q N B k).1, fun i => if i = id then (wpK Q N B k).1 else (wpK Q N B k).2 i)
  | .inLoop c :: k => (fun e m => wpC P X (.loop c) e m (wpK Q N B k).1 (wpK Q N B k).2 Q, (wpK Q N B k).2)

/-- The run goes on so. -/
def Go' (k : List XItem) (e : Env) (m : Mem) (Q N : Post) (B : Nat → Post) : Prop := (wpK P X Q N B k).1 e m
/-- An exit. -/
def Ex (id : Nat) (k : List XItem) (e : Env) (m : Mem) (Q N : Post) (B : Nat → Post) : Prop := (wpK P X Q N B k).2 id e m
/-- Operations. -/
def GoO (l : List XOp) (keep : Option (List Nat)) (k : List XItem) (e : Env) (m : Mem) (Q N : Post) (B : Nat → Post) : Prop := wpO P X l e m fun e m => Go' P X k (keepOf keep e) m Q N B
/-- An operation whose guard is told. -/
def GoG (g : Option Bool) (o : XOp) (l : List XOp) (keep : Option (List Nat)) (k : List XItem) (e : Env) (m : Mem) (Q N : Post) (B : Nat → Post) : Prop :=
  match g with
  | none => False
  | some true => wpR P X (xi P e m o.i) m fun v m' => GoO P X l keep k (put o.dst v e) m' Q N B
  | some false => GoO P X l keep k (put o.dst undef e) m Q N B
/-- An operation's answer. -/
def GoR (r : Option XR) (dst : Option Nat) (l : List XOp) (keep : Option (List Nat)) (k : List XItem) (e : Env) (m : Mem) (Q N : Post) (B : Nat → Post) : Prop :=
  wpR P X r m fun v m' => GoO P X l keep k (put dst v e) m' Q N B
/-- A choice. -/
def GoC (v : Option Value) (a b : XCode) (k : List XItem) (e : Env) (m : Mem) (Q N : Post) (B : Nat → Post) : Prop :=
  condW v (Go' P X (.code a :: k) e m Q N B) (Go' P X (.code b :: k) e m Q N B)
end

section
variable {P : Program} {X : FuncId → Option XDecl} {k : List XItem} {e : Env} {m : Mem} {Q N : Post} {B : Nat → Post} {keep : Option (List Nat)}

theorem go_nil : Go' P X [] e m Q N B = N e m := (rfl)
theorem go_inBlock {id : Nat} : Go' P X (.inBlock id :: k) e m Q N B = Go' P X k e m Q N B := (rfl)
theorem go_skip : Go' P X (.code .skip :: k) e m Q N B = Go' P X k e m Q N B := (rfl)
theorem go_seq {a b : XCode} : Go' P X (.code (.seq a b) :: k) e m Q N B = Go' P X (.code a :: .code b :: k) e m Q N B := (rfl)
theorem go_block {id : Nat} {c : XCode} : Go' P X (.code (.block id c) :: k) e m Q N B = Go' P X (.code c :: .inBlock id :: k) e m Q N B := (rfl)
theorem go_exit {id : Nat} : Go' P X (.code (.exit id) :: k) e m Q N B = Ex P X id k e m Q N B := (rfl)
theorem go_ret : Go' P X (.code .ret :: k) e m Q N B = Q e m := (rfl)
theorem go_ops {l : List XOp} : Go' P X (.code (.ops l keep) :: k) e m Q N B = GoO P X l keep k e m Q N B := (rfl)
theorem go_opsr {l : List XOp} : Go' P X (.code (.opsr l keep) :: k) e m Q N B = GoO P X l keep k e m Q N B := (rfl)
theorem go_cond {c : Arg} {a b : XCode} : Go' P X (.code (.cond c a b) :: k) e m Q N B = GoC P X (c.ev e) a b k e m Q N B := by
  show wpC P X (.cond c a b) e m _ _ Q = _
  rw [wpC_cond]; rfl
theorem ex_nil {id : Nat} : Ex P X id [] e m Q N B = B id e m := (rfl)
theorem ex_code {id : Nat} {c : XCode} : Ex P X id (.code c :: k) e m Q N B = Ex P X id k e m Q N B := (rfl)
theorem ex_inLoop {id : Nat} {c : XCode} : Ex P X id (.inLoop c :: k) e m Q N B = Ex P X id k e m Q N B := (rfl)
theorem ex_inBlock {id i : Nat} : Ex P X i (.inBlock id :: k) e m Q N B = if i = id then Go' P X k e m Q N B else Ex P X i k e m Q N B := by
  show (if i = id then _ else _ : Post) e m = _
  by_cases h : i = id <;> simp [h, Go', Ex]

theorem goC_true {a b : XCode} : GoC P X (some (.bool true)) a b k e m Q N B = Go' P X (.code a :: k) e m Q N B := by simp [GoC, condW]
theorem goC_false {a b : XCode} : GoC P X (some (.bool false)) a b k e m Q N B = Go' P X (.code b :: k) e m Q N B := by simp [GoC, condW]
theorem goC_dec {p : Prop} [Decidable p] {a b : XCode} : GoC P X (some (.bool (decide p))) a b k e m Q N B = ((p → Go' P X (.code a :: k) e m Q N B) ∧ (¬ p → Go' P X (.code b :: k) e m Q N B)) := by simp [GoC, condW]

theorem goO_nil : GoO P X [] keep k e m Q N B = Go' P X k (keepOf keep e) m Q N B := (rfl)
theorem goO_cons {d : Option Nat} {i : XI} {l : List XOp} : GoO P X (⟨d, none, i⟩ :: l) keep k e m Q N B = GoR P X (xi P e m i) d l keep k e m Q N B := (rfl)
theorem goO_guard {d : Option Nat} {s : Nat} {w : Bool} {i : XI} {l : List XOp} : GoO P X (⟨d, some (s, w), i⟩ :: l) keep k e m Q N B = GoG P X (wantedX e (some (s, w))) ⟨d, some (s, w), i⟩ l keep k e m Q N B := by
  show wpO P X _ e m _ = _
  rw [wpO_cons]
  simp only [GoG, guardW]
  cases wantedX e (some (s, w)) with
  | none => rfl
  | some t => cases t <;> rfl
theorem goG_true {d : Option Nat} {g : Option (Nat × Bool)} {i : XI} {l : List XOp} : GoG P X (some true) ⟨d, g, i⟩ l keep k e m Q N B = GoR P X (xi P e m i) d l keep k e m Q N B := (rfl)
theorem goG_false {d : Option Nat} {g : Option (Nat × Bool)} {i : XI} {l : List XOp} : GoG P X (some false) ⟨d, g, i⟩ l keep k e m Q N B = GoO P X l keep k (put d undef e) m Q N B := (rfl)
theorem goR_val {v : Value} {m' : Mem} {d : Option Nat} {l : List XOp} : GoR P X (some (.val v m')) d l keep k e m Q N B = GoO P X l keep k (put d v e) m' Q N B := (rfl)
theorem goR_skip {m' : Mem} {d : Option Nat} {l : List XOp} : GoR P X (some (.skip m')) d l keep k e m Q N B = GoO P X l keep k (put d undef e) m' Q N B := (rfl)
/-- A call whose answer is known. -/
theorem goR_call {f : FuncId} {args : List Value} {v : Value} {m' : Mem} {d : Option Nat} {l : List XOp} (h : CallX P X f args m v m') : GoR P X (some (.call f args)) d l keep k e m Q N B = GoO P X l keep k (put d v e) m' Q N B := by
  show wpCall P X f args m _ = _
  rw [h.iff]
/-- A call of which something is known. -/
theorem goR_wp {f : FuncId} {args : List Value} {d : Option Nat} {l : List XOp} {K : Value → Mem → Prop} (h : wpCall P X f args m K) (hk : ∀ v m', K v m' → GoO P X l keep k (put d v e) m' Q N B) : GoR P X (some (.call f args)) d l keep k e m Q N B :=
  wpCall_mono hk h

theorem call_go {f : FuncId} {F : XFunc} {args : List Value} {m : Mem} {K : Value → Mem → Prop} (hf : X f = some (.code F)) (hl : args.length = F.nargs)
    (h : ∀ Q : Post, (∀ e m vs, xres e m F.res = some vs → K (tup vs) m → Q e m) → Go' P X [.code F.body] (initEnv 0 args) m Q Q (fun _ _ _ => False)) : wpCall P X f args m K := by
  refine call_intro hf hl ?_
  exact h _ (fun e m vs h1 h2 => ⟨vs, h1, h2⟩)

theorem ins_go {f : FuncId} {F : XFunc} {size : Nat} {args : List Value} {m : Mem} {K : Value → Mem → Prop} (hf : X f = some (.ins F size)) (hg : insG size args m = none) (hl : args.length = F.nargs)
    (h : ∀ Q : Post, (∀ e m vs, xres e m F.res = some vs → K (tup vs) m → Q e m) → Go' P X [.code F.body] (initEnv 0 args) m Q Q (fun _ _ _ => False)) : wpCall P X f args m K := by
  refine ins_intro hf hg hl ?_
  exact h _ (fun e m vs h1 h2 => ⟨vs, h1, h2⟩)

/-- A loop whose measure falls; 'mid' holds where it is left by its own exit. -/
theorem loop_go {c : XCode} (inv : Nat → Env → Mem → Prop) (j : Nat) (h0 : inv j e m)
    (hs : ∀ j e m (N' : Post) (B' : Nat → Post), (∀ e m j', j' < j → inv j' e m → N' e m) → (∀ i e m, Ex P X i k e m Q N B → B' i e m) → inv j e m → Go' P X [.code c] e m Q N' B') : Go' P X (.code (.loop c) :: k) e m Q N B := by
  show wpC P X (.loop c) e m (wpK P X Q N B k).1 (wpK P X Q N B k).2 Q
  refine loop_intro inv j h0 (fun j e m hi => ?_)
  exact hs j e m (fun e m => ∃ j', j' < j ∧ inv j' e m) _ (fun e m j' h1 h2 => ⟨j', h1, h2⟩) (fun i e m h => h) hi

end
end Go.Proofs.YtnlmnejellipdaaGreat.X
