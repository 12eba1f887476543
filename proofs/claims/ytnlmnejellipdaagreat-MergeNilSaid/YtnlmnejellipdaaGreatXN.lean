/-
  Own work. Short names for printed code.
-/
import Derived.Test.YtnlmnejellipdaaGreatXCore
namespace Go.Proofs.YtnlmnejellipdaaGreat.X
open Go
abbrev op (d : Nat) (i : XI) : XOp := ⟨some d, none, i⟩
abbrev og (d g : Nat) (i : XI) : XOp := ⟨some d, some (g, true), i⟩
abbrev on (d g : Nat) (i : XI) : XOp := ⟨some d, some (g, false), i⟩
abbrev sd (i : XI) : XOp := ⟨none, none, i⟩
abbrev mv (d s : Nat) : XOp := op d (.move (.t s))
abbrev fa (d k s : Nat) : XOp := op d (.fieldAddr k (.t s))
abbrev ld (d n s : Nat) : XOp := op d (.load false n (.t s))
abbrev nc (d s : Nat) : XOp := op d (.nilCheck (.t s))
abbrev ex (d s k : Nat) : XOp := op d (.extract (.t s) k)
abbrev st (n a b : Nat) : XOp := sd (.store n (.t a) (.t b))
abbrev cl (f : Nat) (l : List Arg) : XI := .call (.c (.func (.func f) #[] #[])) l
abbrev ic (n : Int) : Arg := .c (.int .i64 n)
abbrev ib (d : Nat) (o : BinOp) (t a b : Nat) : XOp := op d (.bin o t (.t a) (.t b))
abbrev so (l : List XOp) (k : List Nat) : XCode := .ops l (some k)
end Go.Proofs.YtnlmnejellipdaaGreat.X
