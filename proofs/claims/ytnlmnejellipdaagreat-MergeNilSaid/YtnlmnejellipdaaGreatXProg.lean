/-
  Own work, printed by a program of ours (mkprog.py): the functions of this seat as code of the abstract run, and that each is the model's.
-/
import Derived.Test.YtnlmnejellipdaaGreatXProgA
import Derived.Test.YtnlmnejellipdaaGreatXProgB
set_option maxRecDepth 100000
namespace Go.Proofs.YtnlmnejellipdaaGreat.X
open Go

def tab (f : FuncId) : Option XDecl := (tabA f).or (tabB f)

theorem tab_is : ∀ f d, tab f = some d → FnIs Tryz.prog f d := by
  intro f d h
  unfold tab at h
  cases h0 : tabA f with
  | some u =>
    rw [h0] at h
    cases h
    exact tabA_is f _ h0
  | none =>
  rw [h0, Option.none_or] at h
  exact tabB_is f d h

theorem mixed : Tryz.prog.follows .mixedOrders = true := by kernel_rfl
theorem laid : laidOutB Tryz.prog = true := by kernel_rfl
theorem own : ownKnob Tryz.prog.godebug = none := by kernel_rfl

end Go.Proofs.YtnlmnejellipdaaGreat.X
