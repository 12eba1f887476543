/-
  Own work, printed by a program of ours (mkprog.py): the functions of this seat as code of the abstract run, and that each is the model's.
-/
import Derived.Test.YtglefgcnafoafaaGreatDoorXProgA
import Derived.Test.YtglefgcnafoafaaGreatDoorXProgB
import Derived.Test.YtglefgcnafoafaaGreatDoorXProgC
import Derived.Test.YtglefgcnafoafaaGreatDoorXProgD
import Derived.Test.YtglefgcnafoafaaGreatDoorXProgE
import Derived.Test.YtglefgcnafoafaaGreatDoorXProgF
set_option maxRecDepth 100000
namespace Go.Proofs.YtglefgcnafoafaaGreatDoor.X
open Go

def tab (f : FuncId) : Option XDecl := (tabA f).or ((tabB f).or ((tabC f).or ((tabD f).or ((tabE f).or (tabF f)))))

theorem tab_is : ∀ f d, tab f = some d → FnIs Tryz.prog f d := by
  intro f d h
  unfold tab at h
  cases h0 : tabA f with
  | some u =>
    rw [h0] at h
    cases h
    exact tabA_is f _ h0
  | none =>
  rw [h0, Option.none_or] at h
  cases h1 : tabB f with
  | some u =>
    rw [h1] at h
    cases h
    exact tabB_is f _ h1
  | none =>
  rw [h1, Option.none_or] at h
  cases h2 : tabC f with
  | some u =>
    rw [h2] at h
    cases h
    exact tabC_is f _ h2
  | none =>
  rw [h2, Option.none_or] at h
  cases h3 : tabD f with
  | some u =>
    rw [h3] at h
    cases h
    exact tabD_is f _ h3
  | none =>
  rw [h3, Option.none_or] at h
  cases h4 : tabE f with
  | some u =>
    rw [h4] at h
    cases h
    exact tabE_is f _ h4
  | none =>
  rw [h4, Option.none_or] at h
  exact tabF_is f d h

theorem mixed : Tryz.prog.follows .mixedOrders = true := by kernel_rfl
theorem laid : laidOutB Tryz.prog = true := by kernel_rfl
theorem own : ownKnob Tryz.prog.godebug = none := by kernel_rfl

end Go.Proofs.YtglefgcnafoafaaGreatDoor.X
