/-
  Own work. The chapter's example holds; calls.
-/
import Derived.Test.YtglefgcnafoafaaGreatDoorXProg
import Derived.Test.YtglefgcnafoafaaGreatDoorXAll
import Derived.Test.YtglefgcnafoafaaGreatDoorXFast
namespace Go.Proofs.YtglefgcnafoafaaGreatDoor
open Go X
set_option maxRecDepth 100000

theorem awake_known : FnIs Tryz.prog 20 (.known (.bool true)) := known_of mixed tab_is (n := 100000) rfl (by rw [← Q.xcallF_eq]; kernel_rfl) rfl
def tabK (f : FuncId) : Option XDecl := if f = 20 then some (.known (.bool true)) else tab f
theorem tabK_is : ∀ f d, tabK f = some d → FnIs Tryz.prog f d := by
  intro f d h
  unfold tabK at h
  split at h
  · rename_i hf
    cases h; subst hf; exact awake_known
  · exact tab_is f d h
abbrev Ca (f : FuncId) (args : List Value) (m : Mem) (v : Value) (m' : Mem) : Prop := CallX Tryz.prog tabK f args m v m'
abbrev Wc (f : FuncId) (args : List Value) (m : Mem) (K : Value → Mem → Prop) : Prop := wpCall Tryz.prog tabK f args m K
theorem awake_call (m : Mem) : Ca 20 [] m (.bool true) m := ⟨0, rfl⟩
abbrev U (n : Int) : Value := .int .u64 n
abbrev I (n : Int) : Value := .int .i64 n
abbrev Nx (m m' : Mem) : Prop := Fm (fun _ => False) m m'


end Go.Proofs.YtglefgcnafoafaaGreatDoor
