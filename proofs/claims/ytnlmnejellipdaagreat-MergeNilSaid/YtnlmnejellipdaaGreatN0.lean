/-
  Own work. The room of keys: the awake example is known; what all texts share.
-/
import Derived.Test.YtnlmnejellipdaaGreatXProg
import Derived.Test.YtnlmnejellipdaaGreatXAll
import Derived.Test.YtnlmnejellipdaaGreatXOwn4
import Derived.Test.YtnlmnejellipdaaGreatRows
namespace Go.Proofs.YtnlmnejellipdaaGreat
open Go X
set_option maxRecDepth 100000
attribute [local irreducible] X.Go' X.GoO X.GoR X.GoG X.GoC X.GoF X.GoFV X.GoFG X.Ex X.GoD X.GoDV X.GoDG
set_option linter.unusedVariables false
set_option linter.unusedSimpArgs false

theorem awake_known : FnIs Tryz.prog 39 (.known (.bool true)) := known_of mixed tab_is (n := 10000) rfl (by kernel_rfl) rfl
def tabK (f : FuncId) : Option XDecl := if f = 39 then some (.known (.bool true)) else tab f
theorem tabK_is : ∀ f d, tabK f = some d → FnIs Tryz.prog f d := by
  intro f d h
  unfold tabK at h
  split at h
  · rename_i hf
    cases h; subst hf; exact awake_known
  · exact tab_is f d h

abbrev Ca (f : FuncId) (args : List Value) (m : Mem) (v : Value) (m' : Mem) : Prop := CallX Tryz.prog tabK f args m v m'
abbrev Wc (f : FuncId) (args : List Value) (m : Mem) (K : Value → Mem → Prop) : Prop := wpCall Tryz.prog tabK f args m K
theorem awake_call (m : Mem) : Ca 39 [] m (.bool true) m := ⟨0, rfl⟩
abbrev I (n : Int) : Value := .int .i64 n
abbrev U (n : Int) : Value := .int .u64 n
abbrev S (s : ByteArray) : Value := .string s
abbrev Fl (n : Nat) : Value := .float .f64 n
abbrev Pt (p : Nat) : Value := .pointer (some ⟨p, 0, none⟩)
/-- It grows. -/
abbrev Nx (m m' : Mem) : Prop := Fm (fun _ => False) m m'
end Go.Proofs.YtnlmnejellipdaaGreat
