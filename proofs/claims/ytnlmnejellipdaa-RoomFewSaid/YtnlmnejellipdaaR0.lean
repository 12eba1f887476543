/-
  Own work. The room of keys: the awake example is known; what all texts share.
-/
import Derived.Test.YtnlmnejellipdaaXStr
import Derived.Test.YtnlmnejellipdaaXProg
import Derived.Test.YtnlmnejellipdaaXAll
import Derived.Test.YtnlmnejellipdaaXOwn4
import Derived.Test.YtnlmnejellipdaaXIns76
import Derived.Test.YtnlmnejellipdaaXIns77
import Derived.Test.YtnlmnejellipdaaRows
namespace Go.Proofs.Ytnlmnejellipdaa
open Go X
set_option maxRecDepth 100000
attribute [local irreducible] X.Go' X.GoO X.GoR X.GoG X.GoC X.GoF X.GoFV X.GoFG X.Ex X.GoD X.GoDV X.GoDG
set_option linter.unusedVariables false
set_option linter.unusedSimpArgs false
theorem awake_known : FnIs Try.prog 4 (.known (.bool true)) := known_of mixed tab_is (n := 10000) rfl (by kernel_rfl) rfl
def F76 : XFunc := match x76 with | .code f => f | _ => ⟨0, .ret, []⟩
def F77 : XFunc := match x77 with | .code f => f | _ => ⟨0, .ret, []⟩
theorem ins76_is : FnIs Try.prog 76 (.ins F76 1) := ⟨is76, insOk76⟩
theorem ins77_is : FnIs Try.prog 77 (.ins F77 1) := ⟨is77, insOk77⟩
def tabK (f : FuncId) : Option XDecl := if f = 4 then some (.known (.bool true)) else if f = 76 then some (.ins F76 1) else if f = 77 then some (.ins F77 1) else tab f
theorem tabK_is : ∀ f d, tabK f = some d → FnIs Try.prog f d := by
  intro f d h
  unfold tabK at h
  split at h
  · rename_i hf
    cases h; subst hf; exact awake_known
  · split at h
    · rename_i hf
      cases h; subst hf; exact ins76_is
    · split at h
      · rename_i hf
        cases h; subst hf; exact ins77_is
      · exact tab_is f d h
abbrev Ca (f : FuncId) (args : List Value) (m : Mem) (v : Value) (m' : Mem) : Prop := CallX Try.prog tabK f args m v m'
abbrev Wc (f : FuncId) (args : List Value) (m : Mem) (K : Value → Mem → Prop) : Prop := wpCall Try.prog tabK f args m K
theorem awake_call (m : Mem) : Ca 4 [] m (.bool true) m := ⟨0, rfl⟩
abbrev I (n : Int) : Value := .int .i64 n
abbrev U (n : Int) : Value := .int .u64 n
abbrev S (s : ByteArray) : Value := .string s
abbrev Fl (n : Nat) : Value := .float .f64 n
abbrev Pt (p : Nat) : Value := .pointer (some ⟨p, 0, none⟩)
abbrev Nx (m m' : Mem) : Prop := Fm (fun _ => False) m m'
end Go.Proofs.Ytnlmnejellipdaa
