/-
  Own work. PROVED HERE: TreeNil: whatever key and number, the law returns true (a tree that is not there has no keys). No condition.
-/
import Derived.Test.YtjlmpmobankidaaXProg
import Derived.Test.YtjlmpmobankidaaXLem
import Derived.Test.YtjlmpmobankidaaRows
import Derived.ProofKit
namespace Go.Proofs.Ytjlmpmobankidaa
open Go Go.ChangeShapes Go.WideShapes Go.ChangeAt Go.RowKit X
set_option maxRecDepth 100000
set_option linter.unusedVariables false
set_option linter.unusedSimpArgs false

theorem treeNil_run (n : Int) (key : ByteArray) : (xcall Try.prog tab 5000 4 [.string key, .int .i64 n] Mem.empty).map (·.1) = some (.bool true) := by kernel_rfl

theorem treeNil_args {H : Type} (ds : List (DataW H)) (h : wfEach Try.prog ds Try.f4.params.toList) : ∃ (n : Int) (key : List UInt8), ds = [.lit (.string key), .lit (.int .i64 n)] := by
  rw [Try.params4] at h
  obtain ⟨d0, r, rfl, h0, h⟩ := wf_more h
  obtain ⟨d1, rfl, h1⟩ := wf_one h
  obtain ⟨n, rfl, _⟩ := wf_int Try.underlying3 h1
  obtain ⟨key, rfl, _⟩ := wf_string Try.underlying9 h0
  exact ⟨n, key, rfl⟩

theorem treeNil_lifted (os : Os) (started : os.Started) (H : Type) (enc : TypeId × Value → H) :
    ReturnsInHanded {} Try.checked os 4 .any (Rows.treeNilSpec.pre6 enc Try.prog Try.f4 Rows.treeNilRow.domain false) (Rows.treeNilSpec.post enc Try.prog Try.f4 false true false false) := by
  refine returnsInHanded_of_change (C := Try.checked) own started (by kernel_rfl) Try.func4
    (ChangeSpec.witness6 (enc := enc) (C := Try.checked) false ⟨#[], #[.string .empty, .int .i64 0], []⟩ 8 (by kernel_rfl) (by kernel_rfl) (by kernel_rfl) (by kernel_rfl)) ?_
  intro W base args ds gs before hval0 hW hcnd _
  refine law_contract mixed tab_is (f := 4) rfl (k := 10) (by rw [← List.all_eq_true]; kernel_rfl) (fun t ht => ?_) laid rfl (by kernel_rfl) rfl ?_ ?_ H enc W base args ds gs before hval0 hW
  · have : (Try.f4.params.toList.all fun t => Try.prog.readableRec t && decide (t < Try.prog.types.size)) = true := by kernel_rfl
    have := List.all_eq_true.1 this t ht
    simp only [Bool.and_eq_true, decide_eq_true_eq] at this
    exact this
  · intro H ds hd
    obtain ⟨n, key, rfl⟩ := treeNil_args ds hd
    rfl
  · intro H ds hd
    obtain ⟨n, key, rfl⟩ := treeNil_args ds hd
    have h := treeNil_run n ⟨key.toArray⟩
    obtain ⟨p, h1, h2⟩ := map_some' h
    obtain ⟨v, m'⟩ := p
    simp only at h2
    subst h2
    have ha : absArgs Try.prog [(.lit (.string key) : DataW H), .lit (.int .i64 n)] Try.f4.params.toList Mem.empty
        = ([.string ⟨key.toArray⟩, .int .i64 n], Mem.empty) := by kernel_rfl
    rw [ha]
    exact ⟨5000, m', h1⟩

theorem treeNil_holds : Rows.TreeNilSaid :=
  OpenClaim.holds_of_wide 4 Try.f4 rfl rfl rfl rfl rfl rfl rfl ⟨rfl, rfl, rfl, rfl, rfl⟩ rfl rfl rfl rfl rfl (by kernel_rfl) Try.func4 (by kernel_rfl)
    (of_decide_eq_true (by kernel_rfl)) (by unfold Func.isWrapper; first | (rw [if_pos (by decide +kernel)]; kernel_rfl) | (rw [if_neg (by decide +kernel)]; exact ⟨rfl, rfl⟩))
    (fun os started H enc _ => treeNil_lifted os started H enc)

end Go.Proofs.Ytjlmpmobankidaa
