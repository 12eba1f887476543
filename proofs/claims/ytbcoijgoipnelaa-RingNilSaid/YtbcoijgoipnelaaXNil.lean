/-
  Own work. PROVED HERE: RingNil: whatever the stamp, the law returns true (a ring that is not there has no commits). No condition.
-/
import Derived.Test.YtbcoijgoipnelaaXProg
import Derived.Test.YtbcoijgoipnelaaRows
import Derived.ProofKit
namespace Go.Proofs.Ytbcoijgoipnelaa
open Go Go.ChangeShapes Go.WideShapes Go.ChangeAt Go.RowKit X
set_option maxRecDepth 100000

theorem ringNil_run (k : Int) : (xcall Try.prog tab 500 6 [.int .u64 k] Mem.empty).map (·.1) = some (.bool true) := by kernel_rfl

theorem ringNil_arg {H : Type} (ds : List (DataW H)) (h : wfEach Try.prog ds Try.f6.params.toList) : ∃ k, ds = [.lit (.int .u64 k)] := by
  rw [Try.params6] at h
  obtain ⟨d, rfl, hd⟩ := wf_one h
  obtain ⟨n, rfl, _⟩ := wf_int Try.underlying28 hd
  exact ⟨n, rfl⟩

theorem ringNil_lifted (os : Os) (started : os.Started) (H : Type) (enc : TypeId × Value → H) :
    ReturnsInHanded {} Try.checked os 6 .any (Rows.ringNilSpec.pre6 enc Try.prog Try.f6 Rows.ringNilRow.domain false) (Rows.ringNilSpec.post enc Try.prog Try.f6 false true false false) := by
  refine returnsInHanded_of_change (C := Try.checked) own started (by kernel_rfl) Try.func6
    (ChangeSpec.witness6 (enc := enc) (C := Try.checked) false ⟨#[], #[.int .u64 0], []⟩ 8 (by kernel_rfl) (by kernel_rfl) (by kernel_rfl) (by kernel_rfl)) ?_
  intro W base args ds gs before hval0 hW hcnd _
  refine law_contract mixed tab_is (f := 6) rfl (k := 10) (by rw [← List.all_eq_true]; kernel_rfl) (fun t ht => ?_) laid rfl (by kernel_rfl) rfl ?_ ?_ H enc W base args ds gs before hval0 hW
  · have : (Try.f6.params.toList.all fun t => Try.prog.readableRec t && decide (t < Try.prog.types.size)) = true := by kernel_rfl
    have := List.all_eq_true.1 this t ht
    simp only [Bool.and_eq_true, decide_eq_true_eq] at this
    exact this
  · intro H ds hd
    obtain ⟨k, rfl⟩ := ringNil_arg ds hd
    rfl
  · intro H ds hd
    obtain ⟨k, rfl⟩ := ringNil_arg ds hd
    have h := ringNil_run k
    obtain ⟨p, h1, h2⟩ := map_some' h
    obtain ⟨v, m'⟩ := p
    simp only at h2
    subst h2
    exact ⟨500, m', h1⟩

theorem ringNil_holds : Rows.RingNilSaid :=
  OpenClaim.holds_of_wide 6 Try.f6 rfl rfl rfl rfl rfl rfl rfl ⟨rfl, rfl, rfl, rfl, rfl⟩ rfl rfl rfl rfl rfl (by kernel_rfl) Try.func6 (by kernel_rfl)
    (of_decide_eq_true (by kernel_rfl)) (by unfold Func.isWrapper; first | (rw [if_pos (by decide +kernel)]; kernel_rfl) | (rw [if_neg (by decide +kernel)]; exact ⟨rfl, rfl⟩))
    (fun os started H enc _ => ringNil_lifted os started H enc)

end Go.Proofs.Ytbcoijgoipnelaa
