/-
  Own work. PROVED HERE: WsetNil: whatever the call, the law returns true (a set that is not there has no writes). No condition.
-/
import Derived.Test.YtjlmpmobankidaaXProg
import Derived.Test.YtjlmpmobankidaaXLem
import Derived.Test.YtjlmpmobankidaaRows
import Derived.ProofKit
namespace Go.Proofs.Ytjlmpmobankidaa
open Go Go.ChangeShapes Go.WideShapes Go.ChangeAt Go.RowKit X
set_option maxRecDepth 100000
set_option linter.unusedVariables false
set_option linter.unusedSimpArgs false

theorem wsetNil_run (k n : Int) (key text : ByteArray) (b : Bool) (bits : Int) : (xcall Try.prog tab 5000 3 [.agg #[.int .i64 k, .string key, .bool b, .string text, .int .u64 bits, .int .i64 n]] Mem.empty).map (·.1) = some (.bool true) := by kernel_rfl

theorem wsetNil_args {H : Type} (ds : List (DataW H)) (h : wfEach Try.prog ds Try.f3.params.toList) : ∃ (k n bits : Int) (key text : List UInt8) (b : Bool),
    ds = [.agg [.lit (.int .i64 k), .lit (.string key), .agg [.lit (.bool b), .lit (.string text), .lit (.int .u64 bits)], .lit (.int .i64 n)]] := by
  rw [Try.params3] at h
  obtain ⟨d0, rfl, h0⟩ := wf_one h
  obtain ⟨xs, rfl, h0⟩ := wf_struct Try.underlying26 h0
  change wfEach Try.prog xs [3, 9, 24, 3] at h0
  obtain ⟨k, r, rfl, hk, h0⟩ := wf_more h0
  obtain ⟨key, r, rfl, hkey, h0⟩ := wf_more h0
  obtain ⟨v, r, rfl, hv, h0⟩ := wf_more h0
  obtain ⟨n, rfl, hn⟩ := wf_one h0
  obtain ⟨k, rfl, _⟩ := wf_int Try.underlying3 hk
  obtain ⟨n, rfl, _⟩ := wf_int Try.underlying3 hn
  obtain ⟨key, rfl, _⟩ := wf_string Try.underlying9 hkey
  obtain ⟨ys, rfl, hv⟩ := wf_struct Try.underlying24 hv
  change wfEach Try.prog ys [4, 9, 22] at hv
  obtain ⟨b, r, rfl, hb, hv⟩ := wf_more hv
  obtain ⟨t, r, rfl, ht, hv⟩ := wf_more hv
  obtain ⟨bits, rfl, hbits⟩ := wf_one hv
  obtain ⟨b, rfl⟩ := wf_bool Try.underlying4 hb
  obtain ⟨t, rfl, _⟩ := wf_string Try.underlying9 ht
  obtain ⟨bits, rfl, _⟩ := wf_int Try.underlying22 hbits
  exact ⟨k, n, bits, key, t, b, rfl⟩

theorem wsetNil_lifted (os : Os) (started : os.Started) (H : Type) (enc : TypeId × Value → H) :
    ReturnsInHanded {} Try.checked os 3 .any (Rows.wsetNilSpec.pre6 enc Try.prog Try.f3 Rows.wsetNilRow.domain false) (Rows.wsetNilSpec.post enc Try.prog Try.f3 false true false false) := by
  refine returnsInHanded_of_change (C := Try.checked) own started (by kernel_rfl) Try.func3
    (ChangeSpec.witness6 (enc := enc) (C := Try.checked) false ⟨#[], #[.agg #[.int .i64 0, .string .empty, .bool false, .string .empty, .int .u64 0, .int .i64 0]], []⟩ 8 (by kernel_rfl) (by kernel_rfl) (by kernel_rfl) (by kernel_rfl)) ?_
  intro W base args ds gs before hval0 hW hcnd _
  refine law_contract mixed tab_is (f := 3) rfl (k := 10) (by rw [← List.all_eq_true]; kernel_rfl) (fun t ht => ?_) laid rfl (by kernel_rfl) rfl ?_ ?_ H enc W base args ds gs before hval0 hW
  · have : (Try.f3.params.toList.all fun t => Try.prog.readableRec t && decide (t < Try.prog.types.size)) = true := by kernel_rfl
    have := List.all_eq_true.1 this t ht
    simp only [Bool.and_eq_true, decide_eq_true_eq] at this
    exact this
  · intro H ds hd
    obtain ⟨k, n, bits, key, text, b, rfl⟩ := wsetNil_args ds hd
    rfl
  · intro H ds hd
    obtain ⟨k, n, bits, key, text, b, rfl⟩ := wsetNil_args ds hd
    have h := wsetNil_run k n ⟨key.toArray⟩ ⟨text.toArray⟩ b bits
    obtain ⟨p, h1, h2⟩ := map_some' h
    obtain ⟨v, m'⟩ := p
    simp only at h2
    subst h2
    have ha : absArgs Try.prog [(.agg [.lit (.int .i64 k), .lit (.string key), .agg [.lit (.bool b), .lit (.string text), .lit (.int .u64 bits)], .lit (.int .i64 n)] : DataW H)] Try.f3.params.toList Mem.empty
        = ([.agg #[.int .i64 k, .string ⟨key.toArray⟩, .bool b, .string ⟨text.toArray⟩, .int .u64 bits, .int .i64 n]], Mem.empty) := by kernel_rfl
    rw [ha]
    exact ⟨5000, m', h1⟩

theorem wsetNil_holds : Rows.WsetNilSaid :=
  OpenClaim.holds_of_wide 3 Try.f3 rfl rfl rfl rfl rfl rfl rfl ⟨rfl, rfl, rfl, rfl, rfl⟩ rfl rfl rfl rfl rfl (by kernel_rfl) Try.func3 (by kernel_rfl)
    (of_decide_eq_true (by kernel_rfl)) (by unfold Func.isWrapper; first | (rw [if_pos (by decide +kernel)]; kernel_rfl) | (rw [if_neg (by decide +kernel)]; exact ⟨rfl, rfl⟩))
    (fun os started H enc _ => wsetNil_lifted os started H enc)

end Go.Proofs.Ytjlmpmobankidaa
