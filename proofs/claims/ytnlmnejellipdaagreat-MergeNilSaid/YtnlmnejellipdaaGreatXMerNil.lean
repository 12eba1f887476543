/-
  Own work. PROVED HERE: MergeNil: whatever the number, the places, the range and the value, the law returns true. No condition.
-/
import Derived.Test.YtnlmnejellipdaaGreatN6
import Derived.ProofKit
namespace Go.Proofs.YtnlmnejellipdaaGreat
open Go Go.ChangeShapes Go.WideShapes Go.ChangeAt Go.RowKit X
set_option maxRecDepth 100000
attribute [local irreducible] X.Go' X.GoO X.GoR X.GoG X.GoC X.GoF X.GoFV X.GoFG X.Ex X.GoD X.GoDV X.GoDG
set_option linter.unusedVariables false
set_option linter.unusedSimpArgs false

theorem wf_rg {H : Type} (d : DataW H) (h : wfD Tryz.prog d 74) : ∃ (f t : List UInt8) (n : Int), d = .agg [.lit (.string f), .lit (.string t), .lit (.int .i64 n)] := by
  obtain ⟨ys, rfl, k2⟩ := wf_struct Tryz.underlying74 h
  change wfEach Tryz.prog ys [9, 9, 3] at k2
  obtain ⟨b0, r, rfl, j0, k2⟩ := wf_more k2
  obtain ⟨b1, r, rfl, j1, k2⟩ := wf_more k2
  obtain ⟨b2, rfl, j2⟩ := wf_one k2
  obtain ⟨f, rfl, _⟩ := wf_string Tryz.underlying9 j0
  obtain ⟨t, rfl, _⟩ := wf_string Tryz.underlying9 j1
  obtain ⟨n, rfl, _⟩ := wf_int Tryz.underlying3 j2
  exact ⟨f, t, n, rfl⟩
theorem wf_val {H : Type} (d : DataW H) (h : wfD Tryz.prog d 45) : ∃ (n : Bool) (t : List UInt8) (u : Nat), d = .agg [.lit (.bool n), .lit (.string t), .lit (.int .u64 (u : Int))] ∧ u < 18446744073709551616 := by
  obtain ⟨ys, rfl, k2⟩ := wf_struct Tryz.underlying45 h
  change wfEach Tryz.prog ys [4, 9, 34] at k2
  obtain ⟨b0, r, rfl, j0, k2⟩ := wf_more k2
  obtain ⟨b1, r, rfl, j1, k2⟩ := wf_more k2
  obtain ⟨b2, rfl, j2⟩ := wf_one k2
  obtain ⟨n, rfl⟩ := wf_bool Tryz.underlying4 j0
  obtain ⟨t, rfl, _⟩ := wf_string Tryz.underlying9 j1
  obtain ⟨u, rfl, u1, u2⟩ := wf_int Tryz.underlying34 j2
  have e3 : IntKind.u64.min = 0 := by decide
  have e4 : IntKind.u64.max = 18446744073709551615 := by decide
  rw [e3] at u1
  rw [e4] at u2
  refine ⟨n, t, u.toNat, ?_, by omega⟩
  rw [Int.toNat_of_nonneg u1]
theorem mergeNil_args {H : Type} (ds : List (DataW H)) (h : wfEach Tryz.prog ds Tryz.f6.params.toList) : ∃ (n : Int) (d1 d2 d3 : DataW H), ds = [.lit (.int .i64 n), d1, d2, d3] ∧ wfD Tryz.prog d1 72 ∧ wfD Tryz.prog d2 74 ∧ wfD Tryz.prog d3 45 := by
  rw [Tryz.params6] at h
  obtain ⟨d0, r, rfl, h0, h⟩ := wf_more h
  obtain ⟨d1, r, rfl, h1, h⟩ := wf_more h
  obtain ⟨d2, r, rfl, h2, h⟩ := wf_more h
  obtain ⟨d3, rfl, h3⟩ := wf_one h
  obtain ⟨n, rfl, _⟩ := wf_int Tryz.underlying3 h0
  exact ⟨n, d1, d2, d3, rfl, h1, h2, h3⟩

theorem mergeNil_lifted (os : Os) (started : os.Started) (H : Type) (enc : TypeId × Value → H) :
    ReturnsInHanded {} Tryz.checked os 6 .any (Rows.mergeNilSpec.pre6 enc Tryz.prog Tryz.f6 Rows.mergeNilRow.domain false) (Rows.mergeNilSpec.post enc Tryz.prog Tryz.f6 false true false false) := by
  refine returnsInHanded_of_change (C := Tryz.checked) own started (by kernel_rfl) Tryz.func6
    (ChangeSpec.witness6 (enc := enc) (C := Tryz.checked) false ⟨#[], #[.int .i64 0, .slice none 0 0, .agg #[.string .empty, .string .empty, .int .i64 0], .agg #[.bool false, .string .empty, .int .u64 0]], []⟩ 8 (by kernel_rfl) (by kernel_rfl) (by kernel_rfl) (by kernel_rfl)) ?_
  intro W base args ds gs before hval0 hW hcnd _
  refine law_contract mixed tabK_is (f := 6) rfl (k := 10) (by rw [← List.all_eq_true]; kernel_rfl) (fun t ht => ?_) laid rfl (by kernel_rfl) rfl ?_ ?_ H enc W base args ds gs before hval0 hW
  · have : (Tryz.f6.params.toList.all fun t => Tryz.prog.readableRec t && decide (t < Tryz.prog.types.size)) = true := by kernel_rfl
    have := List.all_eq_true.1 this t ht
    simp only [Bool.and_eq_true, decide_eq_true_eq] at this
    exact this
  · intro H ds hd
    obtain ⟨n, _, _, _, rfl, _⟩ := mergeNil_args ds hd
    rfl
  · intro H ds hd
    obtain ⟨n, d1, d2, d3, rfl, h1, h2, h3⟩ := mergeNil_args ds hd
    obtain ⟨f, t, lim, rfl⟩ := wf_rg d2 h2
    obtain ⟨vn, vt, vb, rfl, hvb⟩ := wf_val d3 h3
    obtain ⟨ps, v1, a1, _, _, b1, c1⟩ := abs_slice_ints (m := Mem.empty) Tryz.underlying72 Tryz.underlying3 h1
    obtain ⟨M0, hM0⟩ : ∃ M, (absD Tryz.prog d1 72 Mem.empty).2 = M := ⟨_, rfl⟩
    rw [hM0] at b1 c1
    have ha : absArgs Tryz.prog [.lit (.int .i64 n), d1, .agg [.lit (.string f), .lit (.string t), .lit (.int .i64 lim)], .agg [.lit (.bool vn), .lit (.string vt), .lit (.int .u64 (vb : Int))]] Tryz.f6.params.toList Mem.empty =
      ([.int .i64 n, argVal Tryz.prog 72 (absD Tryz.prog d1 72 Mem.empty).1, .agg ⟨[.string ⟨f.toArray⟩, .string ⟨t.toArray⟩, .int .i64 lim]⟩, .agg ⟨[.bool vn, .string ⟨vt.toArray⟩, .int .u64 (vb : Int)]⟩], (absD Tryz.prog d1 72 Mem.empty).2) := by kernel_rfl
    rw [ha, hM0, a1]
    have q1 : ∀ v, argVal Tryz.prog 72 [v] = v := fun v => by kernel_rfl
    rw [q1]
    obtain ⟨v, m', ⟨k, hk⟩, rfl⟩ := mergeNil_run (n := n) (f := ⟨f.toArray⟩) (t := ⟨t.toArray⟩) (lim := lim) (vn := vn) (vt := ⟨vt.toArray⟩) c1 (Nat.le_refl _) hvb
    exact ⟨k, m', hk⟩

theorem mergeNil_holds : Rows.MergeNilSaid :=
  OpenClaim.holds_of_wide 6 Tryz.f6 rfl rfl rfl rfl rfl rfl rfl ⟨rfl, rfl, rfl, rfl, rfl⟩ rfl rfl rfl rfl rfl (by kernel_rfl) Tryz.func6 (by kernel_rfl)
    (of_decide_eq_true (by kernel_rfl)) (by unfold Func.isWrapper; first | (rw [if_pos (by decide +kernel)]; kernel_rfl) | (rw [if_neg (by decide +kernel)]; exact ⟨rfl, rfl⟩))
    (fun os started H enc _ => mergeNil_lifted os started H enc)

end Go.Proofs.YtnlmnejellipdaaGreat
