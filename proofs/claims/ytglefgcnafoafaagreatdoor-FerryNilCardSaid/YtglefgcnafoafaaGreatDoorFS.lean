/-
  Own work. PROVED HERE: FerryNil: whatever the numbers and the entries, the law returns true; then its tied card. No condition.
-/
import Derived.Test.YtglefgcnafoafaaGreatDoorFE
import Derived.Test.YtglefgcnafoafaaGreatDoorFR
import Derived.Test.YtglefgcnafoafaaGreatDoorRows
import Derived.Test.YtglefgcnafoafaaGreatDoorFT
import Derived.Test.YtglefgcnafoafaaGreatDoorTie
import Derived.Test.YtglefgcnafoafaaGreatDoorCards
import Derived.ProofKit
import Derived.LaidMore
import Derived.Lay
import Derived.SevenTiedAt
import Derived.Stop.Joined
namespace Go.Proofs.YtglefgcnafoafaaGreatDoor
open Go Go.ChangeShapes Go.WideShapes Go.ChangeAt Go.RowKit X
set_option maxRecDepth 100000
set_option linter.unusedVariables false
set_option linter.unusedSimpArgs false

theorem ferryNil_args {H : Type} (ds : List (DataW H)) (h : wfEach Tryz.prog ds Tryz.f5.params.toList) : ∃ (s a : Int) (d : DataW H), ds = [.lit (.int .i64 s), .lit (.int .i64 a), d] ∧ wfD Tryz.prog d 63 := by
  rw [Tryz.params5] at h
  obtain ⟨d0, r, rfl, h0, h⟩ := wf_more h
  obtain ⟨d1, r, rfl, h1, h⟩ := wf_more h
  obtain ⟨d2, rfl, h2⟩ := wf_one h
  obtain ⟨s, rfl, _⟩ := wf_int Tryz.underlying3 h0
  obtain ⟨a, rfl, _⟩ := wf_int Tryz.underlying3 h1
  exact ⟨s, a, d2, rfl, h2⟩

theorem ferryNil_lifted (os : Os) (started : os.Started) (H : Type) (enc : TypeId × Value → H) :
    ReturnsInHanded {} Tryz.checked os 5 .any (fun w args => (Rows.ferryNilSpec.pre enc Tryz.prog Tryz.f5 Rows.ferryNilRow.domain false w args ∧ laidMetH Tryz.prog Rows.ferryNilRow.laid w) ∧ sizedMet enc Tryz.prog Tryz.f5 (OpenSpec.ofChange Rows.ferryNilSpec) false w args)
      (Rows.ferryNilSpec.post enc Tryz.prog Tryz.f5 false true false false) := by
  refine returnsInHanded_of_change_and (C := Tryz.checked) (X := fun w _ => laidMetH Tryz.prog Rows.ferryNilRow.laid w) (fun _ _ _ hh h => h.of_heap hh) own started (by kernel_rfl) Tryz.func5
    (ChangeSpec.witness_shaped (enc := enc) (C := Tryz.checked) (os := os) (X := fun w _ => laidMetH Tryz.prog Rows.ferryNilRow.laid w) false (World.laidAll Tryz.prog os Rows.ferryNilRow.laid) #[I 0, I 0, .slice none 0 0] 8 (World.laidAll_os _ _ _)
      (World.shaped_of_ZipB (by kernel_rfl) (by kernel_rfl)) (by kernel_rfl) (by kernel_rfl) (by kernel_rfl)
      (by rw [MakeChecks.laidMetH_plain _ _ _ (by kernel_rfl)]; exact laidMet_laidAll _ (by kernel_rfl) (by kernel_rfl))) ?_
  intro W base args ds gs before hval0 hW hcnd _ _ _
  refine law_contract mixed tabK_is (f := 5) rfl (k := 10) (by rw [← List.all_eq_true]; kernel_rfl) (fun t ht => ?_) laid rfl (by kernel_rfl) rfl ?_ ?_ H enc W base args ds gs before hval0 hW
  · have : (Tryz.f5.params.toList.all fun t => Tryz.prog.readableRec t && decide (t < Tryz.prog.types.size)) = true := by kernel_rfl
    have := List.all_eq_true.1 this t ht
    simp only [Bool.and_eq_true, decide_eq_true_eq] at this
    exact this
  · intro H ds hd
    obtain ⟨_, _, _, rfl, _⟩ := ferryNil_args ds hd
    rfl
  · intro H ds hd
    obtain ⟨s, a, d, rfl, hd2⟩ := ferryNil_args ds hd
    obtain ⟨vs, v, g1, g2, g3, g4, g5⟩ := abs_slice_ents (m := Mem.empty) hd2
    have ha : absArgs Tryz.prog [(.lit (.int .i64 s) : DataW H), .lit (.int .i64 a), d] Tryz.f5.params.toList Mem.empty
        = ([I s, I a, argVal Tryz.prog 63 (absD Tryz.prog d 63 Mem.empty).1], (absD Tryz.prog d 63 Mem.empty).2) := by kernel_rfl
    have hv : argVal Tryz.prog 63 (absD Tryz.prog d 63 Mem.empty).1 = v := by rw [g1]; kernel_rfl
    rw [ha, hv]
    obtain ⟨v', m', ⟨n, hn⟩, rfl⟩ := ferryNil_run (s := s) (at_ := a) g4 g2 (Nat.le_refl _)
    exact ⟨n, m', hn⟩

theorem named5 : Tryz.prog.funcNamed Rows.ferryNilRow.func = some 5 := by kernel_rfl
theorem looksF : true = Tryz.prog.looks [] := by kernel_rfl
theorem mainF : Tryz.prog.mainIs = some (true, "65dd244c3889cc41cf6f1344440f7815e6a79a20434e086c430ebbd2690c4058".toList) := by kernel_rfl
theorem wfF : Rows.ferryNilRow.wfByText (OpenSpec.ofChange Rows.ferryNilSpec) = true := by kernel_rfl
theorem ferryNil_holds : Rows.FerryNilSaid :=
  OpenClaim.holds_of_wide 5 Tryz.f5 rfl rfl rfl rfl rfl rfl rfl ⟨rfl, rfl, rfl, rfl, rfl⟩ rfl rfl rfl rfl rfl named5 Tryz.func5 closedF
    (of_decide_eq_true (by kernel_rfl)) (by unfold Func.isWrapper; first | (rw [if_pos (by decide +kernel)]; kernel_rfl) | (rw [if_neg (by decide +kernel)]; exact ⟨rfl, rfl⟩))
    (fun os started H enc _ => ferryNil_lifted os started H enc)

theorem ferryNil_card : Rows.FerryNilCardSaid :=
  Claim7.holds_tied_plain_at .later [] [.data, .pinned] true (true, "65dd244c3889cc41cf6f1344440f7815e6a79a20434e086c430ebbd2690c4058") true ferryNil_holds (fun _ h => by cases h) wfF (fun _ h => by cases h) ferryNil_row_tie rfl ⟨rfl, rfl⟩ mainF rfl
    (fun f fn hf hfn => by
      obtain rfl : f = 5 := Option.some.inj (named5.symm.trans hf) |>.symm
      obtain rfl : fn = Tryz.f5 := (Option.some.inj (Tryz.func5.symm.trans hfn)).symm
      exact ⟨looksF, fun j t ht => by
        rw [Tryz.params5] at ht
        have hm : t ∈ [3, 63] := by simpa using Array.mem_of_getElem? ht
        have hall : ([3, 63].all fun u => !Tryz.prog.wantsStandIn u) = true := by kernel_rfl
        exact (show Tryz.prog.wantsStandIn t = false by simpa using List.all_eq_true.1 hall t hm)⟩)
    goesF

end Go.Proofs.YtglefgcnafoafaaGreatDoor
