/-
  Own work. PROVED HERE: WatchNil: whatever the act and the number, the law returns true (a watch that is not there does nothing); then its tied card. No condition.
-/
import Derived.Test.YtglefgcnafoafaaGreatDoorWA
import Derived.Test.YtglefgcnafoafaaGreatDoorWR
import Derived.Test.YtglefgcnafoafaaGreatDoorRows
import Derived.Test.YtglefgcnafoafaaGreatDoorWT
import Derived.Test.YtglefgcnafoafaaGreatDoorTie
import Derived.Test.YtglefgcnafoafaaGreatDoorCards
import Derived.ProofKit
import Derived.LaidMore
import Derived.Lay
import Derived.SevenTiedAt
import Derived.Stop.Joined
namespace Go.Proofs.YtglefgcnafoafaaGreatDoor
open Go Go.ChangeShapes Go.WideShapes Go.ChangeAt Go.RowKit X
set_option maxRecDepth 100000
set_option linter.unusedVariables false
set_option linter.unusedSimpArgs false

/-- A slice, whatever it holds. -/
theorem abs_any {H : Type} {P : Program} {d : DataW H} {t e : TypeId} {m : Mem} (hu : P.underlying t = some (.slice e)) (h : wfD P d t) : ∃ p n c, (absD P d t m).1 = [.slice p n c] := by
  cases d with
  | nil => exact ⟨none, 0, 0, by simp [absD]⟩
  | slice es sp =>
    by_cases h0 : es.length + sp.length = 0
    · exact ⟨_, 0, 0, by simp only [absD, hu]; rw [if_pos h0]⟩
    · exact ⟨_, _, _, by simp only [absD, hu]; rw [if_neg h0]⟩
  | lit l => cases l <;> simp [wfD, hu] at h
  | agg ps => simp [wfD, hu] at h
  | ptr _ => simp [wfD] at h
  | iface _ _ => simp [wfD] at h
  | map _ => simp [wfD] at h
  | held _ => simp [wfD] at h

theorem watchNil_args {H : Type} (ds : List (DataW H)) (h : wfEach Tryz.prog ds Tryz.f4.params.toList) : ∃ (k s pl i : Int) (b : List UInt8) (L : DataW H),
    ds = [.agg [.lit (.int .i64 k), .lit (.int .i64 s), .lit (.int .i64 pl), .lit (.string b), L], .lit (.int .i64 i)] ∧ wfD Tryz.prog L 25 := by
  rw [Tryz.params4] at h
  obtain ⟨d0, r, rfl, h0, h⟩ := wf_more h
  obtain ⟨d1, rfl, h1⟩ := wf_one h
  obtain ⟨i, rfl, _⟩ := wf_int Tryz.underlying3 h1
  obtain ⟨xs, rfl, h0⟩ := wf_struct Tryz.underlying27 h0
  change wfEach Tryz.prog xs [3, 3, 3, 9, 25] at h0
  obtain ⟨a0, r, rfl, k0, h0⟩ := wf_more h0
  obtain ⟨a1, r, rfl, k1, h0⟩ := wf_more h0
  obtain ⟨a2, r, rfl, k2, h0⟩ := wf_more h0
  obtain ⟨a3, r, rfl, k3, h0⟩ := wf_more h0
  obtain ⟨a4, rfl, k4⟩ := wf_one h0
  obtain ⟨k, rfl, _⟩ := wf_int Tryz.underlying3 k0
  obtain ⟨s, rfl, _⟩ := wf_int Tryz.underlying3 k1
  obtain ⟨pl, rfl, _⟩ := wf_int Tryz.underlying3 k2
  obtain ⟨b, rfl, _⟩ := wf_string Tryz.underlying9 k3
  exact ⟨k, s, pl, i, b, a4, rfl, k4⟩

theorem watchNil_lifted (os : Os) (started : os.Started) (H : Type) (enc : TypeId × Value → H) :
    ReturnsInHanded {} Tryz.checked os 4 .any (fun w args => (Rows.watchNilSpec.pre enc Tryz.prog Tryz.f4 Rows.watchNilRow.domain false w args ∧ laidMetH Tryz.prog Rows.watchNilRow.laid w) ∧ sizedMet enc Tryz.prog Tryz.f4 (OpenSpec.ofChange Rows.watchNilSpec) false w args)
      (Rows.watchNilSpec.post enc Tryz.prog Tryz.f4 false true false false) := by
  refine returnsInHanded_of_change_and (C := Tryz.checked) (X := fun w _ => laidMetH Tryz.prog Rows.watchNilRow.laid w) (fun _ _ _ hh h => h.of_heap hh) own started (by kernel_rfl) Tryz.func4
    (ChangeSpec.witness_shaped (enc := enc) (C := Tryz.checked) (os := os) (X := fun w _ => laidMetH Tryz.prog Rows.watchNilRow.laid w) false (World.laidAll Tryz.prog os Rows.watchNilRow.laid) #[.agg #[I 0, I 0, I 0, .string .empty, .slice none 0 0], I 0] 8 (World.laidAll_os _ _ _)
      (World.shaped_of_ZipB (by kernel_rfl) (by kernel_rfl)) (by kernel_rfl) (by kernel_rfl) (by kernel_rfl)
      (by rw [MakeChecks.laidMetH_plain _ _ _ (by kernel_rfl)]; exact laidMet_laidAll _ (by kernel_rfl) (by kernel_rfl))) ?_
  intro W base args ds gs before hval0 hW hcnd _ _ _
  refine law_contract mixed tabK_is (f := 4) rfl (k := 10) (by rw [← List.all_eq_true]; kernel_rfl) (fun t ht => ?_) laid rfl (by kernel_rfl) rfl ?_ ?_ H enc W base args ds gs before hval0 hW
  · have : (Tryz.f4.params.toList.all fun t => Tryz.prog.readableRec t && decide (t < Tryz.prog.types.size)) = true := by kernel_rfl
    have := List.all_eq_true.1 this t ht
    simp only [Bool.and_eq_true, decide_eq_true_eq] at this
    exact this
  · intro H ds hd
    obtain ⟨_, _, _, _, _, _, rfl, _⟩ := watchNil_args ds hd
    rfl
  · intro H ds hd
    obtain ⟨k, s, pl, i, b, L, rfl, hL⟩ := watchNil_args ds hd
    have ha : absArgs Tryz.prog [(.agg [.lit (.int .i64 k), .lit (.int .i64 s), .lit (.int .i64 pl), .lit (.string b), L] : DataW H), .lit (.int .i64 i)] Tryz.f4.params.toList Mem.empty
        = ([Value.agg (([I k, I s, I pl, .string ⟨b.toArray⟩] ++ ((absD Tryz.prog L 25 Mem.empty).1 ++ [])).toArray), I i], (absD Tryz.prog L 25 Mem.empty).2) := by kernel_rfl
    obtain ⟨p, ln, c, h1⟩ := abs_any (m := Mem.empty) Tryz.underlying25 hL
    rw [ha, h1]
    obtain ⟨v, m', ⟨j, hj⟩, rfl⟩ := watchNil_run (m := (absD Tryz.prog L 25 Mem.empty).2) (k := k) (s := s) (pl := pl) (by_ := ⟨b.toArray⟩) (p := p) (ln := ln) (c := c) (i := i)
    exact ⟨j, m', hj⟩

theorem named4 : Tryz.prog.funcNamed Rows.watchNilRow.func = some 4 := by kernel_rfl
theorem looksF : true = Tryz.prog.looks [] := by kernel_rfl
theorem mainF : Tryz.prog.mainIs = some (true, "65dd244c3889cc41cf6f1344440f7815e6a79a20434e086c430ebbd2690c4058".toList) := by kernel_rfl
theorem wfF : Rows.watchNilRow.wfByText (OpenSpec.ofChange Rows.watchNilSpec) = true := by kernel_rfl
theorem watchNil_holds : Rows.WatchNilSaid :=
  OpenClaim.holds_of_wide 4 Tryz.f4 rfl rfl rfl rfl rfl rfl rfl ⟨rfl, rfl, rfl, rfl, rfl⟩ rfl rfl rfl rfl rfl named4 Tryz.func4 closedF
    (of_decide_eq_true (by kernel_rfl)) (by unfold Func.isWrapper; first | (rw [if_pos (by decide +kernel)]; kernel_rfl) | (rw [if_neg (by decide +kernel)]; exact ⟨rfl, rfl⟩))
    (fun os started H enc _ => watchNil_lifted os started H enc)

theorem watchNil_card : Rows.WatchNilCardSaid :=
  Claim7.holds_tied_plain_at .later [] [.data, .pinned] true (true, "65dd244c3889cc41cf6f1344440f7815e6a79a20434e086c430ebbd2690c4058") true watchNil_holds (fun _ h => by cases h) wfF (fun _ h => by cases h) watchNil_row_tie rfl ⟨rfl, rfl⟩ mainF rfl
    (fun f fn hf hfn => by
      obtain rfl : f = 4 := Option.some.inj (named4.symm.trans hf) |>.symm
      obtain rfl : fn = Tryz.f4 := (Option.some.inj (Tryz.func4.symm.trans hfn)).symm
      exact ⟨looksF, fun j t ht => by
        rw [Tryz.params4] at ht
        have hm : t ∈ [27, 3] := by simpa using Array.mem_of_getElem? ht
        have hall : ([27, 3].all fun u => !Tryz.prog.wantsStandIn u) = true := by kernel_rfl
        exact (show Tryz.prog.wantsStandIn t = false by simpa using List.all_eq_true.1 hall t hm)⟩)
    goesF

end Go.Proofs.YtglefgcnafoafaaGreatDoor
