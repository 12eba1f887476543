/-
  Own work. PROVED HERE: RoomNil: whatever the call and the stamp, the law returns true (a room that is not there has no keys). No condition.
-/
import Derived.Test.YtjlmpmobankidaaGreatXProg
import Derived.Test.YtjlmpmobankidaaGreatXLem
import Derived.Test.YtjlmpmobankidaaGreatRows
import Derived.ProofKit
namespace Go.Proofs.YtjlmpmobankidaaGreat
open Go Go.ChangeShapes Go.WideShapes Go.ChangeAt Go.RowKit X
set_option maxRecDepth 100000
set_option linter.unusedVariables false
set_option linter.unusedSimpArgs false

theorem awake_known : FnIs Tryz.prog 5 (.known (.bool true)) := known_of mixed tab_is (n := 20000) rfl (by kernel_rfl) rfl
def tabK (f : FuncId) : Option XDecl := if f = 5 then some (.known (.bool true)) else tab f
theorem tabK_is : ∀ f d, tabK f = some d → FnIs Tryz.prog f d := by
  intro f d h
  unfold tabK at h
  split at h
  · rename_i hf
    cases h; subst hf; exact awake_known
  · exact tab_is f d h

theorem roomNil_run0_0 (k : Int) (q : Nat) (by_ : Int) (key : ByteArray) (stamp : Int) : (xcall Tryz.prog tabK 5000 3 [.agg #[.int .i64 k, .slice none 0 0, .int .u8 by_, .int .i64 (Int.negSucc (q + 1)), .string key], .int .u64 stamp] Mem.empty).map (·.1) = some (.bool true) := by kernel_rfl
theorem roomNil_run0_1 (k : Int) (by_ : Int) (key : ByteArray) (stamp : Int) : (xcall Tryz.prog tabK 5000 3 [.agg #[.int .i64 k, .slice none 0 0, .int .u8 by_, .int .i64 (Int.ofNat 0), .string key], .int .u64 stamp] Mem.empty).map (·.1) = some (.bool true) := by kernel_rfl
theorem roomNil_run0_2 (k : Int) (by_ : Int) (key : ByteArray) (stamp : Int) : (xcall Tryz.prog tabK 5000 3 [.agg #[.int .i64 k, .slice none 0 0, .int .u8 by_, .int .i64 (Int.ofNat 1), .string key], .int .u64 stamp] Mem.empty).map (·.1) = some (.bool true) := by kernel_rfl
theorem roomNil_run0_3 (k : Int) (q : Nat) (by_ : Int) (key : ByteArray) (stamp : Int) : (xcall Tryz.prog tabK 5000 3 [.agg #[.int .i64 k, .slice none 0 0, .int .u8 by_, .int .i64 (Int.ofNat (q + 2)), .string key], .int .u64 stamp] Mem.empty).map (·.1) = some (.bool true) := by kernel_rfl
theorem roomNil_run0_4 (k : Int) (by_ : Int) (key : ByteArray) (stamp : Int) : (xcall Tryz.prog tabK 5000 3 [.agg #[.int .i64 k, .slice none 0 0, .int .u8 by_, .int .i64 (Int.negSucc 0), .string key], .int .u64 stamp] Mem.empty).map (·.1) = some (.bool true) := by kernel_rfl
theorem roomNil_run0 (k seq : Int) (by_ : Int) (key : ByteArray) (stamp : Int) : (xcall Tryz.prog tabK 5000 3 [.agg #[.int .i64 k, .slice none 0 0, .int .u8 by_, .int .i64 seq, .string key], .int .u64 stamp] Mem.empty).map (·.1) = some (.bool true) := by
  rcases seq with (_ | _ | q) | (_ | q)
  · exact roomNil_run0_1 k by_ key stamp 
  · exact roomNil_run0_2 k by_ key stamp 
  · exact roomNil_run0_3 k q by_ key stamp 
  · exact roomNil_run0_4 k by_ key stamp 
  · exact roomNil_run0_0 k q by_ key stamp 
theorem roomNil_run1_0 (k : Int) (q : Nat) (by_ : Int) (key : ByteArray) (stamp : Int) : (xcall Tryz.prog tabK 5000 3 [.agg #[.int .i64 k, .slice (some ⟨0, 0, some 1⟩) 0 0, .int .u8 by_, .int .i64 (Int.negSucc (q + 1)), .string key], .int .u64 stamp] Mem.empty).map (·.1) = some (.bool true) := by kernel_rfl
theorem roomNil_run1_1 (k : Int) (by_ : Int) (key : ByteArray) (stamp : Int) : (xcall Tryz.prog tabK 5000 3 [.agg #[.int .i64 k, .slice (some ⟨0, 0, some 1⟩) 0 0, .int .u8 by_, .int .i64 (Int.ofNat 0), .string key], .int .u64 stamp] Mem.empty).map (·.1) = some (.bool true) := by kernel_rfl
theorem roomNil_run1_2 (k : Int) (by_ : Int) (key : ByteArray) (stamp : Int) : (xcall Tryz.prog tabK 5000 3 [.agg #[.int .i64 k, .slice (some ⟨0, 0, some 1⟩) 0 0, .int .u8 by_, .int .i64 (Int.ofNat 1), .string key], .int .u64 stamp] Mem.empty).map (·.1) = some (.bool true) := by kernel_rfl
theorem roomNil_run1_3 (k : Int) (q : Nat) (by_ : Int) (key : ByteArray) (stamp : Int) : (xcall Tryz.prog tabK 5000 3 [.agg #[.int .i64 k, .slice (some ⟨0, 0, some 1⟩) 0 0, .int .u8 by_, .int .i64 (Int.ofNat (q + 2)), .string key], .int .u64 stamp] Mem.empty).map (·.1) = some (.bool true) := by kernel_rfl
theorem roomNil_run1_4 (k : Int) (by_ : Int) (key : ByteArray) (stamp : Int) : (xcall Tryz.prog tabK 5000 3 [.agg #[.int .i64 k, .slice (some ⟨0, 0, some 1⟩) 0 0, .int .u8 by_, .int .i64 (Int.negSucc 0), .string key], .int .u64 stamp] Mem.empty).map (·.1) = some (.bool true) := by kernel_rfl
theorem roomNil_run1 (k seq : Int) (by_ : Int) (key : ByteArray) (stamp : Int) : (xcall Tryz.prog tabK 5000 3 [.agg #[.int .i64 k, .slice (some ⟨0, 0, some 1⟩) 0 0, .int .u8 by_, .int .i64 seq, .string key], .int .u64 stamp] Mem.empty).map (·.1) = some (.bool true) := by
  rcases seq with (_ | _ | q) | (_ | q)
  · exact roomNil_run1_1 k by_ key stamp 
  · exact roomNil_run1_2 k by_ key stamp 
  · exact roomNil_run1_3 k q by_ key stamp 
  · exact roomNil_run1_4 k by_ key stamp 
  · exact roomNil_run1_0 k q by_ key stamp 
theorem roomNil_run2_0 (k : Int) (q : Nat) (by_ : Int) (key : ByteArray) (stamp : Int) (n c : Nat) (o : XObj) : (xcall Tryz.prog tabK 5000 3 [.agg #[.int .i64 k, .slice (some ⟨0, 0, none⟩) n c, .int .u8 by_, .int .i64 (Int.negSucc (q + 1)), .string key], .int .u64 stamp] (Mem.empty.push o)).map (·.1) = some (.bool true) := by kernel_rfl
theorem roomNil_run2_1 (k : Int) (by_ : Int) (key : ByteArray) (stamp : Int) (n c : Nat) (o : XObj) : (xcall Tryz.prog tabK 5000 3 [.agg #[.int .i64 k, .slice (some ⟨0, 0, none⟩) n c, .int .u8 by_, .int .i64 (Int.ofNat 0), .string key], .int .u64 stamp] (Mem.empty.push o)).map (·.1) = some (.bool true) := by kernel_rfl
theorem roomNil_run2_2 (k : Int) (by_ : Int) (key : ByteArray) (stamp : Int) (n c : Nat) (o : XObj) : (xcall Tryz.prog tabK 5000 3 [.agg #[.int .i64 k, .slice (some ⟨0, 0, none⟩) n c, .int .u8 by_, .int .i64 (Int.ofNat 1), .string key], .int .u64 stamp] (Mem.empty.push o)).map (·.1) = some (.bool true) := by kernel_rfl
theorem roomNil_run2_3 (k : Int) (q : Nat) (by_ : Int) (key : ByteArray) (stamp : Int) (n c : Nat) (o : XObj) : (xcall Tryz.prog tabK 5000 3 [.agg #[.int .i64 k, .slice (some ⟨0, 0, none⟩) n c, .int .u8 by_, .int .i64 (Int.ofNat (q + 2)), .string key], .int .u64 stamp] (Mem.empty.push o)).map (·.1) = some (.bool true) := by kernel_rfl
theorem roomNil_run2_4 (k : Int) (by_ : Int) (key : ByteArray) (stamp : Int) (n c : Nat) (o : XObj) : (xcall Tryz.prog tabK 5000 3 [.agg #[.int .i64 k, .slice (some ⟨0, 0, none⟩) n c, .int .u8 by_, .int .i64 (Int.negSucc 0), .string key], .int .u64 stamp] (Mem.empty.push o)).map (·.1) = some (.bool true) := by kernel_rfl
theorem roomNil_run2 (k seq : Int) (by_ : Int) (key : ByteArray) (stamp : Int) (n c : Nat) (o : XObj) : (xcall Tryz.prog tabK 5000 3 [.agg #[.int .i64 k, .slice (some ⟨0, 0, none⟩) n c, .int .u8 by_, .int .i64 seq, .string key], .int .u64 stamp] (Mem.empty.push o)).map (·.1) = some (.bool true) := by
  rcases seq with (_ | _ | q) | (_ | q)
  · exact roomNil_run2_1 k by_ key stamp n c o
  · exact roomNil_run2_2 k by_ key stamp n c o
  · exact roomNil_run2_3 k q by_ key stamp n c o
  · exact roomNil_run2_4 k by_ key stamp n c o
  · exact roomNil_run2_0 k q by_ key stamp n c o

theorem roomNil_args {H : Type} (ds : List (DataW H)) (h : wfEach Tryz.prog ds Tryz.f3.params.toList) : ∃ (k by_ seq stamp : Int) (d : DataW H) (key : List UInt8),
    ds = [.agg [.lit (.int .i64 k), d, .lit (.int .u8 by_), .lit (.int .i64 seq), .lit (.string key)], .lit (.int .u64 stamp)] ∧ wfD Tryz.prog d 22 := by
  rw [Tryz.params3] at h
  obtain ⟨d0, r, rfl, h0, h⟩ := wf_more h
  obtain ⟨d1, rfl, h1⟩ := wf_one h
  obtain ⟨stamp, rfl, _⟩ := wf_int Tryz.underlying25 h1
  obtain ⟨xs, rfl, h0⟩ := wf_struct Tryz.underlying24 h0
  change wfEach Tryz.prog xs [3, 22, 5, 3, 9] at h0
  obtain ⟨a0, r, rfl, k0, h0⟩ := wf_more h0
  obtain ⟨a1, r, rfl, k1, h0⟩ := wf_more h0
  obtain ⟨a2, r, rfl, k2, h0⟩ := wf_more h0
  obtain ⟨a3, r, rfl, k3, h0⟩ := wf_more h0
  obtain ⟨a4, rfl, k4⟩ := wf_one h0
  obtain ⟨k, rfl, _⟩ := wf_int Tryz.underlying3 k0
  obtain ⟨b, rfl, _⟩ := wf_int Tryz.underlying5 k2
  obtain ⟨s, rfl, _⟩ := wf_int Tryz.underlying3 k3
  obtain ⟨key, rfl, _⟩ := wf_string Tryz.underlying9 k4
  exact ⟨k, b, s, stamp, a1, key, rfl, k1⟩

theorem roomNil_lifted (os : Os) (started : os.Started) (H : Type) (enc : TypeId × Value → H) :
    ReturnsInHanded {} Tryz.checked os 3 .any (Rows.roomNilSpec.pre6 enc Tryz.prog Tryz.f3 Rows.roomNilRow.domain false) (Rows.roomNilSpec.post enc Tryz.prog Tryz.f3 false true false false) := by
  refine returnsInHanded_of_change (C := Tryz.checked) own started (by kernel_rfl) Tryz.func3
    (ChangeSpec.witness6 (enc := enc) (C := Tryz.checked) false ⟨#[], #[.agg #[.int .i64 0, .slice none 0 0, .int .u8 0, .int .i64 0, .string .empty], .int .u64 0], []⟩ 8 (by kernel_rfl) (by kernel_rfl) (by kernel_rfl) (by kernel_rfl)) ?_
  intro W base args ds gs before hval0 hW hcnd _
  refine law_contract mixed tabK_is (f := 3) rfl (k := 10) (by rw [← List.all_eq_true]; kernel_rfl) (fun t ht => ?_) laid rfl (by kernel_rfl) rfl ?_ ?_ H enc W base args ds gs before hval0 hW
  · have : (Tryz.f3.params.toList.all fun t => Tryz.prog.readableRec t && decide (t < Tryz.prog.types.size)) = true := by kernel_rfl
    have := List.all_eq_true.1 this t ht
    simp only [Bool.and_eq_true, decide_eq_true_eq] at this
    exact this
  · intro H ds hd
    obtain ⟨_, _, _, _, _, _, rfl, _⟩ := roomNil_args ds hd
    rfl
  · intro H ds hd
    obtain ⟨k, b, s, stamp, d, key, rfl, hd2⟩ := roomNil_args ds hd
    have ha : absArgs Tryz.prog [(.agg [.lit (.int .i64 k), d, .lit (.int .u8 b), .lit (.int .i64 s), .lit (.string key)] : DataW H), .lit (.int .u64 stamp)] Tryz.f3.params.toList Mem.empty
        = ([Value.agg (([Value.int .i64 k] ++ ((absD Tryz.prog d 22 Mem.empty).1 ++ [Value.int .u8 b, Value.int .i64 s, Value.string ⟨key.toArray⟩])).toArray), Value.int .u64 stamp], (absD Tryz.prog d 22 Mem.empty).2) := by kernel_rfl
    rw [ha]
    rcases flat_slice (m := Mem.empty) (k := 10) Tryz.underlying22 (by kernel_rfl) hd2 with e | e | ⟨n, c, o, e⟩
    · rw [e]
      obtain ⟨p, h1, h2⟩ := map_some' (roomNil_run0 k s b ⟨key.toArray⟩ stamp)
      obtain ⟨v, m'⟩ := p
      simp only at h2
      subst h2
      exact ⟨5000, m', h1⟩
    · rw [e]
      obtain ⟨p, h1, h2⟩ := map_some' (roomNil_run1 k s b ⟨key.toArray⟩ stamp)
      obtain ⟨v, m'⟩ := p
      simp only at h2
      subst h2
      exact ⟨5000, m', h1⟩
    · rw [e]
      obtain ⟨p, h1, h2⟩ := map_some' (roomNil_run2 k s b ⟨key.toArray⟩ stamp n c o)
      obtain ⟨v, m'⟩ := p
      simp only at h2
      subst h2
      exact ⟨5000, m', h1⟩

theorem roomNil_holds : Rows.RoomNilSaid :=
  OpenClaim.holds_of_wide 3 Tryz.f3 rfl rfl rfl rfl rfl rfl rfl ⟨rfl, rfl, rfl, rfl, rfl⟩ rfl rfl rfl rfl rfl (by kernel_rfl) Tryz.func3 (by kernel_rfl)
    (of_decide_eq_true (by kernel_rfl)) (by unfold Func.isWrapper; first | (rw [if_pos (by decide +kernel)]; kernel_rfl) | (rw [if_neg (by decide +kernel)]; exact ⟨rfl, rfl⟩))
    (fun os started H enc _ => roomNil_lifted os started H enc)

end Go.Proofs.YtjlmpmobankidaaGreat
