/-
  Own work. Values that are compared: texts, and structs of plain cells.
-/
import Derived.Test.YtnlmnejellipdaaGreatXOwn
namespace Go.Proofs.YtnlmnejellipdaaGreat.X
open Go
set_option linter.unusedVariables false
set_option linter.unusedSimpArgs false

section
variable {P : Program} {m : Mem} {t : TypeId}
/-- The same text? -/
def sameT (a b : ByteArray) : Bool := a.toList == b.toList
theorem toList_loop (bs : ByteArray) : ∀ (n i : Nat) (r : List UInt8), bs.size - i = n → ByteArray.toList.loop bs i r = r.reverse ++ bs.data.toList.drop i
  | 0, i, r, h => by
    unfold ByteArray.toList.loop
    rw [if_neg (by omega), List.drop_eq_nil_of_le (by simp; show bs.size ≤ i; omega), List.append_nil]
  | n + 1, i, r, h => by
    unfold ByteArray.toList.loop
    rw [if_pos (by omega), toList_loop bs n (i + 1) _ (by omega)]
    have hi : i < bs.data.toList.length := by simp; show i < bs.size; omega
    rw [List.drop_eq_getElem_cons hi, List.reverse_cons, List.append_assoc]
    have hi' : i < bs.data.size := by simpa using hi
    have e : bs.get! i = bs.data.toList[i] := by
      show bs.data[i]! = _
      rw [getElem!_pos bs.data i hi']
      simp
    rw [e]; rfl
theorem toList_data (bs : ByteArray) : bs.toList = bs.data.toList := by
  have := toList_loop bs bs.size 0 [] (by omega)
  simpa [ByteArray.toList] using this
theorem toList_inj {a b : ByteArray} (h : a.toList = b.toList) : a = b := by
  rw [toList_data, toList_data] at h
  cases a; cases b
  simp at h
  rw [h]
theorem beq_bytes {a b : ByteArray} : (a == b) = decide (a = b) := by
  obtain ⟨d⟩ := a
  obtain ⟨e⟩ := b
  show (d == e) = _
  by_cases h : d = e
  · subst h; simp
  · have : ¬ (⟨d⟩ : ByteArray) = ⟨e⟩ := fun h' => h (by injection h')
    rw [decide_eq_false this]
    simpa using h
theorem sameT_iff {a b : ByteArray} : sameT a b = decide (a = b) := by
  unfold sameT
  by_cases h : a = b
  · subst h; simp
  · rw [decide_eq_false h]
    simp only [beq_eq_false_iff_ne, ne_eq]
    exact fun e => h (toList_inj e)

theorem bin_seql {a b : ByteArray} : binE P .eql t (.string a) (.string b) m = some (.val (.bool (decide (a = b))) m) := by
  rw [← sameT_iff]; rfl
theorem bin_sneq {a b : ByteArray} : binE P .neq t (.string a) (.string b) m = some (.val (.bool (decide (a ≠ b))) m) := by
  have : decide (a ≠ b) = !sameT a b := by rw [sameT_iff]; simp
  rw [this]; rfl
theorem bin_beql {a b : Bool} : binE P .eql t (.bool a) (.bool b) m = (ans P (Op.equal t (.bool a) (.bool b))).bind fun r => some (.val (.bool r) m) := by
  unfold binE
  simp only [plain, plainV, Bool.and_self, if_true]
  rw [ans_bind]
  have : ans P (eqGuard .eql t (.const (.bool a)) (.const (.bool b)) (.bool a) (.bool b)) = some () := rfl
  rw [this]
  simp only [Option.bind_some, binOp, ans_bind, ans_pure]
  cases ans P (Op.equal t (.bool a) (.bool b)) <;> rfl

/-! ## Structs -/
theorem ans_equal_bool {d : Nat} {a b : Bool} (hu : P.underlying t = some .bool) : ans P (Op.equalIn (d + 1) t (.bool a) (.bool b)) = some (a == b) := by
  simp only [Op.equalIn, ans_bind, ans_underlying hu, Option.bind_some, ans_pure]
theorem ans_equal_int {d : Nat} {k kk : IntKind} {a b : Int} (hu : P.underlying t = some (.int kk)) : ans P (Op.equalIn (d + 1) t (.int k a) (.int k b)) = some (a == b) := by
  simp only [Op.equalIn, ans_bind, ans_underlying hu, Option.bind_some, if_true, ans_pure]
theorem ans_equal_string {d : Nat} {a b : ByteArray} (hu : P.underlying t = some .string) : ans P (Op.equalIn (d + 1) t (.string a) (.string b)) = some (a == b) := by
  simp only [Op.equalIn, ans_bind, ans_underlying hu, Option.bind_some, ans_pure]

theorem ans_equal_text {d : Nat} {a b : ByteArray} (hu : P.underlying t = some .string) : ans P (Op.equalIn (d + 1) t (.string a) (.string b)) = some (decide (a = b)) := by
  rw [ans_equal_string hu, beq_bytes]
/-- The comparison of the fields one by one. -/
def eqFs (P : Program) (d : Nat) (xs ys : Array Value) : List Field → Option Bool
  | [] => some true
  | f :: r =>
    if f.name ≠ "_" then
      (ans P (Go.part f.type xs f.offset)).bind fun x => (ans P (Go.part f.type ys f.offset)).bind fun y => (ans P (Op.equalIn d f.type x y)).bind fun b =>
        if b then eqFs P d xs ys r else some false
    else eqFs P d xs ys r

theorem ans_fields {d : Nat} {xs ys : Array Value} {F : Field → Option Bool × Unit → Sem (ForInStep (Option Bool × Unit))}
    (hF : ∀ f s, F f s = (if f.name ≠ "_" then (do
      let x ← Go.part f.type xs f.offset
      let y ← Go.part f.type ys f.offset
      let b ← Op.equalIn d f.type x y
      if (!b) = true then pure (ForInStep.done (some false, ())) else pure (ForInStep.yield (none, ()))) else pure (ForInStep.yield (none, ())))) :
    ∀ (l : List Field) {r : Bool}, eqFs P d xs ys l = some r → ans P (forIn l (none, ()) F) = some (if r = true then none else some false, ())
  | [], r, h => by
    simp only [eqFs, Option.some.injEq] at h
    subst h
    simp [ans_pure]
  | f :: l, r, h => by
    simp only [eqFs] at h
    rw [List.forIn_cons, hF]
    by_cases hn : f.name ≠ "_"
    · rw [if_pos hn] at h ⊢
      cases hx : ans P (Go.part f.type xs f.offset) with
      | none => rw [hx] at h; simp at h
      | some x =>
        cases hy : ans P (Go.part f.type ys f.offset) with
        | none => rw [hx, hy] at h; simp at h
        | some y =>
          cases hb : ans P (Op.equalIn d f.type x y) with
          | none => rw [hx, hy] at h; simp [hb] at h
          | some b =>
            rw [hx, hy] at h
            simp only [Option.bind_some, hb] at h
            simp only [ans_bind, hx, hy, hb, Option.bind_some]
            cases b with
            | true =>
              simp only [if_true] at h
              simp only [Bool.not_true, Bool.false_eq_true, if_false, ans_pure, Option.bind_some]
              exact ans_fields hF l h
            | false =>
              simp at h
              subst h
              simp [ans_pure]
    · rw [if_neg hn] at h ⊢
      simp only [ans_bind, ans_pure, Option.bind_some]
      exact ans_fields hF l h

theorem ans_equal_struct {d : Nat} {xs ys : Array Value} {fs : Array Field} {r : Bool} (hu : P.underlying t = some (.struct fs)) (hst : P.stoodInHeld t = false) (h : eqFs P d xs ys fs.toList = some r) :
    ans P (Op.equalIn (d + 1) t (.agg xs) (.agg ys)) = some r := by
  simp only [Op.equalIn, ans_bind, ans_underlying hu, Option.bind_some]
  have hp : ans P program = some P := rfl
  rw [hp]
  simp only [Option.bind_some, hst, Bool.false_eq_true, if_false]
  rw [ans_bind, ← Array.forIn_toList, ans_fields (fun f s => rfl) fs.toList h]
  simp only [Option.bind_some]
  cases r <;> simp [ans_pure]

/-- Structs whose comparison asks for no guard. -/
theorem bin_aeql {xs ys : List Value} {fs : Array Field} {r : Bool} (hu : P.underlying t = some (.struct fs)) (hst : P.stoodInHeld t = false) (hg : P.eqGuardType P.depth t = false)
    (hx : xs.all plainV = true) (hy : ys.all plainV = true) (h : eqFs P 9999 ⟨xs⟩ ⟨ys⟩ fs.toList = some r) : binE P .eql t (.agg ⟨xs⟩) (.agg ⟨ys⟩) m = some (.val (.bool r) m) := by
  unfold binE
  have hpl : (plain (.agg ⟨xs⟩) && plain (.agg ⟨ys⟩)) = true := by simp only [plain, hx, hy, Bool.and_self]
  rw [if_pos hpl, ans_bind]
  have hgd : ans P (eqGuard .eql t (.const (.agg ⟨xs⟩)) (.const (.agg ⟨ys⟩)) (.agg ⟨xs⟩) (.agg ⟨ys⟩)) = some () := by
    unfold eqGuard
    have hp : ans P program = some P := rfl
    simp [ans_bind, hp, hg, ans_pure]
  rw [hgd]
  simp only [Option.bind_some, binOp, ans_bind, Op.equal]
  rw [show Op.maxDepth = 9999 + 1 from rfl, ans_equal_struct hu hst h]
  simp [ans_pure, plain, plainV]
theorem bin_aneq {xs ys : List Value} {fs : Array Field} {r : Bool} (hu : P.underlying t = some (.struct fs)) (hst : P.stoodInHeld t = false) (hg : P.eqGuardType P.depth t = false)
    (hx : xs.all plainV = true) (hy : ys.all plainV = true) (h : eqFs P 9999 ⟨xs⟩ ⟨ys⟩ fs.toList = some r) : binE P .neq t (.agg ⟨xs⟩) (.agg ⟨ys⟩) m = some (.val (.bool (!r)) m) := by
  unfold binE
  have hpl : (plain (.agg ⟨xs⟩) && plain (.agg ⟨ys⟩)) = true := by simp only [plain, hx, hy, Bool.and_self]
  rw [if_pos hpl, ans_bind]
  have hgd : ans P (eqGuard .neq t (.const (.agg ⟨xs⟩)) (.const (.agg ⟨ys⟩)) (.agg ⟨xs⟩) (.agg ⟨ys⟩)) = some () := by
    unfold eqGuard
    have hp : ans P program = some P := rfl
    simp [ans_bind, hp, hg, ans_pure]
  rw [hgd]
  simp only [Option.bind_some, binOp, ans_bind, Op.equal]
  rw [show Op.maxDepth = 9999 + 1 from rfl, ans_equal_struct hu hst h]
  simp [ans_pure, plain, plainV]
end
end Go.Proofs.YtnlmnejellipdaaGreat.X
